/- Texts C6 C7 C8 C9 C10 C11 C12 C13 C14 C15 C16 C17 C18, as far as they are used. Conditions: each lemma's own. -/
import Derived.Test.YtjgfbifggolibaaGreatDoorKN4
import Derived.WalkKit
namespace Go.Eng.Ar
open Go.Eng Go.Proofs
set_option linter.all false
set_option maxRecDepth 100000
set_option maxHeartbeats 4000000
noncomputable def R0:Code:=match b180 with | .seq x _=>x|c=>c
noncomputable def R1:Code:=match b180 with | .seq _ (.seq x _)=>x|c=>c
noncomputable def R2C:Code:=match b180 with | .seq _ (.seq _ (.seq x _))=>x|c=>c
noncomputable def R4:Code:=match b180 with | .seq _ (.seq _ (.seq _ (.seq x _)))=>x|c=>c
noncomputable def R5:Code:=match b180 with | .seq _ (.seq _ (.seq _ (.seq _ (.seq (.seq x _) _))))=>x|c=>c
noncomputable def TL:Code:=match b180 with | .seq _ (.seq _ (.seq _ (.seq _ (.seq _ x))))=>x|c=>c
noncomputable def R6:Code:=match zlP with | .seq x _=>x|c=>c
noncomputable def R7:Code:=match zlP with | .seq _ (.seq _ (.seq (.block _ (.seq x _)) _))=>x|c=>c
noncomputable def R8:Code:=match zlP with | .seq _ (.seq _ (.seq (.block _ (.seq _ (.seq x _))) _))=>x|c=>c
noncomputable def R9:Code:=match zlP with | .seq _ (.seq _ (.seq (.block _ (.seq _ (.seq _ (.seq (.seq x _) _)))) _))=>x|c=>c
noncomputable def R15:Code:=match zlP with | .seq _ (.seq _ (.seq (.block _ (.seq _ (.seq _ (.seq _ x)))) _))=>x|c=>c
noncomputable def R16:Code:=match zlP with | .seq _ (.seq _ (.seq _ x))=>x|c=>c
noncomputable def R10:Code:=match zpt with | .seq x _=>x|c=>c
noncomputable def R11:Code:=match zpt with | .seq _ (.seq _ (.seq (.block _ (.seq x _)) _))=>x|c=>c
noncomputable def R14:Code:=match zpt with | .seq _ (.seq _ (.seq _ x))=>x|c=>c
theorem ztZ:(Tryz.f180.body:Option Code)=some (.seq R0 (.seq R1 (.seq R2C (.seq R4 (.seq (.seq R5 (.block 0 (.loop (.seq R6 (.seq (.cond (.tmp 21) .skip (.exit 0)) (.seq (.block 1 (.seq R7 (.seq R8 (.seq (.seq R9 (.block 2 (.loop (.seq R10 (.seq (.cond (.tmp 29) .skip (.exit 2)) (.seq (.block 3 (.seq R11 (.seq r12 r13))) R14)))))) R15)))) R16)))))) TL))))):=rfl
theorem zgZ {α:Type} {f:Nat→α} {n k:Nat} {v:α}:(tab f n).set k v=tab (fun j=>if j=k then v else f j) n:=by
  refine List.ext_getElem (by rw[List.length_set,zal,zal]) fun i h1 h2=>?_
  have hi:i<n:=by rw[zal] at h2;exact h2
  have h3:=zaB f v n i hi
  have h4:=zaB (fun j=>if j=k then v else f j) v n i hi
  have h5:i<(tab f n).length:=by rw[zal];exact hi
  simp only[List.getD_eq_getElem?_getD,List.getElem?_eq_getElem h5,List.getElem?_eq_getElem h2,Option.getD_some] at h3 h4
  rw[h4,List.getElem_set,h3]
  by_cases h:i=k
  · subst h;simp
  · rw[if_neg h,if_neg (fun e=>h e.symm)]
def chk (m:List (List Int)) (right:List Int) (k i:Nat):List (List Int):=tab (fun r=>if r<i then (rowN m r).set k (vI right r) else []) m.length
def dets (m:List (List Int)) (right:List Int) (k:Nat):List Int:=tab (fun j=>detA (chk m right j m.length)) k
def negd (o:List Int) (k:Nat):List Int:=tab (fun j=>if j<k then -vI o j else vI o j) o.length
def zau (m:List (List Int)) (right:List Int):List Int×Int×Bool×Unit:=
  if detA m=0 then ([],0,false,()) else if detA m<0 then (negd (dets m right m.length) m.length,-detA m,true,()) else (dets m right m.length,detA m,true,())
def ziw (m:List (List Int)) (right:List Int):Prop:=(∃N,N≤4∧zcG N m)∧right.length=m.length∧∀i,i<m.length→-2000≤vI right i∧vI right i≤2000
theorem zdT {m right k i}:(chk m right k i).length=m.length:=zal _ _
theorem zku {N:Nat} {m:List (List Int)} (h:zcG N m) {i:Nat} (hi:i<N):rowN m i∈m:=by
  have hi':i<m.length:=by rw[h.1];exact hi
  simp only[rowN,List.getD_eq_getElem?_getD,List.getElem?_eq_getElem hi',Option.getD_some]
  exact List.getElem_mem hi'
theorem zrr {m right k}:chk m right k 0=repl (m.length:Int) ([]:List Int):=by
  rw[zef]
  refine zih [] (by simp) fun i hi=>?_
  simp[List.getD,hi]
theorem zrs {m right k i} (hi:i<m.length):(chk m right k i).set i ((rowN m i).set k (vI right i))=chk m right k (i+1):=by
  unfold chk
  rw[zgZ]
  refine zbS _ fun j hj=>?_
  by_cases h:j=i
  · subst h;rw[if_pos rfl,if_pos (by omega)]
  · rw[if_neg h]
    by_cases h2:j<i
    · rw[if_pos h2,if_pos (by omega)]
    · rw[if_neg h2,if_neg (by omega)]
theorem zm5 {N:Nat} {m:List (List Int)} {right:List Int} {k:Nat} (h:zcG N m) (hr:∀i,i<m.length→-2000≤vI right i∧vI right i≤2000):zcG N (chk m right k m.length):=by
  refine⟨by rw[zdT,h.1],fun r hr'=>?_⟩
  obtain ⟨i,hi,rfl⟩:∃i,i<m.length∧r=(rowN m i).set k (vI right i):=by
    obtain⟨i,hi,e⟩:=List.getElem_of_mem hr'
    have hi':i<m.length:=by rw[zdT] at hi;exact hi
    refine⟨i,hi',?_⟩
    have h1:=zaB (fun r=>if r<m.length then (rowN m r).set k (vI right r) else []) [] m.length i hi'
    rw[if_pos hi'] at h1
    rw[←e,←h1]
    show (chk m right k m.length)[i]=(chk m right k m.length).getD i []
    simp[List.getD,List.getElem?_eq_getElem hi]
  have hm:=h.2 _ (zku h (by rw[←h.1];exact hi))
  refine⟨by rw[List.length_set];exact hm.1,fun x hx=>?_⟩
  rcases List.mem_or_eq_of_mem_set hx with hx|rfl
  · exact hm.2 x hx
  · exact hr i hi
theorem zc7 {m right k}:(dets m right k).length=k:=zal _ _
theorem zfs {o:List Int} {k:Nat}:(negd o k).length=o.length:=zal _ _
theorem zmE {o:List Int} {k:Nat} (h:k<o.length):(negd o k).getD k 0=vI o k:=by
  have:=zaB (fun j=>if j<k then -vI o j else vI o j) 0 o.length k h
  rw[if_neg (Nat.lt_irrefl k)] at this
  exact this
theorem zpb {o:List Int}:o=negd o 0:=by
  symm
  exact zih 0 rfl fun i hi=>if_neg (Nat.not_lt_zero i)
theorem zpc {o:List Int} {k:Nat} (h:k<o.length):(negd o k).set k (-(negd o k).getD k 0)=negd o (k+1):=by
  rw[zmE h]
  unfold negd
  rw[zgZ]
  refine zbS _ fun j hj=>?_
  by_cases e:j=k
  · subst e;rw[if_pos rfl,if_pos (by omega)]
  · rw[if_neg e]
    by_cases h2:j<k
    · rw[if_pos h2,if_pos (by omega)]
    · rw[if_neg h2,if_neg (by omega)]
theorem zpZ {N:Nat} {m:List (List Int)} {right:List Int} (hN:N≤4) (hs:zcG N m) (hr:∀i,i<m.length→-2000≤vI right i∧vI right i≤2000) {i:Nat} (hi:i<m.length) : -400000000000000≤vI (dets m right m.length) i∧vI (dets m right m.length) i≤400000000000000:=by
  have e:vI (dets m right m.length) i=detA (chk m right i m.length):=zaB _ 0 _ i hi
  rw[e]
  exact zhI ⟨N,hN,zm5 hs hr⟩
theorem zib:CfgOk Tryz.prog OB cfS:=zl6 (X:={}) trivial zsz
theorem zeO {anns:List (St→LoopAnn)} {b:Code} {st0 target:St} {R:St→Prop} {a:Act} {M:Nat→Prop} {bs:List Nat} {w0 w:World} {Q:Exit→Act→World→Prop} {X:Prop} (hR:RelS (EH M bs w0 true) 75 st0 a w) (hd:zdf 75 b=true) (hnr:za7 b=true)
    (hvc:vc cfS (par cfS) anns b 0 st0 (fun e st=>match e with | .normal=>Goal (∃s:Unit,ent st target∧X) | .ret=>R st | _=>False))
    (hQ:∀a' w',X→RelS (EH M bs w0 true) 75 target a' w'→Q .normal a' w') (hQr:∀st a' w',R st→RelS (EH M bs w0 true) 75 st a' w'→Q .ret a' w'):b.wpIn (Fw none) 0 Tryz.prog Q a w:=by
  refine wpIn_mono (zbd zib (zcm mixed zib) b 0 st0 _ a w (EH M bs w0 true) none rfl rfl (.inr hnr) hd hvc hR) ?_
  rintro e a' w' ⟨⟨xe,st',h1,h2,h3⟩,hag⟩
  subst h1
  cases xe with
  | normal=>
    obtain⟨_,h4,h5⟩:=h2.out
    exact hQ a' w' h5 (zbL h4 h3)
  | exit id=>exact h2.elim
  | ret=>exact hQr _ a' w' h2 h3
theorem zuz {M:Nat→Prop} {bs:List Nat} {w0 w:World} {a:Act} {st:St} {t:Nat} {v:Bool} (hR:RelS (EH M bs w0 true) 75 (.slot t (.one (.d .bool v))::st) a w) (ht:t<1000000):a.eval (.tmp t)=.bool v:=by
  obtain⟨η,g,H⟩:=hR
  have h:=H _ List.mem_cons_self
  simp only[Fact.holds] at h
  rw[zbn ht] at h
  obtain⟨l,h1,⟨h2,_⟩|⟨_,h2⟩⟩:=h
  · cases h2
  · have h1:l=[.bool v]:=h1
    rw[h1] at h2
    exact (List.cons.inj h2).1.symm
theorem zmw {E:Env} {nt:Nat} {f:Fact} {st:St} {a:Act} {w:World} (hR:RelS E nt (f::st) a w):RelS E nt st a w:=zjp hR (fun g hg=>List.mem_cons_of_mem _ hg)
@[reducible] def zkr:Spec:={pats:=[.dat MatT,.dat (.sl I64)],res:=[{t:=.sl I64},{t:=I64},{t:=.bool}],pre:=fun x=>ziw x.1 x.2.1,f:=fun x=>zau x.1 x.2.1}
@[reducible] def stS (m:List (List Int)) (right:List Int):St:=[.slot 0 (.one (.d MatT m)),.slot 1 (.one (.d (.sl I64) right))]
@[reducible] def hdO (m:List (List Int)) (right:List Int) (k:Nat):St:=[sI 20 k,sI 19 m.length,sI 7 (detA m),.slot 8 (.one (.o 60008 (dets m right k).length)),.row 60008 3 I64 (dets m right k)]++stS m right
@[reducible] def hdI (m:List (List Int)) (right:List Int) (k i:Nat):St:=stB 60010 m (chk m right k i) right (dets m right k) (detA m) i k m.length
theorem vR0 (m:List (List Int)) (right:List Int):vc cfS (par cfS) [] R0 0 (stS m right) (fun e st=>match e with | .normal=>Goal (∃s:Unit,ent st (stS m right)∧True) | .ret=>False | _=>False):=by
  repeat' (intro hzz;(try (rename Two=>hq;cases hq));(try dsimp only at hzz);(try simp only[zad,zac,eqD,inR,big,zab,zB] at hzz);(try (revert hzz;intro _)))
  all_goals try (rename Unit=>hq;clear hq)
  all_goals try ((with_reducible refine Held.mk ?_);(with_reducible (first|refine Frz.mk ?_|refine And.intro (Frz.mk ?_) ?_|refine And.intro ?_ (Frz.mk ?_)));repeat' first|exact True.intro|(change _=_;with_reducible rfl)|refine And.intro ?_ ?_|(with_reducible refine Frz.mk ?_))
  all_goals try (refine Held.mk ?_;(try dsimp only at *);(try simp only[zad,zac,eqD,inR,big,zab,zB] at *))
  all_goals try omega
  ·
    refine zaj.mk ?_
    refine Exists.intro () ?_
    refine And.intro (Leaf.mk ?_) ?_
    · repeat' first|exact True.intro|refine And.intro ?_ ?_
      all_goals try ((change _=_<;>try dsimp only)<;>try with_reducible rfl)
      all_goals try omega
      all_goals (rfl)
    trivial
theorem vR1 (m:List (List Int)) (right:List Int) (h:zlF m):vc cfS (par cfS) [] R1 0 (stS m right) (fun e st=>match e with | .normal=>Goal (∃s:Unit,ent st (sI 7 (detA m)::stS m right)∧True) | .ret=>False | _=>False):=by
  repeat' (intro hzz;(try (rename Two=>hq;cases hq));(try dsimp only at hzz);(try simp only[zad,zac,eqD,inR,big,zab,zB] at hzz);(try (revert hzz;intro _)))
  all_goals try (rename Unit=>hq;clear hq)
  all_goals try ((with_reducible refine Held.mk ?_);(with_reducible (first|refine Frz.mk ?_|refine And.intro (Frz.mk ?_) ?_|refine And.intro ?_ (Frz.mk ?_)));repeat' first|exact True.intro|(change _=_;with_reducible rfl)|refine And.intro ?_ ?_|(with_reducible refine Frz.mk ?_))
  all_goals try (refine Held.mk ?_;(try dsimp only at *);(try simp only[zad,zac,eqD,inR,big,zab,zB] at *))
  all_goals try omega
  all_goals try exact h
  ·
    refine zaj.mk ?_
    refine Exists.intro () ?_
    refine And.intro (Leaf.mk ?_) ?_
    · repeat' first|exact True.intro|refine And.intro ?_ ?_
      all_goals try ((change _=_<;>try dsimp only)<;>try with_reducible rfl)
      all_goals try omega
      all_goals (rfl)
    trivial
theorem vR2 (m:List (List Int)) (right:List Int):vc cfS (par cfS) [] R2C 0 (sI 7 (detA m)::stS m right) (fun e st=>match e with | .normal=>Goal (∃s:Unit,ent st (sI 7 (detA m)::stS m right)∧detA m≠0) | .ret=>zgE cfS Tryz.f180.results.toList zkr.res (zau m right) st | _=>False):=by
  repeat' (intro hzz;(try (rename Two=>hq;cases hq));(try dsimp only at hzz);(try simp only[zad,zac,eqD,inR,big,zab,zB] at hzz);(try (revert hzz;intro _)))
  all_goals try (rename Unit=>hq;clear hq)
  all_goals try ((with_reducible refine Held.mk ?_);(with_reducible (first|refine Frz.mk ?_|refine And.intro (Frz.mk ?_) ?_|refine And.intro ?_ (Frz.mk ?_)));repeat' first|exact True.intro|(change _=_;with_reducible rfl)|refine And.intro ?_ ?_|(with_reducible refine Frz.mk ?_))
  all_goals try (refine Held.mk ?_;(try dsimp only at *);(try simp only[zad,zac,eqD,inR,big,zab,zB] at *))
  all_goals try omega
  · rename_i h
    have e:zau m right=([],0,false,()):=if_pos h
    rw[e];exact⟨rfl,rfl,rfl⟩
  · rename_i h
    refine zaj.mk ?_
    refine Exists.intro () ?_
    refine And.intro (Leaf.mk ?_) ?_
    · repeat' first|exact True.intro|refine And.intro ?_ ?_
      all_goals try ((change _=_<;>try dsimp only)<;>try with_reducible rfl)
      all_goals try omega
      all_goals (rfl)
    exact h
theorem vR45 (m:List (List Int)) (right:List Int):vc cfS (par cfS) [] (.seq R4 R5) 0 (sI 7 (detA m)::stS m right) (fun e st=>match e with | .normal=>Goal (∃s:Unit,ent st (hdO m right 0)∧True) | .ret=>False | _=>False):=by
  repeat' (intro hzz;(try (rename Two=>hq;cases hq));(try dsimp only at hzz);(try simp only[zad,zac,eqD,inR,big,zab,zB] at hzz);(try (revert hzz;intro _)))
  all_goals try (rename Unit=>hq;clear hq)
  all_goals try ((with_reducible refine Held.mk ?_);(with_reducible (first|refine Frz.mk ?_|refine And.intro (Frz.mk ?_) ?_|refine And.intro ?_ (Frz.mk ?_)));repeat' first|exact True.intro|(change _=_;with_reducible rfl)|refine And.intro ?_ ?_|(with_reducible refine Frz.mk ?_))
  all_goals try (refine Held.mk ?_;(try dsimp only at *);(try simp only[zad,zac,eqD,inR,big,zab,zB] at *))
  all_goals try omega
  ·
    refine zaj.mk ?_
    refine Exists.intro () ?_
    refine And.intro (Leaf.mk ?_) ?_
    · repeat' first|exact True.intro|refine And.intro ?_ ?_
      all_goals try ((change _=_<;>try dsimp only)<;>try with_reducible rfl)
      all_goals try omega
      all_goals (rfl)
    trivial
theorem vR6 (m:List (List Int)) (right:List Int) (k:Nat):vc cfS (par cfS) [] R6 0 (hdO m right k) (fun e st=>match e with | .normal=>Goal (∃s:Unit,ent st (.slot 21 (.one (.d .bool (decide ((k:Int)<(m.length:Int)))))::hdO m right k)∧True) | .ret=>False | _=>False):=by
  repeat' (intro hzz;(try (rename Two=>hq;cases hq));(try dsimp only at hzz);(try simp only[zad,zac,eqD,inR,big,zab,zB] at hzz);(try (revert hzz;intro _)))
  all_goals try (rename Unit=>hq;clear hq)
  all_goals try ((with_reducible refine Held.mk ?_);(with_reducible (first|refine Frz.mk ?_|refine And.intro (Frz.mk ?_) ?_|refine And.intro ?_ (Frz.mk ?_)));repeat' first|exact True.intro|(change _=_;with_reducible rfl)|refine And.intro ?_ ?_|(with_reducible refine Frz.mk ?_))
  all_goals try (refine Held.mk ?_;(try dsimp only at *);(try simp only[zad,zac,eqD,inR,big,zab,zB] at *))
  all_goals try omega
  ·
    refine zaj.mk ?_
    refine Exists.intro () ?_
    refine And.intro (Leaf.mk ?_) ?_
    · repeat' first|exact True.intro|refine And.intro ?_ ?_
      all_goals try ((change _=_<;>try dsimp only)<;>try with_reducible rfl)
      all_goals try omega
      all_goals (rfl)
    trivial
theorem zwr (m:List (List Int)) (right:List Int) (k:Nat) (hm:m.length≤4):vc cfS (par cfS) [] (.seq R7 (.seq R8 R9)) 0 (hdO m right k) (fun e st=>match e with | .normal=>Goal (∃s:Unit,ent st (hdI m right k 0)∧True) | .ret=>False | _=>False):=by
  have e0:=@zrr m right k
  repeat' (intro hzz;(try (rename Two=>hq;cases hq));(try dsimp only at hzz);(try simp only[zad,zac,eqD,inR,big,zab,zB] at hzz);(try (revert hzz;intro _)))
  all_goals try (rename Unit=>hq;clear hq)
  all_goals try ((with_reducible refine Held.mk ?_);(with_reducible (first|refine Frz.mk ?_|refine And.intro (Frz.mk ?_) ?_|refine And.intro ?_ (Frz.mk ?_)));repeat' first|exact True.intro|(change _=_;with_reducible rfl)|refine And.intro ?_ ?_|(with_reducible refine Frz.mk ?_))
  all_goals try (refine Held.mk ?_;(try dsimp only at *);(try simp only[zad,zac,eqD,inR,big,zab,zB] at *))
  all_goals try omega
  ·
    refine zaj.mk ?_
    refine Exists.intro () ?_
    refine And.intro (Leaf.mk ?_) ?_
    · repeat' first|exact True.intro|refine And.intro ?_ ?_
      all_goals try ((change _=_<;>try dsimp only)<;>try with_reducible rfl)
      all_goals try omega
      all_goals (first|rfl|exact e0.symm|exact e0|(rw[←e0,zdT]))
    trivial
theorem vR10 (m:List (List Int)) (right:List Int) (k i:Nat):vc cfS (par cfS) [] R10 0 (hdI m right k i) (fun e st=>match e with | .normal=>Goal (∃s:Unit,ent st (.slot 29 (.one (.d .bool (decide ((i:Int)<(m.length:Int)))))::hdI m right k i)∧True) | .ret=>False | _=>False):=by
  repeat' (intro hzz;(try (rename Two=>hq;cases hq));(try dsimp only at hzz);(try simp only[zad,zac,eqD,inR,big,zab,zB] at hzz);(try (revert hzz;intro _)))
  all_goals try (rename Unit=>hq;clear hq)
  all_goals try ((with_reducible refine Held.mk ?_);(with_reducible (first|refine Frz.mk ?_|refine And.intro (Frz.mk ?_) ?_|refine And.intro ?_ (Frz.mk ?_)));repeat' first|exact True.intro|(change _=_;with_reducible rfl)|refine And.intro ?_ ?_|(with_reducible refine Frz.mk ?_))
  all_goals try (refine Held.mk ?_;(try dsimp only at *);(try simp only[zad,zac,eqD,inR,big,zab,zB] at *))
  all_goals try omega
  ·
    refine zaj.mk ?_
    refine Exists.intro () ?_
    refine And.intro (Leaf.mk ?_) ?_
    · repeat' first|exact True.intro|refine And.intro ?_ ?_
      all_goals try ((change _=_<;>try dsimp only)<;>try with_reducible rfl)
      all_goals try omega
      all_goals (rfl)
    trivial
theorem vR11 (m:List (List Int)) (right:List Int) (k i:Nat) (hi:i<m.length) (hrow:(rowN m i).length≤4):vc cfS (par cfS) [] R11 0 (hdI m right k i) (fun e st=>match e with | .normal=>zd1 cfS zh1.toArray (zh1.take 4) st (fun st=>Goal (∃s:Unit,ent st (stA 60010 m (chk m right k i) right (rowN m i) (dets m right k) (detA m) i k m.length)∧True)) | _=>False):=by
  repeat' (intro hzz;(try (rename Two=>hq;cases hq));(try dsimp only at hzz);(try simp only[zad,zac,eqD,inR,big,zab,zB] at hzz);(try simp only[zad,zac,eqD,inR,big,zab,zB,zaS] at hzz);(try (revert hzz;intro _)))
  all_goals try (rename Unit=>hq;clear hq)
  all_goals try ((with_reducible refine Held.mk ?_);(with_reducible (first|refine Frz.mk ?_|refine And.intro (Frz.mk ?_) ?_|refine And.intro ?_ (Frz.mk ?_)));repeat' first|exact True.intro|(change _=_;with_reducible rfl)|refine And.intro ?_ ?_|(with_reducible refine Frz.mk ?_))
  all_goals try (refine Held.mk ?_;(try dsimp only at *);(try simp only[zad,zac,eqD,inR,big,zab,zB] at *);(try simp only[zad,zac,eqD,inR,big,zab,zB,zaS] at *))
  all_goals try omega
  · show (rowN m i).length≤2000000000
    omega
  ·
    refine zaj.mk ?_
    refine Exists.intro () ?_
    refine And.intro (Leaf.mk ?_) ?_
    · repeat' first|exact True.intro|refine And.intro ?_ ?_
      all_goals try ((change _=_<;>try dsimp only)<;>try with_reducible rfl)
      all_goals try omega
      all_goals (rfl)
    trivial
theorem vR14 (m:List (List Int)) (right:List Int) (k i:Nat) (hi:i<m.length) (hm:m.length≤4):vc cfS (par cfS) [] R14 0 (stB 60010 m (chk m right k (i+1)) right (dets m right k) (detA m) i k m.length) (fun e st=>match e with | .normal=>Goal (∃s:Unit,ent st (hdI m right k (i+1))∧True) | .ret=>False | _=>False):=by
  repeat' (intro hzz;(try (rename Two=>hq;cases hq));(try dsimp only at hzz);(try simp only[zad,zac,eqD,inR,big,zab,zB] at hzz);(try (revert hzz;intro _)))
  all_goals try (rename Unit=>hq;clear hq)
  all_goals try ((with_reducible refine Held.mk ?_);(with_reducible (first|refine Frz.mk ?_|refine And.intro (Frz.mk ?_) ?_|refine And.intro ?_ (Frz.mk ?_)));repeat' first|exact True.intro|(change _=_;with_reducible rfl)|refine And.intro ?_ ?_|(with_reducible refine Frz.mk ?_))
  all_goals try (refine Held.mk ?_;(try dsimp only at *);(try simp only[zad,zac,eqD,inR,big,zab,zB] at *))
  all_goals try omega
  ·
    refine zaj.mk ?_
    refine Exists.intro () ?_
    refine And.intro (Leaf.mk ?_) ?_
    · repeat' first|exact True.intro|refine And.intro ?_ ?_
      all_goals try ((change _=_<;>try dsimp only)<;>try with_reducible rfl)
      all_goals try omega
      all_goals (rfl)
    trivial
theorem vR15 (m:List (List Int)) (right:List Int) (k i:Nat) (hm:m.length≤4) (hk:k≤4) (hd:zlF (chk m right k m.length)):vc cfS (par cfS) [] R15 0 (hdI m right k m.length) (fun e st=>match e with | .normal=>Goal (∃s:Unit,ent st ([sI 20 k,sI 19 m.length,sI 7 (detA m),.slot 8 (.one (.o 60008 (dets m right (k+1)).length)),.row 60008 3 I64 (dets m right (k+1))]++stS m right)∧True) | .ret=>False | _=>False):=by
  repeat' (intro hzz;(try (rename Two=>hq;cases hq));(try dsimp only at hzz);(try simp only[zad,zac,eqD,inR,big,zab,zB] at hzz);(try (revert hzz;intro _)))
  all_goals try (rename Unit=>hq;clear hq)
  all_goals try ((with_reducible refine Held.mk ?_);(with_reducible (first|refine Frz.mk ?_|refine And.intro (Frz.mk ?_) ?_|refine And.intro ?_ (Frz.mk ?_)));repeat' first|exact True.intro|(change _=_;with_reducible rfl)|refine And.intro ?_ ?_|(with_reducible refine Frz.mk ?_))
  all_goals try (refine Held.mk ?_;(try dsimp only at *);(try simp only[zad,zac,eqD,inR,big,zab,zB] at *))
  all_goals try omega
  · exact zdT.symm
  · exact zdT.symm
  · rw[zc7];show k+1≤2147483648;omega
  ·
    refine zaj.mk ?_
    refine Exists.intro () ?_
    refine And.intro (Leaf.mk ?_) ?_
    · repeat' first|exact True.intro|refine And.intro ?_ ?_
      all_goals try ((change _=_<;>try dsimp only)<;>try with_reducible rfl)
      all_goals try omega
      all_goals (rfl)
    trivial
theorem vR16 (m:List (List Int)) (right:List Int) (k i:Nat) (hm:m.length≤4) (hk:k≤4):vc cfS (par cfS) [] R16 0 ([sI 20 k,sI 19 m.length,sI 7 (detA m),.slot 8 (.one (.o 60008 (dets m right (k+1)).length)),.row 60008 3 I64 (dets m right (k+1))]++stS m right) (fun e st=>match e with | .normal=>Goal (∃s:Unit,ent st (hdO m right (k+1))∧True) | .ret=>False | _=>False):=by
  repeat' (intro hzz;(try (rename Two=>hq;cases hq));(try dsimp only at hzz);(try simp only[zad,zac,eqD,inR,big,zab,zB] at hzz);(try (revert hzz;intro _)))
  all_goals try (rename Unit=>hq;clear hq)
  all_goals try ((with_reducible refine Held.mk ?_);(with_reducible (first|refine Frz.mk ?_|refine And.intro (Frz.mk ?_) ?_|refine And.intro ?_ (Frz.mk ?_)));repeat' first|exact True.intro|(change _=_;with_reducible rfl)|refine And.intro ?_ ?_|(with_reducible refine Frz.mk ?_))
  all_goals try (refine Held.mk ?_;(try dsimp only at *);(try simp only[zad,zac,eqD,inR,big,zab,zB] at *))
  all_goals try omega
  ·
    refine zaj.mk ?_
    refine Exists.intro () ?_
    refine And.intro (Leaf.mk ?_) ?_
    · repeat' first|exact True.intro|refine And.intro ?_ ?_
      all_goals try ((change _=_<;>try dsimp only)<;>try with_reducible rfl)
      all_goals try omega
      all_goals (rfl)
    trivial
def zse (o:List Int):LoopAnn:={σ:=Nat,pat:=fun k=>[sI 61 k,.slot 8 (.one (.o 60008 o.length)),.row 60008 3 I64 (negd o k)],inv:=fun k=>k≤o.length,meas:=fun k=>o.length - k}
theorem vTL (m:List (List Int)) (right:List Int) (hm:m.length≤4) (hd:detA m≠0) (hb : -400000000000000≤detA m∧detA m≤400000000000000) (ho:∀i,i<m.length→-400000000000000≤vI (dets m right m.length) i∧vI (dets m right m.length) i≤400000000000000):vc cfS (par cfS) [fun _=>zse (dets m right m.length)] TL 0 (hdO m right m.length) (fun e st=>match e with | .ret | .normal=>zgE cfS Tryz.f180.results.toList zkr.res (zau m right) st | _=>False):=by
  have el:(dets m right m.length).length=m.length:=zc7
  obtain⟨O,hO⟩:∃O,dets m right m.length=O:=⟨_,rfl⟩
  have e3:detA m<0→zau m right=(negd O m.length,-detA m,true,()):=fun h=>by
    unfold zau;rw[if_neg hd,if_pos h,hO]
  have e4:0≤detA m→zau m right=(O,detA m,true,()):=fun h=>by
    unfold zau;rw[if_neg hd,if_neg (by omega),hO]
  rw[hO] at el ho
  show vc cfS (par cfS) [fun _=>zse (dets m right m.length)] TL 0 ([sI 20 m.length,sI 19 m.length,sI 7 (detA m),.slot 8 (.one (.o 60008 (dets m right m.length).length)),.row 60008 3 I64 (dets m right m.length)]++stS m right) _
  rw[hO]
  repeat' (intro hzz;(try (rename Two=>hq;cases hq));(try dsimp only at hzz);(try simp only[zad,zac,eqD,inR,big,zab,zB] at hzz);(try simp only[zad,zac,eqD,inR,big,zab,zB,zav] at hzz);(try (revert hzz;intro _)))
  all_goals try (rename Unit=>hq;clear hq)
  all_goals try ((with_reducible refine Held.mk ?_);(with_reducible (first|refine Frz.mk ?_|refine And.intro (Frz.mk ?_) ?_|refine And.intro ?_ (Frz.mk ?_)));repeat' first|exact True.intro|(change _=_;with_reducible rfl)|refine And.intro ?_ ?_|(with_reducible refine Frz.mk ?_))
  all_goals try (refine Held.mk ?_;(try dsimp only at *);(try simp only[zad,zac,eqD,inR,big,zab,zB] at *);(try simp only[zad,zac,eqD,inR,big,zab,zB,zav] at *))
  all_goals try omega
  · rename_i h
    refine zaj.mk ?_
    refine Exists.intro (0:Nat) ?_
    refine And.intro (Leaf.mk ?_) ?_
    · repeat' first|exact True.intro|refine And.intro ?_ ?_
      all_goals try ((change _=_<;>try dsimp only)<;>try with_reducible rfl)
      all_goals try omega
      all_goals (first|rfl|exact zpb)
    exact Nat.zero_le _
  · rename_i h k hk hg
    rw[zfs];omega
  · rename_i h k hk hg
    rw[zmE (by omega)]
    have:=ho k (by omega)
    omega
  · rename_i h k hk hg
    rw[zfs];omega
  · rename_i h k hk hg
    refine zaj.mk ?_
    refine Exists.intro (k+1) ?_
    refine And.intro (Leaf.mk ?_) ?_
    · repeat' first|exact True.intro|refine And.intro ?_ ?_
      all_goals try ((change _=_<;>try dsimp only)<;>try with_reducible rfl)
      all_goals try omega
      all_goals (first|rfl|exact zpc (by omega)|(rw[List.length_set,zfs]))
    exact⟨by show k+1≤O.length;omega,by show O.length - (k+1)<O.length - k;omega⟩
  all_goals try (exact zfs.symm)
  · rename_i h k hk hg
    rw[e3 h,show m.length=k by omega];exact⟨rfl,rfl,rfl⟩
  · rename_i h
    rw[e4 h];exact⟨rfl,rfl,rfl⟩
theorem zvm:r12=.region 12 zh1.toArray false:=rfl
theorem zoZ {anns:List (St→LoopAnn)} {x y:Code} {st0 target:St} {a:Act} {M:Nat→Prop} {bs:List Nat} {w0 w:World} {Q:Exit→Act→World→Prop} {X:Prop} (hR:RelS (EH M bs w0 true) 75 st0 a w) (hd:zdf 75 x=true) (hnr:za7 x=true) (hnl:zcK x=0)
    (hvc:vc cfS (par cfS) anns (.seq x y) 0 st0 (fun e st=>match e with | .normal=>Goal (∃s:Unit,ent st target∧X) | .ret=>False | _=>False))
    (hQ:∀st a' w',vc cfS (par cfS) anns y 0 st (fun e st=>match e with | .normal=>Goal (∃s:Unit,ent st target∧X) | .ret=>False | _=>False)→RelS (EH M bs w0 true) 75 st a' w'→Q .normal a' w'):x.wpIn (Fw none) 0 Tryz.prog Q a w:=by
  refine wpIn_mono (zbd zib (zcm mixed zib) x 0 st0 _ a w (EH M bs w0 true) none rfl rfl (.inr hnr) hd hvc hR) ?_
  rintro e a' w' ⟨⟨xe,st',h1,h2,h3⟩,hag⟩
  subst h1
  cases xe with
  | normal=>
    simp only[zbT,hnl] at h2
    exact hQ st' a' w' h2 h3
  | exit id=>exact h2.elim
  | ret=>exact h2.elim
theorem zvp {anns:List (St→LoopAnn)} {x:Code} {st0:St} {V:St→Prop} {a:Act} {M:Nat→Prop} {bs:List Nat} {w0 w:World} {Q:Exit→Act→World→Prop} (hR:RelS (EH M bs w0 true) 75 st0 a w) (hd:zdf 75 x=true) (hnr:za7 x=true)
    (hvc:vc cfS (par cfS) anns x 0 st0 (fun e st=>match e with | .normal=>V st | _=>False))
    (hQ:∀st a' w',V st→RelS (EH M bs w0 true) 75 st a' w'→Q .normal a' w'):x.wpIn (Fw none) 0 Tryz.prog Q a w:=by
  refine wpIn_mono (zbd zib (zcm mixed zib) x 0 st0 _ a w (EH M bs w0 true) none rfl rfl (.inr hnr) hd hvc hR) ?_
  rintro e a' w' ⟨⟨xe,st',h1,h2,h3⟩,hag⟩
  subst h1
  cases xe with
  | normal=>exact hQ st' a' w' h2 h3
  | exit id=>exact h2.elim
  | ret=>exact h2.elim
theorem ztq {ops:Array Oper} {l:List Oper} {st0 target:St} {a:Act} {M:Nat→Prop} {bs:List Nat} {w0 w:World} {Q:Exit→Act→World→Prop} (hR:RelS (EH M bs w0 true) 75 st0 a w)
    (hsub:∀o∈l,o∈ops.toList) (hdst:∀o∈ops.toList,∀t,o.dst=some t→t<75)
    (hvc:zd1 cfS ops l st0 (fun st=>Goal (∃s:Unit,ent st target∧True)))
    (hQ:∀a' w',RelS (EH M bs w0 true) 75 target a' w'→Q .normal a' w'):wpListIn (Fw none) 0 Tryz.prog ops Q l a w:=by
  refine zek ?_ l a w (zcl (E:=EH M bs w0 true) (c:=cfS) (ro:=none) (q:=0) zib (ops:=ops) (Q:=fun e a' w'=>e=.normal∧RelS (EH M bs w0 true) 75 target a' w') hdst l hsub st0 _ a w hvc hR ?_)
  · rintro e a' w' ⟨rfl,h1⟩
    exact hQ a' w' h1
  · intro st' a' w' h1 h2
    obtain⟨_,h4,_⟩:=h1.out
    exact⟨rfl,zbL h4 h2⟩
theorem zvL:Ok 180 zkr:=by
  refine⟨zpO (c:=cfS) zib Tryz.func180 ztZ rfl (by decide) (by decide) (by decide) rfl ?_,Tryz.f180,Tryz.func180,by kernel_rfl,by kernel_rfl⟩
  rintro⟨(m:List (List Int)),(right:List Int),_⟩ ⟨⟨N,hN,hs⟩,(hrl:right.length=m.length),(hrb:∀i,i<m.length→-2000≤vI right i∧vI right i≤2000)⟩ M bs w0 a hd hR
  have hml:m.length=N:=hs.1
  have hdet:zlF m:=⟨N,hN,hs⟩
  have hrow:∀i,i<m.length→(rowN m i).length=N:=fun i hi=>(hs.2 _ (zku hs (by omega))).1
  have hR:RelS (EH M bs w0 true) 75 (stS m right) a w0:=zvB hR hd
  refine wpIn_seq (zeO (X:=True) (R:=fun _=>False) hR (by kernel_rfl) (by kernel_rfl) (vR0 m right) (fun a1 w1 _ hR1=>?_) (fun _ _ _ h=>h.elim))
  refine wpIn_seq (zeO (X:=True) (R:=fun _=>False) hR1 (by kernel_rfl) (by kernel_rfl) (vR1 m right hdet) (fun a2 w2 _ hR2=>?_) (fun _ _ _ h=>h.elim))
  refine wpIn_seq (zeO (R:=zgE cfS Tryz.f180.results.toList zkr.res (zau m right)) hR2 (by kernel_rfl) (by kernel_rfl) (vR2 m right) (fun a3 w3 hne hR3=>?_) (fun st a' w' h h2=>⟨.ret,st,rfl,h,(zpf h2).1⟩))
  have noR:∀(st:St) (a':Act) (w':World),False→RelS (EH M bs w0 true) 75 st a' w'→False:=fun _ _ _ h _=>h
  refine wpIn_seq (zoZ (X:=True) hR3 (by kernel_rfl) (by kernel_rfl) (by kernel_rfl) (vR45 m right) (fun st4 a4 w4 hv4 hR4=>?_))
  refine wpIn_seq (wpIn_seq (zeO (X:=True) (R:=fun _=>False) hR4 (by kernel_rfl) (by kernel_rfl) hv4 (fun a5 w5 _ hR5=>?_) (fun _ _ _ h=>h.elim)))
  refine wpIn_block (zdw (fun n a w=>∃k,k≤m.length∧n=m.length - k∧RelS (EH M bs w0 true) 75 (hdO m right k) a w) ⟨0,Nat.zero_le _,rfl,hR5⟩ ?_)
  rintro n a w ⟨k,hk,rfl,hR⟩
  refine wpIn_seq (zeO (X:=True) (R:=fun _=>False) hR (by kernel_rfl) (by kernel_rfl) (vR6 m right k) (fun a1 w1 _ hR1=>?_) (fun _ _ _ h=>h.elim))
  have hb:=zuz hR1 (by decide)
  have hR1:=zmw hR1
  by_cases hlt:k<m.length
  · rw [decide_eq_true (by omega)] at hb
    refine wpIn_seq (wpIn_cond_true hb (wpIn_skip ?_))
    change Code.wpIn (Fw none) 0 Tryz.prog _ _ a1 w1
    refine wpIn_seq (wpIn_block (wpIn_seq (zoZ (X:=True) hR1 (by kernel_rfl) (by kernel_rfl) (by kernel_rfl) (zwr m right k (by omega)) (fun st2 a2 w2 hv2 hR2=>?_))))
    refine wpIn_seq (zoZ (X:=True) hR2 (by kernel_rfl) (by kernel_rfl) (by kernel_rfl) hv2 (fun st3 a3 w3 hv3 hR3=>?_))
    refine wpIn_seq (wpIn_seq (zeO (X:=True) (R:=fun _=>False) hR3 (by kernel_rfl) (by kernel_rfl) hv3 (fun a4 w4 _ hR4=>?_) (fun _ _ _ h=>h.elim)))
    refine wpIn_block (zdw (fun n a w=>∃i,i≤m.length∧n=m.length - i∧RelS (EH M bs w0 true) 75 (hdI m right k i) a w) ⟨0,Nat.zero_le _,rfl,hR4⟩ ?_)
    rintro n a w ⟨i,hi,rfl,hR⟩
    refine wpIn_seq (zeO (X:=True) (R:=fun _=>False) hR (by kernel_rfl) (by kernel_rfl) (vR10 m right k i) (fun a1 w1 _ hR1=>?_) (fun _ _ _ h=>h.elim))
    have hb:=zuz hR1 (by decide)
    have hR1:=zmw hR1
    by_cases hit:i<m.length
    · rw [decide_eq_true (by omega)] at hb
      refine wpIn_seq (wpIn_cond_true hb (wpIn_skip ?_))
      change Code.wpIn (Fw none) 0 Tryz.prog _ _ a1 w1
      refine wpIn_seq (wpIn_block (wpIn_seq (zvp hR1 (by kernel_rfl) (by kernel_rfl) (vR11 m right k i hit (by rw[hrow i hit];exact hN)) (fun st2 a2 w2 hv2 hR2=>?_))))
      refine wpIn_seq ?_
      rw[zvm]
      refine wpIn_region_list ?_
      change wpListIn (Fw none) 0 Tryz.prog _ _ (zh1.take 4++zh1.drop 4) a2 w2
      refine zgM _ _ _ (ztq hR2 ?_ ?_ hv2 fun a3 w3 hR3=>?_)
      · exact fun o ho=>by
          change o∈zh1
          exact List.mem_of_mem_take ho
      · intro o ho t ht
        change o∈zh1 at ho
        have hall:(zh1.all fun o=>match o.dst with|some t=>Nat.blt t 75|none=>true)=true:=by kernel_rfl
        have:=List.all_eq_true.1 hall o ho
        rw[ht] at this
        exact Nat.le_of_ble_eq_true this
      · have hn:=nest (Q:=fun e a w=>e=.normal∧RelS (EH M bs w0 true) 75 (stB 60010 m (chk m right k (i+1)) right (dets m right k) (detA m) i k m.length) a w) hR3 hit zdT (by omega) (by rw[hrow i hit];omega) (fun a' w' h=>by
          rw[zrs hit] at h
          exact⟨rfl,h⟩)
        refine zek ?_ _ _ _ hn
        rintro e a4 w4 h
        cases e with
        | normal=>
          refine wpIn_mono h ?_
          rintro e a5 w5 ⟨rfl,hR4⟩
          change Code.wpIn (Fw none) 0 Tryz.prog R14 _ a5 w5
          refine zeO (X:=True) (R:=fun _=>False) hR4 (by kernel_rfl) (by kernel_rfl) (vR14 m right k i hit (by omega)) (fun a5 w5 _ hR5=>?_) (fun _ _ _ h=>h.elim)
          exact⟨m.length - (i+1),by omega,i+1,hit,rfl,hR5⟩
        | _=>exact absurd h.1 (by intro h;cases h)
    · rw[decide_eq_false (by omega)] at hb
      refine wpIn_seq (wpIn_cond_false hb (wpIn_exit ?_))
      have e:i=m.length:=by omega
      subst e
      change Code.wpIn (Fw none) 0 Tryz.prog R15 _ a1 w1
      refine zeO (X:=True) (R:=fun _=>False) hR1 (by kernel_rfl) (by kernel_rfl) (vR15 m right k 0 (by omega) (by omega) ⟨N,hN,zm5 hs hrb⟩) (fun a2 w2 _ hR2=>?_) (fun _ _ _ h=>h.elim)
      change Code.wpIn (Fw none) 0 Tryz.prog R16 _ a2 w2
      refine zeO (X:=True) (R:=fun _=>False) hR2 (by kernel_rfl) (by kernel_rfl) (vR16 m right k 0 (by omega) (by omega)) (fun a3 w3 _ hR3=>?_) (fun _ _ _ h=>h.elim)
      exact⟨m.length - (k+1),by omega,k+1,hlt,rfl,hR3⟩
  · rw[decide_eq_false (by omega)] at hb
    refine wpIn_seq (wpIn_cond_false hb (wpIn_exit ?_))
    have e:k=m.length:=by omega
    subst e
    change Code.wpIn (Fw none) 0 Tryz.prog TL _ a1 w1
    refine wpIn_mono (zbd zib (zcm mixed zib) TL 0 _ _ a1 w1 (EH M bs w0 true) none rfl rfl (.inr (by kernel_rfl)) (by kernel_rfl) (vTL m right (by omega) hne (zhI hdet) (fun i hi=>zpZ hN hs hrb hi)) hR1) ?_
    rintro e a' w' ⟨⟨xe,st',h1,h2,h3⟩,_⟩
    exact⟨xe,st',h1,h2,(zpf h3).1⟩
set_option maxHeartbeats 8000000
abbrev BndD:Type:=zi3.Den
def lowB (row:List Int):BndD:=(tab (fun j=>-vI row j) row.length++[1],0,())
def znD (cap:Int) (row:List Int):BndD:=(row++[0],cap,())
def znw (n:Nat) (j:Nat):BndD:=(zbE (n+1:Int) (j:Int) 1,1,())
def znj (n:Nat) (j:Nat):BndD:=(zbE (n+1:Int) (j:Int) (-1),0,())
abbrev zkO (t:List (List Int)) (k:Nat):List BndD:=tab (fun i=>lowB (rowN t i)) k
abbrev zdn (t:List (List Int)) (cap:Int) (k:Nat):List BndD:=zkO t t.length++tab (fun i=>znD cap (rowN t i)) k
abbrev zcX (t:List (List Int)) (cap:Int) (k:Nat):List BndD:=zdn t cap t.length++tab (znw (ncol t)) k
abbrev zbR (t:List (List Int)) (cap:Int) (k:Nat):List BndD:=zcX t cap (ncol t)++tab (znj (ncol t)) k
@[reducible] def zuG:Spec:={pats:=[.dat zeI],res:=[{t:=zj8}],pre:=fun x=>goodT x.1.1 x.1.2.1,f:=fun x=>(((List.length (α:=List Int) x.1.1:Int),(ncol x.1.1:Int),zbR x.1.1 x.1.2.1 (ncol x.1.1),()),())}
abbrev cB3 (t:List (List Int)) (xs:List BndD):St:=[cI 3 0 t.length,cI 3 1 (ncol t),.cell 3 2 (.o 60032 xs.length),.row 60032 222 zi3 xs]
def pA1 (t:List (List Int)):LoopAnn:={σ:=Nat,pat:=fun k=>sI 25 k::cB3 t (zkO t k),inv:=fun k=>k≤t.length,meas:=fun k=>t.length - k}
def pA2 (st:St):LoopAnn:=zwp 30 st fun row=>{σ:=Nat,pat:=fun j=>sI 32 j::.slot 29 (.one .u)::sOwn 6 29 3 (tab (fun j=>-vI row j) j),inv:=fun j=>j≤row.length,meas:=fun j=>row.length - j}
def pA3 (t:List (List Int)) (cap:Int):LoopAnn:={σ:=Nat,pat:=fun k=>sI 55 k::cB3 t (zdn t cap k),inv:=fun k=>k≤t.length,meas:=fun k=>t.length - k}
def pA4 (t:List (List Int)) (cap:Int):LoopAnn:={σ:=Nat,pat:=fun k=>sI 74 k::cB3 t (zcX t cap k),inv:=fun k=>k≤ncol t,meas:=fun k=>ncol t - k}
def pA5 (t:List (List Int)) (cap:Int):LoopAnn:={σ:=Nat,pat:=fun k=>sI 91 k::cB3 t (zbR t cap k),inv:=fun k=>k≤ncol t,meas:=fun k=>ncol t - k}
theorem h142:Ok 142 zuG:=by
  refine mk (ctr:=[(145,zgq),(162,zsO)]) ⟨h145,h162,trivial⟩ (nt:=107) Tryz.func142 rfl rfl rfl rfl (by kernel_rfl) (by kernel_rfl) (fun x=>[fun _=>pA1 x.1.1,pA2,fun _=>pA3 x.1.1 x.1.2.1,fun _=>pA4 x.1.1 x.1.2.1,fun _=>pA5 x.1.1 x.1.2.1]) ?_
  rintro⟨⟨(t:List (List Int)),(cap:Int),_⟩,_⟩ h
  obtain⟨(h1:0<t.length),(h2:t.length≤4),(h3:0<ncol t),(h4:ncol t≤3),(h5:∀i,i<t.length→(rowN t i).length=ncol t),(h6:∀i j,i<t.length→j<ncol t→0≤vI (rowN t i) j∧vI (rowN t i) j≤100),(h7:0≤cap∧cap≤1000)⟩:=(h:goodT t cap)
  repeat' (intro hzz;(try (rename Two=>hq;cases hq));(try dsimp only at hzz);(try simp only[zad,zac,eqD,inR,big,zab,zB] at hzz);(try simp only[zad,zac,eqD,inR,big,zab,zB,zaS,zav,zbb,zbz,zbA,Int.toNat_natCast,zal,zaR,List.length_append] at hzz);(try (revert hzz;intro _)))
  all_goals try (rename Unit=>hq;clear hq)
  all_goals try ((with_reducible refine Held.mk ?_);(with_reducible (first|refine Frz.mk ?_|refine And.intro (Frz.mk ?_) ?_|refine And.intro ?_ (Frz.mk ?_)));repeat' first|exact True.intro|(change _=_;with_reducible rfl)|refine And.intro ?_ ?_|(with_reducible refine Frz.mk ?_))
  all_goals try (refine Held.mk ?_;(try dsimp only at *);(try simp only[zad,zac,eqD,inR,big,zab,zB] at *);(try simp only[zad,zac,eqD,inR,big,zab,zB,zaS,zav,zbb,zbz,zbA,Int.toNat_natCast,zal,zaR,List.length_append] at *))
  all_goals try omega
  ·
    refine zaj.mk ?_
    refine Exists.intro (0:Nat) ?_
    refine And.intro (Leaf.mk ?_) ?_
    · repeat' first|exact True.intro|refine And.intro ?_ ?_
      all_goals try ((change _=_<;>try dsimp only)<;>try with_reducible rfl)
      all_goals try omega
      all_goals (rfl)
    exact Nat.zero_le _
  · rename_i k hk hg
    refine zaj.mk ?_
    refine Exists.intro (0:Nat) ?_
    refine And.intro (Leaf.mk ?_) ?_
    · repeat' first|exact True.intro|refine And.intro ?_ ?_
      all_goals try ((change _=_<;>try dsimp only)<;>try with_reducible rfl)
      all_goals try omega
      all_goals (rfl)
    exact Nat.zero_le _
  · rename_i k hk hg j hj hl
    have hl0:(rowN t k).length=ncol t:=h5 k (by omega)
    have:=h6 k j (by omega) (by have:(rowN t k).length=(t.getD k []).length:=rfl;omega)
    show -9223372036854775808≤-vI (rowN t k) j∧-vI (rowN t k) j≤9223372036854775807
    omega
  · rename_i k hk hg j hj hl
    have hl0:(t.getD k []).length=ncol t:=h5 k (by omega)
    show j+1≤2147483648;omega
  · rename_i k hk hg j hj hl
    have hl0:(t.getD k []).length=ncol t:=h5 k (by omega)
    omega
  · rename_i k hk hg j hj hl
    refine zaj.mk ?_
    refine Exists.intro (j+1) ?_
    refine And.intro (Leaf.mk ?_) ?_
    · repeat' first|exact True.intro|refine And.intro ?_ ?_
      all_goals try ((change _=_<;>try dsimp only)<;>try with_reducible rfl)
      all_goals try omega
      all_goals (rfl)
    exact⟨by show j+1≤(t.getD k []).length;omega,by show (t.getD k []).length - (j+1)<(t.getD k []).length - j;omega⟩
  · rename_i k hk hg j hj hl
    have hl0:(t.getD k []).length=ncol t:=h5 k (by omega)
    show (tab (fun j=>-vI (t.getD k []) j) j).length+1≤2147483648
    rw[zal];omega
  · rename_i k hk hg j hj hl
    show k+1≤2147483648;omega
  · rename_i k hk hg j hj hl
    have e:j=(t.getD k []).length:=by omega
    subst e
    refine zaj.mk ?_
    refine Exists.intro (k+1) ?_
    refine And.intro (Leaf.mk ?_) ?_
    · repeat' first|exact True.intro|refine And.intro ?_ ?_
      all_goals try ((change _=_<;>try dsimp only)<;>try with_reducible rfl)
      all_goals try omega
      all_goals (rfl)
    exact⟨by show k+1≤t.length;omega,by show t.length - (k+1)<t.length - k;omega⟩
  · rename_i k hk hg
    have e:k=t.length:=by omega
    subst e
    refine zaj.mk ?_
    refine Exists.intro (0:Nat) ?_
    refine And.intro (Leaf.mk ?_) ?_
    · repeat' first|exact True.intro|refine And.intro ?_ ?_
      all_goals try ((change _=_<;>try dsimp only)<;>try with_reducible rfl)
      all_goals try omega
      all_goals (first|rfl|exact (List.append_nil _).symm|(rw[List.length_append,zal];rfl))
    exact Nat.zero_le _
  · rename_i q hq hq2 k hk hg
    have hl0:(t.getD k []).length=ncol t:=h5 k (by omega)
    omega
  · rename_i q hq hq2 k hk hg
    have hl0:(t.getD k []).length=ncol t:=h5 k (by omega)
    show (t.getD k []).length+1≤2147483648
    omega
  · rename_i q hq hq2 k hk hg
    show t.length+k+1≤2147483648;omega
  · rename_i q hq hq2 k hk hg
    have e:zdn t cap k++[znD cap (rowN t k)]=zdn t cap (k+1):=List.append_assoc _ _ _
    refine zaj.mk ?_
    refine Exists.intro (k+1) ?_
    refine And.intro (Leaf.mk ?_) ?_
    · repeat' first|exact True.intro|refine And.intro ?_ ?_
      all_goals try ((change _=_<;>try dsimp only)<;>try with_reducible rfl)
      all_goals try omega
      all_goals (first|rfl|exact e.symm|exact e|exact congrArg List.length e.symm|exact congrArg List.length e)
    exact⟨by show k+1≤t.length;omega,by show t.length - (k+1)<t.length - k;omega⟩
  · rename_i q hq hq2 k hk hg
    have e:k=t.length:=by omega
    subst e
    have e:zdn t cap t.length=zcX t cap 0:=(List.append_nil _).symm
    refine zaj.mk ?_
    refine Exists.intro (0:Nat) ?_
    refine And.intro (Leaf.mk ?_) ?_
    · repeat' first|exact True.intro|refine And.intro ?_ ?_
      all_goals try ((change _=_<;>try dsimp only)<;>try with_reducible rfl)
      all_goals try omega
      all_goals (first|rfl|exact e.symm|exact e|exact congrArg List.length e.symm|exact congrArg List.length e)
    exact Nat.zero_le _
  · show (0:Int)≤(ncol t:Int)+1;omega
  · show (ncol t:Int)+1≤1000;omega
  · rename_i q1 q2 q3 p1 p2 p3 k hk hg
    show (0:Int)≤(k:Int);omega
  · rename_i q1 q2 q3 p1 p2 p3 k hk hg
    show (k:Int)<(ncol t:Int)+1;omega
  · rename_i q1 q2 q3 p1 p2 p3 k hk hg
    show t.length+t.length+k+1≤2147483648;omega
  · rename_i q1 q2 q3 p1 p2 p3 k hk hg
    have e:zcX t cap k++[znw (ncol t) k]=zcX t cap (k+1):=List.append_assoc _ _ _
    refine zaj.mk ?_
    refine Exists.intro (k+1) ?_
    refine And.intro (Leaf.mk ?_) ?_
    · repeat' first|exact True.intro|refine And.intro ?_ ?_
      all_goals try ((change _=_<;>try dsimp only)<;>try with_reducible rfl)
      all_goals try omega
      all_goals (first|rfl|exact e.symm|exact e|exact congrArg List.length e.symm|exact congrArg List.length e)
    exact⟨by show k+1≤ncol t;omega,by show ncol t - (k+1)<ncol t - k;omega⟩
  · rename_i q1 q2 q3 p1 p2 p3 k hk hg
    have e:k=ncol t:=by omega
    subst e
    have e:zcX t cap (ncol t)=zbR t cap 0:=(List.append_nil _).symm
    refine zaj.mk ?_
    refine Exists.intro (0:Nat) ?_
    refine And.intro (Leaf.mk ?_) ?_
    · repeat' first|exact True.intro|refine And.intro ?_ ?_
      all_goals try ((change _=_<;>try dsimp only)<;>try with_reducible rfl)
      all_goals try omega
      all_goals (first|rfl|exact e.symm|exact e|exact congrArg List.length e.symm|exact congrArg List.length e)
    exact Nat.zero_le _
  · show (0:Int)≤(ncol t:Int)+1;omega
  · show (ncol t:Int)+1≤1000;omega
  · rename_i r1 r2 r3 q1 q2 q3 p1 p2 p3 k hk hg
    show (0:Int)≤(k:Int);omega
  · rename_i r1 r2 r3 q1 q2 q3 p1 p2 p3 k hk hg
    show (k:Int)<(ncol t:Int)+1;omega
  · rename_i r1 r2 r3 q1 q2 q3 p1 p2 p3 k hk hg
    show t.length+t.length+ncol t+k+1≤2147483648;omega
  · rename_i r1 r2 r3 q1 q2 q3 p1 p2 p3 k hk hg
    have e:zbR t cap k++[znj (ncol t) k]=zbR t cap (k+1):=List.append_assoc _ _ _
    refine zaj.mk ?_
    refine Exists.intro (k+1) ?_
    refine And.intro (Leaf.mk ?_) ?_
    · repeat' first|exact True.intro|refine And.intro ?_ ?_
      all_goals try ((change _=_<;>try dsimp only)<;>try with_reducible rfl)
      all_goals try omega
      all_goals (first|rfl|exact e.symm|exact e|exact congrArg List.length e.symm|exact congrArg List.length e)
    exact⟨by show k+1≤ncol t;omega,by show ncol t - (k+1)<ncol t - k;omega⟩
  · rename_i r1 r2 r3 q1 q2 q3 p1 p2 p3 k hk hg
    rw[show k=ncol t by omega]
def trM (m:List (List Int)):List (List Int):=tab (fun j=>tab (fun i=>vI (rowN m i) j) m.length) m.length
theorem len1 {α:Type} {l:List α} (h:l.length=1):∃a,l=[a]:=by
  match l,h with
  | [a],_=>exact⟨a,rfl⟩
theorem len2 {α:Type} {l:List α} (h:l.length=2):∃a b,l=[a,b]:=by
  match l,h with
  | [a,b],_=>exact⟨a,b,rfl⟩
theorem len3 {α:Type} {l:List α} (h:l.length=3):∃a b c,l=[a,b,c]:=by
  match l,h with
  | [a,b,c],_=>exact⟨a,b,c,rfl⟩
theorem len4 {α:Type} {l:List α} (h:l.length=4):∃a b c d,l=[a,b,c,d]:=by
  match l,h with
  | [a,b,c,d],_=>exact⟨a,b,c,d,rfl⟩
theorem tr1 (a:Int):detN 1 (trM [[a]])=detN 1 [[a]]:=rfl
theorem tr2 (a b c d:Int):detN 2 (trM [[a,b],[c,d]])=detN 2 [[a,b],[c,d]]:=by
  show detN 2 [[a,c],[b,d]]=detN 2 [[a,b],[c,d]]
  simp[detN,sumD,zaJ,zaY];grind
theorem tr3 (a b c d e f g h i:Int):detN 3 (trM [[a,b,c],[d,e,f],[g,h,i]])=detN 3 [[a,b,c],[d,e,f],[g,h,i]]:=by
  show detN 3 [[a,d,g],[b,e,h],[c,f,i]]=detN 3 [[a,b,c],[d,e,f],[g,h,i]]
  simp[detN,sumD,zaJ,zaY];grind
theorem tr4 (a b c d e f g h i j k l m n o p:Int):detN 4 (trM [[a,b,c,d],[e,f,g,h],[i,j,k,l],[m,n,o,p]])=detN 4 [[a,b,c,d],[e,f,g,h],[i,j,k,l],[m,n,o,p]]:=by
  show detN 4 [[a,e,i,m],[b,f,j,n],[c,g,k,o],[d,h,l,p]]=detN 4 [[a,b,c,d],[e,f,g,h],[i,j,k,l],[m,n,o,p]]
  simp[detN,sumD,zaJ,zaY];grind
theorem zgX {m:List (List Int)}:(trM m).length=m.length:=zal _ _
theorem zrG {N:Nat} (hN:N≤4) {m:List (List Int)} (h:zcG N m):detA (trM m)=detA m:=by
  obtain⟨h1,h2⟩:=h
  unfold detA
  rw[zgX]
  match N,hN with
  | 0,_=>rw[List.length_eq_zero_iff.1 h1];rfl
  | 1,_=>
    obtain⟨r,rfl⟩:=len1 h1
    obtain⟨a,rfl⟩:=len1 (h2 r (by simp)).1
    exact tr1 _
  | 2,_=>
    obtain⟨r,s,rfl⟩:=len2 h1
    obtain⟨a,b,rfl⟩:=len2 (h2 r (by simp)).1
    obtain⟨c,d,rfl⟩:=len2 (h2 s (by simp)).1
    exact tr2 _ _ _ _
  | 3,_=>
    obtain⟨r,s,t,rfl⟩:=len3 h1
    obtain⟨a,b,c,rfl⟩:=len3 (h2 r (by simp)).1
    obtain⟨d,e,f,rfl⟩:=len3 (h2 s (by simp)).1
    obtain⟨g,h,i,rfl⟩:=len3 (h2 t (by simp)).1
    exact tr3 _ _ _ _ _ _ _ _ _
  | 4,_=>
    obtain⟨r,s,t,u,rfl⟩:=len4 h1
    obtain⟨a,b,c,d,rfl⟩:=len4 (h2 r (by simp)).1
    obtain⟨e,f,g,h,rfl⟩:=len4 (h2 s (by simp)).1
    obtain⟨i,j,k,l,rfl⟩:=len4 (h2 t (by simp)).1
    obtain⟨m,n,o,p,rfl⟩:=len4 (h2 u (by simp)).1
    exact tr4 _ _ _ _ _ _ _ _ _ _ _ _ _ _ _ _
theorem ziB {l:List Int} {x:Int} (h:x∈l):∃i,i<l.length∧x=vI l i:=by
  obtain⟨i,hi,e⟩:=List.getElem_of_mem h
  exact⟨i,hi,by simp[vI,List.getD,List.getElem?_eq_getElem hi,e]⟩
theorem zgU {l:List Int} {i:Nat} (h:i<l.length):vI l i∈l:=by
  have:vI l i=l[i]:=by simp[vI,List.getD,List.getElem?_eq_getElem h]
  rw[this];exact List.getElem_mem h
theorem zsJ {N:Nat} {m:List (List Int)} (h:zcG N m):zcG N (trM m):=by
  have hl:m.length=N:=h.1
  refine⟨by rw[zgX,hl],fun r hr=>?_⟩
  obtain⟨j,hj,rfl⟩:=zb5 hr
  refine⟨by rw[zal,hl],fun x hx=>?_⟩
  obtain⟨i,hi,rfl⟩:=zb5 hx
  have hrow:=h.2 _ (zku h (i:=i) (by omega))
  exact hrow.2 _ (zgU (by rw[hrow.1];omega))
theorem zml {m:List (List Int)} {right:List Int} (h:detA m≠0):(zau m right).2.2.1=true:=by
  unfold zau
  rw[if_neg h]
  split<;>rfl
theorem zqH {m:List (List Int)} {right:List Int} (h:detA m=0):(zau m right).2.2.1=false:=by
  unfold zau
  rw[if_pos h]
theorem zij {m:List (List Int)} {right:List Int} (h:(zau m right).2.2.1=true):detA m≠0:=fun e=>by rw[zqH e] at h;cases h
theorem zg4 {m:List (List Int)} {right:List Int} (h:detA m≠0):(zau m right).1.length=m.length:=by
  unfold zau
  rw[if_neg h]
  split
  · show (negd (dets m right m.length) m.length).length=_
    rw[zfs,zc7]
  · exact zc7
theorem zgJ {m:List (List Int)} {right:List Int} (hp:ziw m right) (h:detA m≠0) {i:Nat} (hi:i<m.length) : -400000000000000≤vI (zau m right).1 i∧vI (zau m right).1 i≤400000000000000:=by
  obtain⟨⟨N,hN,hs⟩,h1,h2⟩:=hp
  have hb:=zpZ hN hs h2 hi
  unfold zau
  rw[if_neg h]
  split
  · have e:vI (negd (dets m right m.length) m.length) i = -vI (dets m right m.length) i:=by
      have:=zaB (fun j=>if j<m.length then -vI (dets m right m.length) j else vI (dets m right m.length) j) 0 (dets m right m.length).length i (by rw[zc7];exact hi)
      rw[if_pos hi] at this
      exact this
    show -400000000000000≤vI (negd (dets m right m.length) m.length) i∧vI (negd (dets m right m.length) m.length) i≤400000000000000
    rw[e];omega
  · exact hb
theorem zfi {m:List (List Int)} {right:List Int} (hp:ziw m right) (h:detA m≠0):0<(zau m right).2.1∧(zau m right).2.1≤400000000000000:=by
  have hb:=zhI hp.1
  unfold zau
  rw[if_neg h]
  split
  · show 0 < -detA m∧-detA m≤400000000000000
    omega
  · show 0<detA m∧detA m≤400000000000000
    omega
abbrev bndZ:BndD:=Ty.dflt zi3
abbrev bdN (b:List BndD) (k:Nat):BndD:=b.getD k bndZ
abbrev bdL (b:List BndD) (l:List Int) (i:Nat):BndD:=b.getD (vI l i).toNat bndZ
abbrev zcg:Type:=zme.Den
def zaz (b:List BndD) (l:List Int) (k:Nat):List (List Int):=tab (fun i=>(bdL b l i).1) k
def rhsP (b:List BndD) (l:List Int) (k:Nat):List Int:=tab (fun i=>(bdL b l i).2.1) k
def colP (m:List (List Int)) (j i:Nat):List Int:=tab (fun i=>vI (rowN m i) j) i
def zjS (m:List (List Int)) (k:Nat):List (List Int):=tab (fun j=>colP m j m.length) k
def wsP (b:Nat) (l y:List Int):Nat→List Int
  | 0=>repl (b:Int) (0:Int)
  | i+1=>(wsP b l y i).set (vI l i).toNat (vI y i)
def okB (b:List BndD) (x:List Int) (den:Int) (k:Nat):Bool:=decide (dotI (bdN b k).1 x≤(bdN b k).2.1*den)
def zdh (b:List BndD) (x:List Int) (den:Int):Nat→Bool
  | 0=>true
  | k+1=>zdh b x den k&&okB b x den k
abbrev zgf:zcg:=([],0,[],0,())
def atX (b:List BndD) (l:List Int):List Int×Int×Bool×Unit:=zau (zaz b l l.length) (rhsP b l l.length)
def atY (b:List BndD) (l:List Int):List Int×Int×Bool×Unit:=zau (trM (zaz b l l.length)) (zbE (l.length:Int) ((l.length:Int) - 1) 1)
def atR (b:List BndD) (l:List Int):zcg×Bool×Unit:=
  if (atX b l).2.2.1=false then (zgf,false,())
  else if zdh b (atX b l).1 (atX b l).2.1 b.length=false then (zgf,false,())
  else if mn (atY b l).1 (l.length - 1)<0 then (zgf,false,())
  else (((atX b l).1,(atX b l).2.1,wsP b.length l (atY b l).1 l.length,(atY b l).2.1,()),true,())
structure goodA (b:List BndD) (l:List Int):Prop where
  pos:0<l.length
  le:l.length≤4
  ble:b.length≤100
  idx:∀i,i<l.length→0≤vI l i∧(vI l i).toNat<b.length
  len:∀k,k<b.length→(bdN b k).1.length=l.length
  vals:∀k j,k<b.length→j<l.length→-1000≤vI (bdN b k).1 j∧vI (bdN b k).1 j≤1000
  most:∀k,k<b.length→(0:Int)≤(bdN b k).2.1∧(bdN b k).2.1≤(1000:Int)
theorem zd0 {b:Nat} {l y:List Int}:∀i,(wsP b l y i).length=b
  | 0=>by simp[wsP,zbl]
  | i+1=>by simp[wsP,zd0 i]
theorem zaG {b l k}:(zaz b l k).length=k:=zal _ _
theorem zcU {b:List BndD} {l:List Int} {k i:Nat} (h:i<k):rowN (zaz b l k) i=(bdL b l i).1:=zaB (fun i=>(bdL b l i).1) [] k i h
theorem zhd {b:List BndD} {l:List Int} (h:goodA b l):zcG l.length (zaz b l l.length):=by
  refine⟨zaG,fun r hr=>?_⟩
  obtain⟨i,hi,rfl⟩:=zb5 hr
  have h1:=h.idx i hi
  have h2:(bdL b l i).1.length=l.length:=h.len _ h1.2
  refine⟨h2,fun x hx=>?_⟩
  obtain⟨j,hj,rfl⟩:=ziB hx
  have:=h.vals _ j h1.2 (by rw[←h2];exact hj)
  have e:vI (bdL b l i).1 j=vI (bdN b (vI l i).toNat).1 j:=rfl
  rw[e];omega
theorem zlz {b l k}:(rhsP b l k).length=k:=zal _ _
theorem zjm {b:List BndD} {l:List Int} {k i:Nat} (h:i<k):vI (rhsP b l k) i=(bdL b l i).2.1:=zaB (fun i=>(bdL b l i).2.1) 0 k i h
theorem pX {b:List BndD} {l:List Int} (h:goodA b l):ziw (zaz b l l.length) (rhsP b l l.length):=by
  refine⟨⟨l.length,h.le,zhd h⟩,by rw[zlz,zaG],fun i hi=>?_⟩
  rw[zaG] at hi
  rw[zjm hi]
  have h1:=h.idx i hi
  have h2:0≤(bdL b l i).2.1∧(bdL b l i).2.1≤1000:=h.most _ h1.2
  generalize (bdL b l i).2.1=z at h2
  have h3:(0:Int)≤z:=h2.1
  have h4:z≤(1000:Int):=h2.2
  exact⟨Int.le_trans (by decide) h3,Int.le_trans h4 (by decide)⟩
theorem zi7 {n k v:Int}:(zbE n k v).length=n.toNat:=by
  unfold zbE;rw[List.length_set,zbl]
theorem zfe {n:Nat} {k:Nat} {v:Int} {i:Nat} (hi:i<n):vI (zbE (n:Int) (k:Int) v) i=if i=k then v else 0:=by
  have e:zbE (n:Int) (k:Int) v=tab (fun j=>if j=k then v else 0) n:=by
    have e0:repl (n:Int) (0:Int)=tab (fun _=>(0:Int)) n:=by
      rw[zef];symm
      exact zih 0 (by simp) fun i hi=>by simp[List.getD,hi]
    unfold zbE
    rw[e0,show ((k:Int)).toNat=k from rfl,zgZ]
  rw[e]
  exact zaB (fun j=>if j=k then v else 0) 0 n i hi
theorem pY {b:List BndD} {l:List Int} (h:goodA b l):ziw (trM (zaz b l l.length)) (zbE (l.length:Int) ((l.length:Int) - 1) 1):=by
  have hl:(trM (zaz b l l.length)).length=l.length:=by rw[zgX,zaG]
  refine⟨⟨l.length,h.le,zsJ (zhd h)⟩,by rw[zi7,hl];rfl,fun i hi=>?_⟩
  rw[hl] at hi
  have hp:=h.pos
  rw[show (l.length:Int) - 1=((l.length - 1:Nat):Int) by omega,zfe hi]
  split<;>omega
theorem zmC {b:List BndD} {x:List Int} {d:Int} {k:Nat} (h:okB b x d k=false):∀n,k<n→zdh b x d n=false
  | 0,hk=>absurd hk (Nat.not_lt_zero _)
  | n+1,hk=>by
    simp only[zdh]
    by_cases e:k=n
    · subst e;rw[h,Bool.and_false]
    · rw[zmC h n (by omega),Bool.false_and]
theorem at_1 {b:List BndD} {l:List Int} (h:(atX b l).2.2.1=false):atR b l=(zgf,false,()):=if_pos h
theorem at_2 {b:List BndD} {l:List Int} (h:(atX b l).2.2.1=true) (h2:zdh b (atX b l).1 (atX b l).2.1 b.length=false):atR b l=(zgf,false,()):=by
  unfold atR;rw[if_neg (by rw[h];decide),if_pos h2]
theorem at_3 {b:List BndD} {l:List Int} (h:(atX b l).2.2.1=true) (h2:zdh b (atX b l).1 (atX b l).2.1 b.length=true) (h3:mn (atY b l).1 (l.length - 1)<0):atR b l=(zgf,false,()):=by
  unfold atR;rw[if_neg (by rw[h];decide),if_neg (by rw[h2];decide),if_pos h3]
theorem at_4 {b:List BndD} {l:List Int} (h:(atX b l).2.2.1=true) (h2:zdh b (atX b l).1 (atX b l).2.1 b.length=true) (h3:¬mn (atY b l).1 (l.length - 1)<0):atR b l=(((atX b l).1,(atX b l).2.1,wsP b.length l (atY b l).1 l.length,(atY b l).2.1,()),true,()):=by
  unfold atR;rw[if_neg (by rw[h];decide),if_neg (by rw[h2];decide),if_neg h3]
theorem zj9 {b:List BndD} {l:List Int} (h:(atX b l).2.2.1=true):detA (zaz b l l.length)≠0:=zij h
theorem zsF {b:List BndD} {l:List Int} (h:(atX b l).2.2.1=true):(atX b l).1.length=l.length:=(zg4 (zj9 h)).trans zaG
theorem zqw {b:List BndD} {l:List Int} (hg:goodA b l) (h:(atX b l).2.2.1=true):detA (trM (zaz b l l.length))≠0:=by
  rw[zrG hg.le (zhd hg)];exact zj9 h
theorem zqu {b:List BndD} {l:List Int} (hg:goodA b l) (h:(atX b l).2.2.1=true):(atY b l).1.length=l.length:=(zg4 (zqw hg h)).trans (by rw[zgX,zaG])
theorem y_eq {b:List BndD} {l:List Int}:zau (zjS (zaz b l l.length) (zaz b l l.length).length) (zbE ((zaz b l l.length).length:Int) (((zaz b l l.length).length:Int) - 1) 1)=atY b l:=by
  show zau (trM (zaz b l l.length)) _=atY b l
  rw[zaG];rfl
theorem zqv {b:List BndD} {l:List Int}:zau (zjS (zaz b l l.length) l.length) (zbE (l.length:Int) ((l.length:Int) - 1) 1)=atY b l:=by
  have:=@y_eq b l
  rw[zaG] at this;exact this
theorem zwO {b:List BndD} {l:List Int} (hg:goodA b l) (h:(atX b l).2.2.1=true) {k:Nat} (hk:k<b.length):pDot (bdN b k).1 (atX b l).1:=by
  have e:=hg.len k hk
  have hl:=hg.le
  refine⟨by rw[e,zsF h];exact Nat.le_refl _,by rw[e];omega,fun i hi=>?_⟩
  rw[e] at hi
  have h1:=hg.vals k i hk hi
  have h2:=zgJ (pX hg) (zj9 h) (i:=i) (by rw[zaG];exact hi)
  have h3:=zkL h1.1 h1.2 h2.1 h2.2
  exact⟨Int.le_trans (by decide) h3.1,Int.le_trans h3.2 (by decide)⟩
theorem zvt {b:List BndD} {l:List Int} (hg:goodA b l) (h:(atX b l).2.2.1=true) {k:Nat} (hk:k<b.length) : -9223372036854775808≤(bdN b k).2.1*(atX b l).2.1∧(bdN b k).2.1*(atX b l).2.1≤9223372036854775807:=by
  have h1:=hg.most k hk
  have h2:=zfi (pX hg) (zj9 h)
  have h3:=zkL (x:=(bdN b k).2.1) (d:=(atX b l).2.1) (X:=1000) (B:=400000000000000) (Int.le_trans (by decide) h1.1) h1.2 (Int.le_trans (by decide) (Int.le_of_lt h2.1)) h2.2
  exact⟨Int.le_trans (by decide) h3.1,Int.le_trans h3.2 (by decide)⟩
@[reducible] def sAt:Spec:={pats:=[.dat zj8,.dat (.sl I64)],res:=[{t:=zme},{t:=.bool}],pre:=fun x=>goodA x.1.2.2.1 x.2.1,f:=fun x=>atR x.1.2.2.1 x.2.1}
def aA1 (b:List BndD) (l:List Int):LoopAnn:={σ:=Nat,pat:=fun k=>sI 28 k::(zg8 6 60006 76 (zaz b l k)++sOwn 8 60008 3 (rhsP b l k)),inv:=fun k=>k≤l.length,meas:=fun k=>l.length - k}
def aA2 (b:List BndD) (l:List Int):LoopAnn:={σ:=Nat,pat:=fun k=>[sI 64 k],inv:=fun k=>k≤b.length∧zdh b (atX b l).1 (atX b l).2.1 k=true,meas:=fun k=>b.length - k}
def aA3 (b:List BndD) (l:List Int):LoopAnn:={σ:=Nat,pat:=fun k=>sI 81 k::zg8 7 60007 76 (zjS (zaz b l l.length) k),inv:=fun k=>k≤l.length,meas:=fun k=>l.length - k}
def aA4 (b:List BndD) (l:List Int) (st:St):LoopAnn:=zfS 81 st fun j=>{σ:=Nat,pat:=fun i=>sI 86 i::sOwn 17 60017 3 (colP (zaz b l l.length) j.toNat i),inv:=fun i=>i≤l.length,meas:=fun i=>l.length - i}
def aA5 (b:List BndD) (l:List Int):LoopAnn:={σ:=Nat,pat:=fun k=>[sI 129 k,.cell 23 0 (.d (.sl I64) (atX b l).1),cI 23 1 (atX b l).2.1,cI 23 3 (atY b l).2.1,.cell 23 2 (.o 124 (b.length)),.row 124 3 I64 (wsP b.length l (atY b l).1 k)],inv:=fun k=>k≤l.length,meas:=fun k=>l.length - k}
theorem h164:Ok 164 sAt:=by
  refine mk (ctr:=[(105,sDot),(108,sMin),(162,zsO),(180,zkr)]) ⟨h105,h108,h162,zvL,trivial⟩ (nt:=144) Tryz.func164 rfl rfl rfl rfl (by kernel_rfl) (by kernel_rfl) (fun x=>[fun _=>aA1 x.1.2.2.1 x.2.1,fun _=>aA2 x.1.2.2.1 x.2.1,fun _=>aA3 x.1.2.2.1 x.2.1,aA4 x.1.2.2.1 x.2.1,fun _=>aA5 x.1.2.2.1 x.2.1]) ?_
  rintro⟨⟨(s:Int),(n:Int),(b:List BndD),_⟩,(l:List Int),_⟩ (h:goodA b l)
  repeat' (intro hzz;(try (rename Two=>hq;cases hq));(try dsimp only at hzz);(try simp only[zad,zac,eqD,inR,big,zab,zB] at hzz);(try simp only[zad,zac,eqD,inR,big,zab,zB,zaS,zav,zbb,zbz,zbA,Int.toNat_natCast,zal,zaR,List.length_append,zaG,zlz] at hzz);(try (revert hzz;intro _)))
  all_goals try (rename Unit=>hq;clear hq)
  all_goals try ((with_reducible refine Held.mk ?_);(with_reducible (first|refine Frz.mk ?_|refine And.intro (Frz.mk ?_) ?_|refine And.intro ?_ (Frz.mk ?_)));repeat' first|exact True.intro|(change _=_;with_reducible rfl)|refine And.intro ?_ ?_|(with_reducible refine Frz.mk ?_))
  all_goals try (refine Held.mk ?_;(try dsimp only at *);(try simp only[zad,zac,eqD,inR,big,zab,zB] at *);(try simp only[zad,zac,eqD,inR,big,zab,zB,zaS,zav,zbb,zbz,zbA,Int.toNat_natCast,zal,zaR,List.length_append,zaG,zlz] at *))
  all_goals try omega
  all_goals have hg0:goodA b l:=by assumption
  all_goals have hp:=hg0.pos
  all_goals have hl:=hg0.le
  all_goals have hbl:=hg0.ble
  ·
    refine zaj.mk ?_
    refine Exists.intro (0:Nat) ?_
    refine And.intro (Leaf.mk ?_) ?_
    · repeat' first|exact True.intro|refine And.intro ?_ ?_
      all_goals try ((change _=_<;>try dsimp only)<;>try with_reducible rfl)
      all_goals try omega
      all_goals (rfl)
    exact Nat.zero_le _
  · rename_i k hk hg
    have h1:=hg0.idx k (by omega)
    exact⟨h1.1,by have h2:=h1.2;show vI l k<(b.length:Int);omega⟩
  · rename_i k hk hg
    show k+1≤2147483648;omega
  · rename_i k hk hg
    have h1:=hg0.idx k (by omega)
    exact⟨h1.1,by have h2:=h1.2;show vI l k<(b.length:Int);omega⟩
  · rename_i k hk hg
    show k+1≤2147483648;omega
  · omega
  · rename_i k hk hg
    refine zaj.mk ?_
    refine Exists.intro (k+1) ?_
    refine And.intro (Leaf.mk ?_) ?_
    · repeat' first|exact True.intro|refine And.intro ?_ ?_
      all_goals try ((change _=_<;>try dsimp only)<;>try with_reducible rfl)
      all_goals try omega
      all_goals (rfl)
    exact⟨by show k+1≤l.length;omega,by show l.length - (k+1)<l.length - k;omega⟩
  · rename_i k hk hg
    rw[show k=l.length by omega]
    exact pX hg0
  · rename_i k hk hg hx
    rw[show k=l.length by omega] at hx
    rw[at_1 hx];exact⟨⟨rfl,rfl,rfl,rfl⟩,rfl⟩
  · rename_i k hk hg hx
    refine zaj.mk ?_
    refine Exists.intro (0:Nat) ?_
    refine And.intro (Leaf.mk ?_) ?_
    · repeat' first|exact True.intro|refine And.intro ?_ ?_
      all_goals try ((change _=_<;>try dsimp only)<;>try with_reducible rfl)
      all_goals try omega
      all_goals (rfl)
    exact⟨Nat.zero_le _,rfl⟩
  · rename_i q hq hq2 hx k hk hg
    rw[show q=l.length by omega] at hx ⊢
    exact zwO hg0 hx (by omega)
  · rename_i q hq hq2 hx k hk hg
    rw[show q=l.length by omega] at hx ⊢
    exact zvt hg0 hx (by omega)
  · rename_i q hq hq2 hx k hk hg hn
    rw[show q=l.length by omega] at hx hn
    have ho:okB b (atX b l).1 (atX b l).2.1 k=false:=decide_eq_false (Int.not_le.2 hn)
    rw[at_2 hx (zmC ho _ (by omega))];exact⟨⟨rfl,rfl,rfl,rfl⟩,rfl⟩
  · omega
  · rename_i q hq hq2 hx k hk hg hn
    rw[show q=l.length by omega] at hx hn
    have ho:okB b (atX b l).1 (atX b l).2.1 k=true:=decide_eq_true hn
    refine zaj.mk ?_
    refine Exists.intro (k+1) ?_
    refine And.intro (Leaf.mk ?_) ?_
    · repeat' first|exact True.intro|refine And.intro ?_ ?_
      all_goals try ((change _=_<;>try dsimp only)<;>try with_reducible rfl)
      all_goals try omega
      all_goals (rfl)
    exact⟨⟨by show k+1≤b.length;omega,by show (zdh b (atX b l).1 (atX b l).2.1 k&&okB b (atX b l).1 (atX b l).2.1 k)=true;rw[hk.2,ho];rfl⟩,by show b.length - (k+1)<b.length - k;omega⟩
  · rename_i q hq hq2 hx k hk hg
    refine zaj.mk ?_
    refine Exists.intro (0:Nat) ?_
    refine And.intro (Leaf.mk ?_) ?_
    · repeat' first|exact True.intro|refine And.intro ?_ ?_
      all_goals try ((change _=_<;>try dsimp only)<;>try with_reducible rfl)
      all_goals try omega
      all_goals (rfl)
    exact Nat.zero_le _
  · rename_i q hq hq2 hx k hk hg j hj hgj
    refine zaj.mk ?_
    refine Exists.intro (0:Nat) ?_
    refine And.intro (Leaf.mk ?_) ?_
    · repeat' first|exact True.intro|refine And.intro ?_ ?_
      all_goals try ((change _=_<;>try dsimp only)<;>try with_reducible rfl)
      all_goals try omega
      all_goals (rfl)
    exact Nat.zero_le _
  · rename_i q hq hq2 hx k hk hg j hj hgj i hi hgi
    have e:q=l.length:=by omega
    subst e
    have h1:(rowN (zaz b l l.length) i).length=l.length:=by
      rw[zcU (by omega)]
      exact hg0.len _ (hg0.idx i (by omega)).2
    show 0≤(j:Int)∧(j:Int)<((rowN (zaz b l l.length) i).length:Int)
    omega
  · rename_i q hq hq2 hx k hk hg j hj hgj i hi hgi
    rw[show (colP (zaz b l l.length) j i).length=i from zal _ _]
    show i+1≤2147483648;omega
  · omega
  · rename_i q hq hq2 hx k hk hg j hj hgj i hi hgi
    have e:q=l.length:=by omega
    subst e
    refine zaj.mk ?_
    refine Exists.intro (i+1) ?_
    refine And.intro (Leaf.mk ?_) ?_
    · repeat' first|exact True.intro|refine And.intro ?_ ?_
      all_goals try ((change _=_<;>try dsimp only)<;>try with_reducible rfl)
      all_goals try omega
      all_goals (rfl)
    exact⟨by show i+1≤l.length;omega,by show l.length - (i+1)<l.length - i;omega⟩
  · rename_i q hq hq2 hx k hk hg j hj hgj i hi hgi
    rw[show (zjS (zaz b l l.length) j).length=j from zal _ _]
    show j+1≤2147483648;omega
  · omega
  · rename_i q hq hq2 hx k hk hg j hj hgj i hi hgi
    have e:i=(zaz b l l.length).length:=by rw[zaG];omega
    subst e
    refine zaj.mk ?_
    refine Exists.intro (j+1) ?_
    refine And.intro (Leaf.mk ?_) ?_
    · repeat' first|exact True.intro|refine And.intro ?_ ?_
      all_goals try ((change _=_<;>try dsimp only)<;>try with_reducible rfl)
      all_goals try omega
      all_goals (rfl)
    exact⟨by show j+1≤l.length;omega,by show l.length - (j+1)<l.length - j;omega⟩
  · omega
  · rename_i q hq hq2 hx k hk hg j hj hgj
    show zvu (q:Int) ((q:Int) - 1)
    exact⟨by omega,by omega,by omega,by omega⟩
  · rename_i q hq hq2 hx k hk hg j hj hgj
    have e:q=l.length:=by omega
    subst e
    rw[show j=(zaz b l l.length).length by rw[zaG];omega]
    exact pY hg0
  · rename_i q hq hq2 hx k hk hg j hj hgj
    have e:q=l.length:=by omega
    subst e
    rw[show j=(zaz b l l.length).length by rw[zaG];omega]
    have h1:=zqu hg0 hx
    show pMx (atY b l).1.length
    rw[h1]
    exact⟨hp,(show (l.length:Int)≤4611686018427387904 by omega)⟩
  · rename_i q hq hq2 hx k hk hg j hj hgj hn
    have e:q=l.length:=by omega
    subst e
    rw[show j=(zaz b l l.length).length by rw[zaG];omega] at hn
    have h1:=zqu hg0 hx
    have hn:mn (atY b l).1 ((atY b l).1.length - 1)<0:=hn
    rw[h1] at hn
    have ho:=hk.2
    rw[show k=b.length by have:=hk.1;omega] at ho
    rw[at_3 hx ho hn];exact⟨⟨rfl,rfl,rfl,rfl⟩,rfl⟩
  · show 0≤(b.length:Int)∧(b.length:Int)≤((2147483648:Nat):Int)
    omega
  · rename_i q hq hq2 hx k hk hg j hj hgj hn
    have e:q=l.length:=by omega
    subst e
    have e:j=(zaz b l l.length).length:=by rw[zaG];omega
    subst e
    refine zaj.mk ?_
    refine Exists.intro (0:Nat) ?_
    refine And.intro (Leaf.mk ?_) ?_
    · repeat' first|exact True.intro|refine And.intro ?_ ?_
      all_goals try ((change _=_<;>try dsimp only)<;>try with_reducible rfl)
      all_goals try omega
      all_goals (first|rfl|exact zbl _ _|exact (zbl _ _).symm|exact congrArg (fun z=>z.2.1) y_eq|exact congrArg (fun z=>z.2.1) zqv|exact (congrArg (fun z=>z.2.1) y_eq).symm)
    exact Nat.zero_le _
  · rename_i q hq hq2 hx k hk hg j hj hgj hn i hi hgi
    have e:q=l.length:=by omega
    subst e
    have e:j=l.length:=by omega
    subst e
    have h1:=zqu hg0 hx
    rw[←zqv] at h1
    show 0≤(i:Int)∧(i:Int)<((zau (zjS (zaz b l l.length) l.length) (zbE (l.length:Int) ((l.length:Int) - 1) 1)).1.length:Int)
    rw[h1];omega
  · rename_i q hq hq2 hx k hk hg j hj hgj hn i hi hgi
    have h1:=hg0.idx i (by omega)
    exact⟨h1.1,by have h2:=h1.2;show vI l i<(b.length:Int);omega⟩
  · rename_i q hq hq2 hx k hk hg j hj hgj hn i hi hgi
    have h1:=hg0.idx i (by omega)
    rw[zd0]
    exact⟨h1.1,by have h2:=h1.2;show vI l i<(b.length:Int);omega⟩
  · omega
  · rename_i q hq hq2 hx k hk hg j hj hgj hn i hi hgi
    have e:q=l.length:=by omega
    subst e
    have e:j=l.length:=by omega
    subst e
    have e:(wsP b.length l (atY b l).1 i).set (vI l i).toNat (vI (zau (zjS (zaz b l l.length) l.length) (zbE (l.length:Int) ((l.length:Int) - 1) 1)).1 i)=wsP b.length l (atY b l).1 (i+1):=by rw[zqv];rfl
    have e3:(wsP b.length l (atY b l).1 i).set (vI l i).toNat (vI (zau (zjS (zaz b l l.length) l.length) (zbE ((zaz b l l.length).length:Int) (((zaz b l l.length).length:Int) - 1) 1)).1 i)=wsP b.length l (atY b l).1 (i+1):=by rw[zaG];exact e
    refine zaj.mk ?_
    refine Exists.intro (i+1) ?_
    refine And.intro (Leaf.mk ?_) ?_
    · repeat' first|exact True.intro|refine And.intro ?_ ?_
      all_goals try ((change _=_<;>try dsimp only)<;>try with_reducible rfl)
      all_goals try omega
      all_goals (first|rfl|exact e|exact e.symm|exact e3|exact e3.symm)
    exact⟨by show i+1≤l.length;omega,by show l.length - (i+1)<l.length - i;omega⟩
  all_goals try first|exact (zd0 _).symm|exact zd0 _|exact (zbl _ _).trans ((Int.toNat_natCast _).trans (zd0 _).symm)
  · rename_i q hq hq2 hx k hk hg j hj hgj hn i hi hgi
    have e:q=l.length:=by omega
    subst e
    have e:j=l.length:=by omega
    subst e
    have h1:=zqu hg0 hx
    have hn:¬mn (zau (zjS (zaz b l l.length) l.length) (zbE (l.length:Int) ((l.length:Int) - 1) 1)).1 ((zau (zjS (zaz b l l.length) l.length) (zbE (l.length:Int) ((l.length:Int) - 1) 1)).1.length - 1)<0:=by
      exact Int.not_lt.2 hn
    rw[zqv,h1] at hn
    have ho:=hk.2
    rw[show k=b.length by have:=hk.1;omega] at ho
    rw[at_4 hx ho hn,show i=l.length by omega];exact⟨⟨rfl,rfl,rfl,rfl⟩,rfl⟩
theorem asR (a:Act) (w:World) (o:Oper) (x:Operand) (ho:o.op=.assign x) {v:Value} (hx:a.eval x=v):(execOp a.eval o).run Tryz.prog w=.ok (.value v) w:=by
  simp[execOp,ho,hx]
theorem zqn (w:World):(isAgg 202).run Tryz.prog w=.ok false w:=by
  simp[isAgg,run_underlying Tryz.underlying202]
theorem zsC (w:World):(isAgg 234).run Tryz.prog w=.ok false w:=by
  simp[isAgg,run_underlying Tryz.underlying234]
theorem ldF {t:Nat} (hag:∀w,(isAgg t).run Tryz.prog w=.ok false w) (a:Act) (w:World) (o:Oper) (x:Operand) (ho:o.op=.load t x) {b el:Nat} {cur:Array Value} {f:Nat×Nat} {v:Value} (hx:a.eval x=.pointer (some ⟨b,0,none⟩)) (hb:w.heap[b]?=some (.cells cur el f)) (hv:cur[0]?=some v) :
    (execOp a.eval o).run Tryz.prog w=.ok (.value v) w:=by
  have hl:(loadVar t ⟨b,0,none⟩).run Tryz.prog w=.ok v w:=by
    have hc:w.cell? ⟨b,0,none⟩=some v:=by rw[zbs hb];exact hv
    simp[loadVar,hag,hc]
  simp[execOp,ho,hx,Instr.loadAt,Instr.sureAddr,hl]
theorem lnR {t el:Nat} (hd':Tryz.prog.underlying t=some (.slice el)) (a:Act) (w:World) (o:Oper) (x:Operand) (ho:o.op=.call {callee:=.builtin .len,args:=#[x],argTypes:=#[t]}) {ad:Option Addr} {n c:Nat} (hx:a.eval x=.slice ad n c):(execOp a.eval o).run Tryz.prog w=.ok (.value (.int .i64 n)) w:=by
  simp[execOp,ho,hx,resolve,Deferred.ofValue,invoke,builtin,Builtin.len_,run_underlying hd',goInt]
theorem eqR (a:Act) (w:World) (o:Oper) (x y:Operand) (ho:o.op=.binOp .eql 3 x y 3) {m n:Int} (hx:a.eval x=.int .i64 m) (hy:a.eval y=.int .i64 n):(execOp a.eval o).run Tryz.prog w=.ok (.value (.bool (decide (m=n)))) w:=by
  simp[execOp,ho,hx,hy,eqGuard,binOp,Op.intCmp];rfl
theorem ltR (a:Act) (w:World) (o:Oper) (x y:Operand) (ho:o.op=.binOp .lss 3 x y 3) {m n:Int} (hx:a.eval x=.int .i64 m) (hy:a.eval y=.int .i64 n):(execOp a.eval o).run Tryz.prog w=.ok (.value (.bool (decide (m<n)))) w:=by
  simp[execOp,ho,hx,hy,eqGuard,binOp,Op.intCmp]
theorem adR (a:Act) (w:World) (o:Oper) (x y:Operand) (ho:o.op=.binOp .add 3 x y 3) {m n:Int} (hx:a.eval x=.int .i64 m) (hy:a.eval y=.int .i64 n) (hr : -9223372036854775808≤m+n∧m+n≤9223372036854775807):(execOp a.eval o).run Tryz.prog w=.ok (.value (.int .i64 (m+n))) w:=by
  simp[execOp,ho,hx,hy,eqGuard,binOp,Op.intArith,zi4 hr]
theorem suR (a:Act) (w:World) (o:Oper) (x y:Operand) (ho:o.op=.binOp .sub 3 x y 3) {m n:Int} (hx:a.eval x=.int .i64 m) (hy:a.eval y=.int .i64 n) (hr : -9223372036854775808≤m - n∧m - n≤9223372036854775807):(execOp a.eval o).run Tryz.prog w=.ok (.value (.int .i64 (m - n))) w:=by
  simp[execOp,ho,hx,hy,eqGuard,binOp,Op.intArith,zi4 hr]
theorem ntR (a:Act) (w:World) (o:Oper) (x:Operand) (ho:o.op=.unOp .not 4 x) {v:Bool} (hx:a.eval x=.bool v):(execOp a.eval o).run Tryz.prog w=.ok (.value (.bool !v)) w:=by
  simp[execOp,ho,hx,Op.unary]
theorem bsR (a:Act) (w:World) (o:Oper) (x:Operand) (ho:o.op=.buildSlice 76 1 #[(0,x)]) {n:Int} (hx:a.eval x=.int .i64 n):(execOp a.eval o).run Tryz.prog w=.ok (.value (.slice (some ⟨w.heap.size,0,none⟩) 1 1)) (w.alloc (.cells #[.int .i64 n] 3 (0,0))):=by
  have hS:=zay row3 w
  have hs:i3.size=1:=rfl
  have hf:Instr.fill (fun i=>some (i,1)) (Array.map (fun x=>(Value.int IntKind.i64 0).cells[x % (Value.int IntKind.i64 0).cells.size]!) (Array.range 1)) [(0,Value.int IntKind.i64 n)]=some #[.int .i64 n]:=by
    have e:Array.range 1 = #[0]:=rfl
    rw[e]
    simp[Instr.fill,Value.cells]
  simp[execOp,ho,hx,Instr.buildSlice,run_underlying Tryz.underlying76,hS,hs,hf,newRow]
theorem slR (a:Act) (w:World) (o:Oper) (x y:Operand) (ho:o.op=.slice 76 x none (some y) none) {b n c m:Nat} (hx:a.eval x=.slice (some ⟨b,0,none⟩) n c) (hy:a.eval y=.int .i64 (m:Int)) (hm:m≤c):(execOp a.eval o).run Tryz.prog w=.ok (.value (.slice (some ⟨b,0,none⟩) m c)) w:=by
  have hS:=zay row3 w
  have hs:i3.size=1:=rfl
  have hb:(Instr.sliceBounds true n c none (some (.int .i64 (m:Int))) none).run Tryz.prog w=.ok (0,m,c) w:=by
    have b1:=zeN (P:=Tryz.prog) .i64 (n:=(m:Int)) (y:=c) .sliceAcap w (by omega) (by omega)
    simp[Instr.sliceBounds,b1]
  simp[execOp,ho,hx,hy,Instr.sliceAt,Instr.slice,run_underlying Tryz.underlying76,hS,hs,hb]
  intro _;rw[zaL]
/-! ### A growing list of numbers -/
def rowI (xs:List Int) (c:Nat) (cur:Array Value):Prop:=cur.size=c∧xs.length≤c∧c≤maxLen∧∀(i:Nat) (x:Int),xs[i]?=some x→cur[i]?=some (.int .i64 x)
theorem zoK {V:View} {xs:List Int} {c:Nat} {cur:Array Value} (h:rowI xs c cur):zcS V I64 xs c cur:=by
  refine⟨by show cur.size=c*1;rw[h.1,Nat.mul_one],h.2.1,h.2.2.1,fun i x hx=>?_⟩
  have h1:=h.2.2.2 i x hx
  have h2:i<cur.toList.length:=by have:=(Array.getElem?_eq_some_iff.1 h1).1;simpa using this
  show (cur.toList.drop (i*1)).take 1=[.int .i64 x]
  rw[Nat.mul_one,List.drop_eq_getElem_cons h2]
  have h3:cur.toList[i]=.int .i64 x:=by
    have:=(Array.getElem?_eq_some_iff.1 h1).2
    simpa using this
  simp[h3]
theorem zpF {V:View} {xs:List Int} {c:Nat} {cur:Array Value} (h:zcS V I64 xs c cur):rowI xs c cur:=by
  refine⟨by have:cur.size=c*1:=h.1;omega,h.2.1,h.2.2.1,fun i x hx=>?_⟩
  have h1:(cur.toList.drop (i*1)).take 1=[.int .i64 x]:=h.2.2.2 i x hx
  have h2:=congrArg (fun l=>l[0]?) h1
  simpa [List.getElem?_take,List.getElem?_drop] using h2
def LD (B:Nat) (w:World) (v:Value) (xs:List Int):Prop:=
  (xs=[]∧v=.slice none 0 0)∨∃ls c cur,B≤ls∧w.heap[ls]?=some (.cells cur 3 (0,0))∧v=.slice (some ⟨ls,0,none⟩) xs.length c∧rowI xs c cur
theorem zpv {B:Nat} {w:World} {v:Value} {xs:List Int} (h:LD B w v xs):∃ad c,v=.slice ad xs.length c:=by
  rcases h with ⟨rfl,rfl⟩|⟨ls,c,cur,_,_,rfl,_⟩
  · exact⟨none,0,rfl⟩
  · exact⟨_,c,rfl⟩
theorem zlO {B:Nat} {w w':World} {v:Value} {xs:List Int} (h:LD B w v xs) (hk:∀b,B≤b→b<w.heap.size→w'.heap[b]?=w.heap[b]?):LD B w' v xs:=by
  rcases h with h|⟨ls,c,cur,h1,h2,h3,h4⟩
  · exact .inl h
  · exact .inr ⟨ls,c,cur,h1,(hk ls h1 (zah h2)).trans h2,h3,h4⟩
theorem zvF {B:Nat} {w:World} {v:Value} {xs:List Int} {n:Int} (h:LD B w v (xs++[n])):∃ls c,v=.slice (some ⟨ls,0,none⟩) (xs.length+1) c∧xs.length≤c∧LD B w (.slice (some ⟨ls,0,none⟩) xs.length c) xs:=by
  rcases h with ⟨h,_⟩|⟨ls,c,cur,h1,h2,h3,h4⟩
  · simp at h
  · have hl:xs.length+1≤c:=by simpa using h4.2.1
    refine⟨ls,c,by simpa using h3,by omega,.inr ⟨ls,c,cur,h1,h2,rfl,h4.1,by omega,h4.2.2.1,fun i x hx=>?_⟩⟩
    have hi:i<xs.length:=(List.getElem?_eq_some_iff.1 hx).1
    exact h4.2.2.2 i x (by rw[List.getElem?_append_left hi];exact hx)
structure Bel (B:Nat) (w w':World):Prop where
  os:w'.os=w.os
  tape:w'.tape=w.tape
  output:w'.output=w.output
  size:w.heap.size≤w'.heap.size
  keep:∀b,b<B→b<w.heap.size→w'.heap[b]?=w.heap[b]?
theorem Bel.refl (B:Nat) (w:World):Bel B w w:=⟨rfl,rfl,rfl,Nat.le_refl _,fun _ _ _=>rfl⟩
theorem Bel.trans {B:Nat} {w w' w'':World} (h:Bel B w w') (k:Bel B w' w''):Bel B w w'':=
  ⟨k.os.trans h.os,k.tape.trans h.tape,k.output.trans h.output,Nat.le_trans h.size k.size,fun b hb hs=>(k.keep b hb (Nat.lt_of_lt_of_le hs h.size)).trans (h.keep b hb hs)⟩
theorem Bel.le {B B':Nat} {w w':World} (h:Bel B w w') (hb:B'≤B):Bel B' w w':=⟨h.os,h.tape,h.output,h.size,fun b hb'=>h.keep b (Nat.lt_of_lt_of_le hb' hb)⟩
theorem zfO {B:Nat} {w:World} {o:Obj}:Bel B w (w.alloc o):=by
  refine⟨rfl,rfl,rfl,?_,fun b _ hs=>?_⟩
  · show w.heap.size≤(w.heap.push o).size
    rw[Array.size_push];exact Nat.le_succ _
  · show (w.heap.push o)[b]?=w.heap[b]?
    rw[Array.getElem?_push,if_neg (Nat.ne_of_lt hs)]
theorem zeH {B g:Nat} {w:World} {c:Array Value} (h:B≤g):Bel B w (w.setRow g c):=by
  refine⟨rfl,rfl,rfl,by simp[World.setRow],fun b hb _=>?_⟩
  exact setRow_other w g b c (by omega)
theorem apR (a:Act) (w:World) (o:Oper) (x y:Operand) (ho:o.op=.call {callee:=.builtin .append,args:=#[x,y],argTypes:=#[76,76]}) {B:Nat} {v:Value} {xs:List Int} {n:Int} {b1:Nat} (hx:a.eval x=v) (hv:LD B w v xs) (hl:xs.length+1≤1000) (hy:a.eval y=.slice (some ⟨b1,0,none⟩) 1 1) (hb1:w.heap[b1]?=some (.cells #[.int .i64 n] 3 (0,0))) (hB:B≤w.heap.size) :
    ∃v' w',(execOp a.eval o).run Tryz.prog w=.ok (.value v') w'∧LD B w' v' (xs++[n])∧Bel B w w':=by
  obtain⟨E,hE⟩:∃E:Env,E = {P:=Tryz.prog,M:=fun _=>False,mu:=fun _=>False,w0:=w,OB:=OB,x:={mw:=fun _=>True}}:=⟨_,rfl⟩
  have hP:E.P=Tryz.prog:=by rw[hE]
  have hlow:∀b,E.low b:=fun b=>by rw[hE];exact .inr trivial
  have main:∀(k:Option Nat) (η:Eta),((v=.slice none 0 0∧xs=[])∨∃kk b c cur,k=some kk∧η kk=some (b,c)∧E.low b∧w.heap[b]?=some (.cells cur 3 (0,0))∧v=.slice (some ⟨b,0,none⟩) xs.length c∧zcS (vw E η w) I64 xs c cur)→
      (∀kk b c,k=some kk→η kk=some (b,c)→B≤b)→∃v' w',(execOp a.eval o).run Tryz.prog w=.ok (.value v') w'∧LD B w' v' (xs++[n])∧Bel B w w':=by
    intro k η hb hBk
    obtain ⟨v',w',hr,hA⟩:=zgl (E:=E) (η:=η) (w:=w) (t:=76) (ty:=o.type) (el:=3) (ei:=i3) (by rw[hP];exact Tryz.underlying76) (by rw[hP];exact row3) (e:=I64) rfl (by decide) (by decide) (xs:=xs) (ys:=[n]) (by show xs.length+1≤2147483648;omega) (k:=k) (v1:=v) (ad2:=some ⟨b1,0,none⟩) (c2:=1) (fun _=>⟨_,rfl⟩)
      (fun ad' h=>by
        cases h
        refine⟨[.int .i64 n],rfl,fun j u hj=>?_,fun u hu=>?_,fun i z hz=>?_⟩
        · have:j=0:=by have:=(List.getElem?_eq_some_iff.1 hj).1;simpa using this
          subst this
          rw[zaL,zbs hb1];simpa using hj
        · have:u=.int .i64 n:=by simpa using hu
          rw[this];rfl
        · have:i=0:=by have:=(List.getElem?_eq_some_iff.1 hz).1;simpa using this
          subst this
          have:n=z:=by simpa using hz
          subst this
          rfl) hb
    have hexec:(execOp a.eval o).run Tryz.prog w=.ok (.value v') w':=by
      rw[hP] at hr
      simp only[List.length_cons,List.length_nil] at hr
      simp[execOp,ho,resolve,invoke,builtin,hx,hy,hr]
    refine⟨v',w',hexec,?_⟩
    rcases hA with ⟨h,_⟩|⟨c,cur,wd,rfl,rfl,q1,q2,q3,q4,q5⟩|⟨kk,b,c,cur,cur',q1,q2,q3,q4,rfl,rfl,q5⟩
    · simp at h
    · refine ⟨.inr ⟨w.heap.size,c,cur,hB,?_,rfl,zpF q5⟩,⟨q2,q3,q4,?_,fun b hb hs=>?_⟩⟩
      · show (wd.heap.push (.cells cur 3))[w.heap.size]?=_
        rw[q1];simp
      · show w.heap.size≤(wd.heap.push _).size
        rw[Array.size_push,q1];exact Nat.le_succ _
      · show (wd.heap.push _)[b]?=w.heap[b]?
        rw[q1,Array.getElem?_push,if_neg (Nat.ne_of_lt hs)]
    · exact⟨.inr ⟨b,c,cur',hBk kk b c q1 q2,setRow_heap w b cur cur' 3 (0,0) q4,rfl,zpF q5⟩,zeH (hBk kk b c q1 q2)⟩
  rcases hv with ⟨h1,h2⟩|⟨ls,c,cur,h1,h2,h3,h4⟩
  · exact main none (fun _=>none) (.inl ⟨h2,h1⟩) (fun kk b c h=>by cases h)
  · exact main (some 0) (fun _=>some (ls,c)) (.inr ⟨0,ls,c,cur,rfl,rfl,hlow ls,h2,h3,zoK h4⟩) (fun kk b c _ h=>by cases h;exact h1)
end Go.Eng.Ar
namespace Go.Eng.Ar
open Go.Eng Go.Proofs Go
set_option linter.all false
set_option maxRecDepth 100000
set_option maxHeartbeats 2000000
def zb9:Nat→Nat→Nat→List (List Int)
  | 0,_,_=>[[]]
  | _+1,_,0=>[]
  | k+1,f,r+1=>(zb9 k (f+1) r).map ((f:Int) :: ·)++zb9 (k+1) (f+1) r
theorem adN (a:Act) (w:World) (o:Oper) (x y:Operand) (ho:o.op=.binOp .add 3 x y 3) {m:Nat} (hx:a.eval x=.int .i64 m) (hy:a.eval y=.int .i64 1) (hr:m≤1000000):(execOp a.eval o).run Tryz.prog w=.ok (.value (.int .i64 ((m+1:Nat):Int))) w:=by
  have:=adR a w o x y ho hx hy (by omega)
  rw[this];rfl
theorem zqX {P:Program} {Q:Exit→Act→World→Prop} {a:Act} {w w':World} {K:Act→World→Prop} {o:Oper} {v:Value} (hnd:∀d,o.op≠.defer d) (hr:(execOp a.eval o).run P w=.ok (.value v) w') (h:K (a.put o.dst v) w'):o.wpIn (Fw none) 0 P a w K Q:=
  zat hnd hr h
theorem zix {P:Program} {Q:Exit→Act→World→Prop} {a:Act} {w:World} {K:Act→World→Prop} {o:Oper} {f:Nat} {args:Array Value} (hnd:∀d,o.op≠.defer d) (hr:(execOp a.eval o).run P w=.ok (.enter f args) w)
    (h:CallsIn (Fw none) 0 P f args w fun e w'=>∃v,e=.returned v∧K (a.put o.dst v) w'):o.wpIn (Fw none) 0 P a w K Q:=
  zat hnd hr ⟨fun h=>(by cases h),h.mono fun e w' ⟨v,h1,h2⟩=>by subst h1;exact h2⟩
theorem zwQ {Q:Exit→Act→World→Prop} {a:Act} {w:World} {K:Act→World→Prop} {o:Oper} {x y:Operand} (hnd:∀d,o.op≠.defer d) (ho:o.op=.call {callee:=.builtin .append,args:=#[x,y],argTypes:=#[76,76]}) {B:Nat} {v:Value} {xs:List Int} {n:Int} {b1:Nat} (hx:a.eval x=v) (hv:LD B w v xs) (hl:xs.length+1≤1000) (hy:a.eval y=.slice (some ⟨b1,0,none⟩) 1 1) (hb1:w.heap[b1]?=some (.cells #[.int .i64 n] 3 (0,0))) (hB:B≤w.heap.size)
    (h:∀v' w',LD B w' v' (xs++[n])→Bel B w w'→K (a.put o.dst v') w'):o.wpIn (Fw none) 0 Tryz.prog a w K Q:=by
  obtain⟨v',w',h1,h2,h3⟩:=apR a w o x y ho hx hv hl hy hb1 hB
  exact zat hnd h1 (h v' w' h2 h3)
structure RS (a:Act) (f:Int) (B bc bn:Nat):Prop where
  size:a.tmps.size=36
  defers:a.defers=[]
  s0:a.tmps.getD 0 undef=.int .i64 f
  s1:a.tmps.getD 1 undef=.pointer (some ⟨B+1,0,none⟩)
  s2:a.tmps.getD 2 undef=.pointer (some ⟨bc,0,none⟩)
  s3:a.tmps.getD 3 undef=.pointer (some ⟨B,0,none⟩)
  s4:a.tmps.getD 4 undef=.pointer (some ⟨bn,0,none⟩)
  s5:a.tmps.getD 5 undef=.pointer (some ⟨B+2,0,none⟩)
def capt (B bc bn:Nat):Array Value:=#[.pointer (some ⟨B+1,0,none⟩),.pointer (some ⟨bc,0,none⟩),.pointer (some ⟨B,0,none⟩),.pointer (some ⟨bn,0,none⟩),.pointer (some ⟨B+2,0,none⟩)]
structure HC (B bc bn:Nat) (yv:Value) (w:World) (v:Value) (xs:List Int):Prop where
  hy:w.heap[B]?=some (.cells #[yv] 234 (0,0))
  hl:w.heap[B+1]?=some (.cells #[v] 76 (0,0))
  hm:w.heap[B+2]?=some (.cells #[.func (.func 179) #[] (capt B bc bn)] 202 (0,0))
  ld:LD (B+3) w v xs
theorem HC.abv {B bc bn:Nat} {yv:Value} {w w':World} {v:Value} {xs:List Int} (h:HC B bc bn yv w v xs) (hk:∀b,B≤b→b<w.heap.size→w'.heap[b]?=w.heap[b]?):HC B bc bn yv w' v xs:=
  ⟨(hk _ (Nat.le_refl _) (zah h.hy)).trans h.hy,(hk _ (by omega) (zah h.hl)).trans h.hl,(hk _ (by omega) (zah h.hm)).trans h.hm,zlO h.ld fun b hb hs=>hk b (by omega) hs⟩
noncomputable def b179:Code:=zdt Tryz.f179
noncomputable def N0:Code:=match b179 with | .seq x _=>x|c=>c
noncomputable def N1:Code:=match b179 with | .seq _ (.seq (.seq x _) _)=>x|c=>c
noncomputable def N2:Code:=match b179 with | .seq _ (.seq (.seq _ (.cond _ (.seq x _) _)) _)=>x|c=>c
noncomputable def N3:Code:=match b179 with | .seq _ (.seq _ (.seq (.seq x _) _))=>x|c=>c
noncomputable def NL:Code:=match b179 with | .seq _ (.seq _ (.seq (.seq _ (.block _ (.loop x))) _))=>x|c=>c
noncomputable def N10:Code:=match b179 with | .seq _ (.seq _ (.seq _ (.seq x _)))=>x|c=>c
noncomputable def N4:Code:=match NL with | .seq (.seq x _) _=>x|c=>c
noncomputable def N6:Code:=match NL with | .seq _ (.seq (.block _ (.seq x _)) _)=>x|c=>c
noncomputable def N7:Code:=match NL with | .seq _ (.seq (.block _ (.seq _ (.seq (.seq x _) _))) _)=>x|c=>c
noncomputable def N8:Code:=match NL with | .seq _ (.seq (.block _ (.seq _ (.seq (.seq _ (.cond _ (.seq x _) _)) _))) _)=>x|c=>c
noncomputable def N9:Code:=match NL with | .seq _ (.seq (.block _ (.seq _ (.seq _ x))) _)=>x|c=>c
noncomputable def N5:Code:=match NL with | .seq _ (.seq _ x)=>x|c=>c
theorem zqg:(Tryz.f179.body:Option Code)=some (.seq N0 (.seq (.seq N1 (.cond (.tmp 12) (.seq N2 .ret) .skip)) (.seq (.seq N3 (.block 0 (.loop (.seq (.seq N4 (.cond (.tmp 19) .skip (.exit 0))) (.seq (.block 1 (.seq N6 (.seq (.seq N7 (.cond (.tmp 30) (.seq N8 .ret) .skip)) N9))) N5))))) (.seq N10 .ret)))):=rfl
theorem zoI {n:Nat} (hn:n=36) {f:Int} {B bc bn:Nat} {a0:Act} (ha:a0 = {tmps:=(#[Value.int .i64 f]++capt B bc bn)++Array.replicate (n - (#[Value.int .i64 f]++capt B bc bn).size) undef,defers:=[]}):RS a0 f B bc bn:=by
  subst hn
  have e:(#[Value.int .i64 f]++capt B bc bn)++Array.replicate (36 - (#[Value.int .i64 f]++capt B bc bn).size) undef = #[.int .i64 f,.pointer (some ⟨B+1,0,none⟩),.pointer (some ⟨bc,0,none⟩),.pointer (some ⟨B,0,none⟩),.pointer (some ⟨bn,0,none⟩),.pointer (some ⟨B+2,0,none⟩)]++Array.replicate 30 undef:=rfl
  rw[e] at ha
  rw[ha]
  refine⟨by simp,rfl,?_,?_,?_,?_,?_,?_⟩<;>simp
structure Yld (l B bc bn count numbers:Nat) (J:List (List Int)→World→Prop) (Jx:World→Prop):Prop where
  below:∀rest w w',J rest w→Bel B w w'→J rest w'
  size:∀rest w,J rest w→B≤w.heap.size
  boxes:∀rest w,J rest w→w.heap[bc]?=some (.cells #[.int .i64 (count:Nat)] 3 (0,0))∧w.heap[bn]?=some (.cells #[.int .i64 (numbers:Nat)] 3 (0,0))
  yields:∀c rest w ls cap cur,J (c::rest) w→B≤ls→w.heap[ls]?=some (.cells cur 3 (0,0))→rowI c cap cur→
    YieldAt (Fw none) 0 Tryz.prog l #[.slice (some ⟨ls,0,none⟩) c.length cap] w fun e w'=>(∀b,B≤b→b<w.heap.size→w'.heap[b]?=w.heap[b]?)∧((e=.returned (.bool true)∧J rest w')∨(e=.returned (.bool false)∧Jx w'))
theorem ret1 {w:World} {a:Act} {R:Ending→World→Prop} {v:Value} (hd:a.defers=[]) (h7:a.tmps.getD 7 undef=v) (h:R (.returned v) w):bodyPost Tryz.prog Tryz.f179 R .ret a w:=by
  refine⟨hd,v,?_,h⟩
  have:=zdB (P:=Tryz.prog) (fn:=Tryz.f179) (tmps:=a.tmps) (w:=w) (vs:=[v]) (by
    show ([ResultVar.tmp 7].mapM (zgt a.tmps)).run Tryz.prog w=.ok [v] w
    simp[zgt,←h7])
  exact this
theorem ztj {l B bc bn count numbers:Nat} {J:List (List Int)→World→Prop} {Jx:World→Prop} (hY:Yld l B bc bn count numbers J Jx) (hcn:count≤100∧0<count) (hnn:numbers≤100) (hbc:bc<B∧bn<B):∀(k f r:Nat) (xs:List Int) (rest:List (List Int)) (W:World) (v:Value),xs.length+k=count→f+r=numbers→
    HC B bc bn (.func (.yield l) #[] #[]) W v xs→J ((zb9 k f r).map (xs ++ ·)++rest) W→
    CallsIn (Fw none) 0 Tryz.prog 179 (#[.int .i64 (f:Nat)]++capt B bc bn) W fun e W'=>(e=.returned (.bool true)∧J rest W'∧∃v',HC B bc bn (.func (.yield l) #[] #[]) W' v' xs)∨(e=.returned (.bool false)∧Jx W'):=by
  intro k
  induction k with
  | zero =>
    intro f r xs rest W v hk hf H hJ
    obtain⟨yv,hyv⟩:∃yv,yv=Value.func (.yield l) #[] #[]:=⟨_,rfl⟩
    rw[←hyv] at H
    refine callsIn_of_wp (F:=Fw none) (n:=0) (fn:=Tryz.f179) Tryz.func179 zqg trivial ?_
    obtain⟨a0,ha0⟩:∃a0:Act,a0 = {tmps:=(#[.int .i64 (f:Nat)]++capt B bc bn)++Array.replicate (Tryz.f179.ntmps - (#[Value.int .i64 (f:Nat)]++capt B bc bn).size) undef,defers:=[]}:=⟨_,rfl⟩
    rw[←ha0]
    have R0:RS a0 ((f:Nat):Int) B bc bn:=zoI rfl ha0
    clear ha0
    have hJb:=hY.boxes _ _ hJ
    obtain⟨vad,vc,hv⟩:=zpv H.ld
    refine wpIn_seq (wpIn_region_list ?_)
    refine zak rfl (zaO (by intro d h;cases h) (asR a0 W _ (.const (.bool false)) rfl rfl) ?_)
    obtain⟨u1,qu1⟩:∃x,x=a0.put (some 7) (.bool false):=⟨_,rfl⟩
    have zu1:u1.tmps.size=36:=by rw[qu1,zai];exact R0.size
    have du1:u1.defers=[]:=by rw[qu1,zag];exact R0.defers
    have gu1_0:u1.tmps.getD 0 undef=(.int .i64 (f:Nat)):=by rw[qu1];exact (zaa (by decide)).trans R0.s0
    have gu1_1:u1.tmps.getD 1 undef=(.pointer (some ⟨(B+1),0,none⟩)):=by rw[qu1];exact (zaa (by decide)).trans R0.s1
    have gu1_2:u1.tmps.getD 2 undef=(.pointer (some ⟨bc,0,none⟩)):=by rw[qu1];exact (zaa (by decide)).trans R0.s2
    have gu1_3:u1.tmps.getD 3 undef=(.pointer (some ⟨B,0,none⟩)):=by rw[qu1];exact (zaa (by decide)).trans R0.s3
    have gu1_4:u1.tmps.getD 4 undef=(.pointer (some ⟨bn,0,none⟩)):=by rw[qu1];exact (zaa (by decide)).trans R0.s4
    have gu1_5:u1.tmps.getD 5 undef=(.pointer (some ⟨(B+2),0,none⟩)):=by rw[qu1];exact (zaa (by decide)).trans R0.s5
    have gu1_7:u1.tmps.getD 7 undef=(.bool false):=by rw[qu1];exact zae (by rw[R0.size];decide)
    change wpListIn (Fw none) 0 Tryz.prog _ _ _ (a0.put (some 7) (.bool false)) W
    rw[←qu1]
    have R1:RS u1 f B bc bn:=⟨zu1,du1,gu1_0,gu1_1,gu1_2,gu1_3,gu1_4,gu1_5⟩
    refine zaP (wpIn_seq (wpIn_seq (wpIn_region_list ?_)))
    refine zak rfl (zaO (by intro d h;cases h) (ld76 u1 W _ (.tmp 1) rfl R1.s1 H.hl rfl) ?_)
    obtain⟨v1,qv1⟩:∃x,x=u1.put (some 9) v:=⟨_,rfl⟩
    have zv1:v1.tmps.size=36:=by rw[qv1,zai];exact R1.size
    have dv1:v1.defers=[]:=by rw[qv1,zag];exact R1.defers
    have gv1_0:v1.tmps.getD 0 undef=(.int .i64 (f:Nat)):=by rw[qv1];exact (zaa (by decide)).trans R1.s0
    have gv1_1:v1.tmps.getD 1 undef=(.pointer (some ⟨(B+1),0,none⟩)):=by rw[qv1];exact (zaa (by decide)).trans R1.s1
    have gv1_2:v1.tmps.getD 2 undef=(.pointer (some ⟨bc,0,none⟩)):=by rw[qv1];exact (zaa (by decide)).trans R1.s2
    have gv1_3:v1.tmps.getD 3 undef=(.pointer (some ⟨B,0,none⟩)):=by rw[qv1];exact (zaa (by decide)).trans R1.s3
    have gv1_4:v1.tmps.getD 4 undef=(.pointer (some ⟨bn,0,none⟩)):=by rw[qv1];exact (zaa (by decide)).trans R1.s4
    have gv1_5:v1.tmps.getD 5 undef=(.pointer (some ⟨(B+2),0,none⟩)):=by rw[qv1];exact (zaa (by decide)).trans R1.s5
    have gv1_9:v1.tmps.getD 9 undef=v:=by rw[qv1];exact zae (by rw[R1.size];decide)
    change wpListIn (Fw none) 0 Tryz.prog _ _ _ (u1.put (some 9) v) W
    rw[←qv1]
    refine zak rfl (zaO (by intro d h;cases h) (lnR Tryz.underlying76 v1 W _ (.tmp 9) rfl (gv1_9.trans hv)) ?_)
    obtain⟨v2,qv2⟩:∃x,x=v1.put (some 10) (.int .i64 (xs.length:Nat)):=⟨_,rfl⟩
    have zv2:v2.tmps.size=36:=by rw[qv2,zai];exact zv1
    have dv2:v2.defers=[]:=by rw[qv2,zag];exact dv1
    have gv2_0:v2.tmps.getD 0 undef=(.int .i64 (f:Nat)):=by rw[qv2];exact (zaa (by decide)).trans gv1_0
    have gv2_1:v2.tmps.getD 1 undef=(.pointer (some ⟨(B+1),0,none⟩)):=by rw[qv2];exact (zaa (by decide)).trans gv1_1
    have gv2_2:v2.tmps.getD 2 undef=(.pointer (some ⟨bc,0,none⟩)):=by rw[qv2];exact (zaa (by decide)).trans gv1_2
    have gv2_3:v2.tmps.getD 3 undef=(.pointer (some ⟨B,0,none⟩)):=by rw[qv2];exact (zaa (by decide)).trans gv1_3
    have gv2_4:v2.tmps.getD 4 undef=(.pointer (some ⟨bn,0,none⟩)):=by rw[qv2];exact (zaa (by decide)).trans gv1_4
    have gv2_5:v2.tmps.getD 5 undef=(.pointer (some ⟨(B+2),0,none⟩)):=by rw[qv2];exact (zaa (by decide)).trans gv1_5
    have gv2_9:v2.tmps.getD 9 undef=v:=by rw[qv2];exact (zaa (by decide)).trans gv1_9
    have gv2_10:v2.tmps.getD 10 undef=(.int .i64 (xs.length:Nat)):=by rw[qv2];exact zae (by rw[zv1];decide)
    change wpListIn (Fw none) 0 Tryz.prog _ _ _ (v1.put (some 10) (.int .i64 (xs.length:Nat))) W
    rw[←qv2]
    refine zak rfl (zaO (by intro d h;cases h) (ld3 v2 W _ (.tmp 2) rfl gv2_2 hJb.1 rfl) ?_)
    obtain⟨v3,qv3⟩:∃x,x=v2.put (some 11) (.int .i64 (count:Nat)):=⟨_,rfl⟩
    have zv3:v3.tmps.size=36:=by rw[qv3,zai];exact zv2
    have dv3:v3.defers=[]:=by rw[qv3,zag];exact dv2
    have gv3_0:v3.tmps.getD 0 undef=(.int .i64 (f:Nat)):=by rw[qv3];exact (zaa (by decide)).trans gv2_0
    have gv3_1:v3.tmps.getD 1 undef=(.pointer (some ⟨(B+1),0,none⟩)):=by rw[qv3];exact (zaa (by decide)).trans gv2_1
    have gv3_2:v3.tmps.getD 2 undef=(.pointer (some ⟨bc,0,none⟩)):=by rw[qv3];exact (zaa (by decide)).trans gv2_2
    have gv3_3:v3.tmps.getD 3 undef=(.pointer (some ⟨B,0,none⟩)):=by rw[qv3];exact (zaa (by decide)).trans gv2_3
    have gv3_4:v3.tmps.getD 4 undef=(.pointer (some ⟨bn,0,none⟩)):=by rw[qv3];exact (zaa (by decide)).trans gv2_4
    have gv3_5:v3.tmps.getD 5 undef=(.pointer (some ⟨(B+2),0,none⟩)):=by rw[qv3];exact (zaa (by decide)).trans gv2_5
    have gv3_9:v3.tmps.getD 9 undef=v:=by rw[qv3];exact (zaa (by decide)).trans gv2_9
    have gv3_10:v3.tmps.getD 10 undef=(.int .i64 (xs.length:Nat)):=by rw[qv3];exact (zaa (by decide)).trans gv2_10
    have gv3_11:v3.tmps.getD 11 undef=(.int .i64 (count:Nat)):=by rw[qv3];exact zae (by rw[zv2];decide)
    change wpListIn (Fw none) 0 Tryz.prog _ _ _ (v2.put (some 11) (.int .i64 (count:Nat))) W
    rw[←qv3]
    refine zak rfl (zaO (by intro d h;cases h) (eqR v3 W _ (.tmp 10) (.tmp 11) rfl gv3_10 gv3_11) ?_)
    obtain⟨v4,qv4⟩:∃x,x=v3.put (some 12) (.bool (decide (((xs.length:Nat):Int)=((count:Nat):Int)))):=⟨_,rfl⟩
    have zv4:v4.tmps.size=36:=by rw[qv4,zai];exact zv3
    have dv4:v4.defers=[]:=by rw[qv4,zag];exact dv3
    have gv4_0:v4.tmps.getD 0 undef=(.int .i64 (f:Nat)):=by rw[qv4];exact (zaa (by decide)).trans gv3_0
    have gv4_1:v4.tmps.getD 1 undef=(.pointer (some ⟨(B+1),0,none⟩)):=by rw[qv4];exact (zaa (by decide)).trans gv3_1
    have gv4_2:v4.tmps.getD 2 undef=(.pointer (some ⟨bc,0,none⟩)):=by rw[qv4];exact (zaa (by decide)).trans gv3_2
    have gv4_3:v4.tmps.getD 3 undef=(.pointer (some ⟨B,0,none⟩)):=by rw[qv4];exact (zaa (by decide)).trans gv3_3
    have gv4_4:v4.tmps.getD 4 undef=(.pointer (some ⟨bn,0,none⟩)):=by rw[qv4];exact (zaa (by decide)).trans gv3_4
    have gv4_5:v4.tmps.getD 5 undef=(.pointer (some ⟨(B+2),0,none⟩)):=by rw[qv4];exact (zaa (by decide)).trans gv3_5
    have gv4_9:v4.tmps.getD 9 undef=v:=by rw[qv4];exact (zaa (by decide)).trans gv3_9
    have gv4_10:v4.tmps.getD 10 undef=(.int .i64 (xs.length:Nat)):=by rw[qv4];exact (zaa (by decide)).trans gv3_10
    have gv4_11:v4.tmps.getD 11 undef=(.int .i64 (count:Nat)):=by rw[qv4];exact (zaa (by decide)).trans gv3_11
    have gv4_12:v4.tmps.getD 12 undef=(.bool (decide (((xs.length:Nat):Int)=((count:Nat):Int)))):=by rw[qv4];exact zae (by rw[zv3];decide)
    change wpListIn (Fw none) 0 Tryz.prog _ _ _ (v3.put (some 12) (.bool (decide (((xs.length:Nat):Int)=((count:Nat):Int))))) W
    rw[←qv4]
    have R2:RS v4 f B bc bn:=⟨zv4,dv4,gv4_0,gv4_1,gv4_2,gv4_3,gv4_4,gv4_5⟩
    have h12:=gv4_12
    refine zaP ?_
    have h12:v4.eval (.tmp 12)=.bool true:=h12.trans (by rw[decide_eq_true (by omega)])
    refine wpIn_cond_true h12 (wpIn_seq ?_)
    change Code.wpIn (Fw none) 0 Tryz.prog N2 _ v4 W
    refine wpIn_region_list ?_
    refine zak rfl (zaO (by intro d h;cases h) (ldF zsC v4 W _ (.tmp 3) rfl R2.s3 H.hy rfl) ?_)
    obtain⟨y1,qy1⟩:∃x,x=v4.put (some 13) yv:=⟨_,rfl⟩
    have zy1:y1.tmps.size=36:=by rw[qy1,zai];exact R2.size
    have dy1:y1.defers=[]:=by rw[qy1,zag];exact R2.defers
    have gy1_0:y1.tmps.getD 0 undef=(.int .i64 (f:Nat)):=by rw[qy1];exact (zaa (by decide)).trans R2.s0
    have gy1_1:y1.tmps.getD 1 undef=(.pointer (some ⟨(B+1),0,none⟩)):=by rw[qy1];exact (zaa (by decide)).trans R2.s1
    have gy1_2:y1.tmps.getD 2 undef=(.pointer (some ⟨bc,0,none⟩)):=by rw[qy1];exact (zaa (by decide)).trans R2.s2
    have gy1_3:y1.tmps.getD 3 undef=(.pointer (some ⟨B,0,none⟩)):=by rw[qy1];exact (zaa (by decide)).trans R2.s3
    have gy1_4:y1.tmps.getD 4 undef=(.pointer (some ⟨bn,0,none⟩)):=by rw[qy1];exact (zaa (by decide)).trans R2.s4
    have gy1_5:y1.tmps.getD 5 undef=(.pointer (some ⟨(B+2),0,none⟩)):=by rw[qy1];exact (zaa (by decide)).trans R2.s5
    have gy1_13:y1.tmps.getD 13 undef=yv:=by rw[qy1];exact zae (by rw[R2.size];decide)
    change wpListIn (Fw none) 0 Tryz.prog _ _ _ (v4.put (some 13) yv) W
    rw[←qy1]
    refine zak rfl (zaO (by intro d h;cases h) (ld76 y1 W _ (.tmp 1) rfl gy1_1 H.hl rfl) ?_)
    obtain⟨y2,qy2⟩:∃x,x=y1.put (some 14) v:=⟨_,rfl⟩
    have zy2:y2.tmps.size=36:=by rw[qy2,zai];exact zy1
    have dy2:y2.defers=[]:=by rw[qy2,zag];exact dy1
    have gy2_0:y2.tmps.getD 0 undef=(.int .i64 (f:Nat)):=by rw[qy2];exact (zaa (by decide)).trans gy1_0
    have gy2_1:y2.tmps.getD 1 undef=(.pointer (some ⟨(B+1),0,none⟩)):=by rw[qy2];exact (zaa (by decide)).trans gy1_1
    have gy2_2:y2.tmps.getD 2 undef=(.pointer (some ⟨bc,0,none⟩)):=by rw[qy2];exact (zaa (by decide)).trans gy1_2
    have gy2_3:y2.tmps.getD 3 undef=(.pointer (some ⟨B,0,none⟩)):=by rw[qy2];exact (zaa (by decide)).trans gy1_3
    have gy2_4:y2.tmps.getD 4 undef=(.pointer (some ⟨bn,0,none⟩)):=by rw[qy2];exact (zaa (by decide)).trans gy1_4
    have gy2_5:y2.tmps.getD 5 undef=(.pointer (some ⟨(B+2),0,none⟩)):=by rw[qy2];exact (zaa (by decide)).trans gy1_5
    have gy2_13:y2.tmps.getD 13 undef=yv:=by rw[qy2];exact (zaa (by decide)).trans gy1_13
    have gy2_14:y2.tmps.getD 14 undef=v:=by rw[qy2];exact zae (by rw[zy1];decide)
    change wpListIn (Fw none) 0 Tryz.prog _ _ _ (y1.put (some 14) v) W
    rw[←qy2]
    have hJ:J (xs::rest) W:=by simpa [zb9] using hJ
    rcases H.ld with ⟨h,_⟩|⟨ls,c,cur,l1,l2,l3,l4⟩
    · rw[h] at hk;simp at hk;omega
    obtain⟨fl,tl,al,bl,hrun,hround⟩:=hY.yields xs rest W ls c cur hJ (by omega) l2 l4
    refine zak rfl (zqV (l:=l) (f:=fl) (tmps:=tl) (assign:=al) (body:=bl) (by intro d h;cases h) ?_ (RoundIn.mono hround ?_))
    · simp[execOp,resolve,Deferred.ofValue,ev,gy2_13,gy2_14,hyv,l3,invoke,callFunc]
      exact hrun
    rintro e W' ⟨hab,⟨rfl,hJ'⟩|⟨rfl,hJx⟩⟩
    · refine⟨.bool true,rfl,?_⟩
      obtain⟨yt1,qyt1⟩:∃x,x=y2.put (some 15) (.bool true):=⟨_,rfl⟩
      have zyt1:yt1.tmps.size=36:=by rw[qyt1,zai];exact zy2
      have dyt1:yt1.defers=[]:=by rw[qyt1,zag];exact dy2
      have gyt1_0:yt1.tmps.getD 0 undef=(.int .i64 (f:Nat)):=by rw[qyt1];exact (zaa (by decide)).trans gy2_0
      have gyt1_1:yt1.tmps.getD 1 undef=(.pointer (some ⟨(B+1),0,none⟩)):=by rw[qyt1];exact (zaa (by decide)).trans gy2_1
      have gyt1_2:yt1.tmps.getD 2 undef=(.pointer (some ⟨bc,0,none⟩)):=by rw[qyt1];exact (zaa (by decide)).trans gy2_2
      have gyt1_3:yt1.tmps.getD 3 undef=(.pointer (some ⟨B,0,none⟩)):=by rw[qyt1];exact (zaa (by decide)).trans gy2_3
      have gyt1_4:yt1.tmps.getD 4 undef=(.pointer (some ⟨bn,0,none⟩)):=by rw[qyt1];exact (zaa (by decide)).trans gy2_4
      have gyt1_5:yt1.tmps.getD 5 undef=(.pointer (some ⟨(B+2),0,none⟩)):=by rw[qyt1];exact (zaa (by decide)).trans gy2_5
      have gyt1_13:yt1.tmps.getD 13 undef=yv:=by rw[qyt1];exact (zaa (by decide)).trans gy2_13
      have gyt1_14:yt1.tmps.getD 14 undef=v:=by rw[qyt1];exact (zaa (by decide)).trans gy2_14
      have gyt1_15:yt1.tmps.getD 15 undef=(.bool true):=by rw[qyt1];exact zae (by rw[zy2];decide)
      change wpListIn (Fw none) 0 Tryz.prog _ _ _ (y2.put (some 15) (.bool true)) W'
      rw[←qyt1]
      refine zak rfl (zaO (by intro d h;cases h) (asR yt1 W' _ (.tmp 15) rfl gyt1_15) ?_)
      obtain⟨yt2,qyt2⟩:∃x,x=yt1.put (some 7) (.bool true):=⟨_,rfl⟩
      have zyt2:yt2.tmps.size=36:=by rw[qyt2,zai];exact zyt1
      have dyt2:yt2.defers=[]:=by rw[qyt2,zag];exact dyt1
      have gyt2_0:yt2.tmps.getD 0 undef=(.int .i64 (f:Nat)):=by rw[qyt2];exact (zaa (by decide)).trans gyt1_0
      have gyt2_1:yt2.tmps.getD 1 undef=(.pointer (some ⟨(B+1),0,none⟩)):=by rw[qyt2];exact (zaa (by decide)).trans gyt1_1
      have gyt2_2:yt2.tmps.getD 2 undef=(.pointer (some ⟨bc,0,none⟩)):=by rw[qyt2];exact (zaa (by decide)).trans gyt1_2
      have gyt2_3:yt2.tmps.getD 3 undef=(.pointer (some ⟨B,0,none⟩)):=by rw[qyt2];exact (zaa (by decide)).trans gyt1_3
      have gyt2_4:yt2.tmps.getD 4 undef=(.pointer (some ⟨bn,0,none⟩)):=by rw[qyt2];exact (zaa (by decide)).trans gyt1_4
      have gyt2_5:yt2.tmps.getD 5 undef=(.pointer (some ⟨(B+2),0,none⟩)):=by rw[qyt2];exact (zaa (by decide)).trans gyt1_5
      have gyt2_13:yt2.tmps.getD 13 undef=yv:=by rw[qyt2];exact (zaa (by decide)).trans gyt1_13
      have gyt2_14:yt2.tmps.getD 14 undef=v:=by rw[qyt2];exact (zaa (by decide)).trans gyt1_14
      have gyt2_15:yt2.tmps.getD 15 undef=(.bool true):=by rw[qyt2];exact (zaa (by decide)).trans gyt1_15
      have gyt2_7:yt2.tmps.getD 7 undef=(.bool true):=by rw[qyt2];exact zae (by rw[zyt1];decide)
      change wpListIn (Fw none) 0 Tryz.prog _ _ _ (yt1.put (some 7) (.bool true)) W'
      rw[←qyt2]
      refine zaP (wpIn_ret ?_)
      refine (show bodyPost Tryz.prog Tryz.f179 (fun e W'=>(e=.returned (.bool true)∧J rest W'∧∃v',HC B bc bn (.func (.yield l) #[] #[]) W' v' xs)∨(e=.returned (.bool false)∧Jx W')) .ret yt2 W' from ?_)
      refine ret1 dyt2 gyt2_7 (.inl ⟨rfl,hJ',v,?_⟩)
      rw[←hyv];exact H.abv hab
    · refine⟨.bool false,rfl,?_⟩
      obtain⟨yf1,qyf1⟩:∃x,x=y2.put (some 15) (.bool false):=⟨_,rfl⟩
      have zyf1:yf1.tmps.size=36:=by rw[qyf1,zai];exact zy2
      have dyf1:yf1.defers=[]:=by rw[qyf1,zag];exact dy2
      have gyf1_0:yf1.tmps.getD 0 undef=(.int .i64 (f:Nat)):=by rw[qyf1];exact (zaa (by decide)).trans gy2_0
      have gyf1_1:yf1.tmps.getD 1 undef=(.pointer (some ⟨(B+1),0,none⟩)):=by rw[qyf1];exact (zaa (by decide)).trans gy2_1
      have gyf1_2:yf1.tmps.getD 2 undef=(.pointer (some ⟨bc,0,none⟩)):=by rw[qyf1];exact (zaa (by decide)).trans gy2_2
      have gyf1_3:yf1.tmps.getD 3 undef=(.pointer (some ⟨B,0,none⟩)):=by rw[qyf1];exact (zaa (by decide)).trans gy2_3
      have gyf1_4:yf1.tmps.getD 4 undef=(.pointer (some ⟨bn,0,none⟩)):=by rw[qyf1];exact (zaa (by decide)).trans gy2_4
      have gyf1_5:yf1.tmps.getD 5 undef=(.pointer (some ⟨(B+2),0,none⟩)):=by rw[qyf1];exact (zaa (by decide)).trans gy2_5
      have gyf1_13:yf1.tmps.getD 13 undef=yv:=by rw[qyf1];exact (zaa (by decide)).trans gy2_13
      have gyf1_14:yf1.tmps.getD 14 undef=v:=by rw[qyf1];exact (zaa (by decide)).trans gy2_14
      have gyf1_15:yf1.tmps.getD 15 undef=(.bool false):=by rw[qyf1];exact zae (by rw[zy2];decide)
      change wpListIn (Fw none) 0 Tryz.prog _ _ _ (y2.put (some 15) (.bool false)) W'
      rw[←qyf1]
      refine zak rfl (zaO (by intro d h;cases h) (asR yf1 W' _ (.tmp 15) rfl gyf1_15) ?_)
      obtain⟨yf2,qyf2⟩:∃x,x=yf1.put (some 7) (.bool false):=⟨_,rfl⟩
      have zyf2:yf2.tmps.size=36:=by rw[qyf2,zai];exact zyf1
      have dyf2:yf2.defers=[]:=by rw[qyf2,zag];exact dyf1
      have gyf2_0:yf2.tmps.getD 0 undef=(.int .i64 (f:Nat)):=by rw[qyf2];exact (zaa (by decide)).trans gyf1_0
      have gyf2_1:yf2.tmps.getD 1 undef=(.pointer (some ⟨(B+1),0,none⟩)):=by rw[qyf2];exact (zaa (by decide)).trans gyf1_1
      have gyf2_2:yf2.tmps.getD 2 undef=(.pointer (some ⟨bc,0,none⟩)):=by rw[qyf2];exact (zaa (by decide)).trans gyf1_2
      have gyf2_3:yf2.tmps.getD 3 undef=(.pointer (some ⟨B,0,none⟩)):=by rw[qyf2];exact (zaa (by decide)).trans gyf1_3
      have gyf2_4:yf2.tmps.getD 4 undef=(.pointer (some ⟨bn,0,none⟩)):=by rw[qyf2];exact (zaa (by decide)).trans gyf1_4
      have gyf2_5:yf2.tmps.getD 5 undef=(.pointer (some ⟨(B+2),0,none⟩)):=by rw[qyf2];exact (zaa (by decide)).trans gyf1_5
      have gyf2_13:yf2.tmps.getD 13 undef=yv:=by rw[qyf2];exact (zaa (by decide)).trans gyf1_13
      have gyf2_14:yf2.tmps.getD 14 undef=v:=by rw[qyf2];exact (zaa (by decide)).trans gyf1_14
      have gyf2_15:yf2.tmps.getD 15 undef=(.bool false):=by rw[qyf2];exact (zaa (by decide)).trans gyf1_15
      have gyf2_7:yf2.tmps.getD 7 undef=(.bool false):=by rw[qyf2];exact zae (by rw[zyf1];decide)
      change wpListIn (Fw none) 0 Tryz.prog _ _ _ (yf1.put (some 7) (.bool false)) W'
      rw[←qyf2]
      refine zaP (wpIn_ret ?_)
      refine (show bodyPost Tryz.prog Tryz.f179 (fun e W'=>(e=.returned (.bool true)∧J rest W'∧∃v',HC B bc bn (.func (.yield l) #[] #[]) W' v' xs)∨(e=.returned (.bool false)∧Jx W')) .ret yf2 W' from ?_)
      exact ret1 dyf2 gyf2_7 (.inr ⟨rfl,hJx⟩)
  | succ k ih=>
    intro f r xs rest W v hk hf H hJ
    obtain⟨yv,hyv⟩:∃yv,yv=Value.func (.yield l) #[] #[]:=⟨_,rfl⟩
    rw[←hyv] at H
    refine callsIn_of_wp (F:=Fw none) (n:=0) (fn:=Tryz.f179) Tryz.func179 zqg trivial ?_
    obtain⟨a0,ha0⟩:∃a0:Act,a0 = {tmps:=(#[.int .i64 (f:Nat)]++capt B bc bn)++Array.replicate (Tryz.f179.ntmps - (#[Value.int .i64 (f:Nat)]++capt B bc bn).size) undef,defers:=[]}:=⟨_,rfl⟩
    rw[←ha0]
    have R0:RS a0 ((f:Nat):Int) B bc bn:=zoI rfl ha0
    clear ha0
    have hJb:=hY.boxes _ _ hJ
    obtain⟨vad,vc,hv⟩:=zpv H.ld
    refine wpIn_seq (wpIn_region_list ?_)
    refine zak rfl (zaO (by intro d h;cases h) (asR a0 W _ (.const (.bool false)) rfl rfl) ?_)
    obtain⟨u1,qu1⟩:∃x,x=a0.put (some 7) (.bool false):=⟨_,rfl⟩
    have zu1:u1.tmps.size=36:=by rw[qu1,zai];exact R0.size
    have du1:u1.defers=[]:=by rw[qu1,zag];exact R0.defers
    have gu1_0:u1.tmps.getD 0 undef=(.int .i64 (f:Nat)):=by rw[qu1];exact (zaa (by decide)).trans R0.s0
    have gu1_1:u1.tmps.getD 1 undef=(.pointer (some ⟨(B+1),0,none⟩)):=by rw[qu1];exact (zaa (by decide)).trans R0.s1
    have gu1_2:u1.tmps.getD 2 undef=(.pointer (some ⟨bc,0,none⟩)):=by rw[qu1];exact (zaa (by decide)).trans R0.s2
    have gu1_3:u1.tmps.getD 3 undef=(.pointer (some ⟨B,0,none⟩)):=by rw[qu1];exact (zaa (by decide)).trans R0.s3
    have gu1_4:u1.tmps.getD 4 undef=(.pointer (some ⟨bn,0,none⟩)):=by rw[qu1];exact (zaa (by decide)).trans R0.s4
    have gu1_5:u1.tmps.getD 5 undef=(.pointer (some ⟨(B+2),0,none⟩)):=by rw[qu1];exact (zaa (by decide)).trans R0.s5
    have gu1_7:u1.tmps.getD 7 undef=(.bool false):=by rw[qu1];exact zae (by rw[R0.size];decide)
    change wpListIn (Fw none) 0 Tryz.prog _ _ _ (a0.put (some 7) (.bool false)) W
    rw[←qu1]
    have R1:RS u1 f B bc bn:=⟨zu1,du1,gu1_0,gu1_1,gu1_2,gu1_3,gu1_4,gu1_5⟩
    refine zaP (wpIn_seq (wpIn_seq (wpIn_region_list ?_)))
    refine zak rfl (zaO (by intro d h;cases h) (ld76 u1 W _ (.tmp 1) rfl R1.s1 H.hl rfl) ?_)
    obtain⟨v1,qv1⟩:∃x,x=u1.put (some 9) v:=⟨_,rfl⟩
    have zv1:v1.tmps.size=36:=by rw[qv1,zai];exact R1.size
    have dv1:v1.defers=[]:=by rw[qv1,zag];exact R1.defers
    have gv1_0:v1.tmps.getD 0 undef=(.int .i64 (f:Nat)):=by rw[qv1];exact (zaa (by decide)).trans R1.s0
    have gv1_1:v1.tmps.getD 1 undef=(.pointer (some ⟨(B+1),0,none⟩)):=by rw[qv1];exact (zaa (by decide)).trans R1.s1
    have gv1_2:v1.tmps.getD 2 undef=(.pointer (some ⟨bc,0,none⟩)):=by rw[qv1];exact (zaa (by decide)).trans R1.s2
    have gv1_3:v1.tmps.getD 3 undef=(.pointer (some ⟨B,0,none⟩)):=by rw[qv1];exact (zaa (by decide)).trans R1.s3
    have gv1_4:v1.tmps.getD 4 undef=(.pointer (some ⟨bn,0,none⟩)):=by rw[qv1];exact (zaa (by decide)).trans R1.s4
    have gv1_5:v1.tmps.getD 5 undef=(.pointer (some ⟨(B+2),0,none⟩)):=by rw[qv1];exact (zaa (by decide)).trans R1.s5
    have gv1_9:v1.tmps.getD 9 undef=v:=by rw[qv1];exact zae (by rw[R1.size];decide)
    change wpListIn (Fw none) 0 Tryz.prog _ _ _ (u1.put (some 9) v) W
    rw[←qv1]
    refine zak rfl (zaO (by intro d h;cases h) (lnR Tryz.underlying76 v1 W _ (.tmp 9) rfl (gv1_9.trans hv)) ?_)
    obtain⟨v2,qv2⟩:∃x,x=v1.put (some 10) (.int .i64 (xs.length:Nat)):=⟨_,rfl⟩
    have zv2:v2.tmps.size=36:=by rw[qv2,zai];exact zv1
    have dv2:v2.defers=[]:=by rw[qv2,zag];exact dv1
    have gv2_0:v2.tmps.getD 0 undef=(.int .i64 (f:Nat)):=by rw[qv2];exact (zaa (by decide)).trans gv1_0
    have gv2_1:v2.tmps.getD 1 undef=(.pointer (some ⟨(B+1),0,none⟩)):=by rw[qv2];exact (zaa (by decide)).trans gv1_1
    have gv2_2:v2.tmps.getD 2 undef=(.pointer (some ⟨bc,0,none⟩)):=by rw[qv2];exact (zaa (by decide)).trans gv1_2
    have gv2_3:v2.tmps.getD 3 undef=(.pointer (some ⟨B,0,none⟩)):=by rw[qv2];exact (zaa (by decide)).trans gv1_3
    have gv2_4:v2.tmps.getD 4 undef=(.pointer (some ⟨bn,0,none⟩)):=by rw[qv2];exact (zaa (by decide)).trans gv1_4
    have gv2_5:v2.tmps.getD 5 undef=(.pointer (some ⟨(B+2),0,none⟩)):=by rw[qv2];exact (zaa (by decide)).trans gv1_5
    have gv2_9:v2.tmps.getD 9 undef=v:=by rw[qv2];exact (zaa (by decide)).trans gv1_9
    have gv2_10:v2.tmps.getD 10 undef=(.int .i64 (xs.length:Nat)):=by rw[qv2];exact zae (by rw[zv1];decide)
    change wpListIn (Fw none) 0 Tryz.prog _ _ _ (v1.put (some 10) (.int .i64 (xs.length:Nat))) W
    rw[←qv2]
    refine zak rfl (zaO (by intro d h;cases h) (ld3 v2 W _ (.tmp 2) rfl gv2_2 hJb.1 rfl) ?_)
    obtain⟨v3,qv3⟩:∃x,x=v2.put (some 11) (.int .i64 (count:Nat)):=⟨_,rfl⟩
    have zv3:v3.tmps.size=36:=by rw[qv3,zai];exact zv2
    have dv3:v3.defers=[]:=by rw[qv3,zag];exact dv2
    have gv3_0:v3.tmps.getD 0 undef=(.int .i64 (f:Nat)):=by rw[qv3];exact (zaa (by decide)).trans gv2_0
    have gv3_1:v3.tmps.getD 1 undef=(.pointer (some ⟨(B+1),0,none⟩)):=by rw[qv3];exact (zaa (by decide)).trans gv2_1
    have gv3_2:v3.tmps.getD 2 undef=(.pointer (some ⟨bc,0,none⟩)):=by rw[qv3];exact (zaa (by decide)).trans gv2_2
    have gv3_3:v3.tmps.getD 3 undef=(.pointer (some ⟨B,0,none⟩)):=by rw[qv3];exact (zaa (by decide)).trans gv2_3
    have gv3_4:v3.tmps.getD 4 undef=(.pointer (some ⟨bn,0,none⟩)):=by rw[qv3];exact (zaa (by decide)).trans gv2_4
    have gv3_5:v3.tmps.getD 5 undef=(.pointer (some ⟨(B+2),0,none⟩)):=by rw[qv3];exact (zaa (by decide)).trans gv2_5
    have gv3_9:v3.tmps.getD 9 undef=v:=by rw[qv3];exact (zaa (by decide)).trans gv2_9
    have gv3_10:v3.tmps.getD 10 undef=(.int .i64 (xs.length:Nat)):=by rw[qv3];exact (zaa (by decide)).trans gv2_10
    have gv3_11:v3.tmps.getD 11 undef=(.int .i64 (count:Nat)):=by rw[qv3];exact zae (by rw[zv2];decide)
    change wpListIn (Fw none) 0 Tryz.prog _ _ _ (v2.put (some 11) (.int .i64 (count:Nat))) W
    rw[←qv3]
    refine zak rfl (zaO (by intro d h;cases h) (eqR v3 W _ (.tmp 10) (.tmp 11) rfl gv3_10 gv3_11) ?_)
    obtain⟨v4,qv4⟩:∃x,x=v3.put (some 12) (.bool (decide (((xs.length:Nat):Int)=((count:Nat):Int)))):=⟨_,rfl⟩
    have zv4:v4.tmps.size=36:=by rw[qv4,zai];exact zv3
    have dv4:v4.defers=[]:=by rw[qv4,zag];exact dv3
    have gv4_0:v4.tmps.getD 0 undef=(.int .i64 (f:Nat)):=by rw[qv4];exact (zaa (by decide)).trans gv3_0
    have gv4_1:v4.tmps.getD 1 undef=(.pointer (some ⟨(B+1),0,none⟩)):=by rw[qv4];exact (zaa (by decide)).trans gv3_1
    have gv4_2:v4.tmps.getD 2 undef=(.pointer (some ⟨bc,0,none⟩)):=by rw[qv4];exact (zaa (by decide)).trans gv3_2
    have gv4_3:v4.tmps.getD 3 undef=(.pointer (some ⟨B,0,none⟩)):=by rw[qv4];exact (zaa (by decide)).trans gv3_3
    have gv4_4:v4.tmps.getD 4 undef=(.pointer (some ⟨bn,0,none⟩)):=by rw[qv4];exact (zaa (by decide)).trans gv3_4
    have gv4_5:v4.tmps.getD 5 undef=(.pointer (some ⟨(B+2),0,none⟩)):=by rw[qv4];exact (zaa (by decide)).trans gv3_5
    have gv4_9:v4.tmps.getD 9 undef=v:=by rw[qv4];exact (zaa (by decide)).trans gv3_9
    have gv4_10:v4.tmps.getD 10 undef=(.int .i64 (xs.length:Nat)):=by rw[qv4];exact (zaa (by decide)).trans gv3_10
    have gv4_11:v4.tmps.getD 11 undef=(.int .i64 (count:Nat)):=by rw[qv4];exact (zaa (by decide)).trans gv3_11
    have gv4_12:v4.tmps.getD 12 undef=(.bool (decide (((xs.length:Nat):Int)=((count:Nat):Int)))):=by rw[qv4];exact zae (by rw[zv3];decide)
    change wpListIn (Fw none) 0 Tryz.prog _ _ _ (v3.put (some 12) (.bool (decide (((xs.length:Nat):Int)=((count:Nat):Int))))) W
    rw[←qv4]
    have R2:RS v4 f B bc bn:=⟨zv4,dv4,gv4_0,gv4_1,gv4_2,gv4_3,gv4_4,gv4_5⟩
    have h12:=gv4_12
    refine zaP ?_
    have h12:v4.eval (.tmp 12)=.bool false:=h12.trans (by rw[decide_eq_false (by omega)])
    refine wpIn_cond_false h12 (wpIn_skip ?_)
    change Code.wpIn (Fw none) 0 Tryz.prog _ _ v4 W
    refine wpIn_seq (wpIn_seq (wpIn_region_list ?_))
    refine zak rfl (zaO (by intro d h;cases h) (mvR v4 W _ (.tmp 0) rfl R2.s0) ?_)
    obtain⟨t1,qt1⟩:∃x,x=v4.put (some 16) (.int .i64 (f:Nat)):=⟨_,rfl⟩
    have zt1:t1.tmps.size=36:=by rw[qt1,zai];exact R2.size
    have dt1:t1.defers=[]:=by rw[qt1,zag];exact R2.defers
    have gt1_0:t1.tmps.getD 0 undef=(.int .i64 (f:Nat)):=by rw[qt1];exact (zaa (by decide)).trans R2.s0
    have gt1_1:t1.tmps.getD 1 undef=(.pointer (some ⟨(B+1),0,none⟩)):=by rw[qt1];exact (zaa (by decide)).trans R2.s1
    have gt1_2:t1.tmps.getD 2 undef=(.pointer (some ⟨bc,0,none⟩)):=by rw[qt1];exact (zaa (by decide)).trans R2.s2
    have gt1_3:t1.tmps.getD 3 undef=(.pointer (some ⟨B,0,none⟩)):=by rw[qt1];exact (zaa (by decide)).trans R2.s3
    have gt1_4:t1.tmps.getD 4 undef=(.pointer (some ⟨bn,0,none⟩)):=by rw[qt1];exact (zaa (by decide)).trans R2.s4
    have gt1_5:t1.tmps.getD 5 undef=(.pointer (some ⟨(B+2),0,none⟩)):=by rw[qt1];exact (zaa (by decide)).trans R2.s5
    have gt1_16:t1.tmps.getD 16 undef=(.int .i64 (f:Nat)):=by rw[qt1];exact zae (by rw[R2.size];decide)
    change wpListIn (Fw none) 0 Tryz.prog _ _ _ (v4.put (some 16) (.int .i64 (f:Nat))) W
    rw[←qt1]
    refine zak rfl (zaO (by intro d h;cases h) (asR t1 W _ (.tmp 16) rfl gt1_16) ?_)
    obtain⟨t2,qt2⟩:∃x,x=t1.put (some 8) (.int .i64 (f:Nat)):=⟨_,rfl⟩
    have zt2:t2.tmps.size=36:=by rw[qt2,zai];exact zt1
    have dt2:t2.defers=[]:=by rw[qt2,zag];exact dt1
    have gt2_0:t2.tmps.getD 0 undef=(.int .i64 (f:Nat)):=by rw[qt2];exact (zaa (by decide)).trans gt1_0
    have gt2_1:t2.tmps.getD 1 undef=(.pointer (some ⟨(B+1),0,none⟩)):=by rw[qt2];exact (zaa (by decide)).trans gt1_1
    have gt2_2:t2.tmps.getD 2 undef=(.pointer (some ⟨bc,0,none⟩)):=by rw[qt2];exact (zaa (by decide)).trans gt1_2
    have gt2_3:t2.tmps.getD 3 undef=(.pointer (some ⟨B,0,none⟩)):=by rw[qt2];exact (zaa (by decide)).trans gt1_3
    have gt2_4:t2.tmps.getD 4 undef=(.pointer (some ⟨bn,0,none⟩)):=by rw[qt2];exact (zaa (by decide)).trans gt1_4
    have gt2_5:t2.tmps.getD 5 undef=(.pointer (some ⟨(B+2),0,none⟩)):=by rw[qt2];exact (zaa (by decide)).trans gt1_5
    have gt2_16:t2.tmps.getD 16 undef=(.int .i64 (f:Nat)):=by rw[qt2];exact (zaa (by decide)).trans gt1_16
    have gt2_8:t2.tmps.getD 8 undef=(.int .i64 (f:Nat)):=by rw[qt2];exact zae (by rw[zt1];decide)
    change wpListIn (Fw none) 0 Tryz.prog _ _ _ (t1.put (some 8) (.int .i64 (f:Nat))) W
    rw[←qt2]
    have R3:RS t2 f B bc bn:=⟨zt2,dt2,gt2_0,gt2_1,gt2_2,gt2_3,gt2_4,gt2_5⟩
    refine zaP ?_
    refine wpIn_block (zdw (fun n a w=>∃(p s:Nat) (v:Value),p+s=numbers∧n=s∧RS a ((f:Nat):Int) B bc bn∧a.tmps.getD 8 undef=.int .i64 (p:Nat)∧HC B bc bn yv w v xs∧J ((zb9 (k+1) p s).map (xs ++ ·)++rest) w) (n:=r) (a:=t2) (w:=W) ⟨f,r,v,hf,rfl,R3,gt2_8,H,hJ⟩ ?_)
    clear hJb hv hJ H R0 R1 R2 R3
    rintro s a w ⟨p,_,v,hps,rfl,R,h8,H,hJ⟩
    have hJb:=hY.boxes _ _ hJ
    refine wpIn_seq (wpIn_seq (wpIn_region_list ?_))
    refine zak rfl (zaO (by intro d h;cases h) (mvR a w _ (.tmp 8) rfl h8) ?_)
    obtain⟨l1,ql1⟩:∃x,x=a.put (some 17) (.int .i64 (p:Nat)):=⟨_,rfl⟩
    have zl1:l1.tmps.size=36:=by rw[ql1,zai];exact R.size
    have dl1:l1.defers=[]:=by rw[ql1,zag];exact R.defers
    have gl1_0:l1.tmps.getD 0 undef=(.int .i64 (f:Nat)):=by rw[ql1];exact (zaa (by decide)).trans R.s0
    have gl1_1:l1.tmps.getD 1 undef=(.pointer (some ⟨(B+1),0,none⟩)):=by rw[ql1];exact (zaa (by decide)).trans R.s1
    have gl1_2:l1.tmps.getD 2 undef=(.pointer (some ⟨bc,0,none⟩)):=by rw[ql1];exact (zaa (by decide)).trans R.s2
    have gl1_3:l1.tmps.getD 3 undef=(.pointer (some ⟨B,0,none⟩)):=by rw[ql1];exact (zaa (by decide)).trans R.s3
    have gl1_4:l1.tmps.getD 4 undef=(.pointer (some ⟨bn,0,none⟩)):=by rw[ql1];exact (zaa (by decide)).trans R.s4
    have gl1_5:l1.tmps.getD 5 undef=(.pointer (some ⟨(B+2),0,none⟩)):=by rw[ql1];exact (zaa (by decide)).trans R.s5
    have gl1_8:l1.tmps.getD 8 undef=(.int .i64 (p:Nat)):=by rw[ql1];exact (zaa (by decide)).trans h8
    have gl1_17:l1.tmps.getD 17 undef=(.int .i64 (p:Nat)):=by rw[ql1];exact zae (by rw[R.size];decide)
    change wpListIn (Fw none) 0 Tryz.prog _ _ _ (a.put (some 17) (.int .i64 (p:Nat))) w
    rw[←ql1]
    refine zak rfl (zaO (by intro d h;cases h) (ld3 l1 w _ (.tmp 4) rfl gl1_4 hJb.2 rfl) ?_)
    obtain⟨l2,ql2⟩:∃x,x=l1.put (some 18) (.int .i64 (numbers:Nat)):=⟨_,rfl⟩
    have zl2:l2.tmps.size=36:=by rw[ql2,zai];exact zl1
    have dl2:l2.defers=[]:=by rw[ql2,zag];exact dl1
    have gl2_0:l2.tmps.getD 0 undef=(.int .i64 (f:Nat)):=by rw[ql2];exact (zaa (by decide)).trans gl1_0
    have gl2_1:l2.tmps.getD 1 undef=(.pointer (some ⟨(B+1),0,none⟩)):=by rw[ql2];exact (zaa (by decide)).trans gl1_1
    have gl2_2:l2.tmps.getD 2 undef=(.pointer (some ⟨bc,0,none⟩)):=by rw[ql2];exact (zaa (by decide)).trans gl1_2
    have gl2_3:l2.tmps.getD 3 undef=(.pointer (some ⟨B,0,none⟩)):=by rw[ql2];exact (zaa (by decide)).trans gl1_3
    have gl2_4:l2.tmps.getD 4 undef=(.pointer (some ⟨bn,0,none⟩)):=by rw[ql2];exact (zaa (by decide)).trans gl1_4
    have gl2_5:l2.tmps.getD 5 undef=(.pointer (some ⟨(B+2),0,none⟩)):=by rw[ql2];exact (zaa (by decide)).trans gl1_5
    have gl2_8:l2.tmps.getD 8 undef=(.int .i64 (p:Nat)):=by rw[ql2];exact (zaa (by decide)).trans gl1_8
    have gl2_17:l2.tmps.getD 17 undef=(.int .i64 (p:Nat)):=by rw[ql2];exact (zaa (by decide)).trans gl1_17
    have gl2_18:l2.tmps.getD 18 undef=(.int .i64 (numbers:Nat)):=by rw[ql2];exact zae (by rw[zl1];decide)
    change wpListIn (Fw none) 0 Tryz.prog _ _ _ (l1.put (some 18) (.int .i64 (numbers:Nat))) w
    rw[←ql2]
    refine zak rfl (zaO (by intro d h;cases h) (ltR l2 w _ (.tmp 17) (.tmp 18) rfl gl2_17 gl2_18) ?_)
    obtain⟨l3,ql3⟩:∃x,x=l2.put (some 19) (.bool (decide (((p:Nat):Int)<((numbers:Nat):Int)))):=⟨_,rfl⟩
    have zl3:l3.tmps.size=36:=by rw[ql3,zai];exact zl2
    have dl3:l3.defers=[]:=by rw[ql3,zag];exact dl2
    have gl3_0:l3.tmps.getD 0 undef=(.int .i64 (f:Nat)):=by rw[ql3];exact (zaa (by decide)).trans gl2_0
    have gl3_1:l3.tmps.getD 1 undef=(.pointer (some ⟨(B+1),0,none⟩)):=by rw[ql3];exact (zaa (by decide)).trans gl2_1
    have gl3_2:l3.tmps.getD 2 undef=(.pointer (some ⟨bc,0,none⟩)):=by rw[ql3];exact (zaa (by decide)).trans gl2_2
    have gl3_3:l3.tmps.getD 3 undef=(.pointer (some ⟨B,0,none⟩)):=by rw[ql3];exact (zaa (by decide)).trans gl2_3
    have gl3_4:l3.tmps.getD 4 undef=(.pointer (some ⟨bn,0,none⟩)):=by rw[ql3];exact (zaa (by decide)).trans gl2_4
    have gl3_5:l3.tmps.getD 5 undef=(.pointer (some ⟨(B+2),0,none⟩)):=by rw[ql3];exact (zaa (by decide)).trans gl2_5
    have gl3_8:l3.tmps.getD 8 undef=(.int .i64 (p:Nat)):=by rw[ql3];exact (zaa (by decide)).trans gl2_8
    have gl3_17:l3.tmps.getD 17 undef=(.int .i64 (p:Nat)):=by rw[ql3];exact (zaa (by decide)).trans gl2_17
    have gl3_18:l3.tmps.getD 18 undef=(.int .i64 (numbers:Nat)):=by rw[ql3];exact (zaa (by decide)).trans gl2_18
    have gl3_19:l3.tmps.getD 19 undef=(.bool (decide (((p:Nat):Int)<((numbers:Nat):Int)))):=by rw[ql3];exact zae (by rw[zl2];decide)
    change wpListIn (Fw none) 0 Tryz.prog _ _ _ (l2.put (some 19) (.bool (decide (((p:Nat):Int)<((numbers:Nat):Int))))) w
    rw[←ql3]
    have R4:RS l3 f B bc bn:=⟨zl3,dl3,gl3_0,gl3_1,gl3_2,gl3_3,gl3_4,gl3_5⟩
    have h8':=gl3_8
    have h19:=gl3_19
    refine zaP ?_
    by_cases hlt:p<numbers
    · have h19:l3.eval (.tmp 19)=.bool true:=h19.trans (by rw[decide_eq_true (by omega)])
      refine wpIn_cond_true h19 (wpIn_skip ?_)
      change Code.wpIn (Fw none) 0 Tryz.prog _ _ l3 w
      obtain⟨s',rfl⟩:∃s',s=s'+1:=⟨s - 1,by omega⟩
      refine wpIn_seq (wpIn_block (wpIn_seq (wpIn_region_list ?_)))
      refine zak rfl (zaO (by intro d h;cases h) (ld76 l3 w _ (.tmp 1) rfl R4.s1 H.hl rfl) ?_)
      obtain⟨m1,qm1⟩:∃x,x=l3.put (some 22) v:=⟨_,rfl⟩
      have zm1:m1.tmps.size=36:=by rw[qm1,zai];exact R4.size
      have dm1:m1.defers=[]:=by rw[qm1,zag];exact R4.defers
      have gm1_0:m1.tmps.getD 0 undef=(.int .i64 (f:Nat)):=by rw[qm1];exact (zaa (by decide)).trans R4.s0
      have gm1_1:m1.tmps.getD 1 undef=(.pointer (some ⟨(B+1),0,none⟩)):=by rw[qm1];exact (zaa (by decide)).trans R4.s1
      have gm1_2:m1.tmps.getD 2 undef=(.pointer (some ⟨bc,0,none⟩)):=by rw[qm1];exact (zaa (by decide)).trans R4.s2
      have gm1_3:m1.tmps.getD 3 undef=(.pointer (some ⟨B,0,none⟩)):=by rw[qm1];exact (zaa (by decide)).trans R4.s3
      have gm1_4:m1.tmps.getD 4 undef=(.pointer (some ⟨bn,0,none⟩)):=by rw[qm1];exact (zaa (by decide)).trans R4.s4
      have gm1_5:m1.tmps.getD 5 undef=(.pointer (some ⟨(B+2),0,none⟩)):=by rw[qm1];exact (zaa (by decide)).trans R4.s5
      have gm1_8:m1.tmps.getD 8 undef=(.int .i64 (p:Nat)):=by rw[qm1];exact (zaa (by decide)).trans h8'
      have gm1_22:m1.tmps.getD 22 undef=v:=by rw[qm1];exact zae (by rw[R4.size];decide)
      change wpListIn (Fw none) 0 Tryz.prog _ _ _ (l3.put (some 22) v) w
      rw[←qm1]
      refine zak rfl (zaO (by intro d h;cases h) (mvR m1 w _ (.tmp 8) rfl gm1_8) ?_)
      obtain⟨m2,qm2⟩:∃x,x=m1.put (some 23) (.int .i64 (p:Nat)):=⟨_,rfl⟩
      have zm2:m2.tmps.size=36:=by rw[qm2,zai];exact zm1
      have dm2:m2.defers=[]:=by rw[qm2,zag];exact dm1
      have gm2_0:m2.tmps.getD 0 undef=(.int .i64 (f:Nat)):=by rw[qm2];exact (zaa (by decide)).trans gm1_0
      have gm2_1:m2.tmps.getD 1 undef=(.pointer (some ⟨(B+1),0,none⟩)):=by rw[qm2];exact (zaa (by decide)).trans gm1_1
      have gm2_2:m2.tmps.getD 2 undef=(.pointer (some ⟨bc,0,none⟩)):=by rw[qm2];exact (zaa (by decide)).trans gm1_2
      have gm2_3:m2.tmps.getD 3 undef=(.pointer (some ⟨B,0,none⟩)):=by rw[qm2];exact (zaa (by decide)).trans gm1_3
      have gm2_4:m2.tmps.getD 4 undef=(.pointer (some ⟨bn,0,none⟩)):=by rw[qm2];exact (zaa (by decide)).trans gm1_4
      have gm2_5:m2.tmps.getD 5 undef=(.pointer (some ⟨(B+2),0,none⟩)):=by rw[qm2];exact (zaa (by decide)).trans gm1_5
      have gm2_8:m2.tmps.getD 8 undef=(.int .i64 (p:Nat)):=by rw[qm2];exact (zaa (by decide)).trans gm1_8
      have gm2_22:m2.tmps.getD 22 undef=v:=by rw[qm2];exact (zaa (by decide)).trans gm1_22
      have gm2_23:m2.tmps.getD 23 undef=(.int .i64 (p:Nat)):=by rw[qm2];exact zae (by rw[zm1];decide)
      change wpListIn (Fw none) 0 Tryz.prog _ _ _ (m1.put (some 23) (.int .i64 (p:Nat))) w
      rw[←qm2]
      obtain⟨wb,hwb⟩:∃x,x=w.alloc (.cells #[.int .i64 (p:Nat)] 3 (0,0)):=⟨_,rfl⟩
      refine zak rfl (zqX (by intro d h;cases h) (bsR m2 w _ (.tmp 23) rfl gm2_23) ?_)
      rw[←hwb]
      obtain⟨m3,qm3⟩:∃x,x=m2.put (some 24) (.slice (some ⟨w.heap.size,0,none⟩) 1 1):=⟨_,rfl⟩
      have zm3:m3.tmps.size=36:=by rw[qm3,zai];exact zm2
      have dm3:m3.defers=[]:=by rw[qm3,zag];exact dm2
      have gm3_0:m3.tmps.getD 0 undef=(.int .i64 (f:Nat)):=by rw[qm3];exact (zaa (by decide)).trans gm2_0
      have gm3_1:m3.tmps.getD 1 undef=(.pointer (some ⟨(B+1),0,none⟩)):=by rw[qm3];exact (zaa (by decide)).trans gm2_1
      have gm3_2:m3.tmps.getD 2 undef=(.pointer (some ⟨bc,0,none⟩)):=by rw[qm3];exact (zaa (by decide)).trans gm2_2
      have gm3_3:m3.tmps.getD 3 undef=(.pointer (some ⟨B,0,none⟩)):=by rw[qm3];exact (zaa (by decide)).trans gm2_3
      have gm3_4:m3.tmps.getD 4 undef=(.pointer (some ⟨bn,0,none⟩)):=by rw[qm3];exact (zaa (by decide)).trans gm2_4
      have gm3_5:m3.tmps.getD 5 undef=(.pointer (some ⟨(B+2),0,none⟩)):=by rw[qm3];exact (zaa (by decide)).trans gm2_5
      have gm3_8:m3.tmps.getD 8 undef=(.int .i64 (p:Nat)):=by rw[qm3];exact (zaa (by decide)).trans gm2_8
      have gm3_22:m3.tmps.getD 22 undef=v:=by rw[qm3];exact (zaa (by decide)).trans gm2_22
      have gm3_23:m3.tmps.getD 23 undef=(.int .i64 (p:Nat)):=by rw[qm3];exact (zaa (by decide)).trans gm2_23
      have gm3_24:m3.tmps.getD 24 undef=(.slice (some ⟨w.heap.size,0,none⟩) 1 1):=by rw[qm3];exact zae (by rw[zm2];decide)
      change wpListIn (Fw none) 0 Tryz.prog _ _ _ (m2.put (some 24) (.slice (some ⟨w.heap.size,0,none⟩) 1 1)) wb
      rw[←qm3]
      have hsz:B+3≤w.heap.size:=zah H.hm
      have hnew:wb.heap[w.heap.size]?=some (.cells #[.int .i64 (p:Nat)] 3 (0,0)):=by
        rw[hwb];show (w.heap.push _)[w.heap.size]?=_;simp
      have hbel:Bel w.heap.size w wb:=by rw[hwb];exact zfO
      have Hb:HC B bc bn yv wb v xs:=H.abv (fun b _ hs=>hbel.keep b hs hs)
      refine zak rfl (zwQ (by intro d h;cases h) (x:=.tmp 22) (y:=.tmp 24) rfl gm3_22 Hb.ld (by omega) gm3_24 hnew (Nat.le_trans hsz hbel.size) fun v' wc hld hbel2=>?_)
      obtain⟨vad',vc',hv'⟩:=zpv hld
      have hlc:wc.heap[B+1]?=some (.cells #[v] 76 (0,0)):=(hbel2.keep (B+1) (by omega) (zah Hb.hl)).trans Hb.hl
      obtain⟨n1,qn1⟩:∃x,x=m3.put (some 25) v':=⟨_,rfl⟩
      have zn1:n1.tmps.size=36:=by rw[qn1,zai];exact zm3
      have dn1:n1.defers=[]:=by rw[qn1,zag];exact dm3
      have gn1_0:n1.tmps.getD 0 undef=(.int .i64 (f:Nat)):=by rw[qn1];exact (zaa (by decide)).trans gm3_0
      have gn1_1:n1.tmps.getD 1 undef=(.pointer (some ⟨(B+1),0,none⟩)):=by rw[qn1];exact (zaa (by decide)).trans gm3_1
      have gn1_2:n1.tmps.getD 2 undef=(.pointer (some ⟨bc,0,none⟩)):=by rw[qn1];exact (zaa (by decide)).trans gm3_2
      have gn1_3:n1.tmps.getD 3 undef=(.pointer (some ⟨B,0,none⟩)):=by rw[qn1];exact (zaa (by decide)).trans gm3_3
      have gn1_4:n1.tmps.getD 4 undef=(.pointer (some ⟨bn,0,none⟩)):=by rw[qn1];exact (zaa (by decide)).trans gm3_4
      have gn1_5:n1.tmps.getD 5 undef=(.pointer (some ⟨(B+2),0,none⟩)):=by rw[qn1];exact (zaa (by decide)).trans gm3_5
      have gn1_8:n1.tmps.getD 8 undef=(.int .i64 (p:Nat)):=by rw[qn1];exact (zaa (by decide)).trans gm3_8
      have gn1_22:n1.tmps.getD 22 undef=v:=by rw[qn1];exact (zaa (by decide)).trans gm3_22
      have gn1_23:n1.tmps.getD 23 undef=(.int .i64 (p:Nat)):=by rw[qn1];exact (zaa (by decide)).trans gm3_23
      have gn1_24:n1.tmps.getD 24 undef=(.slice (some ⟨w.heap.size,0,none⟩) 1 1):=by rw[qn1];exact (zaa (by decide)).trans gm3_24
      have gn1_25:n1.tmps.getD 25 undef=v':=by rw[qn1];exact zae (by rw[zm3];decide)
      change wpListIn (Fw none) 0 Tryz.prog _ _ _ (m3.put (some 25) v') wc
      rw[←qn1]
      refine zak rfl (zjt (by intro d h;cases h) (st76 n1 wc _ (.tmp 1) (.tmp 25) rfl gn1_1 (gn1_25.trans hv') hlc Nat.zero_lt_one) ?_)
      rw[←hv']
      obtain⟨wd,hwd⟩:∃x,x=wc.setRow (B+1) ((#[v]:Array Value).set! 0 v'):=⟨_,rfl⟩
      change wpListIn (Fw none) 0 Tryz.prog _ _ _ n1 (wc.setRow (B+1) ((#[v]:Array Value).set! 0 v'))
      rw[←hwd]
      refine zaP ?_
      have R6:RS n1 f B bc bn:=⟨zn1,dn1,gn1_0,gn1_1,gn1_2,gn1_3,gn1_4,gn1_5⟩
      have h8'':=gn1_8
      have H2:HC B bc bn yv wd v' (xs++[((p:Nat):Int)]):=by
        rw[hwd]
        exact⟨(setRow_other wc (B+1) B _ (by omega)).trans ((hbel2.keep B (by omega) (zah Hb.hy)).trans Hb.hy),setRow_heap wc (B+1) _ _ 76 (0,0) hlc,(setRow_other wc (B+1) (B+2) _ (by omega)).trans ((hbel2.keep (B+2) (by omega) (zah Hb.hm)).trans Hb.hm),zlO hld fun b hb hs=>setRow_other wc (B+1) b _ (by omega)⟩
      have hbd:Bel B w wd:=((hbel.le (by omega)).trans (hbel2.le (by omega))).trans (by rw[hwd];exact zeH (by omega))
      have hJ2:J ((zb9 k (p+1) s').map ((xs++[((p:Nat):Int)]) ++ ·)++((zb9 (k+1) (p+1) s').map (xs ++ ·)++rest)) wd:=by
        have h:=hY.below _ _ _ hJ hbd
        simpa [zb9,List.map_append,List.map_map,Function.comp_def,List.append_assoc] using h
      refine wpIn_seq (wpIn_seq (wpIn_region_list ?_))
      refine zak rfl (zaO (by intro d h;cases h) (ldF zqn n1 wd _ (.tmp 5) rfl R6.s5 H2.hm rfl) ?_)
      obtain⟨o1,qo1⟩:∃x,x=n1.put (some 26) (.func (.func 179) #[] (capt B bc bn)):=⟨_,rfl⟩
      have zo1:o1.tmps.size=36:=by rw[qo1,zai];exact R6.size
      have do1:o1.defers=[]:=by rw[qo1,zag];exact R6.defers
      have go1_0:o1.tmps.getD 0 undef=(.int .i64 (f:Nat)):=by rw[qo1];exact (zaa (by decide)).trans R6.s0
      have go1_1:o1.tmps.getD 1 undef=(.pointer (some ⟨(B+1),0,none⟩)):=by rw[qo1];exact (zaa (by decide)).trans R6.s1
      have go1_2:o1.tmps.getD 2 undef=(.pointer (some ⟨bc,0,none⟩)):=by rw[qo1];exact (zaa (by decide)).trans R6.s2
      have go1_3:o1.tmps.getD 3 undef=(.pointer (some ⟨B,0,none⟩)):=by rw[qo1];exact (zaa (by decide)).trans R6.s3
      have go1_4:o1.tmps.getD 4 undef=(.pointer (some ⟨bn,0,none⟩)):=by rw[qo1];exact (zaa (by decide)).trans R6.s4
      have go1_5:o1.tmps.getD 5 undef=(.pointer (some ⟨(B+2),0,none⟩)):=by rw[qo1];exact (zaa (by decide)).trans R6.s5
      have go1_8:o1.tmps.getD 8 undef=(.int .i64 (p:Nat)):=by rw[qo1];exact (zaa (by decide)).trans h8''
      have go1_26:o1.tmps.getD 26 undef=(.func (.func 179) #[] (capt B bc bn)):=by rw[qo1];exact zae (by rw[R6.size];decide)
      change wpListIn (Fw none) 0 Tryz.prog _ _ _ (n1.put (some 26) (.func (.func 179) #[] (capt B bc bn))) wd
      rw[←qo1]
      refine zak rfl (zaO (by intro d h;cases h) (mvR o1 wd _ (.tmp 8) rfl go1_8) ?_)
      obtain⟨o2,qo2⟩:∃x,x=o1.put (some 27) (.int .i64 (p:Nat)):=⟨_,rfl⟩
      have zo2:o2.tmps.size=36:=by rw[qo2,zai];exact zo1
      have do2:o2.defers=[]:=by rw[qo2,zag];exact do1
      have go2_0:o2.tmps.getD 0 undef=(.int .i64 (f:Nat)):=by rw[qo2];exact (zaa (by decide)).trans go1_0
      have go2_1:o2.tmps.getD 1 undef=(.pointer (some ⟨(B+1),0,none⟩)):=by rw[qo2];exact (zaa (by decide)).trans go1_1
      have go2_2:o2.tmps.getD 2 undef=(.pointer (some ⟨bc,0,none⟩)):=by rw[qo2];exact (zaa (by decide)).trans go1_2
      have go2_3:o2.tmps.getD 3 undef=(.pointer (some ⟨B,0,none⟩)):=by rw[qo2];exact (zaa (by decide)).trans go1_3
      have go2_4:o2.tmps.getD 4 undef=(.pointer (some ⟨bn,0,none⟩)):=by rw[qo2];exact (zaa (by decide)).trans go1_4
      have go2_5:o2.tmps.getD 5 undef=(.pointer (some ⟨(B+2),0,none⟩)):=by rw[qo2];exact (zaa (by decide)).trans go1_5
      have go2_8:o2.tmps.getD 8 undef=(.int .i64 (p:Nat)):=by rw[qo2];exact (zaa (by decide)).trans go1_8
      have go2_26:o2.tmps.getD 26 undef=(.func (.func 179) #[] (capt B bc bn)):=by rw[qo2];exact (zaa (by decide)).trans go1_26
      have go2_27:o2.tmps.getD 27 undef=(.int .i64 (p:Nat)):=by rw[qo2];exact zae (by rw[zo1];decide)
      change wpListIn (Fw none) 0 Tryz.prog _ _ _ (o1.put (some 27) (.int .i64 (p:Nat))) wd
      rw[←qo2]
      refine zak rfl (zaO (by intro d h;cases h) (adR o2 wd _ (.tmp 27) (.const (.int .i64 1)) rfl go2_27 rfl (by omega)) ?_)
      obtain⟨o3,qo3⟩:∃x,x=o2.put (some 28) (.int .i64 ((p:Nat)+(1:Int))):=⟨_,rfl⟩
      have zo3:o3.tmps.size=36:=by rw[qo3,zai];exact zo2
      have do3:o3.defers=[]:=by rw[qo3,zag];exact do2
      have go3_0:o3.tmps.getD 0 undef=(.int .i64 (f:Nat)):=by rw[qo3];exact (zaa (by decide)).trans go2_0
      have go3_1:o3.tmps.getD 1 undef=(.pointer (some ⟨(B+1),0,none⟩)):=by rw[qo3];exact (zaa (by decide)).trans go2_1
      have go3_2:o3.tmps.getD 2 undef=(.pointer (some ⟨bc,0,none⟩)):=by rw[qo3];exact (zaa (by decide)).trans go2_2
      have go3_3:o3.tmps.getD 3 undef=(.pointer (some ⟨B,0,none⟩)):=by rw[qo3];exact (zaa (by decide)).trans go2_3
      have go3_4:o3.tmps.getD 4 undef=(.pointer (some ⟨bn,0,none⟩)):=by rw[qo3];exact (zaa (by decide)).trans go2_4
      have go3_5:o3.tmps.getD 5 undef=(.pointer (some ⟨(B+2),0,none⟩)):=by rw[qo3];exact (zaa (by decide)).trans go2_5
      have go3_8:o3.tmps.getD 8 undef=(.int .i64 (p:Nat)):=by rw[qo3];exact (zaa (by decide)).trans go2_8
      have go3_26:o3.tmps.getD 26 undef=(.func (.func 179) #[] (capt B bc bn)):=by rw[qo3];exact (zaa (by decide)).trans go2_26
      have go3_27:o3.tmps.getD 27 undef=(.int .i64 (p:Nat)):=by rw[qo3];exact (zaa (by decide)).trans go2_27
      have go3_28:o3.tmps.getD 28 undef=(.int .i64 ((p:Nat)+(1:Int))):=by rw[qo3];exact zae (by rw[zo2];decide)
      change wpListIn (Fw none) 0 Tryz.prog _ _ _ (o2.put (some 28) (.int .i64 ((p:Nat)+(1:Int)))) wd
      rw[←qo3]
      have hc:=ih (p+1) s' (xs++[((p:Nat):Int)]) _ wd v' (by rw[List.length_append,List.length_singleton];omega) (by omega) (by rw[←hyv];exact H2) hJ2
      obtain⟨args,hargs⟩:∃x,x=(#[.int .i64 ((p+1:Nat):Int)]++capt B bc bn:Array Value):=⟨_,rfl⟩
      rw[←hargs] at hc
      refine zak rfl ?_
      refine zix (f:=179) (args:=args) ?_ ?_ (hc.mono ?_)
      · intro d h;cases h
      · obtain⟨fn,e1,e2,e3⟩:zc9 Tryz.prog 179:=⟨Tryz.f179,Tryz.func179,by kernel_rfl,by kernel_rfl⟩
        have e2':¬fn.name = "runtime.NumGoroutine" := by simpa using e2
        have e3':¬fn.body=none:=by intro hn;rw[hn] at e3;cases e3
        rw[hargs]
        simp[execOp,resolve,Deferred.ofValue,ev,go3_26,go3_28,invoke,callFunc,e1,e2',e3',capt]
      rintro e we (⟨rfl,hJ3,v3,H3⟩|⟨rfl,hJx⟩)
      · refine ⟨.bool true,rfl,?_⟩
        rw[←hyv] at H3
        obtain⟨ls,c,hv3,hlc3,hld3⟩:=zvF H3.ld
        obtain⟨ot1,qot1⟩:∃x,x=o3.put (some 29) (.bool true):=⟨_,rfl⟩
        have zot1:ot1.tmps.size=36:=by rw[qot1,zai];exact zo3
        have dot1:ot1.defers=[]:=by rw[qot1,zag];exact do3
        have got1_0:ot1.tmps.getD 0 undef=(.int .i64 (f:Nat)):=by rw[qot1];exact (zaa (by decide)).trans go3_0
        have got1_1:ot1.tmps.getD 1 undef=(.pointer (some ⟨(B+1),0,none⟩)):=by rw[qot1];exact (zaa (by decide)).trans go3_1
        have got1_2:ot1.tmps.getD 2 undef=(.pointer (some ⟨bc,0,none⟩)):=by rw[qot1];exact (zaa (by decide)).trans go3_2
        have got1_3:ot1.tmps.getD 3 undef=(.pointer (some ⟨B,0,none⟩)):=by rw[qot1];exact (zaa (by decide)).trans go3_3
        have got1_4:ot1.tmps.getD 4 undef=(.pointer (some ⟨bn,0,none⟩)):=by rw[qot1];exact (zaa (by decide)).trans go3_4
        have got1_5:ot1.tmps.getD 5 undef=(.pointer (some ⟨(B+2),0,none⟩)):=by rw[qot1];exact (zaa (by decide)).trans go3_5
        have got1_8:ot1.tmps.getD 8 undef=(.int .i64 (p:Nat)):=by rw[qot1];exact (zaa (by decide)).trans go3_8
        have got1_26:ot1.tmps.getD 26 undef=(.func (.func 179) #[] (capt B bc bn)):=by rw[qot1];exact (zaa (by decide)).trans go3_26
        have got1_27:ot1.tmps.getD 27 undef=(.int .i64 (p:Nat)):=by rw[qot1];exact (zaa (by decide)).trans go3_27
        have got1_28:ot1.tmps.getD 28 undef=(.int .i64 ((p:Nat)+(1:Int))):=by rw[qot1];exact (zaa (by decide)).trans go3_28
        have got1_29:ot1.tmps.getD 29 undef=(.bool true):=by rw[qot1];exact zae (by rw[zo3];decide)
        change wpListIn (Fw none) 0 Tryz.prog _ _ _ (o3.put (some 29) (.bool true)) we
        rw[←qot1]
        refine zak rfl (zaO (by intro d h;cases h) (ntR ot1 we _ (.tmp 29) rfl got1_29) ?_)
        obtain⟨ot2,qot2⟩:∃x,x=ot1.put (some 30) (.bool false):=⟨_,rfl⟩
        have zot2:ot2.tmps.size=36:=by rw[qot2,zai];exact zot1
        have dot2:ot2.defers=[]:=by rw[qot2,zag];exact dot1
        have got2_0:ot2.tmps.getD 0 undef=(.int .i64 (f:Nat)):=by rw[qot2];exact (zaa (by decide)).trans got1_0
        have got2_1:ot2.tmps.getD 1 undef=(.pointer (some ⟨(B+1),0,none⟩)):=by rw[qot2];exact (zaa (by decide)).trans got1_1
        have got2_2:ot2.tmps.getD 2 undef=(.pointer (some ⟨bc,0,none⟩)):=by rw[qot2];exact (zaa (by decide)).trans got1_2
        have got2_3:ot2.tmps.getD 3 undef=(.pointer (some ⟨B,0,none⟩)):=by rw[qot2];exact (zaa (by decide)).trans got1_3
        have got2_4:ot2.tmps.getD 4 undef=(.pointer (some ⟨bn,0,none⟩)):=by rw[qot2];exact (zaa (by decide)).trans got1_4
        have got2_5:ot2.tmps.getD 5 undef=(.pointer (some ⟨(B+2),0,none⟩)):=by rw[qot2];exact (zaa (by decide)).trans got1_5
        have got2_8:ot2.tmps.getD 8 undef=(.int .i64 (p:Nat)):=by rw[qot2];exact (zaa (by decide)).trans got1_8
        have got2_26:ot2.tmps.getD 26 undef=(.func (.func 179) #[] (capt B bc bn)):=by rw[qot2];exact (zaa (by decide)).trans got1_26
        have got2_27:ot2.tmps.getD 27 undef=(.int .i64 (p:Nat)):=by rw[qot2];exact (zaa (by decide)).trans got1_27
        have got2_28:ot2.tmps.getD 28 undef=(.int .i64 ((p:Nat)+(1:Int))):=by rw[qot2];exact (zaa (by decide)).trans got1_28
        have got2_29:ot2.tmps.getD 29 undef=(.bool true):=by rw[qot2];exact (zaa (by decide)).trans got1_29
        have got2_30:ot2.tmps.getD 30 undef=(.bool false):=by rw[qot2];exact zae (by rw[zot1];decide)
        change wpListIn (Fw none) 0 Tryz.prog _ _ _ (ot1.put (some 30) (.bool false)) we
        rw[←qot2]
        have R7:RS ot2 f B bc bn:=⟨zot2,dot2,got2_0,got2_1,got2_2,got2_3,got2_4,got2_5⟩
        have h8a:=got2_8
        have h30:=got2_30
        refine zaP (wpIn_cond_false h30 (wpIn_skip ?_))
        change Code.wpIn (Fw none) 0 Tryz.prog N9 _ ot2 we
        refine wpIn_region_list ?_
        refine zak rfl (zaO (by intro d h;cases h) (ld76 ot2 we _ (.tmp 1) rfl R7.s1 H3.hl rfl) ?_)
        obtain⟨r1,qr1⟩:∃x,x=ot2.put (some 31) v3:=⟨_,rfl⟩
        have zr1:r1.tmps.size=36:=by rw[qr1,zai];exact R7.size
        have dr1:r1.defers=[]:=by rw[qr1,zag];exact R7.defers
        have gr1_0:r1.tmps.getD 0 undef=(.int .i64 (f:Nat)):=by rw[qr1];exact (zaa (by decide)).trans R7.s0
        have gr1_1:r1.tmps.getD 1 undef=(.pointer (some ⟨(B+1),0,none⟩)):=by rw[qr1];exact (zaa (by decide)).trans R7.s1
        have gr1_2:r1.tmps.getD 2 undef=(.pointer (some ⟨bc,0,none⟩)):=by rw[qr1];exact (zaa (by decide)).trans R7.s2
        have gr1_3:r1.tmps.getD 3 undef=(.pointer (some ⟨B,0,none⟩)):=by rw[qr1];exact (zaa (by decide)).trans R7.s3
        have gr1_4:r1.tmps.getD 4 undef=(.pointer (some ⟨bn,0,none⟩)):=by rw[qr1];exact (zaa (by decide)).trans R7.s4
        have gr1_5:r1.tmps.getD 5 undef=(.pointer (some ⟨(B+2),0,none⟩)):=by rw[qr1];exact (zaa (by decide)).trans R7.s5
        have gr1_8:r1.tmps.getD 8 undef=(.int .i64 (p:Nat)):=by rw[qr1];exact (zaa (by decide)).trans h8a
        have gr1_31:r1.tmps.getD 31 undef=v3:=by rw[qr1];exact zae (by rw[R7.size];decide)
        change wpListIn (Fw none) 0 Tryz.prog _ _ _ (ot2.put (some 31) v3) we
        rw[←qr1]
        refine zak rfl (zaO (by intro d h;cases h) (ld76 r1 we _ (.tmp 1) rfl gr1_1 H3.hl rfl) ?_)
        obtain⟨r2,qr2⟩:∃x,x=r1.put (some 32) v3:=⟨_,rfl⟩
        have zr2:r2.tmps.size=36:=by rw[qr2,zai];exact zr1
        have dr2:r2.defers=[]:=by rw[qr2,zag];exact dr1
        have gr2_0:r2.tmps.getD 0 undef=(.int .i64 (f:Nat)):=by rw[qr2];exact (zaa (by decide)).trans gr1_0
        have gr2_1:r2.tmps.getD 1 undef=(.pointer (some ⟨(B+1),0,none⟩)):=by rw[qr2];exact (zaa (by decide)).trans gr1_1
        have gr2_2:r2.tmps.getD 2 undef=(.pointer (some ⟨bc,0,none⟩)):=by rw[qr2];exact (zaa (by decide)).trans gr1_2
        have gr2_3:r2.tmps.getD 3 undef=(.pointer (some ⟨B,0,none⟩)):=by rw[qr2];exact (zaa (by decide)).trans gr1_3
        have gr2_4:r2.tmps.getD 4 undef=(.pointer (some ⟨bn,0,none⟩)):=by rw[qr2];exact (zaa (by decide)).trans gr1_4
        have gr2_5:r2.tmps.getD 5 undef=(.pointer (some ⟨(B+2),0,none⟩)):=by rw[qr2];exact (zaa (by decide)).trans gr1_5
        have gr2_8:r2.tmps.getD 8 undef=(.int .i64 (p:Nat)):=by rw[qr2];exact (zaa (by decide)).trans gr1_8
        have gr2_31:r2.tmps.getD 31 undef=v3:=by rw[qr2];exact (zaa (by decide)).trans gr1_31
        have gr2_32:r2.tmps.getD 32 undef=v3:=by rw[qr2];exact zae (by rw[zr1];decide)
        change wpListIn (Fw none) 0 Tryz.prog _ _ _ (r1.put (some 32) v3) we
        rw[←qr2]
        refine zak rfl (zaO (by intro d h;cases h) (lnR Tryz.underlying76 r2 we _ (.tmp 32) rfl (gr2_32.trans hv3)) ?_)
        obtain⟨r3,qr3⟩:∃x,x=r2.put (some 33) (.int .i64 ((xs.length+1:Nat))):=⟨_,rfl⟩
        have zr3:r3.tmps.size=36:=by rw[qr3,zai];exact zr2
        have dr3:r3.defers=[]:=by rw[qr3,zag];exact dr2
        have gr3_0:r3.tmps.getD 0 undef=(.int .i64 (f:Nat)):=by rw[qr3];exact (zaa (by decide)).trans gr2_0
        have gr3_1:r3.tmps.getD 1 undef=(.pointer (some ⟨(B+1),0,none⟩)):=by rw[qr3];exact (zaa (by decide)).trans gr2_1
        have gr3_2:r3.tmps.getD 2 undef=(.pointer (some ⟨bc,0,none⟩)):=by rw[qr3];exact (zaa (by decide)).trans gr2_2
        have gr3_3:r3.tmps.getD 3 undef=(.pointer (some ⟨B,0,none⟩)):=by rw[qr3];exact (zaa (by decide)).trans gr2_3
        have gr3_4:r3.tmps.getD 4 undef=(.pointer (some ⟨bn,0,none⟩)):=by rw[qr3];exact (zaa (by decide)).trans gr2_4
        have gr3_5:r3.tmps.getD 5 undef=(.pointer (some ⟨(B+2),0,none⟩)):=by rw[qr3];exact (zaa (by decide)).trans gr2_5
        have gr3_8:r3.tmps.getD 8 undef=(.int .i64 (p:Nat)):=by rw[qr3];exact (zaa (by decide)).trans gr2_8
        have gr3_31:r3.tmps.getD 31 undef=v3:=by rw[qr3];exact (zaa (by decide)).trans gr2_31
        have gr3_32:r3.tmps.getD 32 undef=v3:=by rw[qr3];exact (zaa (by decide)).trans gr2_32
        have gr3_33:r3.tmps.getD 33 undef=(.int .i64 ((xs.length+1:Nat))):=by rw[qr3];exact zae (by rw[zr2];decide)
        change wpListIn (Fw none) 0 Tryz.prog _ _ _ (r2.put (some 33) (.int .i64 ((xs.length+1:Nat)))) we
        rw[←qr3]
        refine zak rfl (zaO (by intro d h;cases h) (suR r3 we _ (.tmp 33) (.const (.int .i64 1)) rfl gr3_33 rfl (by omega)) ?_)
        obtain⟨r4,qr4⟩:∃x,x=r3.put (some 34) (.int .i64 (((xs.length+1:Nat):Int) - 1)):=⟨_,rfl⟩
        have zr4:r4.tmps.size=36:=by rw[qr4,zai];exact zr3
        have dr4:r4.defers=[]:=by rw[qr4,zag];exact dr3
        have gr4_0:r4.tmps.getD 0 undef=(.int .i64 (f:Nat)):=by rw[qr4];exact (zaa (by decide)).trans gr3_0
        have gr4_1:r4.tmps.getD 1 undef=(.pointer (some ⟨(B+1),0,none⟩)):=by rw[qr4];exact (zaa (by decide)).trans gr3_1
        have gr4_2:r4.tmps.getD 2 undef=(.pointer (some ⟨bc,0,none⟩)):=by rw[qr4];exact (zaa (by decide)).trans gr3_2
        have gr4_3:r4.tmps.getD 3 undef=(.pointer (some ⟨B,0,none⟩)):=by rw[qr4];exact (zaa (by decide)).trans gr3_3
        have gr4_4:r4.tmps.getD 4 undef=(.pointer (some ⟨bn,0,none⟩)):=by rw[qr4];exact (zaa (by decide)).trans gr3_4
        have gr4_5:r4.tmps.getD 5 undef=(.pointer (some ⟨(B+2),0,none⟩)):=by rw[qr4];exact (zaa (by decide)).trans gr3_5
        have gr4_8:r4.tmps.getD 8 undef=(.int .i64 (p:Nat)):=by rw[qr4];exact (zaa (by decide)).trans gr3_8
        have gr4_31:r4.tmps.getD 31 undef=v3:=by rw[qr4];exact (zaa (by decide)).trans gr3_31
        have gr4_32:r4.tmps.getD 32 undef=v3:=by rw[qr4];exact (zaa (by decide)).trans gr3_32
        have gr4_33:r4.tmps.getD 33 undef=(.int .i64 ((xs.length+1:Nat))):=by rw[qr4];exact (zaa (by decide)).trans gr3_33
        have gr4_34:r4.tmps.getD 34 undef=(.int .i64 (((xs.length+1:Nat):Int) - 1)):=by rw[qr4];exact zae (by rw[zr3];decide)
        change wpListIn (Fw none) 0 Tryz.prog _ _ _ (r3.put (some 34) (.int .i64 (((xs.length+1:Nat):Int) - 1))) we
        rw[←qr4]
        refine zak rfl (zaO (by intro d h;cases h) (slR r4 we _ (.tmp 31) (.tmp 34) rfl (gr4_31.trans hv3) (gr4_34.trans (by rw[show ((xs.length+1:Nat):Int) - 1=(xs.length:Nat) by omega])) hlc3) ?_)
        obtain⟨r5,qr5⟩:∃x,x=r4.put (some 35) (.slice (some ⟨ls,0,none⟩) xs.length c):=⟨_,rfl⟩
        have zr5:r5.tmps.size=36:=by rw[qr5,zai];exact zr4
        have dr5:r5.defers=[]:=by rw[qr5,zag];exact dr4
        have gr5_0:r5.tmps.getD 0 undef=(.int .i64 (f:Nat)):=by rw[qr5];exact (zaa (by decide)).trans gr4_0
        have gr5_1:r5.tmps.getD 1 undef=(.pointer (some ⟨(B+1),0,none⟩)):=by rw[qr5];exact (zaa (by decide)).trans gr4_1
        have gr5_2:r5.tmps.getD 2 undef=(.pointer (some ⟨bc,0,none⟩)):=by rw[qr5];exact (zaa (by decide)).trans gr4_2
        have gr5_3:r5.tmps.getD 3 undef=(.pointer (some ⟨B,0,none⟩)):=by rw[qr5];exact (zaa (by decide)).trans gr4_3
        have gr5_4:r5.tmps.getD 4 undef=(.pointer (some ⟨bn,0,none⟩)):=by rw[qr5];exact (zaa (by decide)).trans gr4_4
        have gr5_5:r5.tmps.getD 5 undef=(.pointer (some ⟨(B+2),0,none⟩)):=by rw[qr5];exact (zaa (by decide)).trans gr4_5
        have gr5_8:r5.tmps.getD 8 undef=(.int .i64 (p:Nat)):=by rw[qr5];exact (zaa (by decide)).trans gr4_8
        have gr5_31:r5.tmps.getD 31 undef=v3:=by rw[qr5];exact (zaa (by decide)).trans gr4_31
        have gr5_32:r5.tmps.getD 32 undef=v3:=by rw[qr5];exact (zaa (by decide)).trans gr4_32
        have gr5_33:r5.tmps.getD 33 undef=(.int .i64 ((xs.length+1:Nat))):=by rw[qr5];exact (zaa (by decide)).trans gr4_33
        have gr5_34:r5.tmps.getD 34 undef=(.int .i64 (((xs.length+1:Nat):Int) - 1)):=by rw[qr5];exact (zaa (by decide)).trans gr4_34
        have gr5_35:r5.tmps.getD 35 undef=(.slice (some ⟨ls,0,none⟩) xs.length c):=by rw[qr5];exact zae (by rw[zr4];decide)
        change wpListIn (Fw none) 0 Tryz.prog _ _ _ (r4.put (some 35) (.slice (some ⟨ls,0,none⟩) xs.length c)) we
        rw[←qr5]
        refine zak rfl (zjt (by intro d h;cases h) (st76 r5 we _ (.tmp 1) (.tmp 35) rfl gr5_1 gr5_35 H3.hl Nat.zero_lt_one) ?_)
        obtain⟨wf,hwf⟩:∃x,x=we.setRow (B+1) ((#[v3]:Array Value).set! 0 (.slice (some ⟨ls,0,none⟩) xs.length c)):=⟨_,rfl⟩
        change wpListIn (Fw none) 0 Tryz.prog _ _ _ r5 (we.setRow (B+1) ((#[v3]:Array Value).set! 0 (.slice (some ⟨ls,0,none⟩) xs.length c)))
        rw[←hwf]
        refine zaP ?_
        have R9:RS r5 f B bc bn:=⟨zr5,dr5,gr5_0,gr5_1,gr5_2,gr5_3,gr5_4,gr5_5⟩
        have h8b:=gr5_8
        change Code.wpIn (Fw none) 0 Tryz.prog N5 _ r5 wf
        refine wpIn_region_list ?_
        refine zak rfl (zaO (by intro d h;cases h) (mvR r5 wf _ (.tmp 8) rfl h8b) ?_)
        obtain⟨s1,qs1⟩:∃x,x=r5.put (some 20) (.int .i64 (p:Nat)):=⟨_,rfl⟩
        have zs1:s1.tmps.size=36:=by rw[qs1,zai];exact R9.size
        have ds1:s1.defers=[]:=by rw[qs1,zag];exact R9.defers
        have gs1_0:s1.tmps.getD 0 undef=(.int .i64 (f:Nat)):=by rw[qs1];exact (zaa (by decide)).trans R9.s0
        have gs1_1:s1.tmps.getD 1 undef=(.pointer (some ⟨(B+1),0,none⟩)):=by rw[qs1];exact (zaa (by decide)).trans R9.s1
        have gs1_2:s1.tmps.getD 2 undef=(.pointer (some ⟨bc,0,none⟩)):=by rw[qs1];exact (zaa (by decide)).trans R9.s2
        have gs1_3:s1.tmps.getD 3 undef=(.pointer (some ⟨B,0,none⟩)):=by rw[qs1];exact (zaa (by decide)).trans R9.s3
        have gs1_4:s1.tmps.getD 4 undef=(.pointer (some ⟨bn,0,none⟩)):=by rw[qs1];exact (zaa (by decide)).trans R9.s4
        have gs1_5:s1.tmps.getD 5 undef=(.pointer (some ⟨(B+2),0,none⟩)):=by rw[qs1];exact (zaa (by decide)).trans R9.s5
        have gs1_8:s1.tmps.getD 8 undef=(.int .i64 (p:Nat)):=by rw[qs1];exact (zaa (by decide)).trans h8b
        have gs1_20:s1.tmps.getD 20 undef=(.int .i64 (p:Nat)):=by rw[qs1];exact zae (by rw[R9.size];decide)
        change wpListIn (Fw none) 0 Tryz.prog _ _ _ (r5.put (some 20) (.int .i64 (p:Nat))) wf
        rw[←qs1]
        refine zak rfl (zaO (by intro d h;cases h) (adN s1 wf _ (.tmp 20) (.const (.int .i64 1)) rfl gs1_20 rfl (by omega)) ?_)
        obtain⟨s2,qs2⟩:∃x,x=s1.put (some 21) (.int .i64 ((p+1:Nat))):=⟨_,rfl⟩
        have zs2:s2.tmps.size=36:=by rw[qs2,zai];exact zs1
        have ds2:s2.defers=[]:=by rw[qs2,zag];exact ds1
        have gs2_0:s2.tmps.getD 0 undef=(.int .i64 (f:Nat)):=by rw[qs2];exact (zaa (by decide)).trans gs1_0
        have gs2_1:s2.tmps.getD 1 undef=(.pointer (some ⟨(B+1),0,none⟩)):=by rw[qs2];exact (zaa (by decide)).trans gs1_1
        have gs2_2:s2.tmps.getD 2 undef=(.pointer (some ⟨bc,0,none⟩)):=by rw[qs2];exact (zaa (by decide)).trans gs1_2
        have gs2_3:s2.tmps.getD 3 undef=(.pointer (some ⟨B,0,none⟩)):=by rw[qs2];exact (zaa (by decide)).trans gs1_3
        have gs2_4:s2.tmps.getD 4 undef=(.pointer (some ⟨bn,0,none⟩)):=by rw[qs2];exact (zaa (by decide)).trans gs1_4
        have gs2_5:s2.tmps.getD 5 undef=(.pointer (some ⟨(B+2),0,none⟩)):=by rw[qs2];exact (zaa (by decide)).trans gs1_5
        have gs2_8:s2.tmps.getD 8 undef=(.int .i64 (p:Nat)):=by rw[qs2];exact (zaa (by decide)).trans gs1_8
        have gs2_20:s2.tmps.getD 20 undef=(.int .i64 (p:Nat)):=by rw[qs2];exact (zaa (by decide)).trans gs1_20
        have gs2_21:s2.tmps.getD 21 undef=(.int .i64 ((p+1:Nat))):=by rw[qs2];exact zae (by rw[zs1];decide)
        change wpListIn (Fw none) 0 Tryz.prog _ _ _ (s1.put (some 21) (.int .i64 ((p+1:Nat)))) wf
        rw[←qs2]
        refine zak rfl (zaO (by intro d h;cases h) (asR s2 wf _ (.tmp 21) rfl gs2_21) ?_)
        obtain⟨s3,qs3⟩:∃x,x=s2.put (some 8) (.int .i64 ((p+1:Nat))):=⟨_,rfl⟩
        have zs3:s3.tmps.size=36:=by rw[qs3,zai];exact zs2
        have ds3:s3.defers=[]:=by rw[qs3,zag];exact ds2
        have gs3_0:s3.tmps.getD 0 undef=(.int .i64 (f:Nat)):=by rw[qs3];exact (zaa (by decide)).trans gs2_0
        have gs3_1:s3.tmps.getD 1 undef=(.pointer (some ⟨(B+1),0,none⟩)):=by rw[qs3];exact (zaa (by decide)).trans gs2_1
        have gs3_2:s3.tmps.getD 2 undef=(.pointer (some ⟨bc,0,none⟩)):=by rw[qs3];exact (zaa (by decide)).trans gs2_2
        have gs3_3:s3.tmps.getD 3 undef=(.pointer (some ⟨B,0,none⟩)):=by rw[qs3];exact (zaa (by decide)).trans gs2_3
        have gs3_4:s3.tmps.getD 4 undef=(.pointer (some ⟨bn,0,none⟩)):=by rw[qs3];exact (zaa (by decide)).trans gs2_4
        have gs3_5:s3.tmps.getD 5 undef=(.pointer (some ⟨(B+2),0,none⟩)):=by rw[qs3];exact (zaa (by decide)).trans gs2_5
        have gs3_20:s3.tmps.getD 20 undef=(.int .i64 (p:Nat)):=by rw[qs3];exact (zaa (by decide)).trans gs2_20
        have gs3_21:s3.tmps.getD 21 undef=(.int .i64 ((p+1:Nat))):=by rw[qs3];exact (zaa (by decide)).trans gs2_21
        have gs3_8:s3.tmps.getD 8 undef=(.int .i64 ((p+1:Nat))):=by rw[qs3];exact zae (by rw[zs2];decide)
        change wpListIn (Fw none) 0 Tryz.prog _ _ _ (s2.put (some 8) (.int .i64 ((p+1:Nat)))) wf
        rw[←qs3]
        have R10:RS s3 f B bc bn:=⟨zs3,ds3,gs3_0,gs3_1,gs3_2,gs3_3,gs3_4,gs3_5⟩
        have h8c:=gs3_8
        refine zaP ?_
        have H4:HC B bc bn yv wf (.slice (some ⟨ls,0,none⟩) xs.length c) xs:=by
          rw[hwf]
          exact⟨(setRow_other we (B+1) B _ (by omega)).trans H3.hy,setRow_heap we (B+1) _ _ 76 (0,0) H3.hl,(setRow_other we (B+1) (B+2) _ (by omega)).trans H3.hm,zlO hld3 fun b hb hs=>setRow_other we (B+1) b _ (by omega)⟩
        exact⟨s',Nat.lt_succ_self s',p+1,s',_,by omega,rfl,R10,h8c,H4,hY.below _ _ _ hJ3 (by rw[hwf];exact zeH (by omega))⟩
      · refine⟨.bool false,rfl,?_⟩
        obtain⟨of1,qof1⟩:∃x,x=o3.put (some 29) (.bool false):=⟨_,rfl⟩
        have zof1:of1.tmps.size=36:=by rw[qof1,zai];exact zo3
        have dof1:of1.defers=[]:=by rw[qof1,zag];exact do3
        have gof1_0:of1.tmps.getD 0 undef=(.int .i64 (f:Nat)):=by rw[qof1];exact (zaa (by decide)).trans go3_0
        have gof1_1:of1.tmps.getD 1 undef=(.pointer (some ⟨(B+1),0,none⟩)):=by rw[qof1];exact (zaa (by decide)).trans go3_1
        have gof1_2:of1.tmps.getD 2 undef=(.pointer (some ⟨bc,0,none⟩)):=by rw[qof1];exact (zaa (by decide)).trans go3_2
        have gof1_3:of1.tmps.getD 3 undef=(.pointer (some ⟨B,0,none⟩)):=by rw[qof1];exact (zaa (by decide)).trans go3_3
        have gof1_4:of1.tmps.getD 4 undef=(.pointer (some ⟨bn,0,none⟩)):=by rw[qof1];exact (zaa (by decide)).trans go3_4
        have gof1_5:of1.tmps.getD 5 undef=(.pointer (some ⟨(B+2),0,none⟩)):=by rw[qof1];exact (zaa (by decide)).trans go3_5
        have gof1_8:of1.tmps.getD 8 undef=(.int .i64 (p:Nat)):=by rw[qof1];exact (zaa (by decide)).trans go3_8
        have gof1_26:of1.tmps.getD 26 undef=(.func (.func 179) #[] (capt B bc bn)):=by rw[qof1];exact (zaa (by decide)).trans go3_26
        have gof1_27:of1.tmps.getD 27 undef=(.int .i64 (p:Nat)):=by rw[qof1];exact (zaa (by decide)).trans go3_27
        have gof1_28:of1.tmps.getD 28 undef=(.int .i64 ((p:Nat)+(1:Int))):=by rw[qof1];exact (zaa (by decide)).trans go3_28
        have gof1_29:of1.tmps.getD 29 undef=(.bool false):=by rw[qof1];exact zae (by rw[zo3];decide)
        change wpListIn (Fw none) 0 Tryz.prog _ _ _ (o3.put (some 29) (.bool false)) we
        rw[←qof1]
        refine zak rfl (zaO (by intro d h;cases h) (ntR of1 we _ (.tmp 29) rfl gof1_29) ?_)
        obtain⟨of2,qof2⟩:∃x,x=of1.put (some 30) (.bool true):=⟨_,rfl⟩
        have zof2:of2.tmps.size=36:=by rw[qof2,zai];exact zof1
        have dof2:of2.defers=[]:=by rw[qof2,zag];exact dof1
        have gof2_0:of2.tmps.getD 0 undef=(.int .i64 (f:Nat)):=by rw[qof2];exact (zaa (by decide)).trans gof1_0
        have gof2_1:of2.tmps.getD 1 undef=(.pointer (some ⟨(B+1),0,none⟩)):=by rw[qof2];exact (zaa (by decide)).trans gof1_1
        have gof2_2:of2.tmps.getD 2 undef=(.pointer (some ⟨bc,0,none⟩)):=by rw[qof2];exact (zaa (by decide)).trans gof1_2
        have gof2_3:of2.tmps.getD 3 undef=(.pointer (some ⟨B,0,none⟩)):=by rw[qof2];exact (zaa (by decide)).trans gof1_3
        have gof2_4:of2.tmps.getD 4 undef=(.pointer (some ⟨bn,0,none⟩)):=by rw[qof2];exact (zaa (by decide)).trans gof1_4
        have gof2_5:of2.tmps.getD 5 undef=(.pointer (some ⟨(B+2),0,none⟩)):=by rw[qof2];exact (zaa (by decide)).trans gof1_5
        have gof2_8:of2.tmps.getD 8 undef=(.int .i64 (p:Nat)):=by rw[qof2];exact (zaa (by decide)).trans gof1_8
        have gof2_26:of2.tmps.getD 26 undef=(.func (.func 179) #[] (capt B bc bn)):=by rw[qof2];exact (zaa (by decide)).trans gof1_26
        have gof2_27:of2.tmps.getD 27 undef=(.int .i64 (p:Nat)):=by rw[qof2];exact (zaa (by decide)).trans gof1_27
        have gof2_28:of2.tmps.getD 28 undef=(.int .i64 ((p:Nat)+(1:Int))):=by rw[qof2];exact (zaa (by decide)).trans gof1_28
        have gof2_29:of2.tmps.getD 29 undef=(.bool false):=by rw[qof2];exact (zaa (by decide)).trans gof1_29
        have gof2_30:of2.tmps.getD 30 undef=(.bool true):=by rw[qof2];exact zae (by rw[zof1];decide)
        change wpListIn (Fw none) 0 Tryz.prog _ _ _ (of1.put (some 30) (.bool true)) we
        rw[←qof2]
        have R7:RS of2 f B bc bn:=⟨zof2,dof2,gof2_0,gof2_1,gof2_2,gof2_3,gof2_4,gof2_5⟩
        have h8a:=gof2_8
        have h30:=gof2_30
        refine zaP (wpIn_cond_true h30 (wpIn_seq ?_))
        change Code.wpIn (Fw none) 0 Tryz.prog N8 _ of2 we
        refine wpIn_region_list ?_
        refine zak rfl (zaO (by intro d h;cases h) (asR of2 we _ (.const (.bool false)) rfl rfl) ?_)
        obtain⟨e1,qe1⟩:∃x,x=of2.put (some 7) (.bool false):=⟨_,rfl⟩
        have ze1:e1.tmps.size=36:=by rw[qe1,zai];exact R7.size
        have de1:e1.defers=[]:=by rw[qe1,zag];exact R7.defers
        have ge1_0:e1.tmps.getD 0 undef=(.int .i64 (f:Nat)):=by rw[qe1];exact (zaa (by decide)).trans R7.s0
        have ge1_1:e1.tmps.getD 1 undef=(.pointer (some ⟨(B+1),0,none⟩)):=by rw[qe1];exact (zaa (by decide)).trans R7.s1
        have ge1_2:e1.tmps.getD 2 undef=(.pointer (some ⟨bc,0,none⟩)):=by rw[qe1];exact (zaa (by decide)).trans R7.s2
        have ge1_3:e1.tmps.getD 3 undef=(.pointer (some ⟨B,0,none⟩)):=by rw[qe1];exact (zaa (by decide)).trans R7.s3
        have ge1_4:e1.tmps.getD 4 undef=(.pointer (some ⟨bn,0,none⟩)):=by rw[qe1];exact (zaa (by decide)).trans R7.s4
        have ge1_5:e1.tmps.getD 5 undef=(.pointer (some ⟨(B+2),0,none⟩)):=by rw[qe1];exact (zaa (by decide)).trans R7.s5
        have ge1_7:e1.tmps.getD 7 undef=(.bool false):=by rw[qe1];exact zae (by rw[R7.size];decide)
        change wpListIn (Fw none) 0 Tryz.prog _ _ _ (of2.put (some 7) (.bool false)) we
        rw[←qe1]
        refine zaP (wpIn_ret ?_)
        refine (show bodyPost Tryz.prog Tryz.f179 (fun e W'=>(e=.returned (.bool true)∧J rest W'∧∃v',HC B bc bn (.func (.yield l) #[] #[]) W' v' xs)∨(e=.returned (.bool false)∧Jx W')) .ret e1 we from ?_)
        exact ret1 de1 ge1_7 (.inr ⟨rfl,hJx⟩)
    · have h19:l3.eval (.tmp 19)=.bool false:=h19.trans (by rw[decide_eq_false (by omega)])
      refine wpIn_cond_false h19 (wpIn_exit ?_)
      change Code.wpIn (Fw none) 0 Tryz.prog (.seq N10 .ret) _ l3 w
      refine wpIn_seq (wpIn_region_list ?_)
      refine zak rfl (zaO (by intro d h;cases h) (asR l3 w _ (.const (.bool true)) rfl rfl) ?_)
      obtain⟨x1,qx1⟩:∃x,x=l3.put (some 7) (.bool true):=⟨_,rfl⟩
      have zx1:x1.tmps.size=36:=by rw[qx1,zai];exact R4.size
      have dx1:x1.defers=[]:=by rw[qx1,zag];exact R4.defers
      have gx1_0:x1.tmps.getD 0 undef=(.int .i64 (f:Nat)):=by rw[qx1];exact (zaa (by decide)).trans R4.s0
      have gx1_1:x1.tmps.getD 1 undef=(.pointer (some ⟨(B+1),0,none⟩)):=by rw[qx1];exact (zaa (by decide)).trans R4.s1
      have gx1_2:x1.tmps.getD 2 undef=(.pointer (some ⟨bc,0,none⟩)):=by rw[qx1];exact (zaa (by decide)).trans R4.s2
      have gx1_3:x1.tmps.getD 3 undef=(.pointer (some ⟨B,0,none⟩)):=by rw[qx1];exact (zaa (by decide)).trans R4.s3
      have gx1_4:x1.tmps.getD 4 undef=(.pointer (some ⟨bn,0,none⟩)):=by rw[qx1];exact (zaa (by decide)).trans R4.s4
      have gx1_5:x1.tmps.getD 5 undef=(.pointer (some ⟨(B+2),0,none⟩)):=by rw[qx1];exact (zaa (by decide)).trans R4.s5
      have gx1_7:x1.tmps.getD 7 undef=(.bool true):=by rw[qx1];exact zae (by rw[R4.size];decide)
      change wpListIn (Fw none) 0 Tryz.prog _ _ _ (l3.put (some 7) (.bool true)) w
      rw[←qx1]
      refine zaP (wpIn_ret ?_)
      refine (show bodyPost Tryz.prog Tryz.f179 (fun e W'=>(e=.returned (.bool true)∧J rest W'∧∃v',HC B bc bn (.func (.yield l) #[] #[]) W' v' xs)∨(e=.returned (.bool false)∧Jx W')) .ret x1 w from ?_)
      refine ret1 dx1 gx1_7 (.inl ⟨rfl,?_,v,by rw[←hyv];exact H⟩)
      have e:s=0:=by omega
      subst e
      simpa [zb9] using hJ
theorem zpE:Tryz.prog.info? 202=some Tryz.t202:=by kernel_rfl
theorem zsM:Tryz.t202.size=1:=by kernel_rfl
theorem zsE:Tryz.t202.zero=some .nilFunc:=by kernel_rfl
theorem ztE:Tryz.prog.info? 234=some Tryz.t234:=by kernel_rfl
theorem zsL:Tryz.t234.size=1:=by kernel_rfl
theorem zxh (a:Act) (w:World) (o:Oper) (x:Operand) (ho:o.op=.box 234 x) {fn:Fn} {p q:Array Value} (hx:a.eval x=.func fn p q):(execOp a.eval o).run Tryz.prog w=.ok (.value (.pointer (some ⟨w.heap.size,0,none⟩))) (w.alloc (.cells #[.func fn p q] 234 (0,0))):=by
  simp[execOp,ho,hx,Instr.box,sizeOf,typeInfo,ztE,zsL,newVar,zsC,newRow,Value.cells]
theorem al76 (a:Act) (w:World) (o:Oper) (ho:o.op=.alloc 76):(execOp a.eval o).run Tryz.prog w=.ok (.value (.pointer (some ⟨w.heap.size,0,none⟩))) (w.alloc (.cells #[.slice none 0 0] 76 (0,0))):=by
  have hz:=zcv zoL w
  simp[execOp,ho,hz,newRow,Value.cells]
  try rfl
theorem zxj (a:Act) (w:World) (o:Oper) (ho:o.op=.alloc 202):(execOp a.eval o).run Tryz.prog w=.ok (.value (.pointer (some ⟨w.heap.size,0,none⟩))) (w.alloc (.cells #[.nilFunc] 202 (0,0))):=by
  simp[execOp,ho,Instr.alloc,newRow,Value.cells,zeroValue,typeInfo,zpE,zsE,newVar,zqn]
theorem mfR (a:Act) (w:World) (o:Oper) (ho:o.op=.makeFunc (.func 179) #[] #[.tmp 4,.tmp 1,.tmp 3,.tmp 2,.tmp 5]) {v1 v2 v3 v4 v5:Value} (h4:a.eval (.tmp 4)=v1) (h1:a.eval (.tmp 1)=v2) (h3:a.eval (.tmp 3)=v3) (h2:a.eval (.tmp 2)=v4) (h5:a.eval (.tmp 5)=v5) :
    (execOp a.eval o).run Tryz.prog w=.ok (.value (.func (.func 179) #[] #[v1,v2,v3,v4,v5])) w:=by
  simp[execOp,ho,h1,h2,h3,h4,h5,Instr.makeFunc]
theorem zwv (a:Act) (w:World) (o:Oper) (x y:Operand) (ho:o.op=.store 202 x y) {b el:Nat} {u:Value} {fn:Fn} {p q:Array Value} (hx:a.eval x=.pointer (some ⟨b,0,none⟩)) (hy:a.eval y=.func fn p q) (hb:w.heap[b]?=some (.cells #[u] el (0,0))) :
    (execOp a.eval o).run Tryz.prog w=.ok .skip (w.setRow b #[.func fn p q]):=by
  have h1:=run_storeCells_at Tryz.prog b 0 el [.func fn p q] 0 #[u] w hb (by simp) (by simp[Value.oneCell'])
  have hst:(storeVar 202 ⟨b,0,none⟩ (.func fn p q)).run Tryz.prog w=.ok () (w.setRow b #[.func fn p q]):=by
    simp only[storeVar,Value.cells]
    simp[sizeOf,typeInfo,zpE,zsM]
    rw[h1];simp
  simp[execOp,ho,hx,hy,Instr.storeAt,Instr.sureAddr,hst]
noncomputable def b178:Code:=zdt Tryz.f178
noncomputable def C0:Code:=match b178 with | .seq x _=>x|c=>c
noncomputable def C1:Code:=match b178 with | .seq _ (.seq x _)=>x|c=>c
noncomputable def C2:Code:=match b178 with | .seq _ (.seq _ (.seq x _))=>x|c=>c
noncomputable def C3:Code:=match b178 with | .seq _ (.seq _ (.seq _ (.seq x _)))=>x|c=>c
noncomputable def C4:Code:=match b178 with | .seq _ (.seq _ (.seq _ (.seq _ x)))=>x|c=>c
theorem zt0:(Tryz.f178.body:Option Code)=some (.seq C0 (.seq C1 (.seq C2 (.seq C3 C4)))):=rfl
theorem ztB {n:Nat} (hn:n=9) {x0 x1 x2:Value} {a0:Act} (ha:a0 = {tmps:=(#[x0] ++ #[x1,x2])++Array.replicate (n - (#[x0] ++ #[x1,x2]).size) undef,defers:=[]}):a0.tmps.size=9∧a0.defers=[]∧a0.tmps.getD 0 undef=x0∧a0.tmps.getD 1 undef=x1∧a0.tmps.getD 2 undef=x2:=by
  subst hn
  have e:(#[x0] ++ #[x1,x2])++Array.replicate (9 - (#[x0] ++ #[x1,x2]).size) undef = #[x0,x1,x2]++Array.replicate 6 undef:=rfl
  rw[e] at ha
  rw[ha]
  refine⟨by simp,rfl,?_,?_,?_⟩<;>simp
theorem zdN {w:World} {o:Obj} {B:Nat} (h:B=w.heap.size):(w.alloc o).heap[B]?=some o:=by
  subst h;show (w.heap.push o)[w.heap.size]?=_;simp
theorem zcx {w:World} {o p:Obj} {b:Nat} (h:w.heap[b]?=some p):(w.alloc o).heap[b]?=some p:=by
  show (w.heap.push o)[b]?=_
  rw[Array.getElem?_push,if_neg (Nat.ne_of_lt (zah h))];exact h
theorem zcT {w:World} {o:Obj}:(w.alloc o).heap.size=w.heap.size+1:=by
  show (w.heap.push o).size=_
  rw[Array.size_push]
theorem znP {l B bc bn count numbers:Nat} {J:List (List Int)→World→Prop} {Jx:World→Prop} (hY:Yld l B bc bn count numbers J Jx) (hcn:count≤100∧0<count) (hnn:numbers≤100) (hbc:bc<B∧bn<B) (W:World) (hB:B=W.heap.size) (hJ:J (zb9 count 0 numbers) W) :
    CallsIn (Fw none) 0 Tryz.prog 178 (#[Value.func (.yield l) #[] #[]] ++ #[Value.pointer (some ⟨bc,0,none⟩),Value.pointer (some ⟨bn,0,none⟩)]) W fun e W'=>(∃v,e=.returned v)∧(J [] W'∨Jx W'):=by
  refine callsIn_of_wp (F:=Fw none) (n:=0) (fn:=Tryz.f178) Tryz.func178 zt0 trivial ?_
  obtain⟨a0,ha0⟩:∃a0:Act,a0 = {tmps:=(#[Value.func (.yield l) #[] #[]] ++ #[Value.pointer (some ⟨bc,0,none⟩),Value.pointer (some ⟨bn,0,none⟩)])++Array.replicate (Tryz.f178.ntmps - (#[Value.func (.yield l) #[] #[]] ++ #[Value.pointer (some ⟨bc,0,none⟩),Value.pointer (some ⟨bn,0,none⟩)]).size) undef,defers:=[]}:=⟨_,rfl⟩
  rw[←ha0]
  obtain⟨za0,da0,g0,g1,g2⟩:=ztB rfl ha0
  clear ha0
  refine wpIn_seq (wpIn_region_list ?_)
  obtain⟨W1,hW1⟩:∃x,x=W.alloc (.cells #[.func (.yield l) #[] #[]] 234 (0,0)):=⟨_,rfl⟩
  refine zak rfl (zqX (by intro d h;cases h) (zxh a0 W _ (.tmp 0) rfl g0) ?_)
  rw[←hW1]
  obtain⟨a1,qa1⟩:∃x,x=a0.put (some 3) (.pointer (some ⟨W.heap.size,0,none⟩)):=⟨_,rfl⟩
  have za1:a1.tmps.size=9:=by rw[qa1,zai];exact za0
  have da1:a1.defers=[]:=by rw[qa1,zag];exact da0
  have ga1_0:a1.tmps.getD 0 undef=(.func (.yield l) #[] #[]):=by rw[qa1];exact (zaa (by decide)).trans g0
  have ga1_1:a1.tmps.getD 1 undef=(.pointer (some ⟨bc,0,none⟩)):=by rw[qa1];exact (zaa (by decide)).trans g1
  have ga1_2:a1.tmps.getD 2 undef=(.pointer (some ⟨bn,0,none⟩)):=by rw[qa1];exact (zaa (by decide)).trans g2
  have ga1_3:a1.tmps.getD 3 undef=(.pointer (some ⟨W.heap.size,0,none⟩)):=by rw[qa1];exact zae (by rw[za0];decide)
  change wpListIn (Fw none) 0 Tryz.prog _ _ _ (a0.put (some 3) (.pointer (some ⟨W.heap.size,0,none⟩))) W1
  rw[←qa1]
  have eW1:W.heap.size=B:=by exact hB.symm
  rw[eW1] at ga1_3
  refine zaP (wpIn_seq (wpIn_region_list ?_))
  obtain⟨W2,hW2⟩:∃x,x=W1.alloc (.cells #[.slice none 0 0] 76 (0,0)):=⟨_,rfl⟩
  refine zak rfl (zqX (by intro d h;cases h) (al76 a1 W1 _ rfl) ?_)
  rw[←hW2]
  obtain⟨a2,qa2⟩:∃x,x=a1.put (some 4) (.pointer (some ⟨W1.heap.size,0,none⟩)):=⟨_,rfl⟩
  have za2:a2.tmps.size=9:=by rw[qa2,zai];exact za1
  have da2:a2.defers=[]:=by rw[qa2,zag];exact da1
  have ga2_0:a2.tmps.getD 0 undef=(.func (.yield l) #[] #[]):=by rw[qa2];exact (zaa (by decide)).trans ga1_0
  have ga2_1:a2.tmps.getD 1 undef=(.pointer (some ⟨bc,0,none⟩)):=by rw[qa2];exact (zaa (by decide)).trans ga1_1
  have ga2_2:a2.tmps.getD 2 undef=(.pointer (some ⟨bn,0,none⟩)):=by rw[qa2];exact (zaa (by decide)).trans ga1_2
  have ga2_3:a2.tmps.getD 3 undef=(.pointer (some ⟨B,0,none⟩)):=by rw[qa2];exact (zaa (by decide)).trans ga1_3
  have ga2_4:a2.tmps.getD 4 undef=(.pointer (some ⟨W1.heap.size,0,none⟩)):=by rw[qa2];exact zae (by rw[za1];decide)
  change wpListIn (Fw none) 0 Tryz.prog _ _ _ (a1.put (some 4) (.pointer (some ⟨W1.heap.size,0,none⟩))) W2
  rw[←qa2]
  have eW2:W1.heap.size=(B+1):=by rw[hW1,zcT,eW1]
  rw[eW2] at ga2_4
  refine zaP (wpIn_seq (wpIn_region_list ?_))
  obtain⟨W3,hW3⟩:∃x,x=W2.alloc (.cells #[.nilFunc] 202 (0,0)):=⟨_,rfl⟩
  refine zak rfl (zqX (by intro d h;cases h) (zxj a2 W2 _ rfl) ?_)
  rw[←hW3]
  obtain⟨a3,qa3⟩:∃x,x=a2.put (some 5) (.pointer (some ⟨W2.heap.size,0,none⟩)):=⟨_,rfl⟩
  have za3:a3.tmps.size=9:=by rw[qa3,zai];exact za2
  have da3:a3.defers=[]:=by rw[qa3,zag];exact da2
  have ga3_0:a3.tmps.getD 0 undef=(.func (.yield l) #[] #[]):=by rw[qa3];exact (zaa (by decide)).trans ga2_0
  have ga3_1:a3.tmps.getD 1 undef=(.pointer (some ⟨bc,0,none⟩)):=by rw[qa3];exact (zaa (by decide)).trans ga2_1
  have ga3_2:a3.tmps.getD 2 undef=(.pointer (some ⟨bn,0,none⟩)):=by rw[qa3];exact (zaa (by decide)).trans ga2_2
  have ga3_3:a3.tmps.getD 3 undef=(.pointer (some ⟨B,0,none⟩)):=by rw[qa3];exact (zaa (by decide)).trans ga2_3
  have ga3_4:a3.tmps.getD 4 undef=(.pointer (some ⟨(B+1),0,none⟩)):=by rw[qa3];exact (zaa (by decide)).trans ga2_4
  have ga3_5:a3.tmps.getD 5 undef=(.pointer (some ⟨W2.heap.size,0,none⟩)):=by rw[qa3];exact zae (by rw[za2];decide)
  change wpListIn (Fw none) 0 Tryz.prog _ _ _ (a2.put (some 5) (.pointer (some ⟨W2.heap.size,0,none⟩))) W3
  rw[←qa3]
  have eW3:W2.heap.size=(B+2):=by rw[hW2,zcT,eW2]
  rw[eW3] at ga3_5
  refine zaP (wpIn_seq (wpIn_region_list ?_))
  refine zak rfl (zaO (by intro d h;cases h) (mfR a3 W3 _ rfl ga3_4 ga3_1 ga3_3 ga3_2 ga3_5) ?_)
  obtain⟨a4,qa4⟩:∃x,x=a3.put (some 6) (.func (.func 179) #[] (capt B bc bn)):=⟨_,rfl⟩
  have za4:a4.tmps.size=9:=by rw[qa4,zai];exact za3
  have da4:a4.defers=[]:=by rw[qa4,zag];exact da3
  have ga4_0:a4.tmps.getD 0 undef=(.func (.yield l) #[] #[]):=by rw[qa4];exact (zaa (by decide)).trans ga3_0
  have ga4_1:a4.tmps.getD 1 undef=(.pointer (some ⟨bc,0,none⟩)):=by rw[qa4];exact (zaa (by decide)).trans ga3_1
  have ga4_2:a4.tmps.getD 2 undef=(.pointer (some ⟨bn,0,none⟩)):=by rw[qa4];exact (zaa (by decide)).trans ga3_2
  have ga4_3:a4.tmps.getD 3 undef=(.pointer (some ⟨B,0,none⟩)):=by rw[qa4];exact (zaa (by decide)).trans ga3_3
  have ga4_4:a4.tmps.getD 4 undef=(.pointer (some ⟨(B+1),0,none⟩)):=by rw[qa4];exact (zaa (by decide)).trans ga3_4
  have ga4_5:a4.tmps.getD 5 undef=(.pointer (some ⟨(B+2),0,none⟩)):=by rw[qa4];exact (zaa (by decide)).trans ga3_5
  have ga4_6:a4.tmps.getD 6 undef=(.func (.func 179) #[] (capt B bc bn)):=by rw[qa4];exact zae (by rw[za3];decide)
  change wpListIn (Fw none) 0 Tryz.prog _ _ _ (a3.put (some 6) (.func (.func 179) #[] (capt B bc bn))) W3
  rw[←qa4]
  have x1:W1.heap[B]?=some (.cells #[.func (.yield l) #[] #[]] 234 (0,0)):=by rw[hW1];exact zdN eW1.symm
  have x2:W2.heap[B+1]?=some (.cells #[.slice none 0 0] 76 (0,0)):=by rw[hW2];exact zdN eW2.symm
  have x3:W3.heap[B+2]?=some (.cells #[.nilFunc] 202 (0,0)):=by rw[hW3];exact zdN eW3.symm
  have x13:W3.heap[B]?=some (.cells #[.func (.yield l) #[] #[]] 234 (0,0)):=by rw[hW3];exact zcx (by rw[hW2];exact zcx x1)
  have x23:W3.heap[B+1]?=some (.cells #[.slice none 0 0] 76 (0,0)):=by rw[hW3];exact zcx x2
  refine zak rfl (zjt (by intro d h;cases h) (zwv a4 W3 _ (.tmp 5) (.tmp 6) rfl ga4_5 ga4_6 x3) ?_)
  obtain⟨W4,hW4⟩:∃x,x=W3.setRow (B+2) #[.func (.func 179) #[] (capt B bc bn)]:=⟨_,rfl⟩
  change wpListIn (Fw none) 0 Tryz.prog _ _ _ a4 (W3.setRow (B+2) #[.func (.func 179) #[] (capt B bc bn)])
  rw[←hW4]
  have H:HC B bc bn (.func (.yield l) #[] #[]) W4 (.slice none 0 0) []:=by
    rw[hW4]
    exact⟨(setRow_other W3 (B+2) B _ (by omega)).trans x13,(setRow_other W3 (B+2) (B+1) _ (by omega)).trans x23,setRow_heap W3 (B+2) _ _ 202 (0,0) x3,.inl ⟨rfl,rfl⟩⟩
  have hbel:Bel B W W4:=by
    rw[hW4,hW3,hW2,hW1]
    exact ((zfO.trans zfO).trans zfO).trans (zeH (by omega))
  have hJ4:J ((zb9 count 0 numbers).map ([] ++ ·)++[]) W4:=by simpa using hY.below _ _ _ hJ hbel
  refine zaP ?_
  change Code.wpIn (Fw none) 0 Tryz.prog C4 _ a4 W4
  refine wpIn_region_list ?_
  refine zak rfl (zaO (by intro d h;cases h) (ldF zqn a4 W4 _ (.tmp 5) rfl ga4_5 H.hm rfl) ?_)
  obtain⟨a5,qa5⟩:∃x,x=a4.put (some 7) (.func (.func 179) #[] (capt B bc bn)):=⟨_,rfl⟩
  have za5:a5.tmps.size=9:=by rw[qa5,zai];exact za4
  have da5:a5.defers=[]:=by rw[qa5,zag];exact da4
  have ga5_0:a5.tmps.getD 0 undef=(.func (.yield l) #[] #[]):=by rw[qa5];exact (zaa (by decide)).trans ga4_0
  have ga5_1:a5.tmps.getD 1 undef=(.pointer (some ⟨bc,0,none⟩)):=by rw[qa5];exact (zaa (by decide)).trans ga4_1
  have ga5_2:a5.tmps.getD 2 undef=(.pointer (some ⟨bn,0,none⟩)):=by rw[qa5];exact (zaa (by decide)).trans ga4_2
  have ga5_3:a5.tmps.getD 3 undef=(.pointer (some ⟨B,0,none⟩)):=by rw[qa5];exact (zaa (by decide)).trans ga4_3
  have ga5_4:a5.tmps.getD 4 undef=(.pointer (some ⟨(B+1),0,none⟩)):=by rw[qa5];exact (zaa (by decide)).trans ga4_4
  have ga5_5:a5.tmps.getD 5 undef=(.pointer (some ⟨(B+2),0,none⟩)):=by rw[qa5];exact (zaa (by decide)).trans ga4_5
  have ga5_6:a5.tmps.getD 6 undef=(.func (.func 179) #[] (capt B bc bn)):=by rw[qa5];exact (zaa (by decide)).trans ga4_6
  have ga5_7:a5.tmps.getD 7 undef=(.func (.func 179) #[] (capt B bc bn)):=by rw[qa5];exact zae (by rw[za4];decide)
  change wpListIn (Fw none) 0 Tryz.prog _ _ _ (a4.put (some 7) (.func (.func 179) #[] (capt B bc bn))) W4
  rw[←qa5]
  have hc:=ztj hY hcn hnn hbc count 0 numbers [] [] W4 (.slice none 0 0) (by rw[List.length_nil];omega) (by omega) H hJ4
  obtain⟨args,hargs⟩:∃x,x=(#[.int .i64 ((0:Nat):Int)]++capt B bc bn:Array Value):=⟨_,rfl⟩
  rw[←hargs] at hc
  refine zak rfl ?_
  refine zix (f:=179) (args:=args) ?_ ?_ (hc.mono ?_)
  · intro d h;cases h
  · obtain⟨fn,e1,e2,e3⟩:zc9 Tryz.prog 179:=⟨Tryz.f179,Tryz.func179,by kernel_rfl,by kernel_rfl⟩
    have e2':¬fn.name = "runtime.NumGoroutine" := by simpa using e2
    have e3':¬fn.body=none:=by intro hn;rw[hn] at e3;cases e3
    rw[hargs]
    have evc:∀(a:Act) (v:Value),a.eval (.const v)=v:=fun a v=>rfl
    simp[execOp,resolve,Deferred.ofValue,ev,evc,ga5_7,invoke,callFunc,e1,e2',e3',capt]
  have fin:∀(v:Value) (W':World),(J [] W'∨Jx W')→bodyPost Tryz.prog Tryz.f178 (fun e W'=>(∃v,e=.returned v)∧(J [] W'∨Jx W')) .normal (a5.put (some 8) v) W':=by
    intro v W' h
    refine⟨by rw[zag];exact da5,.tuple #[],zdB (P:=Tryz.prog) (fn:=Tryz.f178) (vs:=[]) rfl,⟨_,rfl⟩,h⟩
  rintro e we (⟨rfl,hJ3,_⟩|⟨rfl,hJx⟩)
  · exact⟨.bool true,rfl,zaP (fin _ _ (.inl hJ3))⟩
  · exact⟨.bool false,rfl,zaP (fin _ _ (.inr hJx))⟩
theorem zld (c n:Int) (w:World):Calls Tryz.prog 163 #[.int .i64 c,.int .i64 n] w fun e w'=>e=.returned (.func (.func 178) #[] #[.pointer (some ⟨w.heap.size,0,none⟩),.pointer (some ⟨w.heap.size+1,0,none⟩)])∧w'=(w.alloc (.cells #[.int .i64 c] 3 (0,0))).alloc (.cells #[.int .i64 n] 3 (0,0)):=by
  have mixed:=mixed
  have t3:=Tryz.underlying3
  have hn:Tryz.f163.ntmps=6:=rfl
  go_enter Tryz.func163,hn
  go_wp2
  go_ret
  exact⟨rfl,rfl⟩
def zgH (b:List BndD):List (List Int)→Option zcg
  | []=>none
  | c::r=>if (atR b c).2.1=true then some (atR b c).1 else zgH b r
def zlj (b:List BndD) (n:Nat):Option zcg:=zgH b (zb9 (n+1) 0 b.length)
noncomputable def b143:Code:=zdt Tryz.f143
noncomputable def B0:Code:=match b143 with | .seq x _=>x|c=>c
noncomputable def B1:Code:=match b143 with | .seq _ (.seq (.seq x _) _)=>x|c=>c
noncomputable def B2:Code:=match b143 with | .seq _ (.seq (.seq _ (.block _ (.rangeFunc _ _ x _))) _)=>x|c=>c
noncomputable def BB:Code:=match b143 with | .seq _ (.seq (.seq _ (.block _ (.rangeFunc _ _ _ x))) _)=>x|c=>c
noncomputable def BT:Code:=match b143 with | .seq _ (.seq _ x)=>x|c=>c
noncomputable def zlH:List Oper:=match B1 with | .region _ x _=>x.toList | _=>[]
theorem zt3:(Tryz.f143.body:Option Code)=some (.seq B0 (.seq (.seq B1 (.block 0 (.rangeFunc (.tmp 12) #[13] B2 BB))) BT)):=rfl
abbrev cAt:List (Nat×Spec):=[(164,sAt)]
theorem zwf:All cAt:=⟨h164,trivial⟩
@[reducible] def cfB:Cfg:=cfg {} cAt 23
theorem znT:CfgOk Tryz.prog OB cfB:=zl6 (X:={}) trivial zwf
abbrev zid:Type:=zj8.Den
@[reducible] def zlw:Spec:={pats:=[.dat zj8],res:=[{t:=zme}],pre:=fun x=>∃n:Nat,x.1.2.1=(n:Int)∧n≤3∧(zlj x.1.2.2.1 n).isSome=true∧(List.length (α:=BndD) x.1.2.2.1≤100)∧∀c∈zb9 (n+1) 0 (List.length (α:=BndD) x.1.2.2.1),goodA x.1.2.2.1 c,f:=fun x=>((zlj x.1.2.2.1 x.1.2.1.toNat).getD zgf,())}
@[reducible] def stB0 (p:zid):St:=[.slot 1 (.one (.p 1 0)),.cell 1 0 (.d I64 p.1),.cell 1 1 (.d I64 p.2.1),.cell 1 2 (.d (.sl zi3) p.2.2.1),.slot 2 (.one (.p 2 0)),.cell 2 0 (.v (.slice none 0 0)),.cell 2 1 (.d I64 0),.cell 2 2 (.v (.slice none 0 0)),.cell 2 3 (.d I64 0)]
theorem vB0 (p:zid):vc cfB (par cfB) [] B0 0 [.slot 0 (.one (.d zj8 p))] (fun e st=>match e with | .normal=>Goal (∃_:Unit,ent st (stB0 p)∧True) | .ret=>False | _=>False):=by
  repeat' (intro hzz;(try (rename Two=>hq;cases hq));(try dsimp only at hzz);(try simp only[zad,zac,eqD,inR,big,zab,zB] at hzz);(try (revert hzz;intro _)))
  all_goals try (rename Unit=>hq;clear hq)
  all_goals try ((with_reducible refine Held.mk ?_);(with_reducible (first|refine Frz.mk ?_|refine And.intro (Frz.mk ?_) ?_|refine And.intro ?_ (Frz.mk ?_)));repeat' first|exact True.intro|(change _=_;with_reducible rfl)|refine And.intro ?_ ?_|(with_reducible refine Frz.mk ?_))
  all_goals try (refine Held.mk ?_;(try dsimp only at *);(try simp only[zad,zac,eqD,inR,big,zab,zB] at *))
  all_goals try omega
  ·
    refine zaj.mk ?_
    refine Exists.intro () ?_
    refine And.intro (Leaf.mk ?_) ?_
    · repeat' first|exact True.intro|refine And.intro ?_ ?_
      all_goals try ((change _=_<;>try dsimp only)<;>try with_reducible rfl)
      all_goals try omega
      all_goals (rfl)
    trivial
theorem vB1 (p:zid) (n:Nat) (hn:p.2.1=(n:Int)) (hn3:n≤3):zd1 cfB zlH.toArray (zlH.take 6) (stB0 p) (fun st=>Goal (∃_:Unit,ent st (sI 8 ((n+1:Nat):Int)::sI 11 ((List.length (α:=BndD) p.2.2.1:Nat):Int)::stB0 p)∧True)):=by
  have e:p.2.1+1=((n+1:Nat):Int):=by rw[hn];rfl
  repeat' (intro hzz;(try (rename Two=>hq;cases hq));(try dsimp only at hzz);(try simp only[zad,zac,eqD,inR,big,zab,zB] at hzz);(try (revert hzz;intro _)))
  all_goals try (rename Unit=>hq;clear hq)
  all_goals try ((with_reducible refine Held.mk ?_);(with_reducible (first|refine Frz.mk ?_|refine And.intro (Frz.mk ?_) ?_|refine And.intro ?_ (Frz.mk ?_)));repeat' first|exact True.intro|(change _=_;with_reducible rfl)|refine And.intro ?_ ?_|(with_reducible refine Frz.mk ?_))
  all_goals try (refine Held.mk ?_;(try dsimp only at *);(try simp only[zad,zac,eqD,inR,big,zab,zB] at *))
  · have hn:p.2.1=(n:Int):=hn
    rw[hn];omega
  ·
    refine zaj.mk ?_
    refine Exists.intro () ?_
    refine And.intro (Leaf.mk ?_) ?_
    · repeat' first|exact True.intro|refine And.intro ?_ ?_
      all_goals try ((change _=_<;>try dsimp only)<;>try with_reducible rfl)
      all_goals try omega
      all_goals (first|rfl|exact e)
    trivial
@[reducible] def stR (p:zid) (c:List Int):St:=[.slot 1 (.one (.pd zj8 p)),.slot 3 (.one (.d (.sl I64) c)),.slot 2 (.one (.p 2 0)),.cell 2 0 .u,.cell 2 1 .u,.cell 2 2 .u,.cell 2 3 .u]
@[reducible] def stC (x:zcg):St:=[.slot 2 (.one (.p 2 0)),.cell 2 0 (.d (.sl I64) x.1),.cell 2 1 (.d I64 x.2.1),.cell 2 2 (.d (.sl I64) x.2.2.1),.cell 2 3 (.d I64 x.2.2.2.1)]
@[reducible] def stUp:St:=[.slot 2 (.one (.p 2 0)),.cell 2 0 .u,.cell 2 1 .u,.cell 2 2 .u,.cell 2 3 .u]
theorem vBB (p:zid) (c:List Int) (hg:goodA p.2.2.1 c):vc cfB (par cfB) [] BB 0 (stR p c) (fun e st=>match e with | .normal=>Goal (∃_:Unit,ent st stUp∧(atR p.2.2.1 c).2.1=false) | .ret=>Goal (∃_:Unit,ent st (stC (atR p.2.2.1 c).1)∧(atR p.2.2.1 c).2.1=true) | _=>False):=by
  repeat' (intro hzz;(try (rename Two=>hq;cases hq));(try dsimp only at hzz);(try simp only[zad,zac,eqD,inR,big,zab,zB] at hzz);(try (revert hzz;intro _)))
  all_goals try (rename Unit=>hq;clear hq)
  all_goals try ((with_reducible refine Held.mk ?_);(with_reducible (first|refine Frz.mk ?_|refine And.intro (Frz.mk ?_) ?_|refine And.intro ?_ (Frz.mk ?_)));repeat' first|exact True.intro|(change _=_;with_reducible rfl)|refine And.intro ?_ ?_|(with_reducible refine Frz.mk ?_))
  all_goals try (refine Held.mk ?_;(try dsimp only at *);(try simp only[zad,zac,eqD,inR,big,zab,zB] at *))
  · exact hg
  · rename_i h
    refine zaj.mk ?_
    refine Exists.intro () ?_
    refine And.intro (Leaf.mk ?_) ?_
    · repeat' first|exact True.intro|refine And.intro ?_ ?_
      all_goals try ((change _=_<;>try dsimp only)<;>try with_reducible rfl)
      all_goals try omega
      all_goals (rfl)
    exact h
  · rename_i h
    refine zaj.mk ?_
    refine Exists.intro () ?_
    refine And.intro (Leaf.mk ?_) ?_
    · repeat' first|exact True.intro|refine And.intro ?_ ?_
      all_goals try ((change _=_<;>try dsimp only)<;>try with_reducible rfl)
      all_goals try omega
      all_goals (rfl)
    exact h
theorem zoP {E:Env} {nt:Nat} {st:St} {a:Act} {w:World} {t:Nat} {s:SV} (hR:RelS E nt st a w) (h:Fact.slot t s∈st) (ht:t<1000000):∃η,(∀f∈st,Fact.holds E η a w f)∧zam (vw E η w) η s (a.tmps.getD t undef):=by
  obtain⟨η,g,H⟩:=hR
  have h1:=H _ h
  simp only[Fact.holds] at h1
  rw[zbn ht] at h1
  exact⟨η,H,h1⟩
structure RawB (M:Nat→Prop) (w:World) (p:zid) (b1 b2:Nat) (cur1:Array Value) (e1:Nat) (f1:Nat×Nat) (cur2:Array Value) (V:View):Prop where
  h1:w.heap[b1]?=some (.cells cur1 e1 f1)
  h2:∃e2,w.heap[b2]?=some (.cells cur2 e2 (0,0))
  v1:¬M b1
  n12:b1≠b2
  z1:3≤cur1.size
  rep:Rep V zj8 p (cur1.toList.take 3)
  hV:∀b c,V b c→¬M b∧b≠b2∧∃el f,w.heap[b]?=some (.cells c el f)
  one:∀j,j<4→∃v,cur2[j]?=some v∧v.oneCell'=true
theorem zwL {M:Nat→Prop} {bs:List Nat} {w0 w:World} {a:Act} {p:zid} {st:St} (hR:RelS (EH M bs w0 true) 23 (st++stB0 p) a w):∃b1 b2 cur1 e1 f1 cur2 V,RawB M w p b1 b2 cur1 e1 f1 cur2 V∧a.tmps.getD 1 undef=.pointer (some ⟨b1,0,none⟩)∧a.tmps.getD 2 undef=.pointer (some ⟨b2,0,none⟩)∧w0.heap.size≤b2:=by
  obtain⟨η,g,H⟩:=hR
  have m:∀f,f∈stB0 p→f∈st++stB0 p:=fun f h=>List.mem_append.2 (.inr h)
  have s1:=H (.slot 1 (.one (.p 1 0))) (m _ (by simp))
  have s2:=H (.slot 2 (.one (.p 2 0))) (m _ (by simp))
  have k10:=H (.cell 1 0 (.d I64 p.1)) (m _ (by simp))
  have k11:=H (.cell 1 1 (.d I64 p.2.1)) (m _ (by simp))
  have k12:=H (.cell 1 2 (.d (.sl zi3) p.2.2.1)) (m _ (by simp))
  have k20:=H (.cell 2 0 (.v (.slice none 0 0))) (m _ (by simp))
  have k21:=H (.cell 2 1 (.d I64 0)) (m _ (by simp))
  have k22:=H (.cell 2 2 (.v (.slice none 0 0))) (m _ (by simp))
  have k23:=H (.cell 2 3 (.d I64 0)) (m _ (by simp))
  simp only[Fact.holds,zam,zaH] at s1 s2 k10 k11 k12 k20 k21 k22 k23
  rw[zbn (by decide)] at s1 s2
  obtain⟨b1,c1,y1,s1⟩:=s1
  obtain⟨b2,c2,y2,s2⟩:=s2
  obtain⟨q1,q2,cur1,e1,v10,l1,q3,h1,g10,o10,r10⟩:=k10
  rw[y1] at q3;cases q3
  obtain⟨q1,q2,cur1',e1',v11,_,q3,h1',g11,o11,r11⟩:=k11
  rw[y1] at q3;cases q3
  rw[h1] at h1';cases h1'
  obtain⟨q1,q2,cur1',e1',v12,_,q3,h1',g12,o12,r12⟩:=k12
  rw[y1] at q3;cases q3
  rw[h1] at h1';cases h1'
  obtain⟨q1,q2,cur2,e2,v20,l2,q3,h2,g20,o20,_⟩:=k20
  rw[y2] at q3;cases q3
  obtain⟨q1,q2,cur2',e2',v21,_,q3,h2',g21,o21,_⟩:=k21
  rw[y2] at q3;cases q3
  rw[h2] at h2';cases h2'
  obtain⟨q1,q2,cur2',e2',v22,_,q3,h2',g22,o22,_⟩:=k22
  rw[y2] at q3;cases q3
  rw[h2] at h2';cases h2'
  obtain⟨q1,q2,cur2',e2',v23,_,q3,h2',g23,o23,_⟩:=k23
  rw[y2] at q3;cases q3
  rw[h2] at h2';cases h2'
  have hlow:∀b,(EH M bs w0 true).low b→w0.heap.size≤b:=fun b h=>h.elim id (fun h=>h.elim)
  have hne:b1≠b2:=fun e=>by
    subst e
    have:=g.inj _ _ _ _ _ y1 y2
    cases this
  have hM:∀b,M b→¬w0.heap.size≤b:=fun b hb h=>g.old b hb (.inl h)
  have hsz:3≤cur1.size:=by
    have:=(Array.getElem?_eq_some_iff.1 g12).1;omega
  have e10:v10=.int .i64 p.1:=zi5 r10
  have e11:v11=.int .i64 p.2.1:=zi5 r11
  refine⟨b1,b2,cur1,e1,(0,0),cur2,vw (EH M bs w0 true) η w,⟨h1,⟨e2,h2⟩,fun h=>hM b1 h (hlow b1 l1),hne,hsz,?_,?_,?_⟩,s1,s2,hlow b2 l2⟩
  · obtain ⟨l,hl,⟨hf,_⟩|⟨_,hv⟩⟩:=r12
    · cases hf
    subst hv
    have ht:cur1.toList.take 3=[v10,v11,v12]:=by
      have hl3:(cur1.toList.take 3).length=3:=by rw[List.length_take];simp;omega
      obtain⟨x,y,z,h3⟩:=len3 hl3
      have f:∀j,j<3→(cur1.toList.take 3)[j]?=cur1[j]?:=fun j hj=>by simp[List.getElem?_take,hj]
      have f0:=f 0 (by decide);have f1:=f 1 (by decide);have f2:=f 2 (by decide)
      rw[h3,g10] at f0;rw[h3,g11] at f1;rw[h3,g12] at f2
      simp at f0 f1 f2
      rw[h3,f0,f1,f2]
    rw[ht,e10,e11]
    exact⟨[_],_,rfl,rfl,[_],_,rfl,rfl,[_],[],rfl,hl,rfl⟩
  · intro b c ⟨h3,h4,h5⟩
    exact⟨fun h=>h3 (.inl h),fun e=>h4 2 c2 (by rw[e];exact y2),h5⟩
  · intro j hj
    have:j=0∨j=1∨j=2∨j=3:=by omega
    rcases this with rfl|rfl|rfl|rfl
    · exact⟨_,g20,o20⟩
    · exact⟨_,g21,o21⟩
    · exact⟨_,g22,o22⟩
    · exact⟨_,g23,o23⟩
@[reducible] noncomputable def ER (M:Nat→Prop) (b2:Nat) (w:World):Env:={P:=Tryz.prog,M:=M,mu:=fun _=>False,w0:=w,OB:=OB,x:={mw:=fun b=>b=b2,nd:=true}}
theorem zoM {M:Nat→Prop} {w:World} {p:zid} {b1 b2:Nat} {cur1:Array Value} {e1:Nat} {f1:Nat×Nat} {cur2:Array Value} {V:View} (r:RawB M w p b1 b2 cur1 e1 f1 cur2 V) (hM:∀b,M b→b<w.heap.size) (hM2:¬M b2) {a:Act} (hsz:a.tmps.size=23) (hd:a.defers=[]) (s1:a.tmps.getD 1 undef=.pointer (some ⟨b1,0,none⟩)) (s2:a.tmps.getD 2 undef=.pointer (some ⟨b2,0,none⟩))
    {c:List Int} {ls cap:Nat} {cur:Array Value} (s3:a.tmps.getD 3 undef=.slice (some ⟨ls,0,none⟩) c.length cap) (hls:w.heap[ls]?=some (.cells cur 3 (0,0))) (hrow:rowI c cap cur) (hl2:ls≠b2) (hlM:¬M ls):RelS (ER M b2 w) 23 (stR p c) a w:=by
  obtain⟨e2,h2⟩:=r.h2
  refine ⟨fun k=>if k=2 then some (b2,4) else none,{
    size:=hsz,lim:=by decide,defers:=⟨⟨[],hd,List.nodup_nil,fun _ h=>by cases h⟩,fun _ h=>by cases h⟩,os:=rfl,tape:=rfl,output:=rfl,grow:=Nat.le_refl _,keep:=fun _ _ _ _=>rfl,
    own:=fun k b n hk=>?_,dis:=fun b hb=>hb.elim,inj:=fun k k' b n n' hk hk'=>?_,old:=fun b hb h=>?_,obkeep:=fun b i o _ h=>h.elim,nd:=fun _=>hd},fun f hf=>?_⟩
  · split at hk
    · cases hk;exact⟨zah h2,.inl (.inr rfl)⟩
    · cases hk
  · split at hk
    · split at hk'
      · omega
      · cases hk'
    · cases hk
  · rcases h with h|h
    · exact absurd (hM b hb) (Nat.not_lt_of_le h)
    · have h:b=b2:=h
      subst h;exact hM2 hb
  · have hv:∀b c el f,¬M b→b≠b2→w.heap[b]?=some (.cells c el f)→vw (ER M b2 w) (fun k=>if k=2 then some (b2,4) else none) w b c:=fun b c el f hm hn hb=>⟨fun h=>h.elim hm (fun⟨_,h⟩=>(by cases h)),(fun k n hk=>by
      have hk:(if k=2 then some (b2,4) else none)=some (b,n):=hk
      split at hk
      · cases hk;exact hn rfl
      · cases hk),el,f,hb⟩
    have hcell:∀j,j<4→Fact.holds (ER M b2 w) (fun k=>if k=2 then some (b2,4) else none) a w (.cell 2 j .u):=fun j hj=>by
      obtain⟨v,hv1,hv2⟩:=r.one j hj
      exact⟨b2,4,cur2,e2,v,.inr rfl,rfl,h2,hv1,hv2,trivial⟩
    simp only[stR,List.mem_cons,List.not_mem_nil,or_false] at hf
    rcases hf with rfl|rfl|rfl|rfl|rfl|rfl|rfl
    · simp only[Fact.holds,zam,zaH];rw[zbn (by decide),s1]
      refine⟨⟨b1,0,none⟩,cur1,rfl,rfl,hv b1 cur1 e1 f1 r.v1 r.n12 r.h1,by show 0+3≤cur1.size;have:=r.z1;omega,?_⟩
      show Rep _ zj8 p ((cur1.toList.drop 0).take 3)
      rw[List.drop_zero]
      exact Rep.mono (fun b c h=>by obtain⟨q1,q2,el,f,q3⟩:=r.hV b c h;exact hv b c el f q1 q2 q3) _ _ _ r.rep
    · simp only[Fact.holds,zam,zaH];rw[zbn (by decide),s3]
      refine⟨_,⟨some ⟨ls,0,none⟩,cap,rfl,hrow.2.1,hrow.2.2.1,(fun h=>(by cases h)),fun ad had hne=>?_⟩,.inr ⟨rfl,rfl⟩⟩
      cases had
      have hin:=zoK (V:=vw (ER M b2 w) (fun k=>if k=2 then some (b2,4) else none) w) hrow
      refine⟨rfl,cur,hv ls cur 3 (0,0) hlM hl2 hls,by show 0+c.length*1≤cur.size;have h1:=hrow.1;have h2:=hrow.2.1;omega,fun i x hx=>?_⟩
      have:=hin.2.2.2 i x hx
      show Rep _ I64 x ((cur.toList.drop (0+i*1)).take 1)
      rw[Nat.zero_add];exact this
    · simp only[Fact.holds,zam,zaH];rw[zbn (by decide),s2]
      exact⟨b2,4,rfl,rfl⟩
    · exact hcell 0 (by decide)
    · exact hcell 1 (by decide)
    · exact hcell 2 (by decide)
    · exact hcell 3 (by decide)
theorem zvq {b:Code} {st0 target:St} {a:Act} {M:Nat→Prop} {bs:List Nat} {w0 w:World} {Q:Exit→Act→World→Prop} (hR:RelS (EH M bs w0 true) 23 st0 a w) (hd:zdf 23 b=true) (hnr:za7 b=true)
    (hvc:vc cfB (par cfB) [] b 0 st0 (fun e st=>match e with | .normal=>Goal (∃s:Unit,ent st target∧True) | .ret=>False | _=>False))
    (hQ:∀a' w',RelS (EH M bs w0 true) 23 target a' w'→Q .normal a' w'):b.wpIn (Fw none) 0 Tryz.prog Q a w:=by
  refine wpIn_mono (zbd znT (zcm mixed znT) b 0 st0 _ a w (EH M bs w0 true) none rfl rfl (.inr hnr) hd hvc hR) ?_
  rintro e a' w' ⟨⟨xe,st',h1,h2,h3⟩,hag⟩
  subst h1
  cases xe with
  | normal=>
    obtain⟨_,h4,h5⟩:=h2.out
    exact hQ a' w' (zbL h4 h3)
  | exit id=>exact h2.elim
  | ret=>exact h2.elim
theorem ztr {ops:Array Oper} {l:List Oper} {st0 target:St} {a:Act} {M:Nat→Prop} {bs:List Nat} {w0 w:World} {Q:Exit→Act→World→Prop} (hR:RelS (EH M bs w0 true) 23 st0 a w)
    (hsub:∀o∈l,o∈ops.toList) (hdst:∀o∈ops.toList,∀t,o.dst=some t→t<23)
    (hvc:zd1 cfB ops l st0 (fun st=>Goal (∃s:Unit,ent st target∧True)))
    (hQ:∀a' w',RelS (EH M bs w0 true) 23 target a' w'→Q .normal a' w'):wpListIn (Fw none) 0 Tryz.prog ops Q l a w:=by
  refine zek ?_ l a w (zcl (E:=EH M bs w0 true) (c:=cfB) (ro:=none) (q:=0) znT (ops:=ops) (Q:=fun e a' w'=>e=.normal∧RelS (EH M bs w0 true) 23 target a' w') hdst l hsub st0 _ a w hvc hR ?_)
  · rintro e a' w' ⟨rfl,h1⟩
    exact hQ a' w' h1
  · intro st' a' w' h1 h2
    obtain⟨_,h4,_⟩:=h1.out
    exact⟨rfl,zbL h4 h2⟩
theorem zwq (x:zcg):vc cfB (par cfB) [] .ret 0 (stC x) (fun e st=>match e with | .ret | .normal=>zgE cfB Tryz.f143.results.toList zlw.res (x,()) st | _=>False):=by
  repeat' (intro hzz;(try (rename Two=>hq;cases hq));(try dsimp only at hzz);(try simp only[zad,zac,eqD,inR,big,zab,zB] at hzz);(try (revert hzz;intro _)))
  all_goals try (rename Unit=>hq;clear hq)
  all_goals try ((with_reducible refine Held.mk ?_);(with_reducible (first|refine Frz.mk ?_|refine And.intro (Frz.mk ?_) ?_|refine And.intro ?_ (Frz.mk ?_)));repeat' first|exact True.intro|(change _=_;with_reducible rfl)|refine And.intro ?_ ?_|(with_reducible refine Frz.mk ?_))
  all_goals try (refine Held.mk ?_;(try dsimp only at *);(try simp only[zad,zac,eqD,inR,big,zab,zB] at *))
  all_goals first|exact⟨rfl,rfl,rfl,rfl⟩|trace_state
theorem vRet (x:zcg):zgE cfB Tryz.f143.results.toList zlw.res (x,()) (stC x):=zwq x
def CB (M:Nat→Prop) (b2:Nat) (x:zcg) (w:World):Prop:=
  ∃ cur el v0 v2,w.heap[b2]?=some (.cells cur el (0,0))∧cur[0]?=some v0∧RepV (fun b c=>¬M b∧b≠b2∧∃el f,w.heap[b]?=some (.cells c el f)) (.sl I64) x.1 v0∧cur[1]?=some (.int .i64 x.2.1)∧
    cur[2]?=some v2∧RepV (fun b c=>¬M b∧b≠b2∧∃el f,w.heap[b]?=some (.cells c el f)) (.sl I64) x.2.2.1 v2∧cur[3]?=some (.int .i64 x.2.2.2.1)
theorem zxg {M:Nat→Prop} {b2:Nat} {w w':World} {a:Act} {x:zcg} (hR:RelS (ER M b2 w) 23 (stC x) a w') (h2:a.tmps.getD 2 undef=.pointer (some ⟨b2,0,none⟩)):CB M b2 x w':=by
  obtain⟨η,g,H⟩:=hR
  have s2:=H (.slot 2 (.one (.p 2 0))) (by simp)
  have k0:=H (.cell 2 0 (.d (.sl I64) x.1)) (by simp)
  have k1:=H (.cell 2 1 (.d I64 x.2.1)) (by simp)
  have k2:=H (.cell 2 2 (.d (.sl I64) x.2.2.1)) (by simp)
  have k3:=H (.cell 2 3 (.d I64 x.2.2.2.1)) (by simp)
  simp only[Fact.holds,zam,zaH] at s2 k0 k1 k2 k3
  rw[zbn (by decide),h2] at s2
  obtain⟨b,c,y,s2⟩:=s2
  have hb:b2=b:=by
    have:=s2;simp at this;exact this
  subst hb
  obtain⟨q1,q2,cur,el,v0,_,q3,h,g0,_,r0⟩:=k0
  rw[y] at q3;cases q3
  obtain⟨q1,q2,cur',el',v1,_,q3,h',g1,_,r1⟩:=k1
  rw[y] at q3;cases q3
  rw[h] at h';cases h'
  obtain⟨q1,q2,cur',el',v2,_,q3,h',g2,_,r2⟩:=k2
  rw[y] at q3;cases q3
  rw[h] at h';cases h'
  obtain⟨q1,q2,cur',el',v3,_,q3,h',g3,_,r3⟩:=k3
  rw[y] at q3;cases q3
  rw[h] at h';cases h'
  have hv:∀b' c',vw (ER M b2 w) η w' b' c'→¬M b'∧b'≠b2∧∃el f,w'.heap[b']?=some (.cells c' el f):=fun b' c' ⟨h1,h2,h3⟩=>⟨fun hm=>h1 (.inl hm),fun e=>h2 2 c (by rw[e];exact y),h3⟩
  rw[zi5 r1] at g1
  rw[zi5 r3] at g3
  exact⟨cur,el,v0,v2,h,g0,r0.mono hv,g1,g2,r2.mono hv,g3⟩
theorem zxb {M:Nat→Prop} {b2:Nat} {w w':World} {a:Act} (hR:RelS (ER M b2 w) 23 stUp a w') (h2:a.tmps.getD 2 undef=.pointer (some ⟨b2,0,none⟩)):∃cur el,w'.heap[b2]?=some (.cells cur el (0,0))∧∀j,j<4→∃v,cur[j]?=some v∧v.oneCell'=true:=by
  obtain⟨η,g,H⟩:=hR
  have s2:=H (.slot 2 (.one (.p 2 0))) (by simp)
  have k0:=H (.cell 2 0 .u) (by simp)
  have k1:=H (.cell 2 1 .u) (by simp)
  have k2:=H (.cell 2 2 .u) (by simp)
  have k3:=H (.cell 2 3 .u) (by simp)
  simp only[Fact.holds,zam,zaH] at s2 k0 k1 k2 k3
  rw[zbn (by decide),h2] at s2
  obtain⟨b,c,y,s2⟩:=s2
  have hb:b2=b:=by
    have:=s2;simp at this;exact this
  subst hb
  obtain⟨q1,q2,cur,el,v0,_,q3,h,g0,r0,_⟩:=k0
  rw[y] at q3;cases q3
  obtain⟨q1,q2,cur',el',v1,_,q3,h',g1,r1,_⟩:=k1
  rw[y] at q3;cases q3
  rw[h] at h';cases h'
  obtain⟨q1,q2,cur',el',v2,_,q3,h',g2,r2,_⟩:=k2
  rw[y] at q3;cases q3
  rw[h] at h';cases h'
  obtain⟨q1,q2,cur',el',v3,_,q3,h',g3,r3,_⟩:=k3
  rw[y] at q3;cases q3
  rw[h] at h';cases h'
  refine⟨cur,el,h,fun j hj=>?_⟩
  have:j=0∨j=1∨j=2∨j=3:=by omega
  rcases this with rfl|rfl|rfl|rfl
  · exact⟨_,g0,r0⟩
  · exact⟨_,g1,r1⟩
  · exact⟨_,g2,r2⟩
  · exact⟨_,g3,r3⟩
theorem zsy {M:Nat→Prop} {b2 l:Nat} {x:zcg} {w:World} {o:Obj} {r:Loop} (h:CB M b2 x w) (hl:w.heap[l]?=some (.loop r)):CB M b2 x (w.putObj l o):=by
  obtain⟨cur,el,v0,v2,h1,h2,h3,h4,h5,h6,h7⟩:=h
  have hne:∀b c el f,w.heap[b]?=some (.cells c el f)→b≠l:=fun b c el f hb e=>by subst e;rw[hl] at hb;cases hb
  have hv:∀b c,(¬M b∧b≠b2∧∃el f,w.heap[b]?=some (.cells c el f))→¬M b∧b≠b2∧∃el f,(w.putObj l o).heap[b]?=some (.cells c el f):=fun b c ⟨q1,q2,el,f,q3⟩=>⟨q1,q2,el,f,(World.putObj_heap_other (hne b c el f q3)).trans q3⟩
  exact⟨cur,el,v0,v2,(World.putObj_heap_other (hne b2 cur el _ h1)).trans h1,h2,h3.mono hv,h4,h5,h6.mono hv,h7⟩
theorem zpQ {M:Nat→Prop} {bs:List Nat} {w0 w:World} {b2 D:Nat} {x:zcg} {a:Act} (hM:∀b,M b→b<w0.heap.size) (hbs:∀b,b∈bs→b<w0.heap.size) (hobk:∀b i o,b<w0.heap.size→b∈bs→w0.heap[b]?=some o→OB i o→∃o',w.heap[b]?=some o'∧OB i o') (hsz:a.tmps.size=23) (hd:a.defers=[mkD D]) (s2:a.tmps.getD 2 undef=.pointer (some ⟨b2,0,none⟩)) (hb2:w0.heap.size≤b2) (hD:w0.heap.size≤D) (hDo:w.heap[D]?=some (.deferred (some [])))
    (hos:w.os=w0.os) (htape:w.tape=w0.tape) (hout:w.output=w0.output) (hsize:w0.heap.size≤w.heap.size) (hkeep:∀b,b<w0.heap.size→b ∉ bs→w.heap[b]?=w0.heap[b]?) (hc:CB M b2 x w):RelS (EH M bs w0 false) 23 (stC x) a w:=by
  obtain⟨cur,el,v0,v2,h1,h2,h3,h4,h5,h6,h7⟩:=hc
  have hDb:D≠b2:=fun e=>by subst e;rw[h1] at hDo;cases hDo
  refine ⟨fun k=>if k=2 then some (b2,4) else none,{
    size:=hsz,lim:=by decide,defers:=⟨⟨[D],hd,by simp,fun D' hD'=>?_⟩,fun _ h=>by cases h⟩,os:=hos,tape:=htape,output:=hout,grow:=hsize,keep:=fun b hb hm _=>hkeep b hb hm,
    own:=fun k b n hk=>?_,dis:=fun b hb h=>?_,inj:=fun k k' b n n' hk hk'=>?_,old:=fun b hb h=>?_,obkeep:=fun b i o hb hm h1 h2=>hobk b i o hb hm h1 h2,nd:=fun h=>by cases h},fun f hf=>?_⟩
  · have e:D'=D:=List.mem_singleton.1 hD'
    subst e
    refine⟨hD,hDo,fun k c hk=>?_⟩
    have hk:(if k=2 then some (b2,4) else none)=some (D',c):=hk
    split at hk
    · cases hk;exact hDb rfl
    · cases hk
  · have hk:(if k=2 then some (b2,4) else none)=some (b,n):=hk
    split at hk
    · cases hk;exact⟨zah h1,.inl (.inl hb2)⟩
    · cases hk
  · exact h.elim (fun h=>absurd (hbs b hb) (Nat.not_lt_of_le h)) (fun h=>h)
  · have hk:(if k=2 then some (b2,4) else none)=some (b,n):=hk
    have hk':(if k'=2 then some (b2,4) else none)=some (b,n'):=hk'
    split at hk
    · split at hk'
      · omega
      · cases hk'
    · cases hk
  · exact h.elim (fun h=>absurd (hM b hb) (Nat.not_lt_of_le h)) (fun h=>h)
  · have hv:∀b c,(¬M b∧b≠b2∧∃el f,w.heap[b]?=some (.cells c el f))→vw (EH M bs w0 false) (fun k=>if k=2 then some (b2,4) else none) w b c:=fun b c ⟨q1,q2,q3⟩=>⟨fun h=>h.elim q1 (fun⟨_,h⟩=>(by cases h)),(fun k n hk=>by
      have hk:(if k=2 then some (b2,4) else none)=some (b,n):=hk
      split at hk
      · cases hk;exact q2 rfl
      · cases hk),q3⟩
    have hone:∀(t:Ty) (y:t.Den) (v:Value) (V:View),t.agg=false→RepV V t y v→v.oneCell'=true:=fun t y v V ht ⟨l,q1,q2⟩=>by
      rcases q2 with ⟨h,_⟩|⟨_,h⟩
      · rw[ht] at h;cases h
      · subst h;exact Rep.oneCell _ _ _ q1 v (by simp)
    simp only[stC,List.mem_cons,List.not_mem_nil,or_false] at hf
    rcases hf with rfl|rfl|rfl|rfl|rfl
    · simp only[Fact.holds,zam,zaH];rw[zbn (by decide),s2]
      exact⟨b2,4,rfl,rfl⟩
    · exact⟨b2,4,cur,el,v0,.inl hb2,rfl,h1,h2,hone _ _ _ _ rfl h3,h3.mono hv⟩
    · exact⟨b2,4,cur,el,_,.inl hb2,rfl,h1,h4,rfl,RepV.mk1 rfl rfl⟩
    · exact⟨b2,4,cur,el,v2,.inl hb2,rfl,h1,h5,hone _ _ _ _ rfl h6,h6.mono hv⟩
    · exact⟨b2,4,cur,el,_,.inl hb2,rfl,h1,h7,rfl,RepV.mk1 rfl rfl⟩
structure JB (w1:World) (base l b2:Nat) (o:Obj) (W:World):Prop where
  os:W.os=w1.os
  tape:W.tape=w1.tape
  output:W.output=w1.output
  size:base≤W.heap.size
  keep:∀b,b<base→b≠l→b≠b2→W.heap[b]?=w1.heap[b]?
  loop:W.heap[l]?=some o
  two:∃cur el,W.heap[b2]?=some (.cells cur el (0,0))∧∀j,j<4→∃v,cur[j]?=some v∧v.oneCell'=true
structure JX (M:Nat→Prop) (w1:World) (base l b2:Nat) (o:Obj) (x:zcg) (W:World):Prop where
  os:W.os=w1.os
  tape:W.tape=w1.tape
  output:W.output=w1.output
  size:base≤W.heap.size
  keep:∀b,b<base→b≠l→b≠b2→W.heap[b]?=w1.heap[b]?
  loop:W.heap[l]?=some o
  cb:CB M b2 x W
theorem zqt {M:Nat→Prop} {w0s:Nat} {w1:World} {p:zid} {b1 b2:Nat} {cur1:Array Value} {e1:Nat} {f1:Nat×Nat} {cur2:Array Value} {V:View} (rb:RawB M w1 p b1 b2 cur1 e1 f1 cur2 V) (hM:∀b,M b→b<w0s) (hb2:w0s≤b2) {base l D:Nat} (hl:l<base) (hlb:l≠b1∧l≠b2) (hw0:w0s≤base) (hbase:base=w1.heap.size)
    {fn:FuncId} {a3:Act} (hsz:a3.tmps.size=23) (s1:a3.tmps.getD 1 undef=.pointer (some ⟨b1,0,none⟩)) (s2:a3.tmps.getD 2 undef=.pointer (some ⟨b2,0,none⟩)) (rc:LoopState→Option Code→Loop) (hrc:rc=fun st pe=>{state:=st,pending:=pe,fn,tmps:=a3.tmps,params:=#[13],assign:=B2,body:=BB,defers:=D})
    (hl1:∃o,w1.heap[l]?=some (.loop o)) {x:zcg}
    {c:List Int} {rest:List (List Int)} {W:World} {ls cap:Nat} {cur:Array Value} (hJ:JB w1 base l b2 (.loop (rc .ready none)) W) (hx:zgH p.2.2.1 (c::rest)=some x) (hg:goodA p.2.2.1 c) (hls:base≤ls) (hcur:W.heap[ls]?=some (.cells cur 3 (0,0))) (hrow:rowI c cap cur) :
    YieldAt (Fw none) 0 Tryz.prog l #[.slice (some ⟨ls,0,none⟩) c.length cap] W fun e w'=>(∀b,base≤b→b<W.heap.size→w'.heap[b]?=W.heap[b]?)∧((e=.returned (.bool true)∧(JB w1 base l b2 (.loop (rc .ready none)) w'∧zgH p.2.2.1 rest=some x))∨(e=.returned (.bool false)∧JX M w1 base l b2 (.loop (rc .done (some .ret))) x w')):=by
  obtain⟨sl,hsl⟩:∃sl,sl=Value.slice (some ⟨ls,0,none⟩) c.length cap:=⟨_,rfl⟩
  have hloop:=hJ.loop
  have hy:=run_yield (P:=Tryz.prog) (args:=#[sl]) hloop (by rw[hrc];rfl)
  have htm:((rc .ready none).params.zip #[sl]).foldl (fun tmps (t,a)=>tmps.setIfInBounds t a) (rc .ready none).tmps=a3.tmps.setIfInBounds 13 sl:=by rw[hrc];simp
  rw[htm] at hy
  rw[←hsl]
  have e1':(rc .ready none).fn=fn:=by rw[hrc]
  have e2':(rc .ready none).assign=B2:=by rw[hrc]
  have e3':(rc .ready none).body=BB:=by rw[hrc]
  rw[e1',e2',e3'] at hy
  refine⟨fn,_,B2,BB,hy,roundIn_of_wpIn trivial ?_⟩
  obtain⟨a4,ha4⟩:∃a4:Act,a4 = {tmps:=a3.tmps.setIfInBounds 13 sl,defers:=[]}:=⟨_,rfl⟩
  rw[←ha4]
  have hap:a4=({tmps:=a3.tmps,defers:=[]}:Act).put (some 13) sl:=ha4
  have z4:a4.tmps.size=23:=by rw[hap,zai];exact hsz
  have g13:a4.tmps.getD 13 undef=sl:=by rw[hap];exact zae (by show 13<a3.tmps.size;omega)
  have g1:a4.tmps.getD 1 undef=.pointer (some ⟨b1,0,none⟩):=by rw[hap];exact (zaa (by decide)).trans s1
  have g2:a4.tmps.getD 2 undef=.pointer (some ⟨b2,0,none⟩):=by rw[hap];exact (zaa (by decide)).trans s2
  have d4:a4.defers=[]:=by rw[ha4]
  clear ha4 hap
  refine wpIn_region_list ?_
  have hstep:∀ {o:Oper} {ops:Array Oper} {rest:List Oper} {Q:Exit→Act→World→Prop},o.guard=none→o.wpIn (Fw (some l)) 0 Tryz.prog a4 W (wpListIn (Fw (some l)) 0 Tryz.prog ops Q rest) Q→wpListIn (Fw (some l)) 0 Tryz.prog ops Q (o::rest) a4 W:=by
    intro o ops rest Q hg h
    have hw:Region.wanted o (yielded ops a4.tmps)=true:=by simp[Region.wanted,hg]
    simp only[wpListIn,hw,if_true]
    exact h
  refine hstep rfl (zat (r:=.ok (.value sl) W) (by intro d h;cases h) (asR a4 W _ (.tmp 13) rfl g13) ?_)
  obtain⟨a5,ha5⟩:∃a5,a5=a4.put (some 3) sl:=⟨_,rfl⟩
  have z5:a5.tmps.size=23:=by rw[ha5,zai];exact z4
  have d5:a5.defers=[]:=by rw[ha5,zag];exact d4
  have k1:a5.tmps.getD 1 undef=.pointer (some ⟨b1,0,none⟩):=by rw[ha5];exact (zaa (by decide)).trans g1
  have k2:a5.tmps.getD 2 undef=.pointer (some ⟨b2,0,none⟩):=by rw[ha5];exact (zaa (by decide)).trans g2
  have k3:a5.tmps.getD 3 undef=sl:=by rw[ha5];exact zae (by rw[z4];decide)
  refine (show Exit.then (fun a₁ w₁=>∃w₂,(Instr.beginRound l).run Tryz.prog w₁=.ok () w₂∧BB.wpIn (Fw (some l)) 0 Tryz.prog (roundPost Tryz.prog l _) a₁ w₂) (fun _ _ _=>False) .normal (a4.put (some 3) sl) W from ?_)
  rw[←ha5]
  refine⟨_,run_beginRound hloop (by rw[hrc]),?_⟩
  obtain⟨W2,hW2⟩:∃W2,W2=W.putObj l (.loop {rc .ready none with state:=.busy}):=⟨_,rfl⟩
  rw[←hW2]
  have s2z:W2.heap.size=W.heap.size:=by rw[hW2];exact World.putObj_size
  have o2:∀b,b≠l→W2.heap[b]?=W.heap[b]?:=fun b h=>by rw[hW2];exact World.putObj_heap_other h
  have l2:W2.heap[l]?=some (.loop {rc .ready none with state:=.busy}):=by rw[hW2];exact World.putObj_heap_same (zah hloop)
  have old:∀b,b<base→b≠l→b≠b2→W2.heap[b]?=w1.heap[b]?:=fun b h1 h2 h3=>(o2 b h2).trans (hJ.keep b h1 h2 h3)
  have notl:∀b c el f,w1.heap[b]?=some (.cells c el f)→b≠l:=fun b c el f h e=>by
    obtain⟨o,ho⟩:=hl1
    subst e;rw[ho] at h;cases h
  obtain⟨e2,hb2h⟩:=rb.h2
  have b2b:b2<base:=by rw[hbase];exact zah hb2h
  obtain⟨curU,elU,hU,hU4⟩:=hJ.two
  have rb2:RawB M W2 p b1 b2 cur1 e1 f1 curU V:=⟨(old b1 (by rw[hbase];exact zah rb.h1) hlb.1.symm rb.n12).trans rb.h1,⟨elU,(o2 b2 hlb.2.symm).trans hU⟩,rb.v1,rb.n12,rb.z1,rb.rep,fun b c h=>by
    obtain⟨q1,q2,el,f,q3⟩:=rb.hV b c h
    exact⟨q1,q2,el,f,(old b (by rw[hbase];exact zah q3) (notl b c el f q3) q2).trans q3⟩,hU4⟩
  have hrel:=zoM rb2 (fun b hb=>by have:=hM b hb;have:=hJ.size;omega) (fun h=>by have:=hM b2 h;omega) z5 d5 k1 k2 (c:=c) (ls:=ls) (cap:=cap) (cur:=cur) (k3.trans hsl) ((o2 ls (by omega)).trans hcur) hrow (by omega) (fun h=>by have:=hM ls h;omega)
  refine wpIn_mono (zbd znT (zcm mixed znT) BB 0 (stR p c) _ a5 W2 (ER M b2 W2) (some l) rfl rfl (.inr (by kernel_rfl)) (by kernel_rfl) (vBB p c hg) hrel) ?_
  rintro e a6 W3 ⟨⟨xe,st',q1,q2,q3⟩,hag⟩
  subst q1
  have hkeep:∀b,b<W2.heap.size→b≠b2→W3.heap[b]?=W2.heap[b]?:=fun b h1 h2=>by
    obtain⟨η,g,_⟩:=q3
    exact g.keep b h1 (fun h=>h) h2
  have hs3:W2.heap.size≤W3.heap.size:=by obtain⟨η,g,_⟩:=q3;exact g.grow
  have hst:W3.os=W2.os∧W3.tape=W2.tape∧W3.output=W2.output:=by obtain⟨η,g,_⟩:=q3;exact⟨g.os,g.tape,g.output⟩
  have hw2:W2.os=W.os∧W2.tape=W.tape∧W2.output=W.output:=by rw[hW2];exact⟨rfl,rfl,rfl⟩
  have l3:W3.heap[l]?=some (.loop {rc .ready none with state:=.busy}):=(hkeep l (by rw[s2z];have:=hJ.size;omega) hlb.2).trans l2
  have hJs:=hJ.size
  have up:∀(o:Obj) b,base≤b→b<W.heap.size→(W3.putObj l o).heap[b]?=W.heap[b]?:=fun o b h1 h2=>(World.putObj_heap_other (by omega)).trans ((hkeep b (by omega) (by omega)).trans (o2 b (by omega)))
  cases xe with
  | normal=>
    obtain⟨_,hent,hat⟩:=q2.out
    obtain⟨curN,elN,hN,hN4⟩:=zxb (zbL hent q3) ((hag (by intro h;cases h) 2 (by decide)).trans k2)
    refine⟨_,_,run_endRound none l3,up _,.inl ⟨rfl,?_,?_⟩⟩
    · have e4:(Obj.loop {({rc .ready none with state:=.busy}:Loop) with state:=if (none:Option Code).isNone=true then .ready else .done,pending:=none})=.loop (rc .ready none):=by rw[hrc];rfl
      refine⟨hst.1.trans (hw2.1.trans hJ.os),hst.2.1.trans (hw2.2.1.trans hJ.tape),hst.2.2.trans (hw2.2.2.trans hJ.output),?_,fun b h1 h2 h3=>?_,?_,curN,elN,(World.putObj_heap_other hlb.2.symm).trans hN,hN4⟩
      · rw[World.putObj_size];omega
      · exact (World.putObj_heap_other h2).trans ((hkeep b (by omega) h3).trans (old b h1 h2 h3))
      · refine (World.putObj_heap_same (zah l3)).trans ?_
        exact congrArg some e4
    · simp only[zgH,hat] at hx
      simpa using hx
  | exit id=>exact q2.elim
  | ret=>
    obtain⟨_,hent,hat⟩:=q2.out
    have hcb:=zxg (zbL hent q3) ((hag (by intro h;cases h) 2 (by decide)).trans k2)
    refine⟨_,_,run_endRound (some .ret) l3,up _,.inr ⟨rfl,?_⟩⟩
    have hx:(atR p.2.2.1 c).1=x:=by
      simp only[zgH,hat,if_true] at hx
      exact Option.some.inj hx
    rw[hx] at hcb
    have e4:(Obj.loop {({rc .ready none with state:=.busy}:Loop) with state:=if (some Code.ret).isNone=true then .ready else .done,pending:=some .ret})=.loop (rc .done (some .ret)):=by rw[hrc];rfl
    refine⟨hst.1.trans (hw2.1.trans hJ.os),hst.2.1.trans (hw2.2.1.trans hJ.tape),hst.2.2.trans (hw2.2.2.trans hJ.output),?_,fun b h1 h2 h3=>?_,?_,?_⟩
    · rw[World.putObj_size];omega
    · exact (World.putObj_heap_other h2).trans ((hkeep b (by omega) h3).trans (old b h1 h2 h3))
    · exact (World.putObj_heap_same (zah l3)).trans (congrArg some e4)
    · exact zsy hcb l3
theorem zpS:zc9 Tryz.prog 178:=⟨Tryz.f178,Tryz.func178,by kernel_rfl,by kernel_rfl⟩
theorem zpT:zc9 Tryz.prog 163:=⟨Tryz.f163,Tryz.func163,by kernel_rfl,by kernel_rfl⟩
theorem zw1:Ok 143 zlw:=by
  refine⟨zpO (c:=cfB) znT Tryz.func143 zt3 rfl (by decide) (by decide) (by decide) rfl ?_,Tryz.f143,Tryz.func143,by kernel_rfl,by kernel_rfl⟩
  rintro⟨(p:zid),_⟩ ⟨n,(hn:p.2.1=(n:Int)),hn3,(hsome:(zlj p.2.2.1 n).isSome=true),(hbl:List.length (α:=BndD) p.2.2.1≤100),(hgood:∀c∈zb9 (n+1) 0 (List.length (α:=BndD) p.2.2.1),goodA p.2.2.1 c)⟩ M bs w0 a hd hR
  obtain⟨x,hx⟩:=Option.isSome_iff_exists.1 hsome
  have hfin:zlw.f (p,())=(x,()):=by
    show ((zlj p.2.2.1 p.2.1.toNat).getD zgf,())=(x,())
    rw[hn,show ((n:Int)).toNat=n from rfl,hx];rfl
  have hR0:=hR
  have hMlt:∀b,M b→b<w0.heap.size:=fun b hb=>by
    obtain⟨η,g,_⟩:=hR0
    exact Nat.lt_of_not_le fun h=>g.old b hb (.inl h)
  have hbslt:∀b,b∈bs→b<w0.heap.size:=fun b hb=>by
    obtain⟨η,g,_⟩:=hR0
    exact Nat.lt_of_not_le fun h=>g.dis b hb (.inl h)
  have hR:RelS (EH M bs w0 true) 23 [.slot 0 (.one (.d zj8 p))] a w0:=zvB hR hd
  have evt:∀(a:Act) (t:Nat),a.eval (.tmp t)=a.tmps.getD t undef:=fun a t=>rfl
  refine wpIn_seq (zvq hR (by kernel_rfl) (by kernel_rfl) (vB0 p) fun a1 w1 hR1=>?_)
  refine wpIn_seq (wpIn_seq (wpIn_region_list ?_))
  change wpListIn (Fw none) 0 Tryz.prog _ _ (zlH.take 6++zlH.drop 6) a1 w1
  refine zgM _ _ _ (ztr hR1 ?_ ?_ (vB1 p n hn hn3) fun a2 w2 hR2=>?_)
  · exact fun o ho=>by
      change o∈zlH
      exact List.mem_of_mem_take ho
  · intro o ho t ht
    change o∈zlH at ho
    have hall:(zlH.all fun o=>match o.dst with|some t=>Nat.blt t 23|none=>true)=true:=by kernel_rfl
    have:=List.all_eq_true.1 hall o ho
    rw[ht] at this
    exact Nat.le_of_ble_eq_true this
  have hR2':RelS (EH M bs w0 true) 23 ([sI 8 ((n+1:Nat):Int),sI 11 ((List.length (α:=BndD) p.2.2.1:Nat):Int)]++stB0 p) a2 w2:=hR2
  obtain⟨b1,b2,cur1,e1,f1,cur2,V,rb,s1,s2,hb2⟩:=zwL hR2'
  have z2:a2.tmps.size=23:=by obtain⟨η,g,_⟩:=hR2;exact g.size
  have d2:a2.defers=[]:=(zpf hR2).2
  have g8:a2.tmps.getD 8 undef=.int .i64 ((n+1:Nat):Int):=by
    obtain⟨η,H,h⟩:=zoP hR2 (t:=8) (s:=.one (.d I64 ((n+1:Nat):Int))) (by simp) (by decide)
    exact zi5 h
  have g11:a2.tmps.getD 11 undef=.int .i64 ((List.length (α:=BndD) p.2.2.1:Nat):Int):=by
    obtain⟨η,H,h⟩:=zoP hR2 (t:=11) (s:=.one (.d I64 ((List.length (α:=BndD) p.2.2.1:Nat):Int))) (by simp) (by decide)
    exact zi5 h
  obtain ⟨gos,gtape,gout,ggrow,gkeep,gobk⟩:w2.os=w0.os∧w2.tape=w0.tape∧w2.output=w0.output∧w0.heap.size≤w2.heap.size∧(∀b,b<w0.heap.size→b ∉ bs→w2.heap[b]?=w0.heap[b]?)∧(∀b i o,b<w0.heap.size→b∈bs→w0.heap[b]?=some o→OB i o→∃o',w2.heap[b]?=some o'∧OB i o'):=by
    obtain⟨η,g,_⟩:=hR2
    exact⟨g.os,g.tape,g.output,g.grow,fun b h1 h2=>g.keep b h1 h2 (fun h=>h),fun b i o h1 h2 h3 h4=>g.obkeep b i o h1 h2 h3 h4⟩
  -- the call of chosen
  refine zak rfl (zqW (f:=163) (args:=#[.int .i64 ((n+1:Nat):Int),.int .i64 ((List.length (α:=BndD) p.2.2.1:Nat):Int)]) (by intro d h;cases h) ?_ ?_)
  · obtain⟨fn,e1,e2,e3⟩:=zpT
    have e2':¬fn.name = "runtime.NumGoroutine" := by simpa using e2
    have e3':¬fn.body=none:=by intro hn;rw[hn] at e3;cases e3
    have evf:∀(a:Act) (t:Nat),a.eval (.func t)=.func (.func t) #[] #[]:=fun a t=>rfl
    simp[execOp,resolve,Deferred.ofValue,evt,evf,g8,g11,invoke,callFunc,e1,e2',e3']
  refine (zld _ _ w2).mono ?_
  rintro e w3 ⟨rfl,hw3⟩
  refine⟨_,rfl,zaP ?_⟩
  obtain⟨bc,hbc⟩:∃bc,bc=w2.heap.size:=⟨_,rfl⟩
  rw[←hbc]
  obtain⟨cv,hcv⟩:∃cv:Array Value,cv = #[Value.pointer (some ⟨bc,0,none⟩),Value.pointer (some ⟨bc+1,0,none⟩)]:=⟨_,rfl⟩
  rw[←hcv]
  obtain⟨a3,ha3⟩:∃a3,a3=a2.put (some 12) (.func (.func 178) #[] cv):=⟨_,rfl⟩
  have z3:a3.tmps.size=23:=by rw[ha3,zai];exact z2
  have d3:a3.defers=[]:=by rw[ha3,zag];exact d2
  have t1:a3.tmps.getD 1 undef=.pointer (some ⟨b1,0,none⟩):=by rw[ha3];exact (zaa (by decide)).trans s1
  have t2:a3.tmps.getD 2 undef=.pointer (some ⟨b2,0,none⟩):=by rw[ha3];exact (zaa (by decide)).trans s2
  have t12:a3.tmps.getD 12 undef=.func (.func 178) #[] cv:=by rw[ha3];exact zae (by rw[z2];decide)
  change Code.wpIn (Fw none) 0 Tryz.prog (.block 0 (.rangeFunc (.tmp 12) #[13] B2 BB)) _ (a2.put (some 12) (.func (.func 178) #[] cv)) w3
  rw[←ha3]
  have z3w:w3.heap.size=bc+2:=by rw[hw3,zcT,zcT,hbc]
  have c1:w3.heap[bc]?=some (.cells #[.int .i64 ((n+1:Nat):Int)] 3 (0,0)):=by rw[hw3];exact zcx (zdN hbc)
  have c2:w3.heap[bc+1]?=some (.cells #[.int .i64 ((List.length (α:=BndD) p.2.2.1:Nat):Int)] 3 (0,0)):=by rw[hw3];exact zdN (by rw[zcT,hbc])
  have o3:∀b,b<w2.heap.size→w3.heap[b]?=w2.heap[b]?:=fun b hb=>by
    obtain⟨o,ho⟩:∃o,w2.heap[b]?=some o:=⟨_,Array.getElem?_eq_getElem hb⟩
    rw[ho,hw3];exact zcx (zcx ho)
  have st3:w3.os=w2.os∧w3.tape=w2.tape∧w3.output=w2.output:=by rw[hw3];exact⟨rfl,rfl,rfl⟩
  refine wpIn_block (wpIn_rangeFunc fun fn hfn=>?_)
  obtain⟨D,hD⟩:∃D,D=w3.heap.size:=⟨_,rfl⟩
  obtain⟨rc,hrc⟩:∃rc:LoopState→Option Code→Loop,rc=fun st pe=>{state:=st,pending:=pe,fn,tmps:=a3.tmps,params:=#[13],assign:=B2,body:=BB,defers:=D}:=⟨_,rfl⟩
  obtain⟨W1,hW1⟩:∃W1,W1=(w3.alloc (.deferred (some []))).alloc (.loop (rc .ready none)):=⟨_,rfl⟩
  have zW1:W1.heap.size=D+2:=by rw[hW1,zcT,zcT,hD]
  have oW1:∀b,b<D→W1.heap[b]?=w3.heap[b]?:=fun b hb=>by
    obtain⟨o,ho⟩:∃o,w3.heap[b]?=some o:=⟨_,Array.getElem?_eq_getElem (by omega)⟩
    rw[ho,hW1];exact zcx (zcx ho)
  have hDo:W1.heap[D]?=some (.deferred (some [])):=by rw[hW1];exact zcx (zdN hD)
  have hlo:W1.heap[D+1]?=some (.loop (rc .ready none)):=by rw[hW1];exact zdN (by rw[zcT,hD])
  have stW1:W1.os=w2.os∧W1.tape=w2.tape∧W1.output=w2.output:=by rw[hW1];exact st3
  have hfe:a3.eval (.tmp 12)=.func (.func 178) #[] cv:=t12
  obtain⟨e2',h2h⟩:=rb.h2
  have lt1:b1<bc:=by rw[hbc];exact zah rb.h1
  have lt2:b2<bc:=by rw[hbc];exact zah h2h
  have down:∀b,b<bc→W1.heap[b]?=w2.heap[b]?:=fun b hb=>(oW1 b (by omega)).trans (o3 b (by omega))
  have rb1:RawB M W1 p b1 b2 cur1 e1 f1 cur2 V:=⟨(down b1 lt1).trans rb.h1,⟨e2',(down b2 lt2).trans h2h⟩,rb.v1,rb.n12,rb.z1,rb.rep,fun b c h=>by
    obtain⟨q1,q2,el,f,q3⟩:=rb.hV b c h
    exact⟨q1,q2,el,f,(down b (by rw[hbc];exact zah q3)).trans q3⟩,rb.one⟩
  refine⟨D+1,[mkD D],W1,{target:=.fn (.func 178) cv,args:=#[] ++ #[.func (.yield (D+1)) #[] #[]]},W1,178,#[] ++ #[.func (.yield (D+1)) #[] #[]]++cv,W1,?_,?_,?_,?_,fun h=>(by cases h),?_⟩
  · rw[hW1,hrc,hD];exact run_enterLoop_outer _ _ _ _ _
  · simp only[resolve,hfe]
    simp[go_sem,Deferred.ofValue]
  · intro f' _;trivial
  · obtain⟨fn',e1,e2,e3⟩:=zpS
    have e2':¬fn'.name = "runtime.NumGoroutine" := by simpa using e2
    have e3':¬fn'.body=none:=by intro hn;rw[hn] at e3;cases e3
    simp[invoke,callFunc,e1,e2',e3']
  · have hY:Yld (D+1) (D+2) bc (bc+1) (n+1) (List.length (α:=BndD) p.2.2.1) (fun rest W=>(JB W1 (D+2) (D+1) b2 (.loop (rc .ready none)) W∧zgH p.2.2.1 rest=some x)∧∀c∈rest,goodA p.2.2.1 c) (JX M W1 (D+2) (D+1) b2 (.loop (rc .done (some .ret))) x):=by
      refine⟨?_,?_,?_,?_⟩
      · rintro rest w w' ⟨⟨h,h2⟩,h3⟩ hb
        have hk:∀b,b<D+2→w'.heap[b]?=w.heap[b]?:=fun b h1=>hb.keep b h1 (Nat.lt_of_lt_of_le h1 h.size)
        obtain⟨cu,el,q1,q2⟩:=h.two
        exact⟨⟨⟨hb.os.trans h.os,hb.tape.trans h.tape,hb.output.trans h.output,Nat.le_trans h.size hb.size,fun b h1 h2 h3=>(hk b h1).trans (h.keep b h1 h2 h3),(hk _ (by omega)).trans h.loop,cu,el,(hk b2 (by omega)).trans q1,q2⟩,h2⟩,h3⟩
      · rintro rest w ⟨⟨h,_⟩,_⟩
        exact h.size
      · rintro rest w ⟨⟨h,_⟩,_⟩
        exact⟨(h.keep bc (by omega) (by omega) (by omega)).trans ((oW1 bc (by omega)).trans c1),(h.keep (bc+1) (by omega) (by omega) (by omega)).trans ((oW1 (bc+1) (by omega)).trans c2)⟩
      · rintro c rest w ls cap cur ⟨⟨h,h2⟩,h3⟩ hls hcur hrow
        have hy:=zqt (w0s:=w0.heap.size) rb1 hMlt hb2 (base:=D+2) (l:=D+1) (D:=D) (by omega) ⟨by omega,by omega⟩ (by omega) zW1.symm (fn:=fn) (a3:=a3) z3 t1 t2 rc hrc ⟨_,hlo⟩ (x:=x) h h2 (h3 c List.mem_cons_self) hls hcur hrow
        obtain⟨q1,q2,q3,q4,q5,q6⟩:=hy
        refine⟨q1,q2,q3,q4,q5,RoundIn.mono q6 ?_⟩
        rintro e w' ⟨k1,⟨k2,k3⟩|⟨k2,k3⟩⟩
        · exact⟨k1,.inl ⟨k2,k3,fun c hc=>h3 c (List.mem_cons_of_mem _ hc)⟩⟩
        · exact⟨k1,.inr ⟨k2,k3⟩⟩
    have hJ0:(JB W1 (D+2) (D+1) b2 (.loop (rc .ready none)) W1∧zgH p.2.2.1 (zb9 (n+1) 0 (List.length (α:=BndD) p.2.2.1))=some x)∧∀c∈zb9 (n+1) 0 (List.length (α:=BndD) p.2.2.1),goodA p.2.2.1 c:=by
      refine⟨⟨⟨rfl,rfl,rfl,by omega,fun _ _ _ _=>rfl,hlo,cur2,e2',(down b2 lt2).trans h2h,rb.one⟩,hx⟩,hgood⟩
    have hc:=znP hY ⟨by omega,by omega⟩ hbl ⟨by omega,by omega⟩ W1 zW1.symm hJ0
    rw[←hcv] at hc
    have hargs:(#[] ++ #[Value.func (.yield (D+1)) #[] #[]]++cv:Array Value) = #[Value.func (.yield (D+1)) #[] #[]]++cv:=by simp
    rw[hargs]
    refine hc.mono ?_
    rintro e W2 ⟨⟨v,rfl⟩,⟨⟨_,h2⟩,_⟩|h⟩
    · cases h2
    · refine ⟨_,_,run_endLoop h.loop (by rw[hrc];simp),?_⟩
      have hpd:(rc .done (some .ret)).pending=some .ret:=by rw[hrc]
      rw[hpd]
      refine wpIn_ret ⟨.ret,stC x,rfl,?_,?_⟩
      · show zgE cfB Tryz.f143.results.toList zlw.res (zlw.f (p,())) (stC x)
        rw[hfin];exact vRet x
      · have keepW:∀b,b<bc→b≠b2→W2.heap[b]?=w2.heap[b]?:=fun b h1 h2=>(h.keep b (by omega) (by omega) h2).trans (down b h1)
        have nl:∀(o:Obj) b,b≠D+1→(W2.putObj (D+1) o).heap[b]?=W2.heap[b]?:=fun o b hb=>World.putObj_heap_other hb
        refine zpQ (D:=D) (b2:=b2) hMlt hbslt (fun b i o h1 h2 h3 h4=>?_) z3 (by show mkD D::a3.defers=_;rw[d3]) t2 hb2 (by omega) ((nl _ D (by omega)).trans ((h.keep D (by omega) (by omega) (by omega)).trans hDo)) (h.os.trans (stW1.1.trans gos)) (h.tape.trans (stW1.2.1.trans gtape)) (h.output.trans (stW1.2.2.trans gout)) (by rw[World.putObj_size];have:=h.size;omega) (fun b h1 h2=>?_) (zsy h.cb h.loop)
        · obtain⟨o',q1,q2⟩:=gobk b i o h1 h2 h3 h4
          exact⟨o',(nl _ b (by omega)).trans ((keepW b (by omega) (by omega)).trans q1),q2⟩
        · exact (nl _ b (by omega)).trans ((keepW b (by omega) (by omega)).trans (gkeep b h1 h2))
end Go.Eng.Ar
namespace Go.Eng.Ar
open Go.Eng Go.Proofs
set_option linter.all false
set_option maxRecDepth 100000
set_option maxHeartbeats 8000000
theorem zcQ:∀(k f r:Nat) (c:List Int),c∈zb9 k f r→c.length=k∧∀x∈c,(f:Int)≤x∧x<(f:Int)+r
  | 0,f,r,c,h=>by
    simp only[zb9,List.mem_singleton] at h
    subst h;exact⟨rfl,fun x hx=>by cases hx⟩
  | k+1,f,0,c,h=>by simp[zb9] at h
  | k + 1,f,r+1,c,h=>by
    simp only[zb9,List.mem_append,List.mem_map] at h
    rcases h with ⟨d,hd,rfl⟩|h
    · obtain⟨h1,h2⟩:=zcQ k (f+1) r d hd
      refine⟨by simp[h1],fun x hx=>?_⟩
      rcases List.mem_cons.1 hx with rfl|hx
      · omega
      · have:=h2 x hx;omega
    · obtain⟨h1,h2⟩:=zcQ (k+1) (f+1) r c h
      exact⟨h1,fun x hx=>by have:=h2 x hx;omega⟩
def okBd (N:Nat) (d:BndD):Prop:=d.1.length=N∧(∀x∈d.1,(-1000:Int)≤x∧x≤(1000:Int))∧(0:Int)≤d.2.1∧d.2.1≤(1000:Int)
theorem zeF {t:List (List Int)} {cap:Int} {k:Nat}:(zbR t cap k).length=t.length+t.length+ncol t+k:=by
  simp only[zbR,zcX,zdn,zkO,List.length_append,zal]
theorem zmh {n:Nat} {k:Nat} {v x:Int} (h:x∈zbE (n:Int) (k:Int) v):x=v∨x=0:=by
  unfold zbE at h
  rcases List.mem_or_eq_of_mem_set h with h|h
  · rw[zef] at h
    exact .inr (List.eq_of_mem_replicate h)
  · exact .inl h
theorem okI {x:Int} (h : -1000≤x∧x≤1000):((-1000:Int)≤x∧x≤(1000:Int)):=h
theorem zjV {t:List (List Int)} {cap:Int} (h:goodT t cap):∀d∈zbR t cap (ncol t),okBd (ncol t+1) d:=by
  intro d hd
  have hr:∀i,i<t.length→∀x∈rowN t i,0≤x∧x≤100:=fun i hi x hx=>by
    obtain⟨j,hj,rfl⟩:=ziB hx
    exact h.vals i j hi (by rw[←h.rows i hi];exact hj)
  simp only[zbR,zcX,zdn,zkO,List.mem_append] at hd
  rcases hd with ((hd|hd)|hd)|hd
  · obtain ⟨i,hi,rfl⟩:=zb5 hd
    refine⟨by show (tab (fun j=>-vI (rowN t i) j) (rowN t i).length++[1]).length=_;rw[List.length_append,zal,h.rows i hi];rfl,fun x hx=>?_,Int.le_refl _,by show (0:Int)≤1000;decide⟩
    have hx:x∈tab (fun j=>-vI (rowN t i) j) (rowN t i).length++[1]:=hx
    rcases List.mem_append.1 hx with hx|hx
    · obtain⟨j,hj,rfl⟩:=zb5 hx
      exact okI (by have:=hr i hi _ (zgU hj);omega)
    · rw[List.mem_singleton.1 hx];exact⟨by decide,by decide⟩
  · obtain⟨i,hi,rfl⟩:=zb5 hd
    refine⟨by show (rowN t i++[0]).length=_;rw[List.length_append,h.rows i hi];rfl,fun x hx=>?_,h.cap0.1,h.cap0.2⟩
    have hx:x∈rowN t i++[0]:=hx
    rcases List.mem_append.1 hx with hx|hx
    · exact okI (by have:=hr i hi _ hx;omega)
    · rw[List.mem_singleton.1 hx];exact⟨by decide,by decide⟩
  · obtain⟨j,hj,rfl⟩:=zb5 hd
    refine⟨by show (zbE ((ncol t:Int)+1) (j:Int) 1).length=_;rw[zi7];omega,fun x hx=>?_,by show (0:Int)≤1;decide,by show (1:Int)≤1000;decide⟩
    rcases zmh (n:=ncol t+1) (show x∈zbE ((ncol t+1:Nat):Int) (j:Int) 1 from hx) with rfl|rfl<;>decide
  · obtain⟨j,hj,rfl⟩:=zb5 hd
    refine⟨by show (zbE ((ncol t:Int)+1) (j:Int) (-1)).length=_;rw[zi7];omega,fun x hx=>?_,Int.le_refl _,by show (0:Int)≤1000;decide⟩
    rcases zmh (n:=ncol t+1) (show x∈zbE ((ncol t+1:Nat):Int) (j:Int) (-1) from hx) with rfl|rfl<;>decide
theorem zna {b:List BndD} {k:Nat} (h:k<b.length):bdN b k∈b:=by
  have:bdN b k=b[k]:=by simp[bdN,List.getD,List.getElem?_eq_getElem h]
  rw[this];exact List.getElem_mem h
theorem zel {t:List (List Int)} {cap:Int} (h:goodT t cap):∀c∈zb9 (ncol t+1) 0 (zbR t cap (ncol t)).length,goodA (zbR t cap (ncol t)) c:=by
  intro c hc
  obtain⟨h1,h2⟩:=zcQ _ _ _ c hc
  have hl:=@zeF t cap (ncol t)
  have g1:=h.le
  have g2:=h.cle
  refine⟨by omega,by omega,by omega,fun i hi=>?_,fun k hk=>?_,fun k j hk hj=>?_,fun k hk=>?_⟩
  · have:=h2 _ (zgU hi);omega
  · rw[h1];exact (zjV h _ (zna hk)).1
  · have hb:=zjV h _ (zna hk)
    exact hb.2.1 _ (zgU (by rw[hb.1,←h1];exact hj))
  · exact (zjV h _ (zna hk)).2.2
structure cornOK (n s:Nat) (x:zcg):Prop where
  l1:List.length (α:=Int) x.1=n
  v1:∀i,i<n→(vI x.1 i).natAbs≤400000000000000
  d1:(0:Int)<x.2.1∧x.2.1≤(400000000000000:Int)
  l2:List.length (α:=Int) x.2.2.1=s
  v2:∀i,i<s→(vI x.2.2.1 i).natAbs≤400000000000000
  d2:(0:Int)<x.2.2.2.1∧x.2.2.2.1≤(400000000000000:Int)
theorem zuq {b:Nat} {l y:List Int} {m:Nat} (hy:∀i,i<m→(vI y i).natAbs≤400000000000000):∀k,k≤m→∀x∈wsP b l y k,x.natAbs≤400000000000000
  | 0,_,x,hx=>by
    simp only[wsP,zef] at hx
    rw[List.eq_of_mem_replicate hx];decide
  | k+1,hk,x,hx=>by
    simp only[wsP] at hx
    rcases List.mem_or_eq_of_mem_set hx with hx|rfl
    · exact zuq hy k (by omega) x hx
    · exact hy k (by omega)
theorem zrv {b:List BndD} {c:List Int} (hg:goodA b c) (h:(atR b c).2.1=true):cornOK c.length b.length (atR b c).1:=by
  have hx:(atX b c).2.2.1=true:=by
    cases e:(atX b c).2.2.1 with
    | true=>rfl
    | false=>rw[at_1 e] at h;cases h
  have ho:zdh b (atX b c).1 (atX b c).2.1 b.length=true:=by
    cases e:zdh b (atX b c).1 (atX b c).2.1 b.length with
    | true=>rfl
    | false=>rw[at_2 hx e] at h;cases h
  by_cases hm:mn (atY b c).1 (c.length - 1)<0
  · rw[at_3 hx ho hm] at h;cases h
  · rw [at_4 hx ho hm]
    have b1:=fun i hi=>zgJ (pX hg) (zj9 hx) (i:=i) (by rw[zaG];exact hi)
    have b2:=fun i hi=>zgJ (pY hg) (zqw hg hx) (i:=i) (by rw[zgX,zaG];exact hi)
    refine⟨zsF hx,fun i hi=>?_,zfi (pX hg) (zj9 hx),zd0 _,fun i hi=>?_,zfi (pY hg) (zqw hg hx)⟩
    · have:=b1 i hi
      show (vI (zau (zaz b c c.length) (rhsP b c c.length)).1 i).natAbs≤_
      omega
    · refine zuq (m:=c.length) (fun i hi=>?_) c.length (Nat.le_refl _) _ (zgU (by rw[zd0];exact hi))
      have:=b2 i hi
      show (vI (zau (trM (zaz b c c.length)) (zbE (c.length:Int) ((c.length:Int) - 1) 1)).1 i).natAbs≤_
      omega
theorem zfN {b:List BndD} {x:zcg}:∀ {l:List (List Int)},zgH b l=some x→∃c∈l,(atR b c).2.1=true∧(atR b c).1=x
  | [],h=>by cases h
  | c :: r,h=>by
    simp only[zgH] at h
    split at h
    · exact⟨c,List.mem_cons_self,by assumption,Option.some.inj h⟩
    · obtain⟨d,h1,h2⟩:=zfN h
      exact⟨d,List.mem_cons_of_mem _ h1,h2⟩
def zfd (t:List (List Int)) (cap:Int):Option zcg:=zlj (zbR t cap (ncol t)) (ncol t)
theorem zt4 {t:List (List Int)} {cap:Int} {x:zcg} (h:goodT t cap) (hx:zfd t cap=some x):cornOK (ncol t+1) (t.length+t.length+ncol t+ncol t) x:=by
  obtain⟨c,hc,h1,rfl⟩:=zfN hx
  have hg:=zel h c hc
  have:=zrv hg h1
  rw[(zcQ _ _ _ c hc).1,zeF] at this
  exact this
abbrev zud:Type:=zrx.Den
abbrev WgtD:Type:=zdY.Den
def bO (x:zcg) (n:Nat):zud:=((redL (List.take n x.1) x.2.1).2,(redL (List.take n x.1) x.2.1).1,())
def bWl (x:zcg) (s n:Nat):List Int:=(redL (List.take (2*s+n) x.2.2.1) x.2.2.2.1).1
def bW (x:zcg) (s n:Nat):WgtD:=((redL (List.take (2*s+n) x.2.2.1) x.2.2.2.1).2,(bWl x s n).take s,((bWl x s n).take (2*s)).drop s,(bWl x s n).drop (2*s),())
def bV (x:zcg) (n:Nat):zbY.Den:=(Int.tdiv (vI x.1 n) (gcd2 (vI x.1 n) x.2.1),Int.tdiv x.2.1 (gcd2 (vI x.1 n) x.2.1),())
def pBO (t:List (List Int)) (cap:Int):Prop:=goodT t cap∧(zfd t cap).isSome=true
abbrev bX (t:List (List Int)) (cap:Int):zcg:=(zfd t cap).getD zgf
@[reducible] def zuF:Spec:={sRed with res:=[{t:=.sl I64},{t:=I64}]}
theorem zw3:Ok 144 zuF:=by
  refine mk (ctr:=[(145,zgq),(148,sDiv)]) ⟨h145,h148,trivial⟩ (nt:=33) Tryz.func144 rfl rfl rfl rfl (by kernel_rfl) (by kernel_rfl) (fun x=>[fun _=>zvh x.1 x.2.1]) ?_
  rintro⟨(l:List Int),(d:Int),_⟩ ⟨(h1:l.length≤1000),(h2:∀i,i<l.length→(vI l i).natAbs≤9000000000000000000),(h3:d.natAbs≤9000000000000000000),(h4:d≠0)⟩
  have e:(gf (l++[d]) (l++[d]).length:Int)=redG l d:=rfl
  have g1:vI (l++[d]) l.length=d:=by simp[vI]
  have g2:(l++[d]).length=l.length+1:=by simp
  have e2:redG l d≠0:=by
    have:=zpI (xs:=l++[d]) (k:=l.length) (by rw[g1];exact h4)
    rw[←e,g2];exact this
  have hd:pDiv (l++[d]):=⟨by show ((l++[d]).length:Int)≤4611686018427387904;rw[g2];omega,fun i hi=>by
    by_cases hl:i<l.length
    · have:vI (l++[d]) i=vI l i:=by simp[vI,List.getElem?_append_left hl]
      rw[this];exact h2 i hl
    · have:i=l.length:=by omega
      subst this
      rw[g1];exact h3⟩
  repeat' (intro hzz;(try (rename Two=>hq;cases hq));(try dsimp only at hzz);(try simp only[zad,zac,eqD,inR,big,zab,zB] at hzz);(try simp only[zad,zac,eqD,inR,big,zab,zB,zav,zal,e] at hzz);(try (revert hzz;intro _)))
  all_goals try (rename Unit=>hq;clear hq)
  all_goals try ((with_reducible refine Held.mk ?_);(with_reducible (first|refine Frz.mk ?_|refine And.intro (Frz.mk ?_) ?_|refine And.intro ?_ (Frz.mk ?_)));repeat' first|exact True.intro|(change _=_;with_reducible rfl)|refine And.intro ?_ ?_|(with_reducible refine Frz.mk ?_))
  all_goals try (refine Held.mk ?_;(try dsimp only at *);(try simp only[zad,zac,eqD,inR,big,zab,zB] at *);(try simp only[zad,zac,eqD,inR,big,zab,zB,zav,zal,e] at *))
  · show l.length≤2000000000;omega
  · show l.length+1≤2147483648;omega
  · exact hd
  ·
    refine zaj.mk ?_
    refine Exists.intro 0 ?_
    refine And.intro (Leaf.mk ?_) ?_
    · repeat' first|exact True.intro|refine And.intro ?_ ?_
      all_goals try ((change _=_<;>try dsimp only)<;>try with_reducible rfl)
      all_goals try omega
      all_goals (rfl)
    exact Nat.zero_le _
  · omega
  · rename_i k hk hg
    exact⟨e2,znh (h2 k (by omega))⟩
  · rename_i k hk hg
    show k+1≤2147483648;omega
  · omega
  · rename_i k hk hg
    refine zaj.mk ?_
    refine Exists.intro (k+1) ?_
    refine And.intro (Leaf.mk ?_) ?_
    · repeat' first|exact True.intro|refine And.intro ?_ ?_
      all_goals try ((change _=_<;>try dsimp only)<;>try with_reducible rfl)
      all_goals try omega
      all_goals (rfl)
    exact⟨by show k+1≤l.length;omega,by show l.length - (k+1)<l.length - k;omega⟩
  · exact⟨e2,znh h3⟩
  · rename_i k hk hg
    rw[show k=l.length by omega];exact⟨rfl,rfl⟩
theorem natA {n:Int} (h1:0<n) (h2:n≤400000000000000):n.natAbs≤9000000000000000000∧n≠0:=by omega
@[reducible] def zlv:Spec:={pats:=[.dat zeI],res:=[{t:=zrx},{t:=zdY},{t:=zbY}],pre:=fun x=>pBO x.1.1 x.1.2.1,f:=fun x=>(bO (bX x.1.1 x.1.2.1) (ncol x.1.1),bW (bX x.1.1 x.1.2.1) (List.length (α:=List Int) x.1.1) (ncol x.1.1),bV (bX x.1.1 x.1.2.1) (ncol x.1.1),())}
theorem h102:Ok 102 zlv:=by
  refine mk (ctr:=[(107,sLow),(142,zuG),(143,zlw),(144,zuF),(145,zgq)]) ⟨h107,h142,zw1,zw3,h145,trivial⟩ (nt:=76) Tryz.func102 rfl rfl rfl rfl (by kernel_rfl) (by kernel_rfl) (fun _=>[]) ?_
  rintro⟨⟨(t:List (List Int)),(cap:Int),_⟩,_⟩ h
  have h':goodT t cap∧(zfd t cap).isSome=true:=h
  obtain⟨hg,hs⟩:=h'
  obtain⟨x,hx⟩:=Option.isSome_iff_exists.1 hs
  have eX:(zlj (zbR t cap (ncol t)) (ncol t)).getD zgf=x:=by
    rw[show zlj (zbR t cap (ncol t)) (ncol t)=some x from hx];rfl
  have hc:=zt4 hg hx
  obtain⟨l1,v1,d1,l2,v2,d2⟩:=hc
  have g1:=hg.le
  have g2:=hg.cle
  have e2:(2*(t.length:Int)).toNat=2*t.length:=by omega
  have e3:(2*(t.length:Int)+(ncol t:Int)).toNat=2*t.length+ncol t:=by omega
  have r1:(redL (List.take (ncol t) x.1) x.2.1).1.length=ncol t:=by
    show (tab _ (List.take (ncol t) x.1).length).length=_
    rw[zal,List.length_take,l1];exact Nat.min_eq_left (Nat.le_succ _)
  have r2:(redL (List.take (2*t.length+ncol t) x.2.2.1) x.2.2.2.1).1.length=2*t.length+ncol t:=by
    show (tab _ (List.take (2*t.length+ncol t) x.2.2.1).length).length=_
    rw[zal,List.length_take,l2];exact Nat.min_eq_left (by omega)
  have w1:∀i,i<ncol t→vI (List.take (ncol t) x.1) i=vI x.1 i:=fun i hi=>by simp[vI,List.getD,List.getElem?_take,hi]
  have w2:∀i,i<2*t.length+ncol t→vI (List.take (2*t.length+ncol t) x.2.2.1) i=vI x.2.2.1 i:=fun i hi=>by simp[vI,List.getD,List.getElem?_take,hi]
  have p1:pRed (List.take (ncol t) x.1) x.2.1:=by
    refine⟨by rw[List.length_take];omega,fun i hi=>?_,(natA d1.1 d1.2).1,(natA d1.1 d1.2).2⟩
    have hi':i<ncol t:=by rw[List.length_take] at hi;omega
    rw[w1 i hi'];have:=v1 i (by omega);omega
  have p2:pRed (List.take (2*t.length+ncol t) x.2.2.1) x.2.2.2.1:=by
    refine⟨by rw[List.length_take];omega,fun i hi=>?_,(natA d2.1 d2.2).1,(natA d2.1 d2.2).2⟩
    have hi':i<2*t.length+ncol t:=by rw[List.length_take] at hi;omega
    rw[w2 i hi'];have:=v2 i (by omega);omega
  have p3:pLow (vI x.1 (ncol t)) x.2.1:=⟨by have:=v1 (ncol t) (by omega);omega,(natA d1.1 d1.2).1,(natA d1.1 d1.2).2⟩
  have eb:bX t cap=x:=by show (zfd t cap).getD zgf=x;rw[hx];rfl
  repeat' (intro hzz;(try (rename Two=>hq;cases hq));(try dsimp only at hzz);(try simp only[zad,zac,eqD,inR,big,zab,zB] at hzz);(try simp only[zad,zac,eqD,inR,big,zab,zB,zaS,zav,zbb,zbz,zbA,Int.toNat_natCast,eX,e2,e3] at hzz);(try (revert hzz;intro _)))
  all_goals try (rename Unit=>hq;clear hq)
  all_goals try ((with_reducible refine Held.mk ?_);(with_reducible (first|refine Frz.mk ?_|refine And.intro (Frz.mk ?_) ?_|refine And.intro ?_ (Frz.mk ?_)));repeat' first|exact True.intro|(change _=_;with_reducible rfl)|refine And.intro ?_ ?_|(with_reducible refine Frz.mk ?_))
  all_goals try (refine Held.mk ?_;(try dsimp only at *);(try simp only[zad,zac,eqD,inR,big,zab,zB] at *);(try simp only[zad,zac,eqD,inR,big,zab,zB,zaS,zav,zbb,zbz,zbA,Int.toNat_natCast,eX,e2,e3] at *))
  · exact hg
  · exact⟨ncol t,rfl,g2,hs,by rw[zeF];omega,zel hg⟩
  all_goals try (first|exact p1|exact p2|exact p3)
  · rw[l1];omega
  · omega
  · omega
  · rw[l2];omega
  · rw[r2];omega
  · rw[List.length_take];omega
  · omega
  · rw[r2];omega
  · rw[List.length_drop,List.length_take];omega
  · omega
  · rw[r2];omega
  · rw[List.length_drop];omega
  · rw[l1];omega
  · rw[eb];exact⟨⟨rfl,rfl⟩,⟨rfl,rfl,rfl,rfl⟩,rfl,rfl⟩
abbrev zr9 (t:List (List Int)) (cap:Int):Prop:=chkT t cap=0→(zfd t cap).isSome=true
def zhQ (t:List (List Int)) (cap:Int):zud×WgtD×zbY.Den×Int×Unit:=
  if chkT t cap=0 then (bO (bX t cap) (ncol t),bW (bX t cap) t.length (ncol t),bV (bX t cap) (ncol t),0,()) else ((0,[],()),(0,[],[],[],()),(0,0,()),chkT t cap,())
@[reducible] def zha:Spec:={pats:=[.dat zeI],res:=[{t:=zrx},{t:=zdY},{t:=zbY},{t:=I64}],pre:=fun x=>zr9 x.1.1 x.1.2.1,f:=fun x=>zhQ x.1.1 x.1.2.1}
theorem h41:Ok 41 zha:=by
  refine mk (ctr:=[(65,zls),(102,zlv)]) ⟨h65,h102,trivial⟩ (nt:=27) Tryz.func41 rfl rfl rfl rfl (by kernel_rfl) (by kernel_rfl) (fun _=>[]) ?_
  rintro⟨⟨(t:List (List Int)),(cap:Int),_⟩,_⟩ h
  have h':chkT t cap=0→(zfd t cap).isSome=true:=h
  repeat' (intro hzz;(try (rename Two=>hq;cases hq));(try dsimp only at hzz);(try simp only[zad,zac,eqD,inR,big,zab,zB] at hzz);(try (revert hzz;intro _)))
  all_goals try (rename Unit=>hq;clear hq)
  all_goals try ((with_reducible refine Held.mk ?_);(with_reducible (first|refine Frz.mk ?_|refine And.intro (Frz.mk ?_) ?_|refine And.intro ?_ (Frz.mk ?_)));repeat' first|exact True.intro|(change _=_;with_reducible rfl)|refine And.intro ?_ ?_|(with_reducible refine Frz.mk ?_))
  all_goals try (refine Held.mk ?_;(try dsimp only at *);(try simp only[zad,zac,eqD,inR,big,zab,zB] at *))
  · rename_i hc
    have e:zhQ t cap=((0,[],()),(0,[],[],[],()),(0,0,()),chkT t cap,()):=if_neg hc
    rw[e];exact⟨⟨rfl,rfl⟩,⟨rfl,rfl,rfl,rfl⟩,⟨rfl,rfl⟩,rfl⟩
  · rename_i hc
    exact⟨zdP hc,h' hc⟩
  · rename_i hc
    have e:zhQ t cap=(bO (bX t cap) (ncol t),bW (bX t cap) t.length (ncol t),bV (bX t cap) (ncol t),0,()):=if_pos hc
    rw[e];exact⟨⟨rfl,rfl⟩,⟨rfl,rfl,rfl,rfl⟩,⟨rfl,rfl⟩,rfl⟩
theorem ztN:chkT [[2,0],[0,4]] 3=0∧(zfd [[2,0],[0,4]] 3).isSome=true∧bV (bX [[2,0],[0,4]] 3) 2=(2,1,()):=by
  refine⟨by decide +kernel,by decide +kernel,by decide +kernel⟩
end Go.Eng.Ar
