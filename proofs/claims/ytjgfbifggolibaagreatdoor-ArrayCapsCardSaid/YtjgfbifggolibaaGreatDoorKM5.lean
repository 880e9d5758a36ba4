/- Texts C5 C6 C7 C8 C9 C10 C11 C12 C13, as far as they are used. Conditions: each lemma's own. -/
import Derived.Test.YtjgfbifggolibaaGreatDoorKM4
namespace Go.Eng
set_option linter.all false
set_option maxRecDepth 100000
section
variable {P:Program} {a:Act} {w:World} {ops:Array Oper}
theorem zfp {Q:Act→Prop} {o:Oper} {v:Value} {rest:List Oper} (hg:o.guard=none) (hr:(execOp a.eval o).run P w=.ok (.value v) w) (h:wpStill P ops w Q rest (a.put o.dst v)):wpStill P ops w Q (o::rest) a:=by
  have hw:Region.wanted o (yielded ops a.tmps)=true:=by simp[Region.wanted,hg]
  simp only[wpStill,hw,if_true,Oper.still,hr,Oper.stillUpon]
  exact⟨trivial,h⟩
theorem zp2 {Q:Exit→Act→World→Prop} {o:Oper} {w':World} (hnd:∀d,o.op≠.defer d) (hg:o.guard=none) (hr:(execOp a.eval o).run P w=.ok .skip w') (h:Q .normal (a.put o.dst undef) w'):wpList P ops Q [o] a w:=by
  have hw:Region.wanted o (yielded ops a.tmps)=true:=by simp[Region.wanted,hg]
  simp only[wpList,hw,if_true]
  unfold Oper.wp
  simp only[hr,Oper.upon]
  exact .inl h
theorem zyr {E:Env} {nt:Nat} {st:St} {a':Act} {ds:List Nat} (hR:RelS E nt st a w) (hsz:a'.tmps.size=nt) (hd:a'.defers=a.defers) (h:∀t,t ∉ ds→a'.tmps.getD t undef=a.tmps.getD t undef) (hds:∀u s,Fact.slot u s∈st→u ∉ ds):RelS E nt st a' w:=by
  obtain⟨η,g,H⟩:=hR
  refine⟨η,zmk (E:=E) (E':=E) (ds:=ds) rfl rfl rfl rfl rfl rfl g H (fun b c h=>h) hsz (fun t ht=>(h t ht).symm) hds ?_ (fun hn=>by rw[hd];exact g.nd hn)⟩
  obtain⟨⟨ms,q1,q2⟩,q3⟩:=g.defers
  exact⟨⟨ms,by rw[hd];exact q1,q2⟩,q3⟩
theorem zrt {E:Env} {nt:Nat} {st:St} (n:Nat) (hR:RelS E nt st a w):RelS E nt st a {w with drawn:=n}:=by
  obtain⟨η,g,H⟩:=hR
  exact ⟨η,⟨g.size,g.lim,g.defers,g.os,g.tape,g.output,g.grow,g.keep,g.own,g.dis,g.inj,g.old,g.obkeep,g.nd⟩,fun f hf=>by
    have:=H f hf
    cases f<;>exact this⟩
theorem zwI:Fw none=Fence.wide:=rfl
end
section
variable {c:Cfg}
theorem zsC {P:Program} {OB:Nat→Obj→Prop} (hC:CfgOk P OB c) {f:Nat} {fn:Func} {body:Code} {rs:List ResultVar} {sp:Spec}
    (hf:P.funcs[f]?=some fn) (hb:fn.body=some body) (hnt:fn.ntmps=c.nt) (hps:sp.pats.length≤c.nt) (hlim:c.nt≤1000000) (hob:zb9 sp.pats≤1) (hrs:fn.results.toList=rs)
    (h : ∀x,sp.pre x→∀(M:Nat→Prop) (bs:List Nat) (w:World) (a:Act),a.defers=[]→RelS {P:=P,M:=M,mu:=fun b=>b∈bs,w0:=w,OB:=OB} c.nt (zbb sp.pats x 0) a w→
      body.wpIn (Fw none) 0 P (zqz {P:=P,M:=M,mu:=fun b=>b∈bs,w0:=w,OB:=OB} c.nt fun e st=>match e with
        | .ret | .normal=>zhC c rs sp.res (sp.f x) st
        | _=>False) a w):zuJ P OB f sp:=by
  intro w M x vs bs hM hA hpre
  obtain⟨o1,o2,o3,o4⟩:=zcb sp.pats x vs bs 0 hA
  let E:Env:={P:=P,M:=M,mu:=fun b=>b∈bs,w0:=w,OB:=OB}
  refine callsIn_wide.1 (callsIn_of_wp_marks (F:=Fence.wide) (n:=0) hf hb trivial ?_)
  have hsz:(vs.toArray++Array.replicate (fn.ntmps - vs.toArray.size) undef).size=c.nt:=by
    simp;omega
  have hR : RelS E c.nt (zbb sp.pats x 0) {tmps:=vs.toArray++Array.replicate (fn.ntmps - vs.toArray.size) undef,defers:=[]} w:=by
    have hη:∀k b n,zlk (zbr sp.pats vs 0) k=some (b,n)→(k,b)∈zbr sp.pats vs 0∧n=0:=by
      intro k b n
      generalize zbr sp.pats vs 0=l
      induction l with
      | nil=>intro h;cases h
      | cons p r ih=>
        intro h
        simp only[zlk] at h
        split at h
        · rename_i hk
          simp only[Option.some.injEq,Prod.mk.injEq] at h
          obtain⟨rfl,rfl⟩:=h
          subst hk
          exact⟨List.mem_cons_self,rfl⟩
        · obtain⟨h1,h2⟩:=ih h
          exact⟨List.mem_cons_of_mem _ h1,h2⟩
    have hbs:∀k b,(k,b)∈zbr sp.pats vs 0→b∈bs:=fun k b hkb=>by rw[←o1];exact List.mem_map.2 ⟨_,hkb,rfl⟩
    refine⟨zlk (zbr sp.pats vs 0),?_,?_⟩
    · exact {
        size:=hsz,lim:=hlim,defers:=⟨⟨[],rfl,List.nodup_nil,fun _ h=>by cases h⟩,fun _ h=>by cases h⟩,os:=rfl,tape:=rfl,output:=rfl,grow:=Nat.le_refl _,keep:=fun _ _ _ _=>rfl,
        own:=fun k b n hk=>⟨(o4 b (hbs k b (hη k b n hk).1)).2,.inr (hbs k b (hη k b n hk).1)⟩,
        dis:=fun b hb h=>h.elim (fun h=>absurd (o4 b hb).2 (Nat.not_lt_of_le h)) id,
        inj := fun k k' b n n' hk hk'=>by
          have h1:=(hη k b n hk).1
          have h2:=(hη k' b n' hk').1
          have hl:(zbr sp.pats vs 0).length≤1:=by omega
          match hobs:zbr sp.pats vs 0,hl with
          | [],_=>rw[hobs] at h1;cases h1
          | [p],_=>
            rw[hobs] at h1 h2
            simp only[List.mem_singleton] at h1 h2
            rw[←h2] at h1
            simpa using h1
        old:=fun b hb h=>h.elim (fun h=>absurd (hM b hb) (Nat.not_lt_of_le h)) id,obkeep:=fun b i o _ _ h1 h2=>⟨o,h1,h2⟩}
    · refine zcf rfl rfl (fun b h=>h.elim id fun⟨_,h⟩=>by cases h) rfl (fun k b n hk=>(o4 b (hbs k b (hη k b n hk).1)).1) sp.pats x vs bs 0 hA (by omega) (fun j v hj=>?_) (fun k b hkb=>?_)
      · simp only[Nat.zero_add]
        have hjl:=(List.getElem?_eq_some_iff.1 hj).1
        simp only[Array.getD_eq_getD_getElem?]
        rw[Array.getElem?_append_left (by simpa using hjl)]
        simp[hj]
      · have hl:(zbr sp.pats vs 0).length≤1:=by omega
        match hobs:zbr sp.pats vs 0,hl with
        | [],_=>rw[hobs] at hkb;cases hkb
        | [p],_=>
          rw[hobs] at hkb
          simp only[List.mem_singleton] at hkb
          subst hkb
          simp[zlk]
  have hCE:CfgOk E.P E.OB c:=hC
  refine wpIn_mono (h x hpre M bs w _ rfl hR) fun e a' w' ⟨xe,st',e1,e2,e3⟩=>?_
  subst e1
  have leave:∀(R:Ending→World→Prop) (st1:St) (η:Eta) (tmps:Array Value),(∀a1 w1,a1.tmps=tmps→Good E c.nt η a1 w1→(∀f∈st1,Fact.holds E η a1 w1 f)→∃v,(results fn tmps).run P w1=.ok v w1∧R (.returned v) w1)→
      ∀(ms:List Nat) (a1:Act) (w1:World),a1.tmps=tmps→a1.defers=ms.map mkD→ms.Nodup→(∀D∈ms,E.w0.heap.size≤D∧w1.heap[D]?=some (.deferred (some []))∧∀k c,η k≠some (D,c))→
      Good E c.nt η a1 w1→(∀f∈st1,Fact.holds E η a1 w1 f)→LeavesInM Fence.wide 0 P fn tmps R a1.defers .returning w1:=by
    intro R st1 η tmps hfin ms
    induction ms with
    | nil=>
      intro a1 w1 ht hd1 _ _ g H
      rw[hd1]
      exact hfin a1 w1 ht g H
    | cons D ms ih=>
      intro a1 w1 ht hd1 hn hm g H
      have ht2:=zh7 rfl g H (by rw[hd1];rfl) hn hm
      rw[hd1]
      refine⟨by simp,.inl ⟨D,_,rfl,run_takeDeferred (hm D List.mem_cons_self).2.1,?_⟩⟩
      refine ih {a1 with defers:=ms.map mkD} _ ht rfl (List.nodup_cons.1 hn).2 (fun D' hD'=>?_) ht2.1 ht2.2
      obtain⟨p1,p2,p3⟩:=hm D' (List.mem_cons_of_mem _ hD')
      have hne:D'≠D:=fun e=>(List.nodup_cons.1 hn).1 (by rw[←e];exact hD')
      exact⟨p1,(World.putObj_heap_other hne).trans p2,p3⟩
  have fin : ∀st',zhC c rs sp.res (sp.f x) st'→RelS E c.nt st' a' w'→LeavesInM Fence.wide 0 P fn a'.tmps (fun e w'=>∃rs g,e=.returned (zdq rs)∧CPost OB w w' bs∧
      zgE w' (fun b c=>¬M b∧g≠some b∧∃el f,w'.heap[b]?=some (.cells c el f)) w.heap.size sp.res (sp.f x) rs g) a'.defers .returning w':=by
    intro st' hr hR
    unfold zhC at hr
    split at hr
    case h_2=>exact hr.elim
    case h_1 p st1 hfz=>
      split at hr
      case h_2=>exact hr.elim
      case h_1 q y hq=>
        obtain⟨r1,hr⟩:=OP.andK_out hr
        obtain⟨r2,r3⟩:=hr.out
        have r3:=ze0 _ _ _ r3
        obtain⟨η,g,H⟩:=zbE hfz r1 hR
        obtain⟨⟨ms,m1,m2,m3⟩,_⟩:=g.defers
        refine leave _ st1 η a'.tmps (fun a1 w1 ht g H=>?_) ms a' w' rfl m1 m2 m3 g H
        obtain⟨vs',gb,k1,k2,k3,k4⟩:=zcq hCE.tbl g H rs sp.res q y hq r2 (.inr fun _ h=>h)
        rw[r3] at k4
        rw[←hrs,ht] at k1
        refine⟨_,zb8 k1,vs',gb,rfl,?_,k4 _ (fun b c ⟨m1,m2,m3⟩=>⟨fun hm=>m1 (.inl hm),fun hg=>?_,m3⟩)⟩
        · exact {os:=g.os,tape:=g.tape,output:=g.output,size:=g.grow,keep:=fun b hb hn=>g.keep b hb hn (fun h=>h),obk:=fun b hb i o h1 h2=>g.obkeep b i o (o4 b hb).2 hb h1 h2}
        · obtain⟨k,n,hk⟩:=k2 b hg
          exact m2 k n hk
  cases xe with
  | normal=>exact fin st' e2 e3
  | exit id=>exact e2.elim
  | ret=>exact fin st' e2 e3
end
end Go.Eng
namespace Go.Eng.Ar
open Go.Eng Go.Proofs
set_option linter.all false
set_option maxRecDepth 100000
set_option maxHeartbeats 2000000
@[reducible] noncomputable def EH (M:Nat→Prop) (bs:List Nat) (w:World) (nd:Bool):Env:={P:=Tryz.prog,M:=M,mu:=fun b=>b∈bs,w0:=w,OB:=OB,x:={nd:=nd}}
theorem zyO {M:Nat→Prop} {bs:List Nat} {w0 w:World} {nt:Nat} {st:St} {a:Act} (hR:RelS (EH M bs w0 false) nt st a w) (hd:a.defers=[]):RelS (EH M bs w0 true) nt st a w:=
  let ⟨η,g,H⟩:=hR
  ⟨η,⟨g.size,g.lim,g.defers,g.os,g.tape,g.output,g.grow,g.keep,g.own,g.dis,g.inj,g.old,g.obkeep,fun _=>hd⟩,H⟩
theorem zrV {M:Nat→Prop} {bs:List Nat} {w0 w:World} {nt:Nat} {st:St} {a:Act} (hR:RelS (EH M bs w0 true) nt st a w):RelS (EH M bs w0 false) nt st a w∧a.defers=[]:=
  let ⟨η,g,H⟩:=hR
  ⟨⟨η,⟨g.size,g.lim,g.defers,g.os,g.tape,g.output,g.grow,g.keep,g.own,g.dis,g.inj,g.old,g.obkeep,fun h=>by cases h⟩,H⟩,g.nd rfl⟩
noncomputable def b180:Code:=zcM Tryz.f180
noncomputable def zn0:Code:=match b180 with | .seq _ (.seq _ (.seq _ (.seq _ (.seq (.seq _ (.block _ (.loop x))) _))))=>x|c=>c
noncomputable def zsd:Code:=match zn0 with | .seq _ (.seq _ (.seq (.block _ (.seq _ (.seq _ (.seq (.seq _ (.block _ (.loop x))) _)))) _))=>x|c=>c
noncomputable def r12:Code:=match zsd with | .seq _ (.seq _ (.seq (.block _ (.seq _ (.seq x _))) _))=>x|c=>c
noncomputable def r13:Code:=match zsd with | .seq _ (.seq _ (.seq (.block _ (.seq _ (.seq _ x))) _))=>x|c=>c
noncomputable def zjz:List Oper:=match r12 with | .region _ x _=>x.toList | _=>[]
noncomputable def zAi:List Oper:=match r13 with | .region _ x _=>x.toList | _=>[]
theorem zyv:r13=.region 13 zAi.toArray true:=rfl
abbrev mk0 (d:Option Nat) (t:Nat) (op:Op):Oper:={dst:=d,op:=op,type:=t,pos:="", after:=#[],guard:=none}
def opsB:List Oper:=[mk0 (some 40) 76 (.move (.tmp 36)),mk0 (some 42) 3 (.move (.tmp 9)),mk0 (some 43) 76 (.move (.tmp 1)),mk0 (some 44) 3 (.move (.tmp 11)),mk0 (some 45) 0 (.indexAddr 76 (.tmp 43) (.tmp 44)),mk0 (some 46) 3 (.load 3 (.tmp 45)),
  mk0 (some 47) 0 (.indexAddr 76 (.tmp 40) (.tmp 42)),mk0 none 3 (.store 3 (.tmp 47) (.tmp 46)),mk0 (some 37) 0 (.indexAddr 66 (.tmp 33) (.tmp 34)),mk0 none 76 (.store 76 (.tmp 37) (.tmp 36))]
@[reducible] def stA (K:Nat) (m xs:List (List Int)) (right row outs:List Int) (den:Int) (i k n:Nat):St:=
  [.slot 33 (.one (.o K n)),sI 34 i,.slot 36 (.one (.o 36 row.length)),.row 36 3 I64 row,.slot 10 (.one (.o K n)),.row K 76 (.sl I64) xs,sI 28 i,.slot 26 (.one (.d MatT m)),sI 27 n,sI 11 i,sI 9 k,sI 20 k,sI 19 n,sI 7 den,.slot 8 (.one (.o 60008 outs.length)),.row 60008 3 I64 outs,.slot 0 (.one (.d MatT m)),.slot 1 (.one (.d (.sl I64) right))]
@[reducible] def stB (K:Nat) (m xs:List (List Int)) (right outs:List Int) (den:Int) (i k n:Nat):St:=
  [.slot 10 (.one (.o K n)),.row K 76 (.sl I64) xs,sI 28 i,.slot 26 (.one (.d MatT m)),sI 27 n,sI 9 k,sI 20 k,sI 19 n,sI 7 den,.slot 8 (.one (.o 60008 outs.length)),.row 60008 3 I64 outs,.slot 0 (.one (.d MatT m)),.slot 1 (.one (.d (.sl I64) right))]
abbrev cSv:List (Nat×Spec):=[(145,zho),(200,zkQ)]
theorem zvw:All cSv:=⟨h145,hDet,trivial⟩
@[reducible] def cfS:Cfg:=cfg {} cSv 75
theorem vcB (m xs:List (List Int)) (right row outs:List Int) (den:Int) (i k n:Nat) (hi:i<n) (hn:xs.length=n) (hr:i<right.length) (hk:k<row.length):zes cfS opsB.toArray opsB (stA 60010 m xs right row outs den i k n)
    (fun st=>Goal (∃s:Unit,ent st (stB 60010 m (xs.set i (row.set k (vI right i))) right outs den i k n)∧True)):=by
  repeat' (intro hzz;(try (rename Two=>hq;cases hq));(try dsimp only at hzz);(try simp only[zad,zac,eqD,inR,big,zab,zB] at hzz);(try simp only[zad,zac,eqD,inR,big,zab,zB,zaz] at hzz);(try (revert hzz;intro _)))
  all_goals try (rename Unit=>hq;clear hq)
  all_goals try ((with_reducible refine Held.mk ?_);(with_reducible (first|refine Frz.mk ?_|refine And.intro (Frz.mk ?_) ?_|refine And.intro ?_ (Frz.mk ?_)));repeat' first|exact True.intro|(change _=_;with_reducible rfl)|refine And.intro ?_ ?_|(with_reducible refine Frz.mk ?_))
  all_goals try (refine Held.mk ?_;(try dsimp only at *);(try simp only[zad,zac,eqD,inR,big,zab,zB] at *);(try simp only[zad,zac,eqD,inR,big,zab,zB,zaz] at *))
  all_goals try omega
  · show row.length=(row.set k (vI right i)).length
    rw[List.length_set]
  · show row.length=(row.set k (vI right i)).length
    rw[List.length_set]
  ·
    refine zai.mk ?_
    refine Exists.intro () ?_
    refine And.intro (Leaf.mk ?_) ?_
    · repeat' first|exact True.intro|refine And.intro ?_ ?_
      all_goals try ((change _=_<;>try dsimp only)<;>try with_reducible rfl)
      all_goals try omega
      all_goals (first|rfl|(rw[List.length_set]))
    trivial
structure RawN (a:Act) (w:World) (row right:List Int) (i n:Nat) (bK cK:Nat) (curK:Array Value) (bC cC:Nat) (curC:Array Value) (bR oR cR elR:Nat) (curR:Array Value) (fR:Nat×Nat):Prop where
  t33:a.tmps.getD 33 undef=.slice (some ⟨bK,0,none⟩) n cK
  t10:a.tmps.getD 10 undef=.slice (some ⟨bK,0,none⟩) n cK
  t36:a.tmps.getD 36 undef=.slice (some ⟨bC,0,none⟩) row.length cC
  t1:a.tmps.getD 1 undef=.slice (some ⟨bR,oR,none⟩) right.length cR
  hK:w.heap[bK]?=some (.cells curK 76 (0,0))
  hC:w.heap[bC]?=some (.cells curC 3 (0,0))
  hR:w.heap[bR]?=some (.cells curR elR fR)
  sK:n≤curK.size
  sC:row.length≤curC.size
  gR:curR[oR+i]?=some (.int .i64 (vI right i))
  ne:bK≠bC
  neK:bR≠bK
  neC:bR≠bC
theorem zyu {M:Nat→Prop} {bs:List Nat} {w0 w:World} {a:Act} {m xs:List (List Int)} {right row outs:List Int} {den:Int} {i k n:Nat} (hR:RelS (EH M bs w0 true) 75 (stA 60010 m xs right row outs den i k n) a w) (hi:i<n) (hn:xs.length=n) (hr:i<right.length) (hk:k<row.length) :
    ∃bK cK curK bC cC curC bR oR cR elR curR fR,RawN a w row right i n bK cK curK bC cC curC bR oR cR elR curR fR:=by
  obtain⟨η,g,H⟩:=hR
  have f33:=H (.slot 33 (.one (.o 60010 n))) (by simp)
  have f10:=H (.slot 10 (.one (.o 60010 n))) (by simp)
  have f36:=H (.slot 36 (.one (.o 36 row.length))) (by simp)
  have fK:=H (.row 60010 76 (.sl I64) xs) (by simp)
  have fC:=H (.row 36 3 I64 row) (by simp)
  have f1:=H (.slot 1 (.one (.d (.sl I64) right))) (by simp)
  simp only[Fact.holds,zao,zaN] at f33 f10 f36 fK fC f1
  rw[zbl (by decide)] at f33 f10 f36 f1
  rcases f33 with ⟨_,h,_⟩|⟨bK,cK,e1,e2,_⟩
  · omega
  rcases f10 with ⟨_,h,_⟩|⟨bK',cK',e3,e4,_⟩
  · omega
  rw[e1] at e3;cases e3
  rcases f36 with ⟨_,h,_⟩|⟨bC,cC,e5,e6,_⟩
  · omega
  rcases fK with ⟨h,_⟩|⟨b1,c1,curK,_,e7,hK,rK⟩
  · rw[e1] at h;cases h
  rw[e1] at e7;cases e7
  rcases fC with ⟨h,_⟩|⟨b2,c2,curC,_,e8,hC,rC⟩
  · rw[e5] at h;cases h
  rw[e5] at e8;cases e8
  obtain⟨l,⟨ad,cap,q1,q2,q3,q4,q5⟩,⟨hf,_⟩|⟨_,hv⟩⟩:=f1
  · cases hf
  rw[q1] at hv
  simp only[List.cons.injEq,and_true] at hv
  have hne:right≠[]:=by intro h;rw[h] at hr;simp at hr
  cases ad with
  | none=>exact absurd (q4 rfl).1 hne
  | some ad=>
    obtain⟨hsp,c,⟨v1,v2,el,f,v3⟩,hsz,hrep⟩:=q5 ad rfl hne
    obtain⟨bR,oR,sp⟩:=ad
    simp only at hsp v1 v2 v3 hsz hrep
    subst hsp
    have hg:=hrep i (vI right i) (by simp[vI,List.getElem?_eq_getElem hr])
    have hg:((c.toList.drop (oR+i*1)).take 1)=[.int .i64 (vI right i)]:=hg
    have hgr:c[oR+i]?=some (.int .i64 (vI right i)):=by
      have h2:=congrArg (fun l=>l[0]?) hg
      simpa [List.getElem?_take,List.getElem?_drop] using h2
    refine⟨bK,cK,curK,bC,cC,curC,bR,oR,cap,el,c,f,e2,e4,e6,hv.symm,hK,hC,v3,?_,?_,hgr,fun h=>?_,fun h=>?_,fun h=>?_⟩
    · have h1:=rK.1;have h2:=rK.2.1
      have:curK.size=cK*1:=h1
      have:xs.length≤cK:=h2
      omega
    · have h1:=rC.1;have h2:=rC.2.1
      have:curC.size=cC*1:=h1
      have:row.length≤cC:=h2
      omega
    · subst h
      have:=g.inj _ _ _ _ _ e1 e5
      cases this
    · subst h;exact v2 _ _ e1
    · subst h;exact v2 _ _ e5
theorem zqT {K:Nat} {m xs:List (List Int)} {right outs:List Int} {den:Int} {i k n:Nat} {u:Nat} {s:SV} (h:Fact.slot u s∈stB K m xs right outs den i k n):u ∉ [36,37,38,39,40,41,42,43,44,45,46,47]:=by
  simp only[stB,List.mem_cons,List.not_mem_nil,or_false,Fact.slot.injEq,reduceCtorEq,false_or] at h
  simp only[List.mem_cons,List.not_mem_nil,or_false]
  omega
theorem ev (a:Act) (t:Nat):a.eval (.tmp t)=a.tmps.getD t undef:=rfl
theorem nest {M:Nat→Prop} {bs:List Nat} {w0 w:World} {a:Act} {m xs:List (List Int)} {right row outs:List Int} {den:Int} {i k n:Nat} {Q:Exit→Act→World→Prop} (hR:RelS (EH M bs w0 true) 75 (stA 60010 m xs right row outs den i k n) a w) (hi:i<n) (hn:xs.length=n) (hr:i<right.length) (hk:k<row.length)
    (hQ:∀a' w',RelS (EH M bs w0 true) 75 (stB 60010 m (xs.set i (row.set k (vI right i))) right outs den i k n) a' w'→Q .normal a' w') :
    wpListIn (Fw none) 0 Tryz.prog zjz.toArray (fun e a w=>match e with | .normal=>r13.wpIn (Fw none) 0 Tryz.prog Q a w|e=>Q e a w) (zjz.drop 4) a w:=by
  obtain⟨bK,cK,curK,bC,cC,curC,bR,oR,cR,elR,curR,fR,r⟩:=zyu hR hi hn hr hk
  have hsz:a.tmps.size=75:=by obtain⟨η,g,H⟩:=hR;exact g.size
  have s34:a.tmps.getD 34 undef=.int .i64 i:=by
    obtain⟨η,g,H⟩:=hR
    have h:=H (sI 34 i) (by simp)
    simp only[Fact.holds] at h
    rw[zbl (by decide)] at h
    exact zkB h
  have s11:a.tmps.getD 11 undef=.int .i64 i:=by
    obtain⟨η,g,H⟩:=hR
    have h:=H (sI 11 i) (by simp)
    simp only[Fact.holds] at h
    rw[zbl (by decide)] at h
    exact zkB h
  have s9:a.tmps.getD 9 undef=.int .i64 k:=by
    obtain⟨η,g,H⟩:=hR
    have h:=H (sI 9 k) (by simp)
    simp only[Fact.holds] at h
    rw[zbl (by decide)] at h
    exact zkB h
  obtain⟨vC,hvC⟩:∃vC,vC=Value.slice (some ⟨bC,0,none⟩) row.length cC:=⟨_,rfl⟩
  obtain⟨x,hx⟩:∃x,x=vI right i:=⟨_,rfl⟩
  -- the way of B
  have hB:=zcE (E:=EH M bs w0 true) (c:=cfS) (ro:=none) (q:=0) (zhH (X:={}) trivial zvw) (ops:=opsB.toArray) (Q:=fun e a' w'=>e=.normal∧RelS (EH M bs w0 true) 75 (stB 60010 m (xs.set i (row.set k (vI right i))) right outs den i k n) a' w')
    (by intro o ho t ht
        have hall:(opsB.all fun o=>match o.dst with|some t=>Nat.blt t 75|none=>true)=true:=by kernel_rfl
        have:=List.all_eq_true.1 hall o (by simpa using ho)
        rw[ht] at this
        exact Nat.le_of_ble_eq_true this) opsB (fun o ho=>by simpa using ho) _ _ a w (vcB m xs right row outs den i k n hi hn hr hk) hR
    (fun st' a' w' h1 h2=>by obtain⟨_,h4,_⟩:=h1.out;exact⟨rfl,zbS h4 h2⟩)
  simp only[opsB] at hB
  have za:=hsz
  have e36:a.tmps.getD 36 undef=vC:=r.t36.trans hvC.symm
  have hB1:=zdt hB rfl rfl (mvR a w _ (.tmp 36) rfl e36)
  obtain⟨B1,qB1⟩:∃x,x=a.put (some 40) vC:=⟨_,rfl⟩
  have zB1:B1.tmps.size=75:=by rw[qB1,zaj];exact za
  have gB1_36:B1.tmps.getD 36 undef=vC:=by rw[qB1];exact (zaa (by decide)).trans e36
  have gB1_33:B1.tmps.getD 33 undef=(.slice (some ⟨bK,0,none⟩) n cK):=by rw[qB1];exact (zaa (by decide)).trans r.t33
  have gB1_10:B1.tmps.getD 10 undef=(.slice (some ⟨bK,0,none⟩) n cK):=by rw[qB1];exact (zaa (by decide)).trans r.t10
  have gB1_34:B1.tmps.getD 34 undef=(.int .i64 i):=by rw[qB1];exact (zaa (by decide)).trans s34
  have gB1_11:B1.tmps.getD 11 undef=(.int .i64 i):=by rw[qB1];exact (zaa (by decide)).trans s11
  have gB1_9:B1.tmps.getD 9 undef=(.int .i64 k):=by rw[qB1];exact (zaa (by decide)).trans s9
  have gB1_1:B1.tmps.getD 1 undef=(.slice (some ⟨bR,oR,none⟩) right.length cR):=by rw[qB1];exact (zaa (by decide)).trans r.t1
  have gB1_40:B1.tmps.getD 40 undef=vC:=by rw[qB1];exact zae (by rw[za];decide)
  change wpListIn (Fw none) 0 Tryz.prog _ _ _ (a.put (some 40) vC) w at hB1
  rw[←qB1] at hB1
  have hB2:=zdt hB1 rfl rfl (mvR B1 w _ (.tmp 9) rfl gB1_9)
  obtain⟨B2,qB2⟩:∃x,x=B1.put (some 42) (.int .i64 k):=⟨_,rfl⟩
  have zB2:B2.tmps.size=75:=by rw[qB2,zaj];exact zB1
  have gB2_36:B2.tmps.getD 36 undef=vC:=by rw[qB2];exact (zaa (by decide)).trans gB1_36
  have gB2_33:B2.tmps.getD 33 undef=(.slice (some ⟨bK,0,none⟩) n cK):=by rw[qB2];exact (zaa (by decide)).trans gB1_33
  have gB2_10:B2.tmps.getD 10 undef=(.slice (some ⟨bK,0,none⟩) n cK):=by rw[qB2];exact (zaa (by decide)).trans gB1_10
  have gB2_34:B2.tmps.getD 34 undef=(.int .i64 i):=by rw[qB2];exact (zaa (by decide)).trans gB1_34
  have gB2_11:B2.tmps.getD 11 undef=(.int .i64 i):=by rw[qB2];exact (zaa (by decide)).trans gB1_11
  have gB2_9:B2.tmps.getD 9 undef=(.int .i64 k):=by rw[qB2];exact (zaa (by decide)).trans gB1_9
  have gB2_1:B2.tmps.getD 1 undef=(.slice (some ⟨bR,oR,none⟩) right.length cR):=by rw[qB2];exact (zaa (by decide)).trans gB1_1
  have gB2_40:B2.tmps.getD 40 undef=vC:=by rw[qB2];exact (zaa (by decide)).trans gB1_40
  have gB2_42:B2.tmps.getD 42 undef=(.int .i64 k):=by rw[qB2];exact zae (by rw[zB1];decide)
  change wpListIn (Fw none) 0 Tryz.prog _ _ _ (B1.put (some 42) (.int .i64 k)) w at hB2
  rw[←qB2] at hB2
  have hB3:=zdt hB2 rfl rfl (mvR B2 w _ (.tmp 1) rfl gB2_1)
  obtain⟨B3,qB3⟩:∃x,x=B2.put (some 43) (.slice (some ⟨bR,oR,none⟩) right.length cR):=⟨_,rfl⟩
  have zB3:B3.tmps.size=75:=by rw[qB3,zaj];exact zB2
  have gB3_36:B3.tmps.getD 36 undef=vC:=by rw[qB3];exact (zaa (by decide)).trans gB2_36
  have gB3_33:B3.tmps.getD 33 undef=(.slice (some ⟨bK,0,none⟩) n cK):=by rw[qB3];exact (zaa (by decide)).trans gB2_33
  have gB3_10:B3.tmps.getD 10 undef=(.slice (some ⟨bK,0,none⟩) n cK):=by rw[qB3];exact (zaa (by decide)).trans gB2_10
  have gB3_34:B3.tmps.getD 34 undef=(.int .i64 i):=by rw[qB3];exact (zaa (by decide)).trans gB2_34
  have gB3_11:B3.tmps.getD 11 undef=(.int .i64 i):=by rw[qB3];exact (zaa (by decide)).trans gB2_11
  have gB3_9:B3.tmps.getD 9 undef=(.int .i64 k):=by rw[qB3];exact (zaa (by decide)).trans gB2_9
  have gB3_1:B3.tmps.getD 1 undef=(.slice (some ⟨bR,oR,none⟩) right.length cR):=by rw[qB3];exact (zaa (by decide)).trans gB2_1
  have gB3_40:B3.tmps.getD 40 undef=vC:=by rw[qB3];exact (zaa (by decide)).trans gB2_40
  have gB3_42:B3.tmps.getD 42 undef=(.int .i64 k):=by rw[qB3];exact (zaa (by decide)).trans gB2_42
  have gB3_43:B3.tmps.getD 43 undef=(.slice (some ⟨bR,oR,none⟩) right.length cR):=by rw[qB3];exact zae (by rw[zB2];decide)
  change wpListIn (Fw none) 0 Tryz.prog _ _ _ (B2.put (some 43) (.slice (some ⟨bR,oR,none⟩) right.length cR)) w at hB3
  rw[←qB3] at hB3
  have hB4:=zdt hB3 rfl rfl (mvR B3 w _ (.tmp 11) rfl gB3_11)
  obtain⟨B4,qB4⟩:∃x,x=B3.put (some 44) (.int .i64 i):=⟨_,rfl⟩
  have zB4:B4.tmps.size=75:=by rw[qB4,zaj];exact zB3
  have gB4_36:B4.tmps.getD 36 undef=vC:=by rw[qB4];exact (zaa (by decide)).trans gB3_36
  have gB4_33:B4.tmps.getD 33 undef=(.slice (some ⟨bK,0,none⟩) n cK):=by rw[qB4];exact (zaa (by decide)).trans gB3_33
  have gB4_10:B4.tmps.getD 10 undef=(.slice (some ⟨bK,0,none⟩) n cK):=by rw[qB4];exact (zaa (by decide)).trans gB3_10
  have gB4_34:B4.tmps.getD 34 undef=(.int .i64 i):=by rw[qB4];exact (zaa (by decide)).trans gB3_34
  have gB4_11:B4.tmps.getD 11 undef=(.int .i64 i):=by rw[qB4];exact (zaa (by decide)).trans gB3_11
  have gB4_9:B4.tmps.getD 9 undef=(.int .i64 k):=by rw[qB4];exact (zaa (by decide)).trans gB3_9
  have gB4_1:B4.tmps.getD 1 undef=(.slice (some ⟨bR,oR,none⟩) right.length cR):=by rw[qB4];exact (zaa (by decide)).trans gB3_1
  have gB4_40:B4.tmps.getD 40 undef=vC:=by rw[qB4];exact (zaa (by decide)).trans gB3_40
  have gB4_42:B4.tmps.getD 42 undef=(.int .i64 k):=by rw[qB4];exact (zaa (by decide)).trans gB3_42
  have gB4_43:B4.tmps.getD 43 undef=(.slice (some ⟨bR,oR,none⟩) right.length cR):=by rw[qB4];exact (zaa (by decide)).trans gB3_43
  have gB4_44:B4.tmps.getD 44 undef=(.int .i64 i):=by rw[qB4];exact zae (by rw[zB3];decide)
  change wpListIn (Fw none) 0 Tryz.prog _ _ _ (B3.put (some 44) (.int .i64 i)) w at hB4
  rw[←qB4] at hB4
  have hB5:=zdt hB4 rfl rfl (ia76 B4 w _ (.tmp 43) (.tmp 44) rfl gB4_43 gB4_44 hr)
  obtain⟨B5,qB5⟩:∃x,x=B4.put (some 45) (.pointer (some ⟨bR,oR+i,none⟩)):=⟨_,rfl⟩
  have zB5:B5.tmps.size=75:=by rw[qB5,zaj];exact zB4
  have gB5_36:B5.tmps.getD 36 undef=vC:=by rw[qB5];exact (zaa (by decide)).trans gB4_36
  have gB5_33:B5.tmps.getD 33 undef=(.slice (some ⟨bK,0,none⟩) n cK):=by rw[qB5];exact (zaa (by decide)).trans gB4_33
  have gB5_10:B5.tmps.getD 10 undef=(.slice (some ⟨bK,0,none⟩) n cK):=by rw[qB5];exact (zaa (by decide)).trans gB4_10
  have gB5_34:B5.tmps.getD 34 undef=(.int .i64 i):=by rw[qB5];exact (zaa (by decide)).trans gB4_34
  have gB5_11:B5.tmps.getD 11 undef=(.int .i64 i):=by rw[qB5];exact (zaa (by decide)).trans gB4_11
  have gB5_9:B5.tmps.getD 9 undef=(.int .i64 k):=by rw[qB5];exact (zaa (by decide)).trans gB4_9
  have gB5_1:B5.tmps.getD 1 undef=(.slice (some ⟨bR,oR,none⟩) right.length cR):=by rw[qB5];exact (zaa (by decide)).trans gB4_1
  have gB5_40:B5.tmps.getD 40 undef=vC:=by rw[qB5];exact (zaa (by decide)).trans gB4_40
  have gB5_42:B5.tmps.getD 42 undef=(.int .i64 k):=by rw[qB5];exact (zaa (by decide)).trans gB4_42
  have gB5_43:B5.tmps.getD 43 undef=(.slice (some ⟨bR,oR,none⟩) right.length cR):=by rw[qB5];exact (zaa (by decide)).trans gB4_43
  have gB5_44:B5.tmps.getD 44 undef=(.int .i64 i):=by rw[qB5];exact (zaa (by decide)).trans gB4_44
  have gB5_45:B5.tmps.getD 45 undef=(.pointer (some ⟨bR,oR+i,none⟩)):=by rw[qB5];exact zae (by rw[zB4];decide)
  change wpListIn (Fw none) 0 Tryz.prog _ _ _ (B4.put (some 45) (.pointer (some ⟨bR,oR+i,none⟩))) w at hB5
  rw[←qB5] at hB5
  have hB6:=zdt hB5 rfl rfl (ld3 B5 w _ (.tmp 45) rfl gB5_45 r.hR r.gR)
  obtain⟨B6,qB6⟩:∃x,x=B5.put (some 46) (.int .i64 (vI right i)):=⟨_,rfl⟩
  have zB6:B6.tmps.size=75:=by rw[qB6,zaj];exact zB5
  have gB6_36:B6.tmps.getD 36 undef=vC:=by rw[qB6];exact (zaa (by decide)).trans gB5_36
  have gB6_33:B6.tmps.getD 33 undef=(.slice (some ⟨bK,0,none⟩) n cK):=by rw[qB6];exact (zaa (by decide)).trans gB5_33
  have gB6_10:B6.tmps.getD 10 undef=(.slice (some ⟨bK,0,none⟩) n cK):=by rw[qB6];exact (zaa (by decide)).trans gB5_10
  have gB6_34:B6.tmps.getD 34 undef=(.int .i64 i):=by rw[qB6];exact (zaa (by decide)).trans gB5_34
  have gB6_11:B6.tmps.getD 11 undef=(.int .i64 i):=by rw[qB6];exact (zaa (by decide)).trans gB5_11
  have gB6_9:B6.tmps.getD 9 undef=(.int .i64 k):=by rw[qB6];exact (zaa (by decide)).trans gB5_9
  have gB6_1:B6.tmps.getD 1 undef=(.slice (some ⟨bR,oR,none⟩) right.length cR):=by rw[qB6];exact (zaa (by decide)).trans gB5_1
  have gB6_40:B6.tmps.getD 40 undef=vC:=by rw[qB6];exact (zaa (by decide)).trans gB5_40
  have gB6_42:B6.tmps.getD 42 undef=(.int .i64 k):=by rw[qB6];exact (zaa (by decide)).trans gB5_42
  have gB6_43:B6.tmps.getD 43 undef=(.slice (some ⟨bR,oR,none⟩) right.length cR):=by rw[qB6];exact (zaa (by decide)).trans gB5_43
  have gB6_44:B6.tmps.getD 44 undef=(.int .i64 i):=by rw[qB6];exact (zaa (by decide)).trans gB5_44
  have gB6_45:B6.tmps.getD 45 undef=(.pointer (some ⟨bR,oR+i,none⟩)):=by rw[qB6];exact (zaa (by decide)).trans gB5_45
  have gB6_46:B6.tmps.getD 46 undef=(.int .i64 (vI right i)):=by rw[qB6];exact zae (by rw[zB5];decide)
  change wpListIn (Fw none) 0 Tryz.prog _ _ _ (B5.put (some 46) (.int .i64 (vI right i))) w at hB6
  rw[←qB6] at hB6
  have hB7:=zdt hB6 rfl rfl (ia76 B6 w _ (.tmp 40) (.tmp 42) rfl (gB6_40.trans hvC) gB6_42 hk)
  obtain⟨B7,qB7⟩:∃x,x=B6.put (some 47) (.pointer (some ⟨bC,0+k,none⟩)):=⟨_,rfl⟩
  have zB7:B7.tmps.size=75:=by rw[qB7,zaj];exact zB6
  have gB7_36:B7.tmps.getD 36 undef=vC:=by rw[qB7];exact (zaa (by decide)).trans gB6_36
  have gB7_33:B7.tmps.getD 33 undef=(.slice (some ⟨bK,0,none⟩) n cK):=by rw[qB7];exact (zaa (by decide)).trans gB6_33
  have gB7_10:B7.tmps.getD 10 undef=(.slice (some ⟨bK,0,none⟩) n cK):=by rw[qB7];exact (zaa (by decide)).trans gB6_10
  have gB7_34:B7.tmps.getD 34 undef=(.int .i64 i):=by rw[qB7];exact (zaa (by decide)).trans gB6_34
  have gB7_11:B7.tmps.getD 11 undef=(.int .i64 i):=by rw[qB7];exact (zaa (by decide)).trans gB6_11
  have gB7_9:B7.tmps.getD 9 undef=(.int .i64 k):=by rw[qB7];exact (zaa (by decide)).trans gB6_9
  have gB7_1:B7.tmps.getD 1 undef=(.slice (some ⟨bR,oR,none⟩) right.length cR):=by rw[qB7];exact (zaa (by decide)).trans gB6_1
  have gB7_40:B7.tmps.getD 40 undef=vC:=by rw[qB7];exact (zaa (by decide)).trans gB6_40
  have gB7_42:B7.tmps.getD 42 undef=(.int .i64 k):=by rw[qB7];exact (zaa (by decide)).trans gB6_42
  have gB7_43:B7.tmps.getD 43 undef=(.slice (some ⟨bR,oR,none⟩) right.length cR):=by rw[qB7];exact (zaa (by decide)).trans gB6_43
  have gB7_44:B7.tmps.getD 44 undef=(.int .i64 i):=by rw[qB7];exact (zaa (by decide)).trans gB6_44
  have gB7_45:B7.tmps.getD 45 undef=(.pointer (some ⟨bR,oR+i,none⟩)):=by rw[qB7];exact (zaa (by decide)).trans gB6_45
  have gB7_46:B7.tmps.getD 46 undef=(.int .i64 (vI right i)):=by rw[qB7];exact (zaa (by decide)).trans gB6_46
  have gB7_47:B7.tmps.getD 47 undef=(.pointer (some ⟨bC,0+k,none⟩)):=by rw[qB7];exact zae (by rw[zB6];decide)
  change wpListIn (Fw none) 0 Tryz.prog _ _ _ (B6.put (some 47) (.pointer (some ⟨bC,0+k,none⟩))) w at hB7
  rw[←qB7] at hB7
  obtain⟨wB8,hwB8⟩:∃x,x=w.setRow bC (curC.set! (0+k) (.int .i64 (vI right i))):=⟨_,rfl⟩
  have kwB8o:=(setRow_other w bC bK (curC.set! (0+k) (.int .i64 (vI right i))) r.ne).trans r.hK
  have kwB8R:=(setRow_other w bC bR (curC.set! (0+k) (.int .i64 (vI right i))) r.neC).trans r.hR
  have kwB8s:=setRow_heap w bC curC (curC.set! (0+k) (.int .i64 (vI right i))) _ _ r.hC
  rw[←hwB8] at kwB8s kwB8o kwB8R
  have hB8:=zgj hB7 rfl rfl (st3 B7 w _ (.tmp 47) (.tmp 46) rfl gB7_47 gB7_46 r.hC (by have:=r.sC;omega))
  change wpListIn (Fw none) 0 Tryz.prog _ _ _ B7 (w.setRow bC (curC.set! (0+k) (.int .i64 (vI right i)))) at hB8
  rw[←hwB8] at hB8
  have hB9:=zdt hB8 rfl rfl (ia66 B7 wB8 _ (.tmp 33) (.tmp 34) rfl gB7_33 gB7_34 hi)
  obtain⟨B9,qB9⟩:∃x,x=B7.put (some 37) (.pointer (some ⟨bK,0+i,none⟩)):=⟨_,rfl⟩
  have zB9:B9.tmps.size=75:=by rw[qB9,zaj];exact zB7
  have gB9_36:B9.tmps.getD 36 undef=vC:=by rw[qB9];exact (zaa (by decide)).trans gB7_36
  have gB9_33:B9.tmps.getD 33 undef=(.slice (some ⟨bK,0,none⟩) n cK):=by rw[qB9];exact (zaa (by decide)).trans gB7_33
  have gB9_10:B9.tmps.getD 10 undef=(.slice (some ⟨bK,0,none⟩) n cK):=by rw[qB9];exact (zaa (by decide)).trans gB7_10
  have gB9_34:B9.tmps.getD 34 undef=(.int .i64 i):=by rw[qB9];exact (zaa (by decide)).trans gB7_34
  have gB9_11:B9.tmps.getD 11 undef=(.int .i64 i):=by rw[qB9];exact (zaa (by decide)).trans gB7_11
  have gB9_9:B9.tmps.getD 9 undef=(.int .i64 k):=by rw[qB9];exact (zaa (by decide)).trans gB7_9
  have gB9_1:B9.tmps.getD 1 undef=(.slice (some ⟨bR,oR,none⟩) right.length cR):=by rw[qB9];exact (zaa (by decide)).trans gB7_1
  have gB9_40:B9.tmps.getD 40 undef=vC:=by rw[qB9];exact (zaa (by decide)).trans gB7_40
  have gB9_42:B9.tmps.getD 42 undef=(.int .i64 k):=by rw[qB9];exact (zaa (by decide)).trans gB7_42
  have gB9_43:B9.tmps.getD 43 undef=(.slice (some ⟨bR,oR,none⟩) right.length cR):=by rw[qB9];exact (zaa (by decide)).trans gB7_43
  have gB9_44:B9.tmps.getD 44 undef=(.int .i64 i):=by rw[qB9];exact (zaa (by decide)).trans gB7_44
  have gB9_45:B9.tmps.getD 45 undef=(.pointer (some ⟨bR,oR+i,none⟩)):=by rw[qB9];exact (zaa (by decide)).trans gB7_45
  have gB9_46:B9.tmps.getD 46 undef=(.int .i64 (vI right i)):=by rw[qB9];exact (zaa (by decide)).trans gB7_46
  have gB9_47:B9.tmps.getD 47 undef=(.pointer (some ⟨bC,0+k,none⟩)):=by rw[qB9];exact (zaa (by decide)).trans gB7_47
  have gB9_37:B9.tmps.getD 37 undef=(.pointer (some ⟨bK,0+i,none⟩)):=by rw[qB9];exact zae (by rw[zB7];decide)
  change wpListIn (Fw none) 0 Tryz.prog _ _ _ (B7.put (some 37) (.pointer (some ⟨bK,0+i,none⟩))) wB8 at hB9
  rw[←qB9] at hB9
  obtain⟨wB10,hwB10⟩:∃x,x=wB8.setRow bK (curK.set! (0+i) vC):=⟨_,rfl⟩
  have kwB10o:=(setRow_other wB8 bK bC (curK.set! (0+i) vC) (fun h=>r.ne h.symm)).trans kwB8s
  have kwB10R:=(setRow_other wB8 bK bR (curK.set! (0+i) vC) r.neK).trans kwB8R
  have kwB10s:=setRow_heap wB8 bK curK (curK.set! (0+i) vC) _ _ kwB8o
  rw[←hwB10] at kwB10s kwB10o kwB10R
  have hB10:=zgj hB9 rfl rfl (st76 B9 wB8 _ (.tmp 37) (.tmp 36) rfl gB9_37 (gB9_36.trans hvC) kwB8o (by have:=r.sK;omega))
  rw[←hvC] at hB10
  change wpListIn (Fw none) 0 Tryz.prog _ _ _ B9 (wB8.setRow bK (curK.set! (0+i) vC)) at hB10
  rw[←hwB10] at hB10
  -- the way of the code
  refine zak rfl (zaV (by intro d h;cases h) (ia66 a w _ (.tmp 33) (.tmp 34) rfl r.t33 s34 hi) ?_)
  obtain⟨A1,qA1⟩:∃x,x=a.put (some 37) (.pointer (some ⟨bK,0+i,none⟩)):=⟨_,rfl⟩
  have zA1:A1.tmps.size=75:=by rw[qA1,zaj];exact za
  have gA1_36:A1.tmps.getD 36 undef=vC:=by rw[qA1];exact (zaa (by decide)).trans e36
  have gA1_33:A1.tmps.getD 33 undef=(.slice (some ⟨bK,0,none⟩) n cK):=by rw[qA1];exact (zaa (by decide)).trans r.t33
  have gA1_10:A1.tmps.getD 10 undef=(.slice (some ⟨bK,0,none⟩) n cK):=by rw[qA1];exact (zaa (by decide)).trans r.t10
  have gA1_34:A1.tmps.getD 34 undef=(.int .i64 i):=by rw[qA1];exact (zaa (by decide)).trans s34
  have gA1_11:A1.tmps.getD 11 undef=(.int .i64 i):=by rw[qA1];exact (zaa (by decide)).trans s11
  have gA1_9:A1.tmps.getD 9 undef=(.int .i64 k):=by rw[qA1];exact (zaa (by decide)).trans s9
  have gA1_1:A1.tmps.getD 1 undef=(.slice (some ⟨bR,oR,none⟩) right.length cR):=by rw[qA1];exact (zaa (by decide)).trans r.t1
  have gA1_37:A1.tmps.getD 37 undef=(.pointer (some ⟨bK,0+i,none⟩)):=by rw[qA1];exact zae (by rw[za];decide)
  change wpListIn (Fw none) 0 Tryz.prog _ _ _ (a.put (some 37) (.pointer (some ⟨bK,0+i,none⟩))) w
  rw[←qA1]
  obtain⟨wA2,hwA2⟩:∃x,x=w.setRow bK (curK.set! (0+i) vC):=⟨_,rfl⟩
  have kwA2o:=(setRow_other w bK bC (curK.set! (0+i) vC) (fun h=>r.ne h.symm)).trans r.hC
  have kwA2R:=(setRow_other w bK bR (curK.set! (0+i) vC) r.neK).trans r.hR
  have kwA2s:=setRow_heap w bK curK (curK.set! (0+i) vC) _ _ r.hK
  rw[←hwA2] at kwA2s kwA2o kwA2R
  refine zak rfl (zk2 (by intro d h;cases h) (st76 A1 w _ (.tmp 37) (.tmp 36) rfl gA1_37 (gA1_36.trans hvC) r.hK (by have:=r.sK;omega)) ?_)
  rw[←hvC]
  change wpListIn (Fw none) 0 Tryz.prog _ _ _ A1 (w.setRow bK (curK.set! (0+i) vC))
  rw[←hwA2]
  refine zaW ?_
  show r13.wpIn (Fw none) 0 Tryz.prog Q A1 wA2
  rw[zyv,zwI]
  refine wpIn_wide.2 (wp_region_still_tail 10 mixed (by kernel_rfl) ?_)
  obtain⟨wd,hwd⟩:∃x,x=({wA2 with drawn:=wA2.drawn+1}:World):=⟨_,rfl⟩
  rw[←hwd]
  have dbK:=(show wd.heap[bK]?=wA2.heap[bK]? by rw[hwd]).trans kwA2s
  have dbC:=(show wd.heap[bC]?=wA2.heap[bC]? by rw[hwd]).trans kwA2o
  have dbR:=(show wd.heap[bR]?=wA2.heap[bR]? by rw[hwd]).trans kwA2R
  have gV:(curK.set! (0+i) vC)[0+i]?=some vC:=by rw[Array.set!_eq_setIfInBounds,Array.getElem?_setIfInBounds_self_of_lt (by have:=r.sK;omega)]
  refine zfp rfl (mvR A1 wd _ (.tmp 10) rfl gA1_10) ?_
  obtain⟨D1,qD1⟩:∃x,x=A1.put (some 38) (.slice (some ⟨bK,0,none⟩) n cK):=⟨_,rfl⟩
  have zD1:D1.tmps.size=75:=by rw[qD1,zaj];exact zA1
  have gD1_36:D1.tmps.getD 36 undef=vC:=by rw[qD1];exact (zaa (by decide)).trans gA1_36
  have gD1_33:D1.tmps.getD 33 undef=(.slice (some ⟨bK,0,none⟩) n cK):=by rw[qD1];exact (zaa (by decide)).trans gA1_33
  have gD1_10:D1.tmps.getD 10 undef=(.slice (some ⟨bK,0,none⟩) n cK):=by rw[qD1];exact (zaa (by decide)).trans gA1_10
  have gD1_34:D1.tmps.getD 34 undef=(.int .i64 i):=by rw[qD1];exact (zaa (by decide)).trans gA1_34
  have gD1_11:D1.tmps.getD 11 undef=(.int .i64 i):=by rw[qD1];exact (zaa (by decide)).trans gA1_11
  have gD1_9:D1.tmps.getD 9 undef=(.int .i64 k):=by rw[qD1];exact (zaa (by decide)).trans gA1_9
  have gD1_1:D1.tmps.getD 1 undef=(.slice (some ⟨bR,oR,none⟩) right.length cR):=by rw[qD1];exact (zaa (by decide)).trans gA1_1
  have gD1_37:D1.tmps.getD 37 undef=(.pointer (some ⟨bK,0+i,none⟩)):=by rw[qD1];exact (zaa (by decide)).trans gA1_37
  have gD1_38:D1.tmps.getD 38 undef=(.slice (some ⟨bK,0,none⟩) n cK):=by rw[qD1];exact zae (by rw[zA1];decide)
  change wpStill Tryz.prog _ _ _ _ (A1.put (some 38) (.slice (some ⟨bK,0,none⟩) n cK))
  rw[←qD1]
  refine zfp rfl (mvR D1 wd _ (.tmp 11) rfl gD1_11) ?_
  obtain⟨D2,qD2⟩:∃x,x=D1.put (some 39) (.int .i64 i):=⟨_,rfl⟩
  have zD2:D2.tmps.size=75:=by rw[qD2,zaj];exact zD1
  have gD2_36:D2.tmps.getD 36 undef=vC:=by rw[qD2];exact (zaa (by decide)).trans gD1_36
  have gD2_33:D2.tmps.getD 33 undef=(.slice (some ⟨bK,0,none⟩) n cK):=by rw[qD2];exact (zaa (by decide)).trans gD1_33
  have gD2_10:D2.tmps.getD 10 undef=(.slice (some ⟨bK,0,none⟩) n cK):=by rw[qD2];exact (zaa (by decide)).trans gD1_10
  have gD2_34:D2.tmps.getD 34 undef=(.int .i64 i):=by rw[qD2];exact (zaa (by decide)).trans gD1_34
  have gD2_11:D2.tmps.getD 11 undef=(.int .i64 i):=by rw[qD2];exact (zaa (by decide)).trans gD1_11
  have gD2_9:D2.tmps.getD 9 undef=(.int .i64 k):=by rw[qD2];exact (zaa (by decide)).trans gD1_9
  have gD2_1:D2.tmps.getD 1 undef=(.slice (some ⟨bR,oR,none⟩) right.length cR):=by rw[qD2];exact (zaa (by decide)).trans gD1_1
  have gD2_37:D2.tmps.getD 37 undef=(.pointer (some ⟨bK,0+i,none⟩)):=by rw[qD2];exact (zaa (by decide)).trans gD1_37
  have gD2_38:D2.tmps.getD 38 undef=(.slice (some ⟨bK,0,none⟩) n cK):=by rw[qD2];exact (zaa (by decide)).trans gD1_38
  have gD2_39:D2.tmps.getD 39 undef=(.int .i64 i):=by rw[qD2];exact zae (by rw[zD1];decide)
  change wpStill Tryz.prog _ _ _ _ (D1.put (some 39) (.int .i64 i))
  rw[←qD2]
  refine zfp rfl (ia66 D2 wd _ (.tmp 38) (.tmp 39) rfl gD2_38 gD2_39 hi) ?_
  obtain⟨D3,qD3⟩:∃x,x=D2.put (some 40) (.pointer (some ⟨bK,0+i,none⟩)):=⟨_,rfl⟩
  have zD3:D3.tmps.size=75:=by rw[qD3,zaj];exact zD2
  have gD3_36:D3.tmps.getD 36 undef=vC:=by rw[qD3];exact (zaa (by decide)).trans gD2_36
  have gD3_33:D3.tmps.getD 33 undef=(.slice (some ⟨bK,0,none⟩) n cK):=by rw[qD3];exact (zaa (by decide)).trans gD2_33
  have gD3_10:D3.tmps.getD 10 undef=(.slice (some ⟨bK,0,none⟩) n cK):=by rw[qD3];exact (zaa (by decide)).trans gD2_10
  have gD3_34:D3.tmps.getD 34 undef=(.int .i64 i):=by rw[qD3];exact (zaa (by decide)).trans gD2_34
  have gD3_11:D3.tmps.getD 11 undef=(.int .i64 i):=by rw[qD3];exact (zaa (by decide)).trans gD2_11
  have gD3_9:D3.tmps.getD 9 undef=(.int .i64 k):=by rw[qD3];exact (zaa (by decide)).trans gD2_9
  have gD3_1:D3.tmps.getD 1 undef=(.slice (some ⟨bR,oR,none⟩) right.length cR):=by rw[qD3];exact (zaa (by decide)).trans gD2_1
  have gD3_37:D3.tmps.getD 37 undef=(.pointer (some ⟨bK,0+i,none⟩)):=by rw[qD3];exact (zaa (by decide)).trans gD2_37
  have gD3_38:D3.tmps.getD 38 undef=(.slice (some ⟨bK,0,none⟩) n cK):=by rw[qD3];exact (zaa (by decide)).trans gD2_38
  have gD3_39:D3.tmps.getD 39 undef=(.int .i64 i):=by rw[qD3];exact (zaa (by decide)).trans gD2_39
  have gD3_40:D3.tmps.getD 40 undef=(.pointer (some ⟨bK,0+i,none⟩)):=by rw[qD3];exact zae (by rw[zD2];decide)
  change wpStill Tryz.prog _ _ _ _ (D2.put (some 40) (.pointer (some ⟨bK,0+i,none⟩)))
  rw[←qD3]
  refine zfp rfl (ld76 D3 wd _ (.tmp 40) rfl gD3_40 dbK gV) ?_
  obtain⟨D4,qD4⟩:∃x,x=D3.put (some 41) vC:=⟨_,rfl⟩
  have zD4:D4.tmps.size=75:=by rw[qD4,zaj];exact zD3
  have gD4_36:D4.tmps.getD 36 undef=vC:=by rw[qD4];exact (zaa (by decide)).trans gD3_36
  have gD4_33:D4.tmps.getD 33 undef=(.slice (some ⟨bK,0,none⟩) n cK):=by rw[qD4];exact (zaa (by decide)).trans gD3_33
  have gD4_10:D4.tmps.getD 10 undef=(.slice (some ⟨bK,0,none⟩) n cK):=by rw[qD4];exact (zaa (by decide)).trans gD3_10
  have gD4_34:D4.tmps.getD 34 undef=(.int .i64 i):=by rw[qD4];exact (zaa (by decide)).trans gD3_34
  have gD4_11:D4.tmps.getD 11 undef=(.int .i64 i):=by rw[qD4];exact (zaa (by decide)).trans gD3_11
  have gD4_9:D4.tmps.getD 9 undef=(.int .i64 k):=by rw[qD4];exact (zaa (by decide)).trans gD3_9
  have gD4_1:D4.tmps.getD 1 undef=(.slice (some ⟨bR,oR,none⟩) right.length cR):=by rw[qD4];exact (zaa (by decide)).trans gD3_1
  have gD4_37:D4.tmps.getD 37 undef=(.pointer (some ⟨bK,0+i,none⟩)):=by rw[qD4];exact (zaa (by decide)).trans gD3_37
  have gD4_38:D4.tmps.getD 38 undef=(.slice (some ⟨bK,0,none⟩) n cK):=by rw[qD4];exact (zaa (by decide)).trans gD3_38
  have gD4_39:D4.tmps.getD 39 undef=(.int .i64 i):=by rw[qD4];exact (zaa (by decide)).trans gD3_39
  have gD4_40:D4.tmps.getD 40 undef=(.pointer (some ⟨bK,0+i,none⟩)):=by rw[qD4];exact (zaa (by decide)).trans gD3_40
  have gD4_41:D4.tmps.getD 41 undef=vC:=by rw[qD4];exact zae (by rw[zD3];decide)
  change wpStill Tryz.prog _ _ _ _ (D3.put (some 41) vC)
  rw[←qD4]
  refine zfp rfl (mvR D4 wd _ (.tmp 9) rfl gD4_9) ?_
  obtain⟨D5,qD5⟩:∃x,x=D4.put (some 42) (.int .i64 k):=⟨_,rfl⟩
  have zD5:D5.tmps.size=75:=by rw[qD5,zaj];exact zD4
  have gD5_36:D5.tmps.getD 36 undef=vC:=by rw[qD5];exact (zaa (by decide)).trans gD4_36
  have gD5_33:D5.tmps.getD 33 undef=(.slice (some ⟨bK,0,none⟩) n cK):=by rw[qD5];exact (zaa (by decide)).trans gD4_33
  have gD5_10:D5.tmps.getD 10 undef=(.slice (some ⟨bK,0,none⟩) n cK):=by rw[qD5];exact (zaa (by decide)).trans gD4_10
  have gD5_34:D5.tmps.getD 34 undef=(.int .i64 i):=by rw[qD5];exact (zaa (by decide)).trans gD4_34
  have gD5_11:D5.tmps.getD 11 undef=(.int .i64 i):=by rw[qD5];exact (zaa (by decide)).trans gD4_11
  have gD5_9:D5.tmps.getD 9 undef=(.int .i64 k):=by rw[qD5];exact (zaa (by decide)).trans gD4_9
  have gD5_1:D5.tmps.getD 1 undef=(.slice (some ⟨bR,oR,none⟩) right.length cR):=by rw[qD5];exact (zaa (by decide)).trans gD4_1
  have gD5_37:D5.tmps.getD 37 undef=(.pointer (some ⟨bK,0+i,none⟩)):=by rw[qD5];exact (zaa (by decide)).trans gD4_37
  have gD5_38:D5.tmps.getD 38 undef=(.slice (some ⟨bK,0,none⟩) n cK):=by rw[qD5];exact (zaa (by decide)).trans gD4_38
  have gD5_39:D5.tmps.getD 39 undef=(.int .i64 i):=by rw[qD5];exact (zaa (by decide)).trans gD4_39
  have gD5_40:D5.tmps.getD 40 undef=(.pointer (some ⟨bK,0+i,none⟩)):=by rw[qD5];exact (zaa (by decide)).trans gD4_40
  have gD5_41:D5.tmps.getD 41 undef=vC:=by rw[qD5];exact (zaa (by decide)).trans gD4_41
  have gD5_42:D5.tmps.getD 42 undef=(.int .i64 k):=by rw[qD5];exact zae (by rw[zD4];decide)
  change wpStill Tryz.prog _ _ _ _ (D4.put (some 42) (.int .i64 k))
  rw[←qD5]
  refine zfp rfl (mvR D5 wd _ (.tmp 1) rfl gD5_1) ?_
  obtain⟨D6,qD6⟩:∃x,x=D5.put (some 43) (.slice (some ⟨bR,oR,none⟩) right.length cR):=⟨_,rfl⟩
  have zD6:D6.tmps.size=75:=by rw[qD6,zaj];exact zD5
  have gD6_36:D6.tmps.getD 36 undef=vC:=by rw[qD6];exact (zaa (by decide)).trans gD5_36
  have gD6_33:D6.tmps.getD 33 undef=(.slice (some ⟨bK,0,none⟩) n cK):=by rw[qD6];exact (zaa (by decide)).trans gD5_33
  have gD6_10:D6.tmps.getD 10 undef=(.slice (some ⟨bK,0,none⟩) n cK):=by rw[qD6];exact (zaa (by decide)).trans gD5_10
  have gD6_34:D6.tmps.getD 34 undef=(.int .i64 i):=by rw[qD6];exact (zaa (by decide)).trans gD5_34
  have gD6_11:D6.tmps.getD 11 undef=(.int .i64 i):=by rw[qD6];exact (zaa (by decide)).trans gD5_11
  have gD6_9:D6.tmps.getD 9 undef=(.int .i64 k):=by rw[qD6];exact (zaa (by decide)).trans gD5_9
  have gD6_1:D6.tmps.getD 1 undef=(.slice (some ⟨bR,oR,none⟩) right.length cR):=by rw[qD6];exact (zaa (by decide)).trans gD5_1
  have gD6_37:D6.tmps.getD 37 undef=(.pointer (some ⟨bK,0+i,none⟩)):=by rw[qD6];exact (zaa (by decide)).trans gD5_37
  have gD6_38:D6.tmps.getD 38 undef=(.slice (some ⟨bK,0,none⟩) n cK):=by rw[qD6];exact (zaa (by decide)).trans gD5_38
  have gD6_39:D6.tmps.getD 39 undef=(.int .i64 i):=by rw[qD6];exact (zaa (by decide)).trans gD5_39
  have gD6_40:D6.tmps.getD 40 undef=(.pointer (some ⟨bK,0+i,none⟩)):=by rw[qD6];exact (zaa (by decide)).trans gD5_40
  have gD6_41:D6.tmps.getD 41 undef=vC:=by rw[qD6];exact (zaa (by decide)).trans gD5_41
  have gD6_42:D6.tmps.getD 42 undef=(.int .i64 k):=by rw[qD6];exact (zaa (by decide)).trans gD5_42
  have gD6_43:D6.tmps.getD 43 undef=(.slice (some ⟨bR,oR,none⟩) right.length cR):=by rw[qD6];exact zae (by rw[zD5];decide)
  change wpStill Tryz.prog _ _ _ _ (D5.put (some 43) (.slice (some ⟨bR,oR,none⟩) right.length cR))
  rw[←qD6]
  refine zfp rfl (mvR D6 wd _ (.tmp 11) rfl gD6_11) ?_
  obtain⟨D7,qD7⟩:∃x,x=D6.put (some 44) (.int .i64 i):=⟨_,rfl⟩
  have zD7:D7.tmps.size=75:=by rw[qD7,zaj];exact zD6
  have gD7_36:D7.tmps.getD 36 undef=vC:=by rw[qD7];exact (zaa (by decide)).trans gD6_36
  have gD7_33:D7.tmps.getD 33 undef=(.slice (some ⟨bK,0,none⟩) n cK):=by rw[qD7];exact (zaa (by decide)).trans gD6_33
  have gD7_10:D7.tmps.getD 10 undef=(.slice (some ⟨bK,0,none⟩) n cK):=by rw[qD7];exact (zaa (by decide)).trans gD6_10
  have gD7_34:D7.tmps.getD 34 undef=(.int .i64 i):=by rw[qD7];exact (zaa (by decide)).trans gD6_34
  have gD7_11:D7.tmps.getD 11 undef=(.int .i64 i):=by rw[qD7];exact (zaa (by decide)).trans gD6_11
  have gD7_9:D7.tmps.getD 9 undef=(.int .i64 k):=by rw[qD7];exact (zaa (by decide)).trans gD6_9
  have gD7_1:D7.tmps.getD 1 undef=(.slice (some ⟨bR,oR,none⟩) right.length cR):=by rw[qD7];exact (zaa (by decide)).trans gD6_1
  have gD7_37:D7.tmps.getD 37 undef=(.pointer (some ⟨bK,0+i,none⟩)):=by rw[qD7];exact (zaa (by decide)).trans gD6_37
  have gD7_38:D7.tmps.getD 38 undef=(.slice (some ⟨bK,0,none⟩) n cK):=by rw[qD7];exact (zaa (by decide)).trans gD6_38
  have gD7_39:D7.tmps.getD 39 undef=(.int .i64 i):=by rw[qD7];exact (zaa (by decide)).trans gD6_39
  have gD7_40:D7.tmps.getD 40 undef=(.pointer (some ⟨bK,0+i,none⟩)):=by rw[qD7];exact (zaa (by decide)).trans gD6_40
  have gD7_41:D7.tmps.getD 41 undef=vC:=by rw[qD7];exact (zaa (by decide)).trans gD6_41
  have gD7_42:D7.tmps.getD 42 undef=(.int .i64 k):=by rw[qD7];exact (zaa (by decide)).trans gD6_42
  have gD7_43:D7.tmps.getD 43 undef=(.slice (some ⟨bR,oR,none⟩) right.length cR):=by rw[qD7];exact (zaa (by decide)).trans gD6_43
  have gD7_44:D7.tmps.getD 44 undef=(.int .i64 i):=by rw[qD7];exact zae (by rw[zD6];decide)
  change wpStill Tryz.prog _ _ _ _ (D6.put (some 44) (.int .i64 i))
  rw[←qD7]
  refine zfp rfl (ia76 D7 wd _ (.tmp 43) (.tmp 44) rfl gD7_43 gD7_44 hr) ?_
  obtain⟨D8,qD8⟩:∃x,x=D7.put (some 45) (.pointer (some ⟨bR,oR+i,none⟩)):=⟨_,rfl⟩
  have zD8:D8.tmps.size=75:=by rw[qD8,zaj];exact zD7
  have gD8_36:D8.tmps.getD 36 undef=vC:=by rw[qD8];exact (zaa (by decide)).trans gD7_36
  have gD8_33:D8.tmps.getD 33 undef=(.slice (some ⟨bK,0,none⟩) n cK):=by rw[qD8];exact (zaa (by decide)).trans gD7_33
  have gD8_10:D8.tmps.getD 10 undef=(.slice (some ⟨bK,0,none⟩) n cK):=by rw[qD8];exact (zaa (by decide)).trans gD7_10
  have gD8_34:D8.tmps.getD 34 undef=(.int .i64 i):=by rw[qD8];exact (zaa (by decide)).trans gD7_34
  have gD8_11:D8.tmps.getD 11 undef=(.int .i64 i):=by rw[qD8];exact (zaa (by decide)).trans gD7_11
  have gD8_9:D8.tmps.getD 9 undef=(.int .i64 k):=by rw[qD8];exact (zaa (by decide)).trans gD7_9
  have gD8_1:D8.tmps.getD 1 undef=(.slice (some ⟨bR,oR,none⟩) right.length cR):=by rw[qD8];exact (zaa (by decide)).trans gD7_1
  have gD8_37:D8.tmps.getD 37 undef=(.pointer (some ⟨bK,0+i,none⟩)):=by rw[qD8];exact (zaa (by decide)).trans gD7_37
  have gD8_38:D8.tmps.getD 38 undef=(.slice (some ⟨bK,0,none⟩) n cK):=by rw[qD8];exact (zaa (by decide)).trans gD7_38
  have gD8_39:D8.tmps.getD 39 undef=(.int .i64 i):=by rw[qD8];exact (zaa (by decide)).trans gD7_39
  have gD8_40:D8.tmps.getD 40 undef=(.pointer (some ⟨bK,0+i,none⟩)):=by rw[qD8];exact (zaa (by decide)).trans gD7_40
  have gD8_41:D8.tmps.getD 41 undef=vC:=by rw[qD8];exact (zaa (by decide)).trans gD7_41
  have gD8_42:D8.tmps.getD 42 undef=(.int .i64 k):=by rw[qD8];exact (zaa (by decide)).trans gD7_42
  have gD8_43:D8.tmps.getD 43 undef=(.slice (some ⟨bR,oR,none⟩) right.length cR):=by rw[qD8];exact (zaa (by decide)).trans gD7_43
  have gD8_44:D8.tmps.getD 44 undef=(.int .i64 i):=by rw[qD8];exact (zaa (by decide)).trans gD7_44
  have gD8_45:D8.tmps.getD 45 undef=(.pointer (some ⟨bR,oR+i,none⟩)):=by rw[qD8];exact zae (by rw[zD7];decide)
  change wpStill Tryz.prog _ _ _ _ (D7.put (some 45) (.pointer (some ⟨bR,oR+i,none⟩)))
  rw[←qD8]
  refine zfp rfl (ld3 D8 wd _ (.tmp 45) rfl gD8_45 dbR r.gR) ?_
  obtain⟨D9,qD9⟩:∃x,x=D8.put (some 46) (.int .i64 (vI right i)):=⟨_,rfl⟩
  have zD9:D9.tmps.size=75:=by rw[qD9,zaj];exact zD8
  have gD9_36:D9.tmps.getD 36 undef=vC:=by rw[qD9];exact (zaa (by decide)).trans gD8_36
  have gD9_33:D9.tmps.getD 33 undef=(.slice (some ⟨bK,0,none⟩) n cK):=by rw[qD9];exact (zaa (by decide)).trans gD8_33
  have gD9_10:D9.tmps.getD 10 undef=(.slice (some ⟨bK,0,none⟩) n cK):=by rw[qD9];exact (zaa (by decide)).trans gD8_10
  have gD9_34:D9.tmps.getD 34 undef=(.int .i64 i):=by rw[qD9];exact (zaa (by decide)).trans gD8_34
  have gD9_11:D9.tmps.getD 11 undef=(.int .i64 i):=by rw[qD9];exact (zaa (by decide)).trans gD8_11
  have gD9_9:D9.tmps.getD 9 undef=(.int .i64 k):=by rw[qD9];exact (zaa (by decide)).trans gD8_9
  have gD9_1:D9.tmps.getD 1 undef=(.slice (some ⟨bR,oR,none⟩) right.length cR):=by rw[qD9];exact (zaa (by decide)).trans gD8_1
  have gD9_37:D9.tmps.getD 37 undef=(.pointer (some ⟨bK,0+i,none⟩)):=by rw[qD9];exact (zaa (by decide)).trans gD8_37
  have gD9_38:D9.tmps.getD 38 undef=(.slice (some ⟨bK,0,none⟩) n cK):=by rw[qD9];exact (zaa (by decide)).trans gD8_38
  have gD9_39:D9.tmps.getD 39 undef=(.int .i64 i):=by rw[qD9];exact (zaa (by decide)).trans gD8_39
  have gD9_40:D9.tmps.getD 40 undef=(.pointer (some ⟨bK,0+i,none⟩)):=by rw[qD9];exact (zaa (by decide)).trans gD8_40
  have gD9_41:D9.tmps.getD 41 undef=vC:=by rw[qD9];exact (zaa (by decide)).trans gD8_41
  have gD9_42:D9.tmps.getD 42 undef=(.int .i64 k):=by rw[qD9];exact (zaa (by decide)).trans gD8_42
  have gD9_43:D9.tmps.getD 43 undef=(.slice (some ⟨bR,oR,none⟩) right.length cR):=by rw[qD9];exact (zaa (by decide)).trans gD8_43
  have gD9_44:D9.tmps.getD 44 undef=(.int .i64 i):=by rw[qD9];exact (zaa (by decide)).trans gD8_44
  have gD9_45:D9.tmps.getD 45 undef=(.pointer (some ⟨bR,oR+i,none⟩)):=by rw[qD9];exact (zaa (by decide)).trans gD8_45
  have gD9_46:D9.tmps.getD 46 undef=(.int .i64 (vI right i)):=by rw[qD9];exact zae (by rw[zD8];decide)
  change wpStill Tryz.prog _ _ _ _ (D8.put (some 46) (.int .i64 (vI right i)))
  rw[←qD9]
  refine zfp rfl (ia76 D9 wd _ (.tmp 41) (.tmp 42) rfl (gD9_41.trans hvC) gD9_42 hk) ?_
  obtain⟨D10,qD10⟩:∃x,x=D9.put (some 47) (.pointer (some ⟨bC,0+k,none⟩)):=⟨_,rfl⟩
  have zD10:D10.tmps.size=75:=by rw[qD10,zaj];exact zD9
  have gD10_36:D10.tmps.getD 36 undef=vC:=by rw[qD10];exact (zaa (by decide)).trans gD9_36
  have gD10_33:D10.tmps.getD 33 undef=(.slice (some ⟨bK,0,none⟩) n cK):=by rw[qD10];exact (zaa (by decide)).trans gD9_33
  have gD10_10:D10.tmps.getD 10 undef=(.slice (some ⟨bK,0,none⟩) n cK):=by rw[qD10];exact (zaa (by decide)).trans gD9_10
  have gD10_34:D10.tmps.getD 34 undef=(.int .i64 i):=by rw[qD10];exact (zaa (by decide)).trans gD9_34
  have gD10_11:D10.tmps.getD 11 undef=(.int .i64 i):=by rw[qD10];exact (zaa (by decide)).trans gD9_11
  have gD10_9:D10.tmps.getD 9 undef=(.int .i64 k):=by rw[qD10];exact (zaa (by decide)).trans gD9_9
  have gD10_1:D10.tmps.getD 1 undef=(.slice (some ⟨bR,oR,none⟩) right.length cR):=by rw[qD10];exact (zaa (by decide)).trans gD9_1
  have gD10_37:D10.tmps.getD 37 undef=(.pointer (some ⟨bK,0+i,none⟩)):=by rw[qD10];exact (zaa (by decide)).trans gD9_37
  have gD10_38:D10.tmps.getD 38 undef=(.slice (some ⟨bK,0,none⟩) n cK):=by rw[qD10];exact (zaa (by decide)).trans gD9_38
  have gD10_39:D10.tmps.getD 39 undef=(.int .i64 i):=by rw[qD10];exact (zaa (by decide)).trans gD9_39
  have gD10_40:D10.tmps.getD 40 undef=(.pointer (some ⟨bK,0+i,none⟩)):=by rw[qD10];exact (zaa (by decide)).trans gD9_40
  have gD10_41:D10.tmps.getD 41 undef=vC:=by rw[qD10];exact (zaa (by decide)).trans gD9_41
  have gD10_42:D10.tmps.getD 42 undef=(.int .i64 k):=by rw[qD10];exact (zaa (by decide)).trans gD9_42
  have gD10_43:D10.tmps.getD 43 undef=(.slice (some ⟨bR,oR,none⟩) right.length cR):=by rw[qD10];exact (zaa (by decide)).trans gD9_43
  have gD10_44:D10.tmps.getD 44 undef=(.int .i64 i):=by rw[qD10];exact (zaa (by decide)).trans gD9_44
  have gD10_45:D10.tmps.getD 45 undef=(.pointer (some ⟨bR,oR+i,none⟩)):=by rw[qD10];exact (zaa (by decide)).trans gD9_45
  have gD10_46:D10.tmps.getD 46 undef=(.int .i64 (vI right i)):=by rw[qD10];exact (zaa (by decide)).trans gD9_46
  have gD10_47:D10.tmps.getD 47 undef=(.pointer (some ⟨bC,0+k,none⟩)):=by rw[qD10];exact zae (by rw[zD9];decide)
  change wpStill Tryz.prog _ _ _ _ (D9.put (some 47) (.pointer (some ⟨bC,0+k,none⟩)))
  rw[←qD10]
  refine wpStill_nil ?_
  refine zp2 (by intro d h;cases h) rfl (st3 D10 wd _ (.tmp 47) (.tmp 46) rfl gD10_47 gD10_46 dbC (by have:=r.sC;omega)) ?_
  change Q .normal D10 (wd.setRow bC (curC.set! (0+k) (.int .i64 (vI right i))))
  have hfin:RelS (EH M bs w0 true) 75 (stB 60010 m (xs.set i (row.set k (vI right i))) right outs den i k n) B9 wB10:=hB10.2
  have e:wd.setRow bC (curC.set! (0+k) (.int .i64 (vI right i))) = {wB10 with drawn:=wA2.drawn+1}:=by
    rw[hwd,hwB10,hwB8,hwA2,←znx w r.ne]
    rfl
  refine hQ _ _ ?_
  rw[e]
  refine zrt _ (zyr (ds:=[36,37,38,39,40,41,42,43,44,45,46,47]) hfin zD10 ?_ (fun t ht=>?_) (fun u s h=>zqT h))
  · have l1:D10.defers=a.defers:=by rw[qD10,zah,qD9,zah,qD8,zah,qD7,zah,qD6,zah,qD5,zah,qD4,zah,qD3,zah,qD2,zah,qD1,zah,qA1,zah]
    have l2:B9.defers=a.defers:=by rw[qB9,zah,qB7,zah,qB6,zah,qB5,zah,qB4,zah,qB3,zah,qB2,zah,qB1,zah]
    rw[l1,l2]
  · simp only[List.mem_cons,List.not_mem_nil,or_false,not_or] at ht
    obtain⟨n36,n37,n38,n39,n40,n41,n42,n43,n44,n45,n46,n47⟩:=ht
    have l1:D10.tmps.getD t undef=a.tmps.getD t undef:=by rw[qD10,zaa n47,qD9,zaa n46,qD8,zaa n45,qD7,zaa n44,qD6,zaa n43,qD5,zaa n42,qD4,zaa n41,qD3,zaa n40,qD2,zaa n39,qD1,zaa n38,qA1,zaa n37]
    have l2:B9.tmps.getD t undef=a.tmps.getD t undef:=by rw[qB9,zaa n37,qB7,zaa n47,qB6,zaa n46,qB5,zaa n45,qB4,zaa n44,qB3,zaa n43,qB2,zaa n42,qB1,zaa n40]
    rw[l1,l2]
end Go.Eng.Ar
namespace Go.Eng.Ar
open Go.Eng Go.Proofs
set_option linter.all false
set_option maxRecDepth 100000
set_option maxHeartbeats 4000000
noncomputable def R0:Code:=match b180 with | .seq x _=>x|c=>c
noncomputable def R1:Code:=match b180 with | .seq _ (.seq x _)=>x|c=>c
noncomputable def R2C:Code:=match b180 with | .seq _ (.seq _ (.seq x _))=>x|c=>c
noncomputable def R4:Code:=match b180 with | .seq _ (.seq _ (.seq _ (.seq x _)))=>x|c=>c
noncomputable def R5:Code:=match b180 with | .seq _ (.seq _ (.seq _ (.seq _ (.seq (.seq x _) _))))=>x|c=>c
noncomputable def TL:Code:=match b180 with | .seq _ (.seq _ (.seq _ (.seq _ (.seq _ x))))=>x|c=>c
noncomputable def R6:Code:=match zn0 with | .seq x _=>x|c=>c
noncomputable def R7:Code:=match zn0 with | .seq _ (.seq _ (.seq (.block _ (.seq x _)) _))=>x|c=>c
noncomputable def R8:Code:=match zn0 with | .seq _ (.seq _ (.seq (.block _ (.seq _ (.seq x _))) _))=>x|c=>c
noncomputable def R9:Code:=match zn0 with | .seq _ (.seq _ (.seq (.block _ (.seq _ (.seq _ (.seq (.seq x _) _)))) _))=>x|c=>c
noncomputable def R15:Code:=match zn0 with | .seq _ (.seq _ (.seq (.block _ (.seq _ (.seq _ (.seq _ x)))) _))=>x|c=>c
noncomputable def R16:Code:=match zn0 with | .seq _ (.seq _ (.seq _ x))=>x|c=>c
noncomputable def R10:Code:=match zsd with | .seq x _=>x|c=>c
noncomputable def R11:Code:=match zsd with | .seq _ (.seq _ (.seq (.block _ (.seq x _)) _))=>x|c=>c
noncomputable def R14:Code:=match zsd with | .seq _ (.seq _ (.seq _ x))=>x|c=>c
theorem zw6:(Tryz.f180.body:Option Code)=some (.seq R0 (.seq R1 (.seq R2C (.seq R4 (.seq (.seq R5 (.block 0 (.loop (.seq R6 (.seq (.cond (.tmp 21) .skip (.exit 0)) (.seq (.block 1 (.seq R7 (.seq R8 (.seq (.seq R9 (.block 2 (.loop (.seq R10 (.seq (.cond (.tmp 29) .skip (.exit 2)) (.seq (.block 3 (.seq R11 (.seq r12 r13))) R14)))))) R15)))) R16)))))) TL))))):=rfl
theorem znt {α:Type} {f:Nat→α} {n k:Nat} {v:α}:(tab f n).set k v=tab (fun j=>if j=k then v else f j) n:=by
  refine List.ext_getElem (by rw[List.length_set,zam,zam]) fun i h1 h2=>?_
  have hi:i<n:=by rw[zam] at h2;exact h2
  have h3:=zaE f v n i hi
  have h4:=zaE (fun j=>if j=k then v else f j) v n i hi
  have h5:i<(tab f n).length:=by rw[zam];exact hi
  simp only[List.getD_eq_getElem?_getD,List.getElem?_eq_getElem h5,List.getElem?_eq_getElem h2,Option.getD_some] at h3 h4
  rw[h4,List.getElem_set,h3]
  by_cases h:i=k
  · subst h;simp
  · rw[if_neg h,if_neg (fun e=>h e.symm)]
def chk (m:List (List Int)) (right:List Int) (k i:Nat):List (List Int):=tab (fun r=>if r<i then (rowN m r).set k (vI right r) else []) m.length
def dets (m:List (List Int)) (right:List Int) (k:Nat):List Int:=tab (fun j=>detA (chk m right j m.length)) k
def negd (o:List Int) (k:Nat):List Int:=tab (fun j=>if j<k then -vI o j else vI o j) o.length
def zaG (m:List (List Int)) (right:List Int):List Int×Int×Bool×Unit:=
  if detA m=0 then ([],0,false,()) else if detA m<0 then (negd (dets m right m.length) m.length,-detA m,true,()) else (dets m right m.length,detA m,true,())
def zmp (m:List (List Int)) (right:List Int):Prop:=(∃N,N≤4∧zdH N m)∧right.length=m.length∧∀i,i<m.length→-2000≤vI right i∧vI right i≤2000
theorem zel {m right k i}:(chk m right k i).length=m.length:=zam _ _
theorem zmg {N:Nat} {m:List (List Int)} (h:zdH N m) {i:Nat} (hi:i<N):rowN m i∈m:=by
  have hi':i<m.length:=by rw[h.1];exact hi
  simp only[rowN,List.getD_eq_getElem?_getD,List.getElem?_eq_getElem hi',Option.getD_some]
  exact List.getElem_mem hi'
theorem zuB {m right k}:chk m right k 0=repl (m.length:Int) ([]:List Int):=by
  rw[zfJ]
  refine zoB [] (by simp) fun i hi=>?_
  simp[List.getD,hi]
theorem zuC {m right k i} (hi:i<m.length):(chk m right k i).set i ((rowN m i).set k (vI right i))=chk m right k (i+1):=by
  unfold chk
  rw[znt]
  refine zh8 _ fun j hj=>?_
  by_cases h:j=i
  · subst h;rw[if_pos rfl,if_pos (by omega)]
  · rw[if_neg h]
    by_cases h2:j<i
    · rw[if_pos h2,if_pos (by omega)]
    · rw[if_neg h2,if_neg (by omega)]
theorem zvt {N:Nat} {m:List (List Int)} {right:List Int} {k:Nat} (h:zdH N m) (hr:∀i,i<m.length→-2000≤vI right i∧vI right i≤2000):zdH N (chk m right k m.length):=by
  refine⟨by rw[zel,h.1],fun r hr'=>?_⟩
  obtain ⟨i,hi,rfl⟩:∃i,i<m.length∧r=(rowN m i).set k (vI right i):=by
    obtain⟨i,hi,e⟩:=List.getElem_of_mem hr'
    have hi':i<m.length:=by rw[zel] at hi;exact hi
    refine⟨i,hi',?_⟩
    have h1:=zaE (fun r=>if r<m.length then (rowN m r).set k (vI right r) else []) [] m.length i hi'
    rw[if_pos hi'] at h1
    rw[←e,←h1]
    show (chk m right k m.length)[i]=(chk m right k m.length).getD i []
    simp[List.getD,List.getElem?_eq_getElem hi]
  have hm:=h.2 _ (zmg h (by rw[←h.1];exact hi))
  refine⟨by rw[List.length_set];exact hm.1,fun x hx=>?_⟩
  rcases List.mem_or_eq_of_mem_set hx with hx|rfl
  · exact hm.2 x hx
  · exact hr i hi
theorem zei {m right k}:(dets m right k).length=k:=zam _ _
theorem zgd {o:List Int} {k:Nat}:(negd o k).length=o.length:=zam _ _
theorem zpc {o:List Int} {k:Nat} (h:k<o.length):(negd o k).getD k 0=vI o k:=by
  have:=zaE (fun j=>if j<k then -vI o j else vI o j) 0 o.length k h
  rw[if_neg (Nat.lt_irrefl k)] at this
  exact this
theorem zrS {o:List Int}:o=negd o 0:=by
  symm
  exact zoB 0 rfl fun i hi=>if_neg (Nat.not_lt_zero i)
theorem zrT {o:List Int} {k:Nat} (h:k<o.length):(negd o k).set k (-(negd o k).getD k 0)=negd o (k+1):=by
  rw[zpc h]
  unfold negd
  rw[znt]
  refine zh8 _ fun j hj=>?_
  by_cases e:j=k
  · subst e;rw[if_pos rfl,if_pos (by omega)]
  · rw[if_neg e]
    by_cases h2:j<k
    · rw[if_pos h2,if_pos (by omega)]
    · rw[if_neg h2,if_neg (by omega)]
theorem zsP {N:Nat} {m:List (List Int)} {right:List Int} (hN:N≤4) (hs:zdH N m) (hr:∀i,i<m.length→-2000≤vI right i∧vI right i≤2000) {i:Nat} (hi:i<m.length) : -400000000000000≤vI (dets m right m.length) i∧vI (dets m right m.length) i≤400000000000000:=by
  have e:vI (dets m right m.length) i=detA (chk m right i m.length):=zaE _ 0 _ i hi
  rw[e]
  exact zoh ⟨N,hN,zvt hs hr⟩
theorem zjJ:CfgOk Tryz.prog OB cfS:=zhH (X:={}) trivial zvw
theorem zfv {anns:List (St→LoopAnn)} {b:Code} {st0 target:St} {R:St→Prop} {a:Act} {M:Nat→Prop} {bs:List Nat} {w0 w:World} {Q:Exit→Act→World→Prop} {X:Prop} (hR:RelS (EH M bs w0 true) 75 st0 a w) (hd:zcZ 75 b=true) (hnr:za6 b=true)
    (hvc:vc cfS (par cfS) anns b 0 st0 (fun e st=>match e with | .normal=>Goal (∃s:Unit,ent st target∧X) | .ret=>R st | _=>False))
    (hQ:∀a' w',X→RelS (EH M bs w0 true) 75 target a' w'→Q .normal a' w') (hQr:∀st a' w',R st→RelS (EH M bs w0 true) 75 st a' w'→Q .ret a' w'):b.wpIn (Fw none) 0 Tryz.prog Q a w:=by
  refine wpIn_mono (zbe zjJ (zb3 mixed zjJ) b 0 st0 _ a w (EH M bs w0 true) none rfl rfl (.inr hnr) hd hvc hR) ?_
  rintro e a' w' ⟨⟨xe,st',h1,h2,h3⟩,hag⟩
  subst h1
  cases xe with
  | normal=>
    obtain⟨_,h4,h5⟩:=h2.out
    exact hQ a' w' h5 (zbS h4 h3)
  | exit id=>exact h2.elim
  | ret=>exact hQr _ a' w' h2 h3
theorem zxL {M:Nat→Prop} {bs:List Nat} {w0 w:World} {a:Act} {st:St} {t:Nat} {v:Bool} (hR:RelS (EH M bs w0 true) 75 (.slot t (.one (.d .bool v))::st) a w) (ht:t<1000000):a.eval (.tmp t)=.bool v:=by
  obtain⟨η,g,H⟩:=hR
  have h:=H _ List.mem_cons_self
  simp only[Fact.holds] at h
  rw[zbl ht] at h
  obtain⟨l,h1,⟨h2,_⟩|⟨_,h2⟩⟩:=h
  · cases h2
  · have h1:l=[.bool v]:=h1
    rw[h1] at h2
    exact (List.cons.inj h2).1.symm
theorem zoU {E:Env} {nt:Nat} {f:Fact} {st:St} {a:Act} {w:World} (hR:RelS E nt (f::st) a w):RelS E nt st a w:=zkW hR (fun g hg=>List.mem_cons_of_mem _ hg)
@[reducible] def zmb:Spec:={pats:=[.dat MatT,.dat (.sl I64)],res:=[{t:=.sl I64},{t:=I64},{t:=.bool}],pre:=fun x=>zmp x.1 x.2.1,f:=fun x=>zaG x.1 x.2.1}
@[reducible] def stS (m:List (List Int)) (right:List Int):St:=[.slot 0 (.one (.d MatT m)),.slot 1 (.one (.d (.sl I64) right))]
@[reducible] def hdO (m:List (List Int)) (right:List Int) (k:Nat):St:=[sI 20 k,sI 19 m.length,sI 7 (detA m),.slot 8 (.one (.o 60008 (dets m right k).length)),.row 60008 3 I64 (dets m right k)]++stS m right
@[reducible] def hdI (m:List (List Int)) (right:List Int) (k i:Nat):St:=stB 60010 m (chk m right k i) right (dets m right k) (detA m) i k m.length
theorem vR0 (m:List (List Int)) (right:List Int):vc cfS (par cfS) [] R0 0 (stS m right) (fun e st=>match e with | .normal=>Goal (∃s:Unit,ent st (stS m right)∧True) | .ret=>False | _=>False):=by
  repeat' (intro hzz;(try (rename Two=>hq;cases hq));(try dsimp only at hzz);(try simp only[zad,zac,eqD,inR,big,zab,zB] at hzz);(try (revert hzz;intro _)))
  all_goals try (rename Unit=>hq;clear hq)
  all_goals try ((with_reducible refine Held.mk ?_);(with_reducible (first|refine Frz.mk ?_|refine And.intro (Frz.mk ?_) ?_|refine And.intro ?_ (Frz.mk ?_)));repeat' first|exact True.intro|(change _=_;with_reducible rfl)|refine And.intro ?_ ?_|(with_reducible refine Frz.mk ?_))
  all_goals try (refine Held.mk ?_;(try dsimp only at *);(try simp only[zad,zac,eqD,inR,big,zab,zB] at *))
  all_goals try omega
  ·
    refine zai.mk ?_
    refine Exists.intro () ?_
    refine And.intro (Leaf.mk ?_) ?_
    · repeat' first|exact True.intro|refine And.intro ?_ ?_
      all_goals try ((change _=_<;>try dsimp only)<;>try with_reducible rfl)
      all_goals try omega
      all_goals (rfl)
    trivial
theorem vR1 (m:List (List Int)) (right:List Int) (h:zrC m):vc cfS (par cfS) [] R1 0 (stS m right) (fun e st=>match e with | .normal=>Goal (∃s:Unit,ent st (sI 7 (detA m)::stS m right)∧True) | .ret=>False | _=>False):=by
  repeat' (intro hzz;(try (rename Two=>hq;cases hq));(try dsimp only at hzz);(try simp only[zad,zac,eqD,inR,big,zab,zB] at hzz);(try (revert hzz;intro _)))
  all_goals try (rename Unit=>hq;clear hq)
  all_goals try ((with_reducible refine Held.mk ?_);(with_reducible (first|refine Frz.mk ?_|refine And.intro (Frz.mk ?_) ?_|refine And.intro ?_ (Frz.mk ?_)));repeat' first|exact True.intro|(change _=_;with_reducible rfl)|refine And.intro ?_ ?_|(with_reducible refine Frz.mk ?_))
  all_goals try (refine Held.mk ?_;(try dsimp only at *);(try simp only[zad,zac,eqD,inR,big,zab,zB] at *))
  all_goals try omega
  all_goals try exact h
  ·
    refine zai.mk ?_
    refine Exists.intro () ?_
    refine And.intro (Leaf.mk ?_) ?_
    · repeat' first|exact True.intro|refine And.intro ?_ ?_
      all_goals try ((change _=_<;>try dsimp only)<;>try with_reducible rfl)
      all_goals try omega
      all_goals (rfl)
    trivial
theorem vR2 (m:List (List Int)) (right:List Int):vc cfS (par cfS) [] R2C 0 (sI 7 (detA m)::stS m right) (fun e st=>match e with | .normal=>Goal (∃s:Unit,ent st (sI 7 (detA m)::stS m right)∧detA m≠0) | .ret=>zhC cfS Tryz.f180.results.toList zmb.res (zaG m right) st | _=>False):=by
  repeat' (intro hzz;(try (rename Two=>hq;cases hq));(try dsimp only at hzz);(try simp only[zad,zac,eqD,inR,big,zab,zB] at hzz);(try (revert hzz;intro _)))
  all_goals try (rename Unit=>hq;clear hq)
  all_goals try ((with_reducible refine Held.mk ?_);(with_reducible (first|refine Frz.mk ?_|refine And.intro (Frz.mk ?_) ?_|refine And.intro ?_ (Frz.mk ?_)));repeat' first|exact True.intro|(change _=_;with_reducible rfl)|refine And.intro ?_ ?_|(with_reducible refine Frz.mk ?_))
  all_goals try (refine Held.mk ?_;(try dsimp only at *);(try simp only[zad,zac,eqD,inR,big,zab,zB] at *))
  all_goals try omega
  · rename_i h
    have e:zaG m right=([],0,false,()):=if_pos h
    rw[e];exact⟨rfl,rfl,rfl⟩
  · rename_i h
    refine zai.mk ?_
    refine Exists.intro () ?_
    refine And.intro (Leaf.mk ?_) ?_
    · repeat' first|exact True.intro|refine And.intro ?_ ?_
      all_goals try ((change _=_<;>try dsimp only)<;>try with_reducible rfl)
      all_goals try omega
      all_goals (rfl)
    exact h
theorem vR45 (m:List (List Int)) (right:List Int):vc cfS (par cfS) [] (.seq R4 R5) 0 (sI 7 (detA m)::stS m right) (fun e st=>match e with | .normal=>Goal (∃s:Unit,ent st (hdO m right 0)∧True) | .ret=>False | _=>False):=by
  repeat' (intro hzz;(try (rename Two=>hq;cases hq));(try dsimp only at hzz);(try simp only[zad,zac,eqD,inR,big,zab,zB] at hzz);(try (revert hzz;intro _)))
  all_goals try (rename Unit=>hq;clear hq)
  all_goals try ((with_reducible refine Held.mk ?_);(with_reducible (first|refine Frz.mk ?_|refine And.intro (Frz.mk ?_) ?_|refine And.intro ?_ (Frz.mk ?_)));repeat' first|exact True.intro|(change _=_;with_reducible rfl)|refine And.intro ?_ ?_|(with_reducible refine Frz.mk ?_))
  all_goals try (refine Held.mk ?_;(try dsimp only at *);(try simp only[zad,zac,eqD,inR,big,zab,zB] at *))
  all_goals try omega
  ·
    refine zai.mk ?_
    refine Exists.intro () ?_
    refine And.intro (Leaf.mk ?_) ?_
    · repeat' first|exact True.intro|refine And.intro ?_ ?_
      all_goals try ((change _=_<;>try dsimp only)<;>try with_reducible rfl)
      all_goals try omega
      all_goals (rfl)
    trivial
theorem vR6 (m:List (List Int)) (right:List Int) (k:Nat):vc cfS (par cfS) [] R6 0 (hdO m right k) (fun e st=>match e with | .normal=>Goal (∃s:Unit,ent st (.slot 21 (.one (.d .bool (decide ((k:Int)<(m.length:Int)))))::hdO m right k)∧True) | .ret=>False | _=>False):=by
  repeat' (intro hzz;(try (rename Two=>hq;cases hq));(try dsimp only at hzz);(try simp only[zad,zac,eqD,inR,big,zab,zB] at hzz);(try (revert hzz;intro _)))
  all_goals try (rename Unit=>hq;clear hq)
  all_goals try ((with_reducible refine Held.mk ?_);(with_reducible (first|refine Frz.mk ?_|refine And.intro (Frz.mk ?_) ?_|refine And.intro ?_ (Frz.mk ?_)));repeat' first|exact True.intro|(change _=_;with_reducible rfl)|refine And.intro ?_ ?_|(with_reducible refine Frz.mk ?_))
  all_goals try (refine Held.mk ?_;(try dsimp only at *);(try simp only[zad,zac,eqD,inR,big,zab,zB] at *))
  all_goals try omega
  ·
    refine zai.mk ?_
    refine Exists.intro () ?_
    refine And.intro (Leaf.mk ?_) ?_
    · repeat' first|exact True.intro|refine And.intro ?_ ?_
      all_goals try ((change _=_<;>try dsimp only)<;>try with_reducible rfl)
      all_goals try omega
      all_goals (rfl)
    trivial
theorem zzP (m:List (List Int)) (right:List Int) (k:Nat) (hm:m.length≤4):vc cfS (par cfS) [] (.seq R7 (.seq R8 R9)) 0 (hdO m right k) (fun e st=>match e with | .normal=>Goal (∃s:Unit,ent st (hdI m right k 0)∧True) | .ret=>False | _=>False):=by
  have e0:=@zuB m right k
  repeat' (intro hzz;(try (rename Two=>hq;cases hq));(try dsimp only at hzz);(try simp only[zad,zac,eqD,inR,big,zab,zB] at hzz);(try (revert hzz;intro _)))
  all_goals try (rename Unit=>hq;clear hq)
  all_goals try ((with_reducible refine Held.mk ?_);(with_reducible (first|refine Frz.mk ?_|refine And.intro (Frz.mk ?_) ?_|refine And.intro ?_ (Frz.mk ?_)));repeat' first|exact True.intro|(change _=_;with_reducible rfl)|refine And.intro ?_ ?_|(with_reducible refine Frz.mk ?_))
  all_goals try (refine Held.mk ?_;(try dsimp only at *);(try simp only[zad,zac,eqD,inR,big,zab,zB] at *))
  all_goals try omega
  ·
    refine zai.mk ?_
    refine Exists.intro () ?_
    refine And.intro (Leaf.mk ?_) ?_
    · repeat' first|exact True.intro|refine And.intro ?_ ?_
      all_goals try ((change _=_<;>try dsimp only)<;>try with_reducible rfl)
      all_goals try omega
      all_goals (first|rfl|exact e0.symm|exact e0|(rw[←e0,zel]))
    trivial
theorem vR10 (m:List (List Int)) (right:List Int) (k i:Nat):vc cfS (par cfS) [] R10 0 (hdI m right k i) (fun e st=>match e with | .normal=>Goal (∃s:Unit,ent st (.slot 29 (.one (.d .bool (decide ((i:Int)<(m.length:Int)))))::hdI m right k i)∧True) | .ret=>False | _=>False):=by
  repeat' (intro hzz;(try (rename Two=>hq;cases hq));(try dsimp only at hzz);(try simp only[zad,zac,eqD,inR,big,zab,zB] at hzz);(try (revert hzz;intro _)))
  all_goals try (rename Unit=>hq;clear hq)
  all_goals try ((with_reducible refine Held.mk ?_);(with_reducible (first|refine Frz.mk ?_|refine And.intro (Frz.mk ?_) ?_|refine And.intro ?_ (Frz.mk ?_)));repeat' first|exact True.intro|(change _=_;with_reducible rfl)|refine And.intro ?_ ?_|(with_reducible refine Frz.mk ?_))
  all_goals try (refine Held.mk ?_;(try dsimp only at *);(try simp only[zad,zac,eqD,inR,big,zab,zB] at *))
  all_goals try omega
  ·
    refine zai.mk ?_
    refine Exists.intro () ?_
    refine And.intro (Leaf.mk ?_) ?_
    · repeat' first|exact True.intro|refine And.intro ?_ ?_
      all_goals try ((change _=_<;>try dsimp only)<;>try with_reducible rfl)
      all_goals try omega
      all_goals (rfl)
    trivial
theorem vR11 (m:List (List Int)) (right:List Int) (k i:Nat) (hi:i<m.length) (hrow:(rowN m i).length≤4):vc cfS (par cfS) [] R11 0 (hdI m right k i) (fun e st=>match e with | .normal=>zes cfS zjz.toArray (zjz.take 4) st (fun st=>Goal (∃s:Unit,ent st (stA 60010 m (chk m right k i) right (rowN m i) (dets m right k) (detA m) i k m.length)∧True)) | _=>False):=by
  repeat' (intro hzz;(try (rename Two=>hq;cases hq));(try dsimp only at hzz);(try simp only[zad,zac,eqD,inR,big,zab,zB] at hzz);(try simp only[zad,zac,eqD,inR,big,zab,zB,za7] at hzz);(try (revert hzz;intro _)))
  all_goals try (rename Unit=>hq;clear hq)
  all_goals try ((with_reducible refine Held.mk ?_);(with_reducible (first|refine Frz.mk ?_|refine And.intro (Frz.mk ?_) ?_|refine And.intro ?_ (Frz.mk ?_)));repeat' first|exact True.intro|(change _=_;with_reducible rfl)|refine And.intro ?_ ?_|(with_reducible refine Frz.mk ?_))
  all_goals try (refine Held.mk ?_;(try dsimp only at *);(try simp only[zad,zac,eqD,inR,big,zab,zB] at *);(try simp only[zad,zac,eqD,inR,big,zab,zB,za7] at *))
  all_goals try omega
  · show (rowN m i).length≤2000000000
    omega
  ·
    refine zai.mk ?_
    refine Exists.intro () ?_
    refine And.intro (Leaf.mk ?_) ?_
    · repeat' first|exact True.intro|refine And.intro ?_ ?_
      all_goals try ((change _=_<;>try dsimp only)<;>try with_reducible rfl)
      all_goals try omega
      all_goals (rfl)
    trivial
theorem vR14 (m:List (List Int)) (right:List Int) (k i:Nat) (hi:i<m.length) (hm:m.length≤4):vc cfS (par cfS) [] R14 0 (stB 60010 m (chk m right k (i+1)) right (dets m right k) (detA m) i k m.length) (fun e st=>match e with | .normal=>Goal (∃s:Unit,ent st (hdI m right k (i+1))∧True) | .ret=>False | _=>False):=by
  repeat' (intro hzz;(try (rename Two=>hq;cases hq));(try dsimp only at hzz);(try simp only[zad,zac,eqD,inR,big,zab,zB] at hzz);(try (revert hzz;intro _)))
  all_goals try (rename Unit=>hq;clear hq)
  all_goals try ((with_reducible refine Held.mk ?_);(with_reducible (first|refine Frz.mk ?_|refine And.intro (Frz.mk ?_) ?_|refine And.intro ?_ (Frz.mk ?_)));repeat' first|exact True.intro|(change _=_;with_reducible rfl)|refine And.intro ?_ ?_|(with_reducible refine Frz.mk ?_))
  all_goals try (refine Held.mk ?_;(try dsimp only at *);(try simp only[zad,zac,eqD,inR,big,zab,zB] at *))
  all_goals try omega
  ·
    refine zai.mk ?_
    refine Exists.intro () ?_
    refine And.intro (Leaf.mk ?_) ?_
    · repeat' first|exact True.intro|refine And.intro ?_ ?_
      all_goals try ((change _=_<;>try dsimp only)<;>try with_reducible rfl)
      all_goals try omega
      all_goals (rfl)
    trivial
theorem vR15 (m:List (List Int)) (right:List Int) (k i:Nat) (hm:m.length≤4) (hk:k≤4) (hd:zrC (chk m right k m.length)):vc cfS (par cfS) [] R15 0 (hdI m right k m.length) (fun e st=>match e with | .normal=>Goal (∃s:Unit,ent st ([sI 20 k,sI 19 m.length,sI 7 (detA m),.slot 8 (.one (.o 60008 (dets m right (k+1)).length)),.row 60008 3 I64 (dets m right (k+1))]++stS m right)∧True) | .ret=>False | _=>False):=by
  repeat' (intro hzz;(try (rename Two=>hq;cases hq));(try dsimp only at hzz);(try simp only[zad,zac,eqD,inR,big,zab,zB] at hzz);(try (revert hzz;intro _)))
  all_goals try (rename Unit=>hq;clear hq)
  all_goals try ((with_reducible refine Held.mk ?_);(with_reducible (first|refine Frz.mk ?_|refine And.intro (Frz.mk ?_) ?_|refine And.intro ?_ (Frz.mk ?_)));repeat' first|exact True.intro|(change _=_;with_reducible rfl)|refine And.intro ?_ ?_|(with_reducible refine Frz.mk ?_))
  all_goals try (refine Held.mk ?_;(try dsimp only at *);(try simp only[zad,zac,eqD,inR,big,zab,zB] at *))
  all_goals try omega
  · exact zel.symm
  · exact zel.symm
  · rw[zei];show k+1≤2147483648;omega
  ·
    refine zai.mk ?_
    refine Exists.intro () ?_
    refine And.intro (Leaf.mk ?_) ?_
    · repeat' first|exact True.intro|refine And.intro ?_ ?_
      all_goals try ((change _=_<;>try dsimp only)<;>try with_reducible rfl)
      all_goals try omega
      all_goals (rfl)
    trivial
theorem vR16 (m:List (List Int)) (right:List Int) (k i:Nat) (hm:m.length≤4) (hk:k≤4):vc cfS (par cfS) [] R16 0 ([sI 20 k,sI 19 m.length,sI 7 (detA m),.slot 8 (.one (.o 60008 (dets m right (k+1)).length)),.row 60008 3 I64 (dets m right (k+1))]++stS m right) (fun e st=>match e with | .normal=>Goal (∃s:Unit,ent st (hdO m right (k+1))∧True) | .ret=>False | _=>False):=by
  repeat' (intro hzz;(try (rename Two=>hq;cases hq));(try dsimp only at hzz);(try simp only[zad,zac,eqD,inR,big,zab,zB] at hzz);(try (revert hzz;intro _)))
  all_goals try (rename Unit=>hq;clear hq)
  all_goals try ((with_reducible refine Held.mk ?_);(with_reducible (first|refine Frz.mk ?_|refine And.intro (Frz.mk ?_) ?_|refine And.intro ?_ (Frz.mk ?_)));repeat' first|exact True.intro|(change _=_;with_reducible rfl)|refine And.intro ?_ ?_|(with_reducible refine Frz.mk ?_))
  all_goals try (refine Held.mk ?_;(try dsimp only at *);(try simp only[zad,zac,eqD,inR,big,zab,zB] at *))
  all_goals try omega
  ·
    refine zai.mk ?_
    refine Exists.intro () ?_
    refine And.intro (Leaf.mk ?_) ?_
    · repeat' first|exact True.intro|refine And.intro ?_ ?_
      all_goals try ((change _=_<;>try dsimp only)<;>try with_reducible rfl)
      all_goals try omega
      all_goals (rfl)
    trivial
def zve (o:List Int):LoopAnn:={σ:=Nat,pat:=fun k=>[sI 61 k,.slot 8 (.one (.o 60008 o.length)),.row 60008 3 I64 (negd o k)],inv:=fun k=>k≤o.length,meas:=fun k=>o.length - k}
theorem vTL (m:List (List Int)) (right:List Int) (hm:m.length≤4) (hd:detA m≠0) (hb : -400000000000000≤detA m∧detA m≤400000000000000) (ho:∀i,i<m.length→-400000000000000≤vI (dets m right m.length) i∧vI (dets m right m.length) i≤400000000000000):vc cfS (par cfS) [fun _=>zve (dets m right m.length)] TL 0 (hdO m right m.length) (fun e st=>match e with | .ret | .normal=>zhC cfS Tryz.f180.results.toList zmb.res (zaG m right) st | _=>False):=by
  have el:(dets m right m.length).length=m.length:=zei
  obtain⟨O,hO⟩:∃O,dets m right m.length=O:=⟨_,rfl⟩
  have e3:detA m<0→zaG m right=(negd O m.length,-detA m,true,()):=fun h=>by
    unfold zaG;rw[if_neg hd,if_pos h,hO]
  have e4:0≤detA m→zaG m right=(O,detA m,true,()):=fun h=>by
    unfold zaG;rw[if_neg hd,if_neg (by omega),hO]
  rw[hO] at el ho
  show vc cfS (par cfS) [fun _=>zve (dets m right m.length)] TL 0 ([sI 20 m.length,sI 19 m.length,sI 7 (detA m),.slot 8 (.one (.o 60008 (dets m right m.length).length)),.row 60008 3 I64 (dets m right m.length)]++stS m right) _
  rw[hO]
  repeat' (intro hzz;(try (rename Two=>hq;cases hq));(try dsimp only at hzz);(try simp only[zad,zac,eqD,inR,big,zab,zB] at hzz);(try simp only[zad,zac,eqD,inR,big,zab,zB,zaz] at hzz);(try (revert hzz;intro _)))
  all_goals try (rename Unit=>hq;clear hq)
  all_goals try ((with_reducible refine Held.mk ?_);(with_reducible (first|refine Frz.mk ?_|refine And.intro (Frz.mk ?_) ?_|refine And.intro ?_ (Frz.mk ?_)));repeat' first|exact True.intro|(change _=_;with_reducible rfl)|refine And.intro ?_ ?_|(with_reducible refine Frz.mk ?_))
  all_goals try (refine Held.mk ?_;(try dsimp only at *);(try simp only[zad,zac,eqD,inR,big,zab,zB] at *);(try simp only[zad,zac,eqD,inR,big,zab,zB,zaz] at *))
  all_goals try omega
  · rename_i h
    refine zai.mk ?_
    refine Exists.intro (0:Nat) ?_
    refine And.intro (Leaf.mk ?_) ?_
    · repeat' first|exact True.intro|refine And.intro ?_ ?_
      all_goals try ((change _=_<;>try dsimp only)<;>try with_reducible rfl)
      all_goals try omega
      all_goals (first|rfl|exact zrS)
    exact Nat.zero_le _
  · rename_i h k hk hg
    rw[zgd];omega
  · rename_i h k hk hg
    rw[zpc (by omega)]
    have:=ho k (by omega)
    omega
  · rename_i h k hk hg
    rw[zgd];omega
  · rename_i h k hk hg
    refine zai.mk ?_
    refine Exists.intro (k+1) ?_
    refine And.intro (Leaf.mk ?_) ?_
    · repeat' first|exact True.intro|refine And.intro ?_ ?_
      all_goals try ((change _=_<;>try dsimp only)<;>try with_reducible rfl)
      all_goals try omega
      all_goals (first|rfl|exact zrT (by omega)|(rw[List.length_set,zgd]))
    exact⟨by show k+1≤O.length;omega,by show O.length - (k+1)<O.length - k;omega⟩
  all_goals try (exact zgd.symm)
  · rename_i h k hk hg
    rw[e3 h,show m.length=k by omega];exact⟨rfl,rfl,rfl⟩
  · rename_i h
    rw[e4 h];exact⟨rfl,rfl,rfl⟩
end Go.Eng.Ar
namespace Go.Eng.Ar
open Go.Eng Go.Proofs
set_option linter.all false
set_option maxRecDepth 100000
set_option maxHeartbeats 4000000
theorem zyw:r12=.region 12 zjz.toArray false:=rfl
theorem zrB {anns:List (St→LoopAnn)} {x y:Code} {st0 target:St} {a:Act} {M:Nat→Prop} {bs:List Nat} {w0 w:World} {Q:Exit→Act→World→Prop} {X:Prop} (hR:RelS (EH M bs w0 true) 75 st0 a w) (hd:zcZ 75 x=true) (hnr:za6 x=true) (hnl:zde x=0)
    (hvc:vc cfS (par cfS) anns (.seq x y) 0 st0 (fun e st=>match e with | .normal=>Goal (∃s:Unit,ent st target∧X) | .ret=>False | _=>False))
    (hQ:∀st a' w',vc cfS (par cfS) anns y 0 st (fun e st=>match e with | .normal=>Goal (∃s:Unit,ent st target∧X) | .ret=>False | _=>False)→RelS (EH M bs w0 true) 75 st a' w'→Q .normal a' w'):x.wpIn (Fw none) 0 Tryz.prog Q a w:=by
  refine wpIn_mono (zbe zjJ (zb3 mixed zjJ) x 0 st0 _ a w (EH M bs w0 true) none rfl rfl (.inr hnr) hd hvc hR) ?_
  rintro e a' w' ⟨⟨xe,st',h1,h2,h3⟩,hag⟩
  subst h1
  cases xe with
  | normal=>
    simp only[zbR,hnl] at h2
    exact hQ st' a' w' h2 h3
  | exit id=>exact h2.elim
  | ret=>exact h2.elim
theorem zyB {anns:List (St→LoopAnn)} {x:Code} {st0:St} {V:St→Prop} {a:Act} {M:Nat→Prop} {bs:List Nat} {w0 w:World} {Q:Exit→Act→World→Prop} (hR:RelS (EH M bs w0 true) 75 st0 a w) (hd:zcZ 75 x=true) (hnr:za6 x=true)
    (hvc:vc cfS (par cfS) anns x 0 st0 (fun e st=>match e with | .normal=>V st | _=>False))
    (hQ:∀st a' w',V st→RelS (EH M bs w0 true) 75 st a' w'→Q .normal a' w'):x.wpIn (Fw none) 0 Tryz.prog Q a w:=by
  refine wpIn_mono (zbe zjJ (zb3 mixed zjJ) x 0 st0 _ a w (EH M bs w0 true) none rfl rfl (.inr hnr) hd hvc hR) ?_
  rintro e a' w' ⟨⟨xe,st',h1,h2,h3⟩,hag⟩
  subst h1
  cases xe with
  | normal=>exact hQ st' a' w' h2 h3
  | exit id=>exact h2.elim
  | ret=>exact h2.elim
theorem zwq {ops:Array Oper} {l:List Oper} {st0 target:St} {a:Act} {M:Nat→Prop} {bs:List Nat} {w0 w:World} {Q:Exit→Act→World→Prop} (hR:RelS (EH M bs w0 true) 75 st0 a w)
    (hsub:∀o∈l,o∈ops.toList) (hdst:∀o∈ops.toList,∀t,o.dst=some t→t<75)
    (hvc:zes cfS ops l st0 (fun st=>Goal (∃s:Unit,ent st target∧True)))
    (hQ:∀a' w',RelS (EH M bs w0 true) 75 target a' w'→Q .normal a' w'):wpListIn (Fw none) 0 Tryz.prog ops Q l a w:=by
  refine zeS ?_ l a w (zcE (E:=EH M bs w0 true) (c:=cfS) (ro:=none) (q:=0) zjJ (ops:=ops) (Q:=fun e a' w'=>e=.normal∧RelS (EH M bs w0 true) 75 target a' w') hdst l hsub st0 _ a w hvc hR ?_)
  · rintro e a' w' ⟨rfl,h1⟩
    exact hQ a' w' h1
  · intro st' a' w' h1 h2
    obtain⟨_,h4,_⟩:=h1.out
    exact⟨rfl,zbS h4 h2⟩
theorem zy5:Ok 180 zmb:=by
  refine⟨zsC (c:=cfS) zjJ Tryz.func180 zw6 rfl (by decide) (by decide) (by decide) rfl ?_,Tryz.f180,Tryz.func180,by kernel_rfl,by kernel_rfl⟩
  rintro⟨(m:List (List Int)),(right:List Int),_⟩ ⟨⟨N,hN,hs⟩,(hrl:right.length=m.length),(hrb:∀i,i<m.length→-2000≤vI right i∧vI right i≤2000)⟩ M bs w0 a hd hR
  have hml:m.length=N:=hs.1
  have hdet:zrC m:=⟨N,hN,hs⟩
  have hrow:∀i,i<m.length→(rowN m i).length=N:=fun i hi=>(hs.2 _ (zmg hs (by omega))).1
  have hR:RelS (EH M bs w0 true) 75 (stS m right) a w0:=zyO hR hd
  refine wpIn_seq (zfv (X:=True) (R:=fun _=>False) hR (by kernel_rfl) (by kernel_rfl) (vR0 m right) (fun a1 w1 _ hR1=>?_) (fun _ _ _ h=>h.elim))
  refine wpIn_seq (zfv (X:=True) (R:=fun _=>False) hR1 (by kernel_rfl) (by kernel_rfl) (vR1 m right hdet) (fun a2 w2 _ hR2=>?_) (fun _ _ _ h=>h.elim))
  refine wpIn_seq (zfv (R:=zhC cfS Tryz.f180.results.toList zmb.res (zaG m right)) hR2 (by kernel_rfl) (by kernel_rfl) (vR2 m right) (fun a3 w3 hne hR3=>?_) (fun st a' w' h h2=>⟨.ret,st,rfl,h,(zrV h2).1⟩))
  have noR:∀(st:St) (a':Act) (w':World),False→RelS (EH M bs w0 true) 75 st a' w'→False:=fun _ _ _ h _=>h
  refine wpIn_seq (zrB (X:=True) hR3 (by kernel_rfl) (by kernel_rfl) (by kernel_rfl) (vR45 m right) (fun st4 a4 w4 hv4 hR4=>?_))
  refine wpIn_seq (wpIn_seq (zfv (X:=True) (R:=fun _=>False) hR4 (by kernel_rfl) (by kernel_rfl) hv4 (fun a5 w5 _ hR5=>?_) (fun _ _ _ h=>h.elim)))
  refine wpIn_block (zdX (fun n a w=>∃k,k≤m.length∧n=m.length - k∧RelS (EH M bs w0 true) 75 (hdO m right k) a w) ⟨0,Nat.zero_le _,rfl,hR5⟩ ?_)
  rintro n a w ⟨k,hk,rfl,hR⟩
  refine wpIn_seq (zfv (X:=True) (R:=fun _=>False) hR (by kernel_rfl) (by kernel_rfl) (vR6 m right k) (fun a1 w1 _ hR1=>?_) (fun _ _ _ h=>h.elim))
  have hb:=zxL hR1 (by decide)
  have hR1:=zoU hR1
  by_cases hlt:k<m.length
  · rw [decide_eq_true (by omega)] at hb
    refine wpIn_seq (wpIn_cond_true hb (wpIn_skip ?_))
    change Code.wpIn (Fw none) 0 Tryz.prog _ _ a1 w1
    refine wpIn_seq (wpIn_block (wpIn_seq (zrB (X:=True) hR1 (by kernel_rfl) (by kernel_rfl) (by kernel_rfl) (zzP m right k (by omega)) (fun st2 a2 w2 hv2 hR2=>?_))))
    refine wpIn_seq (zrB (X:=True) hR2 (by kernel_rfl) (by kernel_rfl) (by kernel_rfl) hv2 (fun st3 a3 w3 hv3 hR3=>?_))
    refine wpIn_seq (wpIn_seq (zfv (X:=True) (R:=fun _=>False) hR3 (by kernel_rfl) (by kernel_rfl) hv3 (fun a4 w4 _ hR4=>?_) (fun _ _ _ h=>h.elim)))
    refine wpIn_block (zdX (fun n a w=>∃i,i≤m.length∧n=m.length - i∧RelS (EH M bs w0 true) 75 (hdI m right k i) a w) ⟨0,Nat.zero_le _,rfl,hR4⟩ ?_)
    rintro n a w ⟨i,hi,rfl,hR⟩
    refine wpIn_seq (zfv (X:=True) (R:=fun _=>False) hR (by kernel_rfl) (by kernel_rfl) (vR10 m right k i) (fun a1 w1 _ hR1=>?_) (fun _ _ _ h=>h.elim))
    have hb:=zxL hR1 (by decide)
    have hR1:=zoU hR1
    by_cases hit:i<m.length
    · rw [decide_eq_true (by omega)] at hb
      refine wpIn_seq (wpIn_cond_true hb (wpIn_skip ?_))
      change Code.wpIn (Fw none) 0 Tryz.prog _ _ a1 w1
      refine wpIn_seq (wpIn_block (wpIn_seq (zyB hR1 (by kernel_rfl) (by kernel_rfl) (vR11 m right k i hit (by rw[hrow i hit];exact hN)) (fun st2 a2 w2 hv2 hR2=>?_))))
      refine wpIn_seq ?_
      rw[zyw]
      refine wpIn_region_list ?_
      change wpListIn (Fw none) 0 Tryz.prog _ _ (zjz.take 4++zjz.drop 4) a2 w2
      refine zhV _ _ _ (zwq hR2 ?_ ?_ hv2 fun a3 w3 hR3=>?_)
      · exact fun o ho=>by
          change o∈zjz
          exact List.mem_of_mem_take ho
      · intro o ho t ht
        change o∈zjz at ho
        have hall:(zjz.all fun o=>match o.dst with|some t=>Nat.blt t 75|none=>true)=true:=by kernel_rfl
        have:=List.all_eq_true.1 hall o ho
        rw[ht] at this
        exact Nat.le_of_ble_eq_true this
      · have hn:=nest (Q:=fun e a w=>e=.normal∧RelS (EH M bs w0 true) 75 (stB 60010 m (chk m right k (i+1)) right (dets m right k) (detA m) i k m.length) a w) hR3 hit zel (by omega) (by rw[hrow i hit];omega) (fun a' w' h=>by
          rw[zuC hit] at h
          exact⟨rfl,h⟩)
        refine zeS ?_ _ _ _ hn
        rintro e a4 w4 h
        cases e with
        | normal=>
          refine wpIn_mono h ?_
          rintro e a5 w5 ⟨rfl,hR4⟩
          change Code.wpIn (Fw none) 0 Tryz.prog R14 _ a5 w5
          refine zfv (X:=True) (R:=fun _=>False) hR4 (by kernel_rfl) (by kernel_rfl) (vR14 m right k i hit (by omega)) (fun a5 w5 _ hR5=>?_) (fun _ _ _ h=>h.elim)
          exact⟨m.length - (i+1),by omega,i+1,hit,rfl,hR5⟩
        | _=>exact absurd h.1 (by intro h;cases h)
    · rw[decide_eq_false (by omega)] at hb
      refine wpIn_seq (wpIn_cond_false hb (wpIn_exit ?_))
      have e:i=m.length:=by omega
      subst e
      change Code.wpIn (Fw none) 0 Tryz.prog R15 _ a1 w1
      refine zfv (X:=True) (R:=fun _=>False) hR1 (by kernel_rfl) (by kernel_rfl) (vR15 m right k 0 (by omega) (by omega) ⟨N,hN,zvt hs hrb⟩) (fun a2 w2 _ hR2=>?_) (fun _ _ _ h=>h.elim)
      change Code.wpIn (Fw none) 0 Tryz.prog R16 _ a2 w2
      refine zfv (X:=True) (R:=fun _=>False) hR2 (by kernel_rfl) (by kernel_rfl) (vR16 m right k 0 (by omega) (by omega)) (fun a3 w3 _ hR3=>?_) (fun _ _ _ h=>h.elim)
      exact⟨m.length - (k+1),by omega,k+1,hlt,rfl,hR3⟩
  · rw[decide_eq_false (by omega)] at hb
    refine wpIn_seq (wpIn_cond_false hb (wpIn_exit ?_))
    have e:k=m.length:=by omega
    subst e
    change Code.wpIn (Fw none) 0 Tryz.prog TL _ a1 w1
    refine wpIn_mono (zbe zjJ (zb3 mixed zjJ) TL 0 _ _ a1 w1 (EH M bs w0 true) none rfl rfl (.inr (by kernel_rfl)) (by kernel_rfl) (vTL m right (by omega) hne (zoh hdet) (fun i hi=>zsP hN hs hrb hi)) hR1) ?_
    rintro e a' w' ⟨⟨xe,st',h1,h2,h3⟩,_⟩
    exact⟨xe,st',h1,h2,(zrV h3).1⟩
end Go.Eng.Ar
namespace Go.Eng.Ar
open Go.Eng Go.Proofs
set_option linter.all false
set_option maxRecDepth 100000
set_option maxHeartbeats 8000000
abbrev BndD:Type:=zkz.Den
def lowB (row:List Int):BndD:=(tab (fun j=>-vI row j) row.length++[1],0,())
def zqd (cap:Int) (row:List Int):BndD:=(row++[0],cap,())
def zp6 (n:Nat) (j:Nat):BndD:=(zbM (n+1:Int) (j:Int) 1,1,())
def zpU (n:Nat) (j:Nat):BndD:=(zbM (n+1:Int) (j:Int) (-1),0,())
abbrev zmF (t:List (List Int)) (k:Nat):List BndD:=tab (fun i=>lowB (rowN t i)) k
abbrev zdP (t:List (List Int)) (cap:Int) (k:Nat):List BndD:=zmF t t.length++tab (fun i=>zqd cap (rowN t i)) k
abbrev zdr (t:List (List Int)) (cap:Int) (k:Nat):List BndD:=zdP t cap t.length++tab (zp6 (ncol t)) k
abbrev zdW (t:List (List Int)) (cap:Int) (k:Nat):List BndD:=zdr t cap (ncol t)++tab (zpU (ncol t)) k
@[reducible] def zxP:Spec:={pats:=[.dat zeq],res:=[{t:=zlM}],pre:=fun x=>goodT x.1.1 x.1.2.1,f:=fun x=>(((List.length (α:=List Int) x.1.1:Int),(ncol x.1.1:Int),zdW x.1.1 x.1.2.1 (ncol x.1.1),()),())}
abbrev cB3 (t:List (List Int)) (xs:List BndD):St:=[cI 3 0 t.length,cI 3 1 (ncol t),.cell 3 2 (.o 60032 xs.length),.row 60032 222 zkz xs]
def pA1 (t:List (List Int)):LoopAnn:={σ:=Nat,pat:=fun k=>sI 25 k::cB3 t (zmF t k),inv:=fun k=>k≤t.length,meas:=fun k=>t.length - k}
def pA2 (st:St):LoopAnn:=zzM 30 st fun row=>{σ:=Nat,pat:=fun j=>sI 32 j::.slot 29 (.one .u)::sOwn 6 29 3 (tab (fun j=>-vI row j) j),inv:=fun j=>j≤row.length,meas:=fun j=>row.length - j}
def pA3 (t:List (List Int)) (cap:Int):LoopAnn:={σ:=Nat,pat:=fun k=>sI 55 k::cB3 t (zdP t cap k),inv:=fun k=>k≤t.length,meas:=fun k=>t.length - k}
def pA4 (t:List (List Int)) (cap:Int):LoopAnn:={σ:=Nat,pat:=fun k=>sI 74 k::cB3 t (zdr t cap k),inv:=fun k=>k≤ncol t,meas:=fun k=>ncol t - k}
def pA5 (t:List (List Int)) (cap:Int):LoopAnn:={σ:=Nat,pat:=fun k=>sI 91 k::cB3 t (zdW t cap k),inv:=fun k=>k≤ncol t,meas:=fun k=>ncol t - k}
theorem h142:Ok 142 zxP:=by
  refine mk (ctr:=[(145,zho),(162,zvO)]) ⟨h145,h162,trivial⟩ (nt:=107) Tryz.func142 rfl rfl rfl rfl (by kernel_rfl) (by kernel_rfl) (fun x=>[fun _=>pA1 x.1.1,pA2,fun _=>pA3 x.1.1 x.1.2.1,fun _=>pA4 x.1.1 x.1.2.1,fun _=>pA5 x.1.1 x.1.2.1]) ?_
  rintro⟨⟨(t:List (List Int)),(cap:Int),_⟩,_⟩ h
  obtain⟨(h1:0<t.length),(h2:t.length≤4),(h3:0<ncol t),(h4:ncol t≤3),(h5:∀i,i<t.length→(rowN t i).length=ncol t),(h6:∀i j,i<t.length→j<ncol t→0≤vI (rowN t i) j∧vI (rowN t i) j≤100),(h7:0≤cap∧cap≤1000)⟩:=(h:goodT t cap)
  repeat' (intro hzz;(try (rename Two=>hq;cases hq));(try dsimp only at hzz);(try simp only[zad,zac,eqD,inR,big,zab,zB] at hzz);(try simp only[zad,zac,eqD,inR,big,zab,zB,za7,zaz,zbB,zeT,zeU,Int.toNat_natCast,zam,zc3,List.length_append] at hzz);(try (revert hzz;intro _)))
  all_goals try (rename Unit=>hq;clear hq)
  all_goals try ((with_reducible refine Held.mk ?_);(with_reducible (first|refine Frz.mk ?_|refine And.intro (Frz.mk ?_) ?_|refine And.intro ?_ (Frz.mk ?_)));repeat' first|exact True.intro|(change _=_;with_reducible rfl)|refine And.intro ?_ ?_|(with_reducible refine Frz.mk ?_))
  all_goals try (refine Held.mk ?_;(try dsimp only at *);(try simp only[zad,zac,eqD,inR,big,zab,zB] at *);(try simp only[zad,zac,eqD,inR,big,zab,zB,za7,zaz,zbB,zeT,zeU,Int.toNat_natCast,zam,zc3,List.length_append] at *))
  all_goals try omega
  ·
    refine zai.mk ?_
    refine Exists.intro (0:Nat) ?_
    refine And.intro (Leaf.mk ?_) ?_
    · repeat' first|exact True.intro|refine And.intro ?_ ?_
      all_goals try ((change _=_<;>try dsimp only)<;>try with_reducible rfl)
      all_goals try omega
      all_goals (rfl)
    exact Nat.zero_le _
  · rename_i k hk hg
    refine zai.mk ?_
    refine Exists.intro (0:Nat) ?_
    refine And.intro (Leaf.mk ?_) ?_
    · repeat' first|exact True.intro|refine And.intro ?_ ?_
      all_goals try ((change _=_<;>try dsimp only)<;>try with_reducible rfl)
      all_goals try omega
      all_goals (rfl)
    exact Nat.zero_le _
  · rename_i k hk hg j hj hl
    have hl0:(rowN t k).length=ncol t:=h5 k (by omega)
    have:=h6 k j (by omega) (by have:(rowN t k).length=(t.getD k []).length:=rfl;omega)
    show -9223372036854775808≤-vI (rowN t k) j∧-vI (rowN t k) j≤9223372036854775807
    omega
  · rename_i k hk hg j hj hl
    have hl0:(t.getD k []).length=ncol t:=h5 k (by omega)
    show j+1≤2147483648;omega
  · rename_i k hk hg j hj hl
    have hl0:(t.getD k []).length=ncol t:=h5 k (by omega)
    omega
  · rename_i k hk hg j hj hl
    refine zai.mk ?_
    refine Exists.intro (j+1) ?_
    refine And.intro (Leaf.mk ?_) ?_
    · repeat' first|exact True.intro|refine And.intro ?_ ?_
      all_goals try ((change _=_<;>try dsimp only)<;>try with_reducible rfl)
      all_goals try omega
      all_goals (rfl)
    exact⟨by show j+1≤(t.getD k []).length;omega,by show (t.getD k []).length - (j+1)<(t.getD k []).length - j;omega⟩
  · rename_i k hk hg j hj hl
    have hl0:(t.getD k []).length=ncol t:=h5 k (by omega)
    show (tab (fun j=>-vI (t.getD k []) j) j).length+1≤2147483648
    rw[zam];omega
  · rename_i k hk hg j hj hl
    show k+1≤2147483648;omega
  · rename_i k hk hg j hj hl
    have e:j=(t.getD k []).length:=by omega
    subst e
    refine zai.mk ?_
    refine Exists.intro (k+1) ?_
    refine And.intro (Leaf.mk ?_) ?_
    · repeat' first|exact True.intro|refine And.intro ?_ ?_
      all_goals try ((change _=_<;>try dsimp only)<;>try with_reducible rfl)
      all_goals try omega
      all_goals (rfl)
    exact⟨by show k+1≤t.length;omega,by show t.length - (k+1)<t.length - k;omega⟩
  · rename_i k hk hg
    have e:k=t.length:=by omega
    subst e
    refine zai.mk ?_
    refine Exists.intro (0:Nat) ?_
    refine And.intro (Leaf.mk ?_) ?_
    · repeat' first|exact True.intro|refine And.intro ?_ ?_
      all_goals try ((change _=_<;>try dsimp only)<;>try with_reducible rfl)
      all_goals try omega
      all_goals (first|rfl|exact (List.append_nil _).symm|(rw[List.length_append,zam];rfl))
    exact Nat.zero_le _
  · rename_i q hq hq2 k hk hg
    have hl0:(t.getD k []).length=ncol t:=h5 k (by omega)
    omega
  · rename_i q hq hq2 k hk hg
    have hl0:(t.getD k []).length=ncol t:=h5 k (by omega)
    show (t.getD k []).length+1≤2147483648
    omega
  · rename_i q hq hq2 k hk hg
    show t.length+k+1≤2147483648;omega
  · rename_i q hq hq2 k hk hg
    have e:zdP t cap k++[zqd cap (rowN t k)]=zdP t cap (k+1):=List.append_assoc _ _ _
    refine zai.mk ?_
    refine Exists.intro (k+1) ?_
    refine And.intro (Leaf.mk ?_) ?_
    · repeat' first|exact True.intro|refine And.intro ?_ ?_
      all_goals try ((change _=_<;>try dsimp only)<;>try with_reducible rfl)
      all_goals try omega
      all_goals (first|rfl|exact e.symm|exact e|exact congrArg List.length e.symm|exact congrArg List.length e)
    exact⟨by show k+1≤t.length;omega,by show t.length - (k+1)<t.length - k;omega⟩
  · rename_i q hq hq2 k hk hg
    have e:k=t.length:=by omega
    subst e
    have e:zdP t cap t.length=zdr t cap 0:=(List.append_nil _).symm
    refine zai.mk ?_
    refine Exists.intro (0:Nat) ?_
    refine And.intro (Leaf.mk ?_) ?_
    · repeat' first|exact True.intro|refine And.intro ?_ ?_
      all_goals try ((change _=_<;>try dsimp only)<;>try with_reducible rfl)
      all_goals try omega
      all_goals (first|rfl|exact e.symm|exact e|exact congrArg List.length e.symm|exact congrArg List.length e)
    exact Nat.zero_le _
  · show (0:Int)≤(ncol t:Int)+1;omega
  · show (ncol t:Int)+1≤1000;omega
  · rename_i q1 q2 q3 p1 p2 p3 k hk hg
    show (0:Int)≤(k:Int);omega
  · rename_i q1 q2 q3 p1 p2 p3 k hk hg
    show (k:Int)<(ncol t:Int)+1;omega
  · rename_i q1 q2 q3 p1 p2 p3 k hk hg
    show t.length+t.length+k+1≤2147483648;omega
  · rename_i q1 q2 q3 p1 p2 p3 k hk hg
    have e:zdr t cap k++[zp6 (ncol t) k]=zdr t cap (k+1):=List.append_assoc _ _ _
    refine zai.mk ?_
    refine Exists.intro (k+1) ?_
    refine And.intro (Leaf.mk ?_) ?_
    · repeat' first|exact True.intro|refine And.intro ?_ ?_
      all_goals try ((change _=_<;>try dsimp only)<;>try with_reducible rfl)
      all_goals try omega
      all_goals (first|rfl|exact e.symm|exact e|exact congrArg List.length e.symm|exact congrArg List.length e)
    exact⟨by show k+1≤ncol t;omega,by show ncol t - (k+1)<ncol t - k;omega⟩
  · rename_i q1 q2 q3 p1 p2 p3 k hk hg
    have e:k=ncol t:=by omega
    subst e
    have e:zdr t cap (ncol t)=zdW t cap 0:=(List.append_nil _).symm
    refine zai.mk ?_
    refine Exists.intro (0:Nat) ?_
    refine And.intro (Leaf.mk ?_) ?_
    · repeat' first|exact True.intro|refine And.intro ?_ ?_
      all_goals try ((change _=_<;>try dsimp only)<;>try with_reducible rfl)
      all_goals try omega
      all_goals (first|rfl|exact e.symm|exact e|exact congrArg List.length e.symm|exact congrArg List.length e)
    exact Nat.zero_le _
  · show (0:Int)≤(ncol t:Int)+1;omega
  · show (ncol t:Int)+1≤1000;omega
  · rename_i r1 r2 r3 q1 q2 q3 p1 p2 p3 k hk hg
    show (0:Int)≤(k:Int);omega
  · rename_i r1 r2 r3 q1 q2 q3 p1 p2 p3 k hk hg
    show (k:Int)<(ncol t:Int)+1;omega
  · rename_i r1 r2 r3 q1 q2 q3 p1 p2 p3 k hk hg
    show t.length+t.length+ncol t+k+1≤2147483648;omega
  · rename_i r1 r2 r3 q1 q2 q3 p1 p2 p3 k hk hg
    have e:zdW t cap k++[zpU (ncol t) k]=zdW t cap (k+1):=List.append_assoc _ _ _
    refine zai.mk ?_
    refine Exists.intro (k+1) ?_
    refine And.intro (Leaf.mk ?_) ?_
    · repeat' first|exact True.intro|refine And.intro ?_ ?_
      all_goals try ((change _=_<;>try dsimp only)<;>try with_reducible rfl)
      all_goals try omega
      all_goals (first|rfl|exact e.symm|exact e|exact congrArg List.length e.symm|exact congrArg List.length e)
    exact⟨by show k+1≤ncol t;omega,by show ncol t - (k+1)<ncol t - k;omega⟩
  · rename_i r1 r2 r3 q1 q2 q3 p1 p2 p3 k hk hg
    rw[show k=ncol t by omega]
end Go.Eng.Ar
namespace Go.Eng.Ar
open Go.Eng Go.Proofs
set_option linter.all false
set_option maxRecDepth 100000
set_option maxHeartbeats 8000000
def trM (m:List (List Int)):List (List Int):=tab (fun j=>tab (fun i=>vI (rowN m i) j) m.length) m.length
theorem len1 {α:Type} {l:List α} (h:l.length=1):∃a,l=[a]:=by
  match l,h with
  | [a],_=>exact⟨a,rfl⟩
theorem len2 {α:Type} {l:List α} (h:l.length=2):∃a b,l=[a,b]:=by
  match l,h with
  | [a,b],_=>exact⟨a,b,rfl⟩
theorem len3 {α:Type} {l:List α} (h:l.length=3):∃a b c,l=[a,b,c]:=by
  match l,h with
  | [a,b,c],_=>exact⟨a,b,c,rfl⟩
theorem len4 {α:Type} {l:List α} (h:l.length=4):∃a b c d,l=[a,b,c,d]:=by
  match l,h with
  | [a,b,c,d],_=>exact⟨a,b,c,d,rfl⟩
theorem tr1 (a:Int):detN 1 (trM [[a]])=detN 1 [[a]]:=rfl
theorem tr2 (a b c d:Int):detN 2 (trM [[a,b],[c,d]])=detN 2 [[a,b],[c,d]]:=by
  show detN 2 [[a,c],[b,d]]=detN 2 [[a,b],[c,d]]
  simp[detN,sumD,zaR,zbd];grind
theorem tr3 (a b c d e f g h i:Int):detN 3 (trM [[a,b,c],[d,e,f],[g,h,i]])=detN 3 [[a,b,c],[d,e,f],[g,h,i]]:=by
  show detN 3 [[a,d,g],[b,e,h],[c,f,i]]=detN 3 [[a,b,c],[d,e,f],[g,h,i]]
  simp[detN,sumD,zaR,zbd];grind
theorem tr4 (a b c d e f g h i j k l m n o p:Int):detN 4 (trM [[a,b,c,d],[e,f,g,h],[i,j,k,l],[m,n,o,p]])=detN 4 [[a,b,c,d],[e,f,g,h],[i,j,k,l],[m,n,o,p]]:=by
  show detN 4 [[a,e,i,m],[b,f,j,n],[c,g,k,o],[d,h,l,p]]=detN 4 [[a,b,c,d],[e,f,g,h],[i,j,k,l],[m,n,o,p]]
  simp[detN,sumD,zaR,zbd];grind
theorem zh5 {m:List (List Int)}:(trM m).length=m.length:=zam _ _
theorem zuR {N:Nat} (hN:N≤4) {m:List (List Int)} (h:zdH N m):detA (trM m)=detA m:=by
  obtain⟨h1,h2⟩:=h
  unfold detA
  rw[zh5]
  match N,hN with
  | 0,_=>rw[List.length_eq_zero_iff.1 h1];rfl
  | 1,_=>
    obtain⟨r,rfl⟩:=len1 h1
    obtain⟨a,rfl⟩:=len1 (h2 r (by simp)).1
    exact tr1 _
  | 2,_=>
    obtain⟨r,s,rfl⟩:=len2 h1
    obtain⟨a,b,rfl⟩:=len2 (h2 r (by simp)).1
    obtain⟨c,d,rfl⟩:=len2 (h2 s (by simp)).1
    exact tr2 _ _ _ _
  | 3,_=>
    obtain⟨r,s,t,rfl⟩:=len3 h1
    obtain⟨a,b,c,rfl⟩:=len3 (h2 r (by simp)).1
    obtain⟨d,e,f,rfl⟩:=len3 (h2 s (by simp)).1
    obtain⟨g,h,i,rfl⟩:=len3 (h2 t (by simp)).1
    exact tr3 _ _ _ _ _ _ _ _ _
  | 4,_=>
    obtain⟨r,s,t,u,rfl⟩:=len4 h1
    obtain⟨a,b,c,d,rfl⟩:=len4 (h2 r (by simp)).1
    obtain⟨e,f,g,h,rfl⟩:=len4 (h2 s (by simp)).1
    obtain⟨i,j,k,l,rfl⟩:=len4 (h2 t (by simp)).1
    obtain⟨m,n,o,p,rfl⟩:=len4 (h2 u (by simp)).1
    exact tr4 _ _ _ _ _ _ _ _ _ _ _ _ _ _ _ _
theorem zmB {l:List Int} {x:Int} (h:x∈l):∃i,i<l.length∧x=vI l i:=by
  obtain⟨i,hi,e⟩:=List.getElem_of_mem h
  exact⟨i,hi,by simp[vI,List.getD,List.getElem?_eq_getElem hi,e]⟩
theorem zhj {l:List Int} {i:Nat} (h:i<l.length):vI l i∈l:=by
  have:vI l i=l[i]:=by simp[vI,List.getD,List.getElem?_eq_getElem h]
  rw[this];exact List.getElem_mem h
theorem zvG {N:Nat} {m:List (List Int)} (h:zdH N m):zdH N (trM m):=by
  have hl:m.length=N:=h.1
  refine⟨by rw[zh5,hl],fun r hr=>?_⟩
  obtain⟨j,hj,rfl⟩:=zco hr
  refine⟨by rw[zam,hl],fun x hx=>?_⟩
  obtain⟨i,hi,rfl⟩:=zco hx
  have hrow:=h.2 _ (zmg h (i:=i) (by omega))
  exact hrow.2 _ (zhj (by rw[hrow.1];omega))
theorem ztE {m:List (List Int)} {right:List Int} (h:detA m≠0):(zaG m right).2.2.1=true:=by
  unfold zaG
  rw[if_neg h]
  split<;>rfl
theorem ztF {m:List (List Int)} {right:List Int} (h:detA m=0):(zaG m right).2.2.1=false:=by
  unfold zaG
  rw[if_pos h]
theorem zpT {m:List (List Int)} {right:List Int} (h:(zaG m right).2.2.1=true):detA m≠0:=fun e=>by rw[ztF e] at h;cases h
theorem zlZ {m:List (List Int)} {right:List Int} (h:detA m≠0):(zaG m right).1.length=m.length:=by
  unfold zaG
  rw[if_neg h]
  split
  · show (negd (dets m right m.length) m.length).length=_
    rw[zgd,zei]
  · exact zei
theorem zkH {m:List (List Int)} {right:List Int} (hp:zmp m right) (h:detA m≠0) {i:Nat} (hi:i<m.length) : -400000000000000≤vI (zaG m right).1 i∧vI (zaG m right).1 i≤400000000000000:=by
  obtain⟨⟨N,hN,hs⟩,h1,h2⟩:=hp
  have hb:=zsP hN hs h2 hi
  unfold zaG
  rw[if_neg h]
  split
  · have e:vI (negd (dets m right m.length) m.length) i = -vI (dets m right m.length) i:=by
      have:=zaE (fun j=>if j<m.length then -vI (dets m right m.length) j else vI (dets m right m.length) j) 0 (dets m right m.length).length i (by rw[zei];exact hi)
      rw[if_pos hi] at this
      exact this
    show -400000000000000≤vI (negd (dets m right m.length) m.length) i∧vI (negd (dets m right m.length) m.length) i≤400000000000000
    rw[e];omega
  · exact hb
theorem zig {m:List (List Int)} {right:List Int} (hp:zmp m right) (h:detA m≠0):0<(zaG m right).2.1∧(zaG m right).2.1≤400000000000000:=by
  have hb:=zoh hp.1
  unfold zaG
  rw[if_neg h]
  split
  · show 0 < -detA m∧-detA m≤400000000000000
    omega
  · show 0<detA m∧detA m≤400000000000000
    omega
end Go.Eng.Ar
namespace Go.Eng.Ar
open Go.Eng Go.Proofs
set_option linter.all false
set_option maxRecDepth 100000
set_option maxHeartbeats 8000000
abbrev bndZ:BndD:=Ty.dflt zkz
abbrev bdN (b:List BndD) (k:Nat):BndD:=b.getD k bndZ
abbrev bdL (b:List BndD) (l:List Int) (i:Nat):BndD:=b.getD (vI l i).toNat bndZ
abbrev zcQ:Type:=zor.Den
def zaH (b:List BndD) (l:List Int) (k:Nat):List (List Int):=tab (fun i=>(bdL b l i).1) k
def rhsP (b:List BndD) (l:List Int) (k:Nat):List Int:=tab (fun i=>(bdL b l i).2.1) k
def colP (m:List (List Int)) (j i:Nat):List Int:=tab (fun i=>vI (rowN m i) j) i
def zlz (m:List (List Int)) (k:Nat):List (List Int):=tab (fun j=>colP m j m.length) k
def wsP (b:Nat) (l y:List Int):Nat→List Int
  | 0=>repl (b:Int) (0:Int)
  | i+1=>(wsP b l y i).set (vI l i).toNat (vI y i)
def okB (b:List BndD) (x:List Int) (den:Int) (k:Nat):Bool:=decide (dotI (bdN b k).1 x≤(bdN b k).2.1*den)
def zeC (b:List BndD) (x:List Int) (den:Int):Nat→Bool
  | 0=>true
  | k+1=>zeC b x den k&&okB b x den k
abbrev zhG:zcQ:=([],0,[],0,())
def atX (b:List BndD) (l:List Int):List Int×Int×Bool×Unit:=zaG (zaH b l l.length) (rhsP b l l.length)
def atY (b:List BndD) (l:List Int):List Int×Int×Bool×Unit:=zaG (trM (zaH b l l.length)) (zbM (l.length:Int) ((l.length:Int) - 1) 1)
def atR (b:List BndD) (l:List Int):zcQ×Bool×Unit:=
  if (atX b l).2.2.1=false then (zhG,false,())
  else if zeC b (atX b l).1 (atX b l).2.1 b.length=false then (zhG,false,())
  else if mn (atY b l).1 (l.length - 1)<0 then (zhG,false,())
  else (((atX b l).1,(atX b l).2.1,wsP b.length l (atY b l).1 l.length,(atY b l).2.1,()),true,())
structure goodA (b:List BndD) (l:List Int):Prop where
  pos:0<l.length
  le:l.length≤4
  ble:b.length≤100
  idx:∀i,i<l.length→0≤vI l i∧(vI l i).toNat<b.length
  len:∀k,k<b.length→(bdN b k).1.length=l.length
  vals:∀k j,k<b.length→j<l.length→-1000≤vI (bdN b k).1 j∧vI (bdN b k).1 j≤1000
  most:∀k,k<b.length→(0:Int)≤(bdN b k).2.1∧(bdN b k).2.1≤(1000:Int)
theorem zer {b:Nat} {l y:List Int}:∀i,(wsP b l y i).length=b
  | 0=>by simp[wsP,zcT]
  | i+1=>by simp[wsP,zer i]
theorem zaS {b l k}:(zaH b l k).length=k:=zam _ _
theorem zhR {b:List BndD} {l:List Int} {k i:Nat} (h:i<k):rowN (zaH b l k) i=(bdL b l i).1:=zaE (fun i=>(bdL b l i).1) [] k i h
theorem zit {b:List BndD} {l:List Int} (h:goodA b l):zdH l.length (zaH b l l.length):=by
  refine⟨zaS,fun r hr=>?_⟩
  obtain⟨i,hi,rfl⟩:=zco hr
  have h1:=h.idx i hi
  have h2:(bdL b l i).1.length=l.length:=h.len _ h1.2
  refine⟨h2,fun x hx=>?_⟩
  obtain⟨j,hj,rfl⟩:=zmB hx
  have:=h.vals _ j h1.2 (by rw[←h2];exact hj)
  have e:vI (bdL b l i).1 j=vI (bdN b (vI l i).toNat).1 j:=rfl
  rw[e];omega
theorem znG {b l k}:(rhsP b l k).length=k:=zam _ _
theorem znH {b:List BndD} {l:List Int} {k i:Nat} (h:i<k):vI (rhsP b l k) i=(bdL b l i).2.1:=zaE (fun i=>(bdL b l i).2.1) 0 k i h
theorem pX {b:List BndD} {l:List Int} (h:goodA b l):zmp (zaH b l l.length) (rhsP b l l.length):=by
  refine⟨⟨l.length,h.le,zit h⟩,by rw[znG,zaS],fun i hi=>?_⟩
  rw[zaS] at hi
  rw[znH hi]
  have h1:=h.idx i hi
  have h2:0≤(bdL b l i).2.1∧(bdL b l i).2.1≤1000:=h.most _ h1.2
  generalize (bdL b l i).2.1=z at h2
  have h3:(0:Int)≤z:=h2.1
  have h4:z≤(1000:Int):=h2.2
  exact⟨Int.le_trans (by decide) h3,Int.le_trans h4 (by decide)⟩
theorem zkD {n k v:Int}:(zbM n k v).length=n.toNat:=by
  unfold zbM;rw[List.length_set,zcT]
theorem zfW {n:Nat} {k:Nat} {v:Int} {i:Nat} (hi:i<n):vI (zbM (n:Int) (k:Int) v) i=if i=k then v else 0:=by
  have e:zbM (n:Int) (k:Int) v=tab (fun j=>if j=k then v else 0) n:=by
    have e0:repl (n:Int) (0:Int)=tab (fun _=>(0:Int)) n:=by
      rw[zfJ];symm
      exact zoB 0 (by simp) fun i hi=>by simp[List.getD,hi]
    unfold zbM
    rw[e0,show ((k:Int)).toNat=k from rfl,znt]
  rw[e]
  exact zaE (fun j=>if j=k then v else 0) 0 n i hi
theorem pY {b:List BndD} {l:List Int} (h:goodA b l):zmp (trM (zaH b l l.length)) (zbM (l.length:Int) ((l.length:Int) - 1) 1):=by
  have hl:(trM (zaH b l l.length)).length=l.length:=by rw[zh5,zaS]
  refine⟨⟨l.length,h.le,zvG (zit h)⟩,by rw[zkD,hl];rfl,fun i hi=>?_⟩
  rw[hl] at hi
  have hp:=h.pos
  rw[show (l.length:Int) - 1=((l.length - 1:Nat):Int) by omega,zfW hi]
  split<;>omega
theorem zpa {b:List BndD} {x:List Int} {d:Int} {k:Nat} (h:okB b x d k=false):∀n,k<n→zeC b x d n=false
  | 0,hk=>absurd hk (Nat.not_lt_zero _)
  | n+1,hk=>by
    simp only[zeC]
    by_cases e:k=n
    · subst e;rw[h,Bool.and_false]
    · rw[zpa h n (by omega),Bool.false_and]
theorem at_1 {b:List BndD} {l:List Int} (h:(atX b l).2.2.1=false):atR b l=(zhG,false,()):=if_pos h
theorem at_2 {b:List BndD} {l:List Int} (h:(atX b l).2.2.1=true) (h2:zeC b (atX b l).1 (atX b l).2.1 b.length=false):atR b l=(zhG,false,()):=by
  unfold atR;rw[if_neg (by rw[h];decide),if_pos h2]
theorem at_3 {b:List BndD} {l:List Int} (h:(atX b l).2.2.1=true) (h2:zeC b (atX b l).1 (atX b l).2.1 b.length=true) (h3:mn (atY b l).1 (l.length - 1)<0):atR b l=(zhG,false,()):=by
  unfold atR;rw[if_neg (by rw[h];decide),if_neg (by rw[h2];decide),if_pos h3]
theorem at_4 {b:List BndD} {l:List Int} (h:(atX b l).2.2.1=true) (h2:zeC b (atX b l).1 (atX b l).2.1 b.length=true) (h3:¬mn (atY b l).1 (l.length - 1)<0):atR b l=(((atX b l).1,(atX b l).2.1,wsP b.length l (atY b l).1 l.length,(atY b l).2.1,()),true,()):=by
  unfold atR;rw[if_neg (by rw[h];decide),if_neg (by rw[h2];decide),if_neg h3]
theorem znn {b:List BndD} {l:List Int} (h:(atX b l).2.2.1=true):detA (zaH b l l.length)≠0:=zpT h
theorem zvD {b:List BndD} {l:List Int} (h:(atX b l).2.2.1=true):(atX b l).1.length=l.length:=(zlZ (znn h)).trans zaS
theorem ztr {b:List BndD} {l:List Int} (hg:goodA b l) (h:(atX b l).2.2.1=true):detA (trM (zaH b l l.length))≠0:=by
  rw[zuR hg.le (zit hg)];exact znn h
theorem ztp {b:List BndD} {l:List Int} (hg:goodA b l) (h:(atX b l).2.2.1=true):(atY b l).1.length=l.length:=(zlZ (ztr hg h)).trans (by rw[zh5,zaS])
theorem y_eq {b:List BndD} {l:List Int}:zaG (zlz (zaH b l l.length) (zaH b l l.length).length) (zbM ((zaH b l l.length).length:Int) (((zaH b l l.length).length:Int) - 1) 1)=atY b l:=by
  show zaG (trM (zaH b l l.length)) _=atY b l
  rw[zaS];rfl
theorem ztq {b:List BndD} {l:List Int}:zaG (zlz (zaH b l l.length) l.length) (zbM (l.length:Int) ((l.length:Int) - 1) 1)=atY b l:=by
  have:=@y_eq b l
  rw[zaS] at this;exact this
theorem zAh {b:List BndD} {l:List Int} (hg:goodA b l) (h:(atX b l).2.2.1=true) {k:Nat} (hk:k<b.length):pDot (bdN b k).1 (atX b l).1:=by
  have e:=hg.len k hk
  have hl:=hg.le
  refine⟨by rw[e,zvD h];exact Nat.le_refl _,by rw[e];omega,fun i hi=>?_⟩
  rw[e] at hi
  have h1:=hg.vals k i hk hi
  have h2:=zkH (pX hg) (znn h) (i:=i) (by rw[zaS];exact hi)
  have h3:=zmz h1.1 h1.2 h2.1 h2.2
  exact⟨Int.le_trans (by decide) h3.1,Int.le_trans h3.2 (by decide)⟩
theorem zyH {b:List BndD} {l:List Int} (hg:goodA b l) (h:(atX b l).2.2.1=true) {k:Nat} (hk:k<b.length) : -9223372036854775808≤(bdN b k).2.1*(atX b l).2.1∧(bdN b k).2.1*(atX b l).2.1≤9223372036854775807:=by
  have h1:=hg.most k hk
  have h2:=zig (pX hg) (znn h)
  have h3:=zmz (x:=(bdN b k).2.1) (d:=(atX b l).2.1) (X:=1000) (B:=400000000000000) (Int.le_trans (by decide) h1.1) h1.2 (Int.le_trans (by decide) (Int.le_of_lt h2.1)) h2.2
  exact⟨Int.le_trans (by decide) h3.1,Int.le_trans h3.2 (by decide)⟩
@[reducible] def sAt:Spec:={pats:=[.dat zlM,.dat (.sl I64)],res:=[{t:=zor},{t:=.bool}],pre:=fun x=>goodA x.1.2.2.1 x.2.1,f:=fun x=>atR x.1.2.2.1 x.2.1}
def aA1 (b:List BndD) (l:List Int):LoopAnn:={σ:=Nat,pat:=fun k=>sI 28 k::(zra 6 60006 76 (zaH b l k)++sOwn 8 60008 3 (rhsP b l k)),inv:=fun k=>k≤l.length,meas:=fun k=>l.length - k}
def aA2 (b:List BndD) (l:List Int):LoopAnn:={σ:=Nat,pat:=fun k=>[sI 64 k],inv:=fun k=>k≤b.length∧zeC b (atX b l).1 (atX b l).2.1 k=true,meas:=fun k=>b.length - k}
def aA3 (b:List BndD) (l:List Int):LoopAnn:={σ:=Nat,pat:=fun k=>sI 81 k::zra 7 60007 76 (zlz (zaH b l l.length) k),inv:=fun k=>k≤l.length,meas:=fun k=>l.length - k}
def aA4 (b:List BndD) (l:List Int) (st:St):LoopAnn:=zju 81 st fun j=>{σ:=Nat,pat:=fun i=>sI 86 i::sOwn 17 60017 3 (colP (zaH b l l.length) j.toNat i),inv:=fun i=>i≤l.length,meas:=fun i=>l.length - i}
def aA5 (b:List BndD) (l:List Int):LoopAnn:={σ:=Nat,pat:=fun k=>[sI 129 k,.cell 23 0 (.d (.sl I64) (atX b l).1),cI 23 1 (atX b l).2.1,cI 23 3 (atY b l).2.1,.cell 23 2 (.o 124 (b.length)),.row 124 3 I64 (wsP b.length l (atY b l).1 k)],inv:=fun k=>k≤l.length,meas:=fun k=>l.length - k}
theorem h164:Ok 164 sAt:=by
  refine mk (ctr:=[(105,sDot),(108,sMin),(162,zvO),(180,zmb)]) ⟨h105,h108,h162,zy5,trivial⟩ (nt:=144) Tryz.func164 rfl rfl rfl rfl (by kernel_rfl) (by kernel_rfl) (fun x=>[fun _=>aA1 x.1.2.2.1 x.2.1,fun _=>aA2 x.1.2.2.1 x.2.1,fun _=>aA3 x.1.2.2.1 x.2.1,aA4 x.1.2.2.1 x.2.1,fun _=>aA5 x.1.2.2.1 x.2.1]) ?_
  rintro⟨⟨(s:Int),(n:Int),(b:List BndD),_⟩,(l:List Int),_⟩ (h:goodA b l)
  repeat' (intro hzz;(try (rename Two=>hq;cases hq));(try dsimp only at hzz);(try simp only[zad,zac,eqD,inR,big,zab,zB] at hzz);(try simp only[zad,zac,eqD,inR,big,zab,zB,za7,zaz,zbB,zeT,zeU,Int.toNat_natCast,zam,zc3,List.length_append,zaS,znG] at hzz);(try (revert hzz;intro _)))
  all_goals try (rename Unit=>hq;clear hq)
  all_goals try ((with_reducible refine Held.mk ?_);(with_reducible (first|refine Frz.mk ?_|refine And.intro (Frz.mk ?_) ?_|refine And.intro ?_ (Frz.mk ?_)));repeat' first|exact True.intro|(change _=_;with_reducible rfl)|refine And.intro ?_ ?_|(with_reducible refine Frz.mk ?_))
  all_goals try (refine Held.mk ?_;(try dsimp only at *);(try simp only[zad,zac,eqD,inR,big,zab,zB] at *);(try simp only[zad,zac,eqD,inR,big,zab,zB,za7,zaz,zbB,zeT,zeU,Int.toNat_natCast,zam,zc3,List.length_append,zaS,znG] at *))
  all_goals try omega
  all_goals have hg0:goodA b l:=by assumption
  all_goals have hp:=hg0.pos
  all_goals have hl:=hg0.le
  all_goals have hbl:=hg0.ble
  ·
    refine zai.mk ?_
    refine Exists.intro (0:Nat) ?_
    refine And.intro (Leaf.mk ?_) ?_
    · repeat' first|exact True.intro|refine And.intro ?_ ?_
      all_goals try ((change _=_<;>try dsimp only)<;>try with_reducible rfl)
      all_goals try omega
      all_goals (rfl)
    exact Nat.zero_le _
  · rename_i k hk hg
    have h1:=hg0.idx k (by omega)
    exact⟨h1.1,by have h2:=h1.2;show vI l k<(b.length:Int);omega⟩
  · rename_i k hk hg
    show k+1≤2147483648;omega
  · rename_i k hk hg
    have h1:=hg0.idx k (by omega)
    exact⟨h1.1,by have h2:=h1.2;show vI l k<(b.length:Int);omega⟩
  · rename_i k hk hg
    show k+1≤2147483648;omega
  · omega
  · rename_i k hk hg
    refine zai.mk ?_
    refine Exists.intro (k+1) ?_
    refine And.intro (Leaf.mk ?_) ?_
    · repeat' first|exact True.intro|refine And.intro ?_ ?_
      all_goals try ((change _=_<;>try dsimp only)<;>try with_reducible rfl)
      all_goals try omega
      all_goals (rfl)
    exact⟨by show k+1≤l.length;omega,by show l.length - (k+1)<l.length - k;omega⟩
  · rename_i k hk hg
    rw[show k=l.length by omega]
    exact pX hg0
  · rename_i k hk hg hx
    rw[show k=l.length by omega] at hx
    rw[at_1 hx];exact⟨⟨rfl,rfl,rfl,rfl⟩,rfl⟩
  · rename_i k hk hg hx
    refine zai.mk ?_
    refine Exists.intro (0:Nat) ?_
    refine And.intro (Leaf.mk ?_) ?_
    · repeat' first|exact True.intro|refine And.intro ?_ ?_
      all_goals try ((change _=_<;>try dsimp only)<;>try with_reducible rfl)
      all_goals try omega
      all_goals (rfl)
    exact⟨Nat.zero_le _,rfl⟩
  · rename_i q hq hq2 hx k hk hg
    rw[show q=l.length by omega] at hx ⊢
    exact zAh hg0 hx (by omega)
  · rename_i q hq hq2 hx k hk hg
    rw[show q=l.length by omega] at hx ⊢
    exact zyH hg0 hx (by omega)
  · rename_i q hq hq2 hx k hk hg hn
    rw[show q=l.length by omega] at hx hn
    have ho:okB b (atX b l).1 (atX b l).2.1 k=false:=decide_eq_false (Int.not_le.2 hn)
    rw[at_2 hx (zpa ho _ (by omega))];exact⟨⟨rfl,rfl,rfl,rfl⟩,rfl⟩
  · omega
  · rename_i q hq hq2 hx k hk hg hn
    rw[show q=l.length by omega] at hx hn
    have ho:okB b (atX b l).1 (atX b l).2.1 k=true:=decide_eq_true hn
    refine zai.mk ?_
    refine Exists.intro (k+1) ?_
    refine And.intro (Leaf.mk ?_) ?_
    · repeat' first|exact True.intro|refine And.intro ?_ ?_
      all_goals try ((change _=_<;>try dsimp only)<;>try with_reducible rfl)
      all_goals try omega
      all_goals (rfl)
    exact⟨⟨by show k+1≤b.length;omega,by show (zeC b (atX b l).1 (atX b l).2.1 k&&okB b (atX b l).1 (atX b l).2.1 k)=true;rw[hk.2,ho];rfl⟩,by show b.length - (k+1)<b.length - k;omega⟩
  · rename_i q hq hq2 hx k hk hg
    refine zai.mk ?_
    refine Exists.intro (0:Nat) ?_
    refine And.intro (Leaf.mk ?_) ?_
    · repeat' first|exact True.intro|refine And.intro ?_ ?_
      all_goals try ((change _=_<;>try dsimp only)<;>try with_reducible rfl)
      all_goals try omega
      all_goals (rfl)
    exact Nat.zero_le _
  · rename_i q hq hq2 hx k hk hg j hj hgj
    refine zai.mk ?_
    refine Exists.intro (0:Nat) ?_
    refine And.intro (Leaf.mk ?_) ?_
    · repeat' first|exact True.intro|refine And.intro ?_ ?_
      all_goals try ((change _=_<;>try dsimp only)<;>try with_reducible rfl)
      all_goals try omega
      all_goals (rfl)
    exact Nat.zero_le _
  · rename_i q hq hq2 hx k hk hg j hj hgj i hi hgi
    have e:q=l.length:=by omega
    subst e
    have h1:(rowN (zaH b l l.length) i).length=l.length:=by
      rw[zhR (by omega)]
      exact hg0.len _ (hg0.idx i (by omega)).2
    show 0≤(j:Int)∧(j:Int)<((rowN (zaH b l l.length) i).length:Int)
    omega
  · rename_i q hq hq2 hx k hk hg j hj hgj i hi hgi
    rw[show (colP (zaH b l l.length) j i).length=i from zam _ _]
    show i+1≤2147483648;omega
  · omega
  · rename_i q hq hq2 hx k hk hg j hj hgj i hi hgi
    have e:q=l.length:=by omega
    subst e
    refine zai.mk ?_
    refine Exists.intro (i+1) ?_
    refine And.intro (Leaf.mk ?_) ?_
    · repeat' first|exact True.intro|refine And.intro ?_ ?_
      all_goals try ((change _=_<;>try dsimp only)<;>try with_reducible rfl)
      all_goals try omega
      all_goals (rfl)
    exact⟨by show i+1≤l.length;omega,by show l.length - (i+1)<l.length - i;omega⟩
  · rename_i q hq hq2 hx k hk hg j hj hgj i hi hgi
    rw[show (zlz (zaH b l l.length) j).length=j from zam _ _]
    show j+1≤2147483648;omega
  · omega
  · rename_i q hq hq2 hx k hk hg j hj hgj i hi hgi
    have e:i=(zaH b l l.length).length:=by rw[zaS];omega
    subst e
    refine zai.mk ?_
    refine Exists.intro (j+1) ?_
    refine And.intro (Leaf.mk ?_) ?_
    · repeat' first|exact True.intro|refine And.intro ?_ ?_
      all_goals try ((change _=_<;>try dsimp only)<;>try with_reducible rfl)
      all_goals try omega
      all_goals (rfl)
    exact⟨by show j+1≤l.length;omega,by show l.length - (j+1)<l.length - j;omega⟩
  · omega
  · rename_i q hq hq2 hx k hk hg j hj hgj
    show zyI (q:Int) ((q:Int) - 1)
    exact⟨by omega,by omega,by omega,by omega⟩
  · rename_i q hq hq2 hx k hk hg j hj hgj
    have e:q=l.length:=by omega
    subst e
    rw[show j=(zaH b l l.length).length by rw[zaS];omega]
    exact pY hg0
  · rename_i q hq hq2 hx k hk hg j hj hgj
    have e:q=l.length:=by omega
    subst e
    rw[show j=(zaH b l l.length).length by rw[zaS];omega]
    have h1:=ztp hg0 hx
    show pMx (atY b l).1.length
    rw[h1]
    exact⟨hp,(show (l.length:Int)≤4611686018427387904 by omega)⟩
  · rename_i q hq hq2 hx k hk hg j hj hgj hn
    have e:q=l.length:=by omega
    subst e
    rw[show j=(zaH b l l.length).length by rw[zaS];omega] at hn
    have h1:=ztp hg0 hx
    have hn:mn (atY b l).1 ((atY b l).1.length - 1)<0:=hn
    rw[h1] at hn
    have ho:=hk.2
    rw[show k=b.length by have:=hk.1;omega] at ho
    rw[at_3 hx ho hn];exact⟨⟨rfl,rfl,rfl,rfl⟩,rfl⟩
  · show 0≤(b.length:Int)∧(b.length:Int)≤((2147483648:Nat):Int)
    omega
  · rename_i q hq hq2 hx k hk hg j hj hgj hn
    have e:q=l.length:=by omega
    subst e
    have e:j=(zaH b l l.length).length:=by rw[zaS];omega
    subst e
    refine zai.mk ?_
    refine Exists.intro (0:Nat) ?_
    refine And.intro (Leaf.mk ?_) ?_
    · repeat' first|exact True.intro|refine And.intro ?_ ?_
      all_goals try ((change _=_<;>try dsimp only)<;>try with_reducible rfl)
      all_goals try omega
      all_goals (first|rfl|exact zcT _ _|exact (zcT _ _).symm|exact congrArg (fun z=>z.2.1) y_eq|exact congrArg (fun z=>z.2.1) ztq|exact (congrArg (fun z=>z.2.1) y_eq).symm)
    exact Nat.zero_le _
  · rename_i q hq hq2 hx k hk hg j hj hgj hn i hi hgi
    have e:q=l.length:=by omega
    subst e
    have e:j=l.length:=by omega
    subst e
    have h1:=ztp hg0 hx
    rw[←ztq] at h1
    show 0≤(i:Int)∧(i:Int)<((zaG (zlz (zaH b l l.length) l.length) (zbM (l.length:Int) ((l.length:Int) - 1) 1)).1.length:Int)
    rw[h1];omega
  · rename_i q hq hq2 hx k hk hg j hj hgj hn i hi hgi
    have h1:=hg0.idx i (by omega)
    exact⟨h1.1,by have h2:=h1.2;show vI l i<(b.length:Int);omega⟩
  · rename_i q hq hq2 hx k hk hg j hj hgj hn i hi hgi
    have h1:=hg0.idx i (by omega)
    rw[zer]
    exact⟨h1.1,by have h2:=h1.2;show vI l i<(b.length:Int);omega⟩
  · omega
  · rename_i q hq hq2 hx k hk hg j hj hgj hn i hi hgi
    have e:q=l.length:=by omega
    subst e
    have e:j=l.length:=by omega
    subst e
    have e:(wsP b.length l (atY b l).1 i).set (vI l i).toNat (vI (zaG (zlz (zaH b l l.length) l.length) (zbM (l.length:Int) ((l.length:Int) - 1) 1)).1 i)=wsP b.length l (atY b l).1 (i+1):=by rw[ztq];rfl
    have e3:(wsP b.length l (atY b l).1 i).set (vI l i).toNat (vI (zaG (zlz (zaH b l l.length) l.length) (zbM ((zaH b l l.length).length:Int) (((zaH b l l.length).length:Int) - 1) 1)).1 i)=wsP b.length l (atY b l).1 (i+1):=by rw[zaS];exact e
    refine zai.mk ?_
    refine Exists.intro (i+1) ?_
    refine And.intro (Leaf.mk ?_) ?_
    · repeat' first|exact True.intro|refine And.intro ?_ ?_
      all_goals try ((change _=_<;>try dsimp only)<;>try with_reducible rfl)
      all_goals try omega
      all_goals (first|rfl|exact e|exact e.symm|exact e3|exact e3.symm)
    exact⟨by show i+1≤l.length;omega,by show l.length - (i+1)<l.length - i;omega⟩
  all_goals try first|exact (zer _).symm|exact zer _|exact (zcT _ _).trans ((Int.toNat_natCast _).trans (zer _).symm)
  · rename_i q hq hq2 hx k hk hg j hj hgj hn i hi hgi
    have e:q=l.length:=by omega
    subst e
    have e:j=l.length:=by omega
    subst e
    have h1:=ztp hg0 hx
    have hn:¬mn (zaG (zlz (zaH b l l.length) l.length) (zbM (l.length:Int) ((l.length:Int) - 1) 1)).1 ((zaG (zlz (zaH b l l.length) l.length) (zbM (l.length:Int) ((l.length:Int) - 1) 1)).1.length - 1)<0:=by
      exact Int.not_lt.2 hn
    rw[ztq,h1] at hn
    have ho:=hk.2
    rw[show k=b.length by have:=hk.1;omega] at ho
    rw[at_4 hx ho hn,show i=l.length by omega];exact⟨⟨rfl,rfl,rfl,rfl⟩,rfl⟩
end Go.Eng.Ar
namespace Go.Eng.Ar
open Go.Eng Go.Proofs
set_option linter.all false
set_option maxRecDepth 100000
set_option maxHeartbeats 1000000
theorem asR (a:Act) (w:World) (o:Oper) (x:Operand) (ho:o.op=.assign x) {v:Value} (hx:a.eval x=v):(execOp a.eval o).run Tryz.prog w=.ok (.value v) w:=by
  simp[execOp,ho,hx]
theorem ztj (w:World):(isAgg 202).run Tryz.prog w=.ok false w:=by
  simp[isAgg,run_underlying Tryz.underlying202]
theorem zvz (w:World):(isAgg 234).run Tryz.prog w=.ok false w:=by
  simp[isAgg,run_underlying Tryz.underlying234]
theorem ldF {t:Nat} (hag:∀w,(isAgg t).run Tryz.prog w=.ok false w) (a:Act) (w:World) (o:Oper) (x:Operand) (ho:o.op=.load t x) {b el:Nat} {cur:Array Value} {f:Nat×Nat} {v:Value} (hx:a.eval x=.pointer (some ⟨b,0,none⟩)) (hb:w.heap[b]?=some (.cells cur el f)) (hv:cur[0]?=some v) :
    (execOp a.eval o).run Tryz.prog w=.ok (.value v) w:=by
  have hl:(loadVar t ⟨b,0,none⟩).run Tryz.prog w=.ok v w:=by
    have hc:w.cell? ⟨b,0,none⟩=some v:=by rw[zbz hb];exact hv
    simp[loadVar,hag,hc]
  simp[execOp,ho,hx,Instr.loadAt,Instr.sureAddr,hl]
theorem lnR {t el:Nat} (hd':Tryz.prog.underlying t=some (.slice el)) (a:Act) (w:World) (o:Oper) (x:Operand) (ho:o.op=.call {callee:=.builtin .len,args:=#[x],argTypes:=#[t]}) {ad:Option Addr} {n c:Nat} (hx:a.eval x=.slice ad n c):(execOp a.eval o).run Tryz.prog w=.ok (.value (.int .i64 n)) w:=by
  simp[execOp,ho,hx,resolve,Deferred.ofValue,invoke,builtin,Builtin.len_,run_underlying hd',goInt]
theorem eqR (a:Act) (w:World) (o:Oper) (x y:Operand) (ho:o.op=.binOp .eql 3 x y 3) {m n:Int} (hx:a.eval x=.int .i64 m) (hy:a.eval y=.int .i64 n):(execOp a.eval o).run Tryz.prog w=.ok (.value (.bool (decide (m=n)))) w:=by
  simp[execOp,ho,hx,hy,eqGuard,binOp,Op.intCmp];rfl
theorem ltR (a:Act) (w:World) (o:Oper) (x y:Operand) (ho:o.op=.binOp .lss 3 x y 3) {m n:Int} (hx:a.eval x=.int .i64 m) (hy:a.eval y=.int .i64 n):(execOp a.eval o).run Tryz.prog w=.ok (.value (.bool (decide (m<n)))) w:=by
  simp[execOp,ho,hx,hy,eqGuard,binOp,Op.intCmp]
theorem adR (a:Act) (w:World) (o:Oper) (x y:Operand) (ho:o.op=.binOp .add 3 x y 3) {m n:Int} (hx:a.eval x=.int .i64 m) (hy:a.eval y=.int .i64 n) (hr : -9223372036854775808≤m+n∧m+n≤9223372036854775807):(execOp a.eval o).run Tryz.prog w=.ok (.value (.int .i64 (m+n))) w:=by
  simp[execOp,ho,hx,hy,eqGuard,binOp,Op.intArith,zkA hr]
theorem suR (a:Act) (w:World) (o:Oper) (x y:Operand) (ho:o.op=.binOp .sub 3 x y 3) {m n:Int} (hx:a.eval x=.int .i64 m) (hy:a.eval y=.int .i64 n) (hr : -9223372036854775808≤m - n∧m - n≤9223372036854775807):(execOp a.eval o).run Tryz.prog w=.ok (.value (.int .i64 (m - n))) w:=by
  simp[execOp,ho,hx,hy,eqGuard,binOp,Op.intArith,zkA hr]
theorem ntR (a:Act) (w:World) (o:Oper) (x:Operand) (ho:o.op=.unOp .not 4 x) {v:Bool} (hx:a.eval x=.bool v):(execOp a.eval o).run Tryz.prog w=.ok (.value (.bool !v)) w:=by
  simp[execOp,ho,hx,Op.unary]
theorem bsR (a:Act) (w:World) (o:Oper) (x:Operand) (ho:o.op=.buildSlice 76 1 #[(0,x)]) {n:Int} (hx:a.eval x=.int .i64 n):(execOp a.eval o).run Tryz.prog w=.ok (.value (.slice (some ⟨w.heap.size,0,none⟩) 1 1)) (w.alloc (.cells #[.int .i64 n] 3 (0,0))):=by
  have hS:=zaC row3 w
  have hs:i3.size=1:=rfl
  have hf:Instr.fill (fun i=>some (i,1)) (Array.map (fun x=>(Value.int IntKind.i64 0).cells[x % (Value.int IntKind.i64 0).cells.size]!) (Array.range 1)) [(0,Value.int IntKind.i64 n)]=some #[.int .i64 n]:=by
    have e:Array.range 1 = #[0]:=rfl
    rw[e]
    simp[Instr.fill,Value.cells]
  simp[execOp,ho,hx,Instr.buildSlice,run_underlying Tryz.underlying76,hS,hs,hf,newRow]
theorem slR (a:Act) (w:World) (o:Oper) (x y:Operand) (ho:o.op=.slice 76 x none (some y) none) {b n c m:Nat} (hx:a.eval x=.slice (some ⟨b,0,none⟩) n c) (hy:a.eval y=.int .i64 (m:Int)) (hm:m≤c):(execOp a.eval o).run Tryz.prog w=.ok (.value (.slice (some ⟨b,0,none⟩) m c)) w:=by
  have hS:=zaC row3 w
  have hs:i3.size=1:=rfl
  have hb:(Instr.sliceBounds true n c none (some (.int .i64 (m:Int))) none).run Tryz.prog w=.ok (0,m,c) w:=by
    have b1:=zfs (P:=Tryz.prog) .i64 (n:=(m:Int)) (y:=c) .sliceAcap w (by omega) (by omega)
    simp[Instr.sliceBounds,b1]
  simp[execOp,ho,hx,hy,Instr.sliceAt,Instr.slice,run_underlying Tryz.underlying76,hS,hs,hb]
  intro _;rw[zaT]
/-! ### A growing list of numbers -/
def rowI (xs:List Int) (c:Nat) (cur:Array Value):Prop:=cur.size=c∧xs.length≤c∧c≤maxLen∧∀(i:Nat) (x:Int),xs[i]?=some x→cur[i]?=some (.int .i64 x)
theorem zrn {V:View} {xs:List Int} {c:Nat} {cur:Array Value} (h:rowI xs c cur):zdm V I64 xs c cur:=by
  refine⟨by show cur.size=c*1;rw[h.1,Nat.mul_one],h.2.1,h.2.2.1,fun i x hx=>?_⟩
  have h1:=h.2.2.2 i x hx
  have h2:i<cur.toList.length:=by have:=(Array.getElem?_eq_some_iff.1 h1).1;simpa using this
  show (cur.toList.drop (i*1)).take 1=[.int .i64 x]
  rw[Nat.mul_one,List.drop_eq_getElem_cons h2]
  have h3:cur.toList[i]=.int .i64 x:=by
    have:=(Array.getElem?_eq_some_iff.1 h1).2
    simpa using this
  simp[h3]
theorem zsq {V:View} {xs:List Int} {c:Nat} {cur:Array Value} (h:zdm V I64 xs c cur):rowI xs c cur:=by
  refine⟨by have:cur.size=c*1:=h.1;omega,h.2.1,h.2.2.1,fun i x hx=>?_⟩
  have h1:(cur.toList.drop (i*1)).take 1=[.int .i64 x]:=h.2.2.2 i x hx
  have h2:=congrArg (fun l=>l[0]?) h1
  simpa [List.getElem?_take,List.getElem?_drop] using h2
def LD (B:Nat) (w:World) (v:Value) (xs:List Int):Prop:=
  (xs=[]∧v=.slice none 0 0)∨∃ls c cur,B≤ls∧w.heap[ls]?=some (.cells cur 3 (0,0))∧v=.slice (some ⟨ls,0,none⟩) xs.length c∧rowI xs c cur
theorem zsf {B:Nat} {w:World} {v:Value} {xs:List Int} (h:LD B w v xs):∃ad c,v=.slice ad xs.length c:=by
  rcases h with ⟨rfl,rfl⟩|⟨ls,c,cur,_,_,rfl,_⟩
  · exact⟨none,0,rfl⟩
  · exact⟨_,c,rfl⟩
theorem znZ {B:Nat} {w w':World} {v:Value} {xs:List Int} (h:LD B w v xs) (hk:∀b,B≤b→b<w.heap.size→w'.heap[b]?=w.heap[b]?):LD B w' v xs:=by
  rcases h with h|⟨ls,c,cur,h1,h2,h3,h4⟩
  · exact .inl h
  · exact .inr ⟨ls,c,cur,h1,(hk ls h1 (zag h2)).trans h2,h3,h4⟩
theorem zyX {B:Nat} {w:World} {v:Value} {xs:List Int} {n:Int} (h:LD B w v (xs++[n])):∃ls c,v=.slice (some ⟨ls,0,none⟩) (xs.length+1) c∧xs.length≤c∧LD B w (.slice (some ⟨ls,0,none⟩) xs.length c) xs:=by
  rcases h with ⟨h,_⟩|⟨ls,c,cur,h1,h2,h3,h4⟩
  · simp at h
  · have hl:xs.length+1≤c:=by simpa using h4.2.1
    refine⟨ls,c,by simpa using h3,by omega,.inr ⟨ls,c,cur,h1,h2,rfl,h4.1,by omega,h4.2.2.1,fun i x hx=>?_⟩⟩
    have hi:i<xs.length:=(List.getElem?_eq_some_iff.1 hx).1
    exact h4.2.2.2 i x (by rw[List.getElem?_append_left hi];exact hx)
structure Bel (B:Nat) (w w':World):Prop where
  os:w'.os=w.os
  tape:w'.tape=w.tape
  output:w'.output=w.output
  size:w.heap.size≤w'.heap.size
  keep:∀b,b<B→b<w.heap.size→w'.heap[b]?=w.heap[b]?
theorem Bel.refl (B:Nat) (w:World):Bel B w w:=⟨rfl,rfl,rfl,Nat.le_refl _,fun _ _ _=>rfl⟩
theorem Bel.trans {B:Nat} {w w' w'':World} (h:Bel B w w') (k:Bel B w' w''):Bel B w w'':=
  ⟨k.os.trans h.os,k.tape.trans h.tape,k.output.trans h.output,Nat.le_trans h.size k.size,fun b hb hs=>(k.keep b hb (Nat.lt_of_lt_of_le hs h.size)).trans (h.keep b hb hs)⟩
theorem Bel.le {B B':Nat} {w w':World} (h:Bel B w w') (hb:B'≤B):Bel B' w w':=⟨h.os,h.tape,h.output,h.size,fun b hb'=>h.keep b (Nat.lt_of_lt_of_le hb' hb)⟩
theorem zgz {B:Nat} {w:World} {o:Obj}:Bel B w (w.alloc o):=by
  refine⟨rfl,rfl,rfl,?_,fun b _ hs=>?_⟩
  · show w.heap.size≤(w.heap.push o).size
    rw[Array.size_push];exact Nat.le_succ _
  · show (w.heap.push o)[b]?=w.heap[b]?
    rw[Array.getElem?_push,if_neg (Nat.ne_of_lt hs)]
theorem zfl {B g:Nat} {w:World} {c:Array Value} (h:B≤g):Bel B w (w.setRow g c):=by
  refine⟨rfl,rfl,rfl,by simp[World.setRow],fun b hb _=>?_⟩
  exact setRow_other w g b c (by omega)
theorem apR (a:Act) (w:World) (o:Oper) (x y:Operand) (ho:o.op=.call {callee:=.builtin .append,args:=#[x,y],argTypes:=#[76,76]}) {B:Nat} {v:Value} {xs:List Int} {n:Int} {b1:Nat} (hx:a.eval x=v) (hv:LD B w v xs) (hl:xs.length+1≤1000) (hy:a.eval y=.slice (some ⟨b1,0,none⟩) 1 1) (hb1:w.heap[b1]?=some (.cells #[.int .i64 n] 3 (0,0))) (hB:B≤w.heap.size) :
    ∃v' w',(execOp a.eval o).run Tryz.prog w=.ok (.value v') w'∧LD B w' v' (xs++[n])∧Bel B w w':=by
  obtain⟨E,hE⟩:∃E:Env,E = {P:=Tryz.prog,M:=fun _=>False,mu:=fun _=>False,w0:=w,OB:=OB,x:={mw:=fun _=>True}}:=⟨_,rfl⟩
  have hP:E.P=Tryz.prog:=by rw[hE]
  have hlow:∀b,E.low b:=fun b=>by rw[hE];exact .inr trivial
  have main:∀(k:Option Nat) (η:Eta),((v=.slice none 0 0∧xs=[])∨∃kk b c cur,k=some kk∧η kk=some (b,c)∧E.low b∧w.heap[b]?=some (.cells cur 3 (0,0))∧v=.slice (some ⟨b,0,none⟩) xs.length c∧zdm (vw E η w) I64 xs c cur)→
      (∀kk b c,k=some kk→η kk=some (b,c)→B≤b)→∃v' w',(execOp a.eval o).run Tryz.prog w=.ok (.value v') w'∧LD B w' v' (xs++[n])∧Bel B w w':=by
    intro k η hb hBk
    obtain ⟨v',w',hr,hA⟩:=zhh (E:=E) (η:=η) (w:=w) (t:=76) (ty:=o.type) (el:=3) (ei:=i3) (by rw[hP];exact Tryz.underlying76) (by rw[hP];exact row3) (e:=I64) rfl (by decide) (by decide) (xs:=xs) (ys:=[n]) (by show xs.length+1≤2147483648;omega) (k:=k) (v1:=v) (ad2:=some ⟨b1,0,none⟩) (c2:=1) (fun _=>⟨_,rfl⟩)
      (fun ad' h=>by
        cases h
        refine⟨[.int .i64 n],rfl,fun j u hj=>?_,fun u hu=>?_,fun i z hz=>?_⟩
        · have:j=0:=by have:=(List.getElem?_eq_some_iff.1 hj).1;simpa using this
          subst this
          rw[zaT,zbz hb1];simpa using hj
        · have:u=.int .i64 n:=by simpa using hu
          rw[this];rfl
        · have:i=0:=by have:=(List.getElem?_eq_some_iff.1 hz).1;simpa using this
          subst this
          have:n=z:=by simpa using hz
          subst this
          rfl) hb
    have hexec:(execOp a.eval o).run Tryz.prog w=.ok (.value v') w':=by
      rw[hP] at hr
      simp only[List.length_cons,List.length_nil] at hr
      simp[execOp,ho,resolve,invoke,builtin,hx,hy,hr]
    refine⟨v',w',hexec,?_⟩
    rcases hA with ⟨h,_⟩|⟨c,cur,wd,rfl,rfl,q1,q2,q3,q4,q5⟩|⟨kk,b,c,cur,cur',q1,q2,q3,q4,rfl,rfl,q5⟩
    · simp at h
    · refine ⟨.inr ⟨w.heap.size,c,cur,hB,?_,rfl,zsq q5⟩,⟨q2,q3,q4,?_,fun b hb hs=>?_⟩⟩
      · show (wd.heap.push (.cells cur 3))[w.heap.size]?=_
        rw[q1];simp
      · show w.heap.size≤(wd.heap.push _).size
        rw[Array.size_push,q1];exact Nat.le_succ _
      · show (wd.heap.push _)[b]?=w.heap[b]?
        rw[q1,Array.getElem?_push,if_neg (Nat.ne_of_lt hs)]
    · exact⟨.inr ⟨b,c,cur',hBk kk b c q1 q2,setRow_heap w b cur cur' 3 (0,0) q4,rfl,zsq q5⟩,zfl (hBk kk b c q1 q2)⟩
  rcases hv with ⟨h1,h2⟩|⟨ls,c,cur,h1,h2,h3,h4⟩
  · exact main none (fun _=>none) (.inl ⟨h2,h1⟩) (fun kk b c h=>by cases h)
  · exact main (some 0) (fun _=>some (ls,c)) (.inr ⟨0,ls,c,cur,rfl,rfl,hlow ls,h2,h3,zrn h4⟩) (fun kk b c _ h=>by cases h;exact h1)
end Go.Eng.Ar
namespace Go.Eng.Ar
open Go.Eng Go.Proofs Go
set_option linter.all false
set_option maxRecDepth 100000
set_option maxHeartbeats 2000000
def zcn:Nat→Nat→Nat→List (List Int)
  | 0,_,_=>[[]]
  | _+1,_,0=>[]
  | k+1,f,r+1=>(zcn k (f+1) r).map ((f:Int) :: ·)++zcn (k+1) (f+1) r
theorem adN (a:Act) (w:World) (o:Oper) (x y:Operand) (ho:o.op=.binOp .add 3 x y 3) {m:Nat} (hx:a.eval x=.int .i64 m) (hy:a.eval y=.int .i64 1) (hr:m≤1000000):(execOp a.eval o).run Tryz.prog w=.ok (.value (.int .i64 ((m+1:Nat):Int))) w:=by
  have:=adR a w o x y ho hx hy (by omega)
  rw[this];rfl
theorem zt0 {P:Program} {Q:Exit→Act→World→Prop} {a:Act} {w w':World} {K:Act→World→Prop} {o:Oper} {v:Value} (hnd:∀d,o.op≠.defer d) (hr:(execOp a.eval o).run P w=.ok (.value v) w') (h:K (a.put o.dst v) w'):o.wpIn (Fw none) 0 P a w K Q:=
  zau hnd hr h
theorem zj0 {P:Program} {Q:Exit→Act→World→Prop} {a:Act} {w:World} {K:Act→World→Prop} {o:Oper} {f:Nat} {args:Array Value} (hnd:∀d,o.op≠.defer d) (hr:(execOp a.eval o).run P w=.ok (.enter f args) w)
    (h:CallsIn (Fw none) 0 P f args w fun e w'=>∃v,e=.returned v∧K (a.put o.dst v) w'):o.wpIn (Fw none) 0 P a w K Q:=
  zau hnd hr ⟨fun h=>(by cases h),h.mono fun e w' ⟨v,h1,h2⟩=>by subst h1;exact h2⟩
theorem zAj {Q:Exit→Act→World→Prop} {a:Act} {w:World} {K:Act→World→Prop} {o:Oper} {x y:Operand} (hnd:∀d,o.op≠.defer d) (ho:o.op=.call {callee:=.builtin .append,args:=#[x,y],argTypes:=#[76,76]}) {B:Nat} {v:Value} {xs:List Int} {n:Int} {b1:Nat} (hx:a.eval x=v) (hv:LD B w v xs) (hl:xs.length+1≤1000) (hy:a.eval y=.slice (some ⟨b1,0,none⟩) 1 1) (hb1:w.heap[b1]?=some (.cells #[.int .i64 n] 3 (0,0))) (hB:B≤w.heap.size)
    (h:∀v' w',LD B w' v' (xs++[n])→Bel B w w'→K (a.put o.dst v') w'):o.wpIn (Fw none) 0 Tryz.prog a w K Q:=by
  obtain⟨v',w',h1,h2,h3⟩:=apR a w o x y ho hx hv hl hy hb1 hB
  exact zau hnd h1 (h v' w' h2 h3)
structure RS (a:Act) (f:Int) (B bc bn:Nat):Prop where
  size:a.tmps.size=36
  defers:a.defers=[]
  s0:a.tmps.getD 0 undef=.int .i64 f
  s1:a.tmps.getD 1 undef=.pointer (some ⟨B+1,0,none⟩)
  s2:a.tmps.getD 2 undef=.pointer (some ⟨bc,0,none⟩)
  s3:a.tmps.getD 3 undef=.pointer (some ⟨B,0,none⟩)
  s4:a.tmps.getD 4 undef=.pointer (some ⟨bn,0,none⟩)
  s5:a.tmps.getD 5 undef=.pointer (some ⟨B+2,0,none⟩)
def capt (B bc bn:Nat):Array Value:=#[.pointer (some ⟨B+1,0,none⟩),.pointer (some ⟨bc,0,none⟩),.pointer (some ⟨B,0,none⟩),.pointer (some ⟨bn,0,none⟩),.pointer (some ⟨B+2,0,none⟩)]
structure HC (B bc bn:Nat) (yv:Value) (w:World) (v:Value) (xs:List Int):Prop where
  hy:w.heap[B]?=some (.cells #[yv] 234 (0,0))
  hl:w.heap[B+1]?=some (.cells #[v] 76 (0,0))
  hm:w.heap[B+2]?=some (.cells #[.func (.func 179) #[] (capt B bc bn)] 202 (0,0))
  ld:LD (B+3) w v xs
theorem HC.abv {B bc bn:Nat} {yv:Value} {w w':World} {v:Value} {xs:List Int} (h:HC B bc bn yv w v xs) (hk:∀b,B≤b→b<w.heap.size→w'.heap[b]?=w.heap[b]?):HC B bc bn yv w' v xs:=
  ⟨(hk _ (Nat.le_refl _) (zag h.hy)).trans h.hy,(hk _ (by omega) (zag h.hl)).trans h.hl,(hk _ (by omega) (zag h.hm)).trans h.hm,znZ h.ld fun b hb hs=>hk b (by omega) hs⟩
noncomputable def b179:Code:=zcM Tryz.f179
noncomputable def N0:Code:=match b179 with | .seq x _=>x|c=>c
noncomputable def N1:Code:=match b179 with | .seq _ (.seq (.seq x _) _)=>x|c=>c
noncomputable def N2:Code:=match b179 with | .seq _ (.seq (.seq _ (.cond _ (.seq x _) _)) _)=>x|c=>c
noncomputable def N3:Code:=match b179 with | .seq _ (.seq _ (.seq (.seq x _) _))=>x|c=>c
noncomputable def NL:Code:=match b179 with | .seq _ (.seq _ (.seq (.seq _ (.block _ (.loop x))) _))=>x|c=>c
noncomputable def N10:Code:=match b179 with | .seq _ (.seq _ (.seq _ (.seq x _)))=>x|c=>c
noncomputable def N4:Code:=match NL with | .seq (.seq x _) _=>x|c=>c
noncomputable def N6:Code:=match NL with | .seq _ (.seq (.block _ (.seq x _)) _)=>x|c=>c
noncomputable def N7:Code:=match NL with | .seq _ (.seq (.block _ (.seq _ (.seq (.seq x _) _))) _)=>x|c=>c
noncomputable def N8:Code:=match NL with | .seq _ (.seq (.block _ (.seq _ (.seq (.seq _ (.cond _ (.seq x _) _)) _))) _)=>x|c=>c
noncomputable def N9:Code:=match NL with | .seq _ (.seq (.block _ (.seq _ (.seq _ x))) _)=>x|c=>c
noncomputable def N5:Code:=match NL with | .seq _ (.seq _ x)=>x|c=>c
theorem zs6:(Tryz.f179.body:Option Code)=some (.seq N0 (.seq (.seq N1 (.cond (.tmp 12) (.seq N2 .ret) .skip)) (.seq (.seq N3 (.block 0 (.loop (.seq (.seq N4 (.cond (.tmp 19) .skip (.exit 0))) (.seq (.block 1 (.seq N6 (.seq (.seq N7 (.cond (.tmp 30) (.seq N8 .ret) .skip)) N9))) N5))))) (.seq N10 .ret)))):=rfl
theorem zrl {n:Nat} (hn:n=36) {f:Int} {B bc bn:Nat} {a0:Act} (ha:a0 = {tmps:=(#[Value.int .i64 f]++capt B bc bn)++Array.replicate (n - (#[Value.int .i64 f]++capt B bc bn).size) undef,defers:=[]}):RS a0 f B bc bn:=by
  subst hn
  have e:(#[Value.int .i64 f]++capt B bc bn)++Array.replicate (36 - (#[Value.int .i64 f]++capt B bc bn).size) undef = #[.int .i64 f,.pointer (some ⟨B+1,0,none⟩),.pointer (some ⟨bc,0,none⟩),.pointer (some ⟨B,0,none⟩),.pointer (some ⟨bn,0,none⟩),.pointer (some ⟨B+2,0,none⟩)]++Array.replicate 30 undef:=rfl
  rw[e] at ha
  rw[ha]
  refine⟨by simp,rfl,?_,?_,?_,?_,?_,?_⟩<;>simp
structure Yld (l B bc bn count numbers:Nat) (J:List (List Int)→World→Prop) (Jx:World→Prop):Prop where
  below:∀rest w w',J rest w→Bel B w w'→J rest w'
  size:∀rest w,J rest w→B≤w.heap.size
  boxes:∀rest w,J rest w→w.heap[bc]?=some (.cells #[.int .i64 (count:Nat)] 3 (0,0))∧w.heap[bn]?=some (.cells #[.int .i64 (numbers:Nat)] 3 (0,0))
  yields:∀c rest w ls cap cur,J (c::rest) w→B≤ls→w.heap[ls]?=some (.cells cur 3 (0,0))→rowI c cap cur→
    YieldAt (Fw none) 0 Tryz.prog l #[.slice (some ⟨ls,0,none⟩) c.length cap] w fun e w'=>(∀b,B≤b→b<w.heap.size→w'.heap[b]?=w.heap[b]?)∧((e=.returned (.bool true)∧J rest w')∨(e=.returned (.bool false)∧Jx w'))
theorem ret1 {w:World} {a:Act} {R:Ending→World→Prop} {v:Value} (hd:a.defers=[]) (h7:a.tmps.getD 7 undef=v) (h:R (.returned v) w):bodyPost Tryz.prog Tryz.f179 R .ret a w:=by
  refine⟨hd,v,?_,h⟩
  have:=zb8 (P:=Tryz.prog) (fn:=Tryz.f179) (tmps:=a.tmps) (w:=w) (vs:=[v]) (by
    show ([ResultVar.tmp 7].mapM (zft a.tmps)).run Tryz.prog w=.ok [v] w
    simp[zft,←h7])
  exact this
theorem zwn {l B bc bn count numbers:Nat} {J:List (List Int)→World→Prop} {Jx:World→Prop} (hY:Yld l B bc bn count numbers J Jx) (hcn:count≤100∧0<count) (hnn:numbers≤100) (hbc:bc<B∧bn<B):∀(k f r:Nat) (xs:List Int) (rest:List (List Int)) (W:World) (v:Value),xs.length+k=count→f+r=numbers→
    HC B bc bn (.func (.yield l) #[] #[]) W v xs→J ((zcn k f r).map (xs ++ ·)++rest) W→
    CallsIn (Fw none) 0 Tryz.prog 179 (#[.int .i64 (f:Nat)]++capt B bc bn) W fun e W'=>(e=.returned (.bool true)∧J rest W'∧∃v',HC B bc bn (.func (.yield l) #[] #[]) W' v' xs)∨(e=.returned (.bool false)∧Jx W'):=by
  intro k
  induction k with
  | zero =>
    intro f r xs rest W v hk hf H hJ
    obtain⟨yv,hyv⟩:∃yv,yv=Value.func (.yield l) #[] #[]:=⟨_,rfl⟩
    rw[←hyv] at H
    refine callsIn_of_wp (F:=Fw none) (n:=0) (fn:=Tryz.f179) Tryz.func179 zs6 trivial ?_
    obtain⟨a0,ha0⟩:∃a0:Act,a0 = {tmps:=(#[.int .i64 (f:Nat)]++capt B bc bn)++Array.replicate (Tryz.f179.ntmps - (#[Value.int .i64 (f:Nat)]++capt B bc bn).size) undef,defers:=[]}:=⟨_,rfl⟩
    rw[←ha0]
    have R0:RS a0 ((f:Nat):Int) B bc bn:=zrl rfl ha0
    clear ha0
    have hJb:=hY.boxes _ _ hJ
    obtain⟨vad,vc,hv⟩:=zsf H.ld
    refine wpIn_seq (wpIn_region_list ?_)
    refine zak rfl (zaV (by intro d h;cases h) (asR a0 W _ (.const (.bool false)) rfl rfl) ?_)
    obtain⟨u1,qu1⟩:∃x,x=a0.put (some 7) (.bool false):=⟨_,rfl⟩
    have zu1:u1.tmps.size=36:=by rw[qu1,zaj];exact R0.size
    have du1:u1.defers=[]:=by rw[qu1,zah];exact R0.defers
    have gu1_0:u1.tmps.getD 0 undef=(.int .i64 (f:Nat)):=by rw[qu1];exact (zaa (by decide)).trans R0.s0
    have gu1_1:u1.tmps.getD 1 undef=(.pointer (some ⟨(B+1),0,none⟩)):=by rw[qu1];exact (zaa (by decide)).trans R0.s1
    have gu1_2:u1.tmps.getD 2 undef=(.pointer (some ⟨bc,0,none⟩)):=by rw[qu1];exact (zaa (by decide)).trans R0.s2
    have gu1_3:u1.tmps.getD 3 undef=(.pointer (some ⟨B,0,none⟩)):=by rw[qu1];exact (zaa (by decide)).trans R0.s3
    have gu1_4:u1.tmps.getD 4 undef=(.pointer (some ⟨bn,0,none⟩)):=by rw[qu1];exact (zaa (by decide)).trans R0.s4
    have gu1_5:u1.tmps.getD 5 undef=(.pointer (some ⟨(B+2),0,none⟩)):=by rw[qu1];exact (zaa (by decide)).trans R0.s5
    have gu1_7:u1.tmps.getD 7 undef=(.bool false):=by rw[qu1];exact zae (by rw[R0.size];decide)
    change wpListIn (Fw none) 0 Tryz.prog _ _ _ (a0.put (some 7) (.bool false)) W
    rw[←qu1]
    have R1:RS u1 f B bc bn:=⟨zu1,du1,gu1_0,gu1_1,gu1_2,gu1_3,gu1_4,gu1_5⟩
    refine zaW (wpIn_seq (wpIn_seq (wpIn_region_list ?_)))
    refine zak rfl (zaV (by intro d h;cases h) (ld76 u1 W _ (.tmp 1) rfl R1.s1 H.hl rfl) ?_)
    obtain⟨v1,qv1⟩:∃x,x=u1.put (some 9) v:=⟨_,rfl⟩
    have zv1:v1.tmps.size=36:=by rw[qv1,zaj];exact R1.size
    have dv1:v1.defers=[]:=by rw[qv1,zah];exact R1.defers
    have gv1_0:v1.tmps.getD 0 undef=(.int .i64 (f:Nat)):=by rw[qv1];exact (zaa (by decide)).trans R1.s0
    have gv1_1:v1.tmps.getD 1 undef=(.pointer (some ⟨(B+1),0,none⟩)):=by rw[qv1];exact (zaa (by decide)).trans R1.s1
    have gv1_2:v1.tmps.getD 2 undef=(.pointer (some ⟨bc,0,none⟩)):=by rw[qv1];exact (zaa (by decide)).trans R1.s2
    have gv1_3:v1.tmps.getD 3 undef=(.pointer (some ⟨B,0,none⟩)):=by rw[qv1];exact (zaa (by decide)).trans R1.s3
    have gv1_4:v1.tmps.getD 4 undef=(.pointer (some ⟨bn,0,none⟩)):=by rw[qv1];exact (zaa (by decide)).trans R1.s4
    have gv1_5:v1.tmps.getD 5 undef=(.pointer (some ⟨(B+2),0,none⟩)):=by rw[qv1];exact (zaa (by decide)).trans R1.s5
    have gv1_9:v1.tmps.getD 9 undef=v:=by rw[qv1];exact zae (by rw[R1.size];decide)
    change wpListIn (Fw none) 0 Tryz.prog _ _ _ (u1.put (some 9) v) W
    rw[←qv1]
    refine zak rfl (zaV (by intro d h;cases h) (lnR Tryz.underlying76 v1 W _ (.tmp 9) rfl (gv1_9.trans hv)) ?_)
    obtain⟨v2,qv2⟩:∃x,x=v1.put (some 10) (.int .i64 (xs.length:Nat)):=⟨_,rfl⟩
    have zv2:v2.tmps.size=36:=by rw[qv2,zaj];exact zv1
    have dv2:v2.defers=[]:=by rw[qv2,zah];exact dv1
    have gv2_0:v2.tmps.getD 0 undef=(.int .i64 (f:Nat)):=by rw[qv2];exact (zaa (by decide)).trans gv1_0
    have gv2_1:v2.tmps.getD 1 undef=(.pointer (some ⟨(B+1),0,none⟩)):=by rw[qv2];exact (zaa (by decide)).trans gv1_1
    have gv2_2:v2.tmps.getD 2 undef=(.pointer (some ⟨bc,0,none⟩)):=by rw[qv2];exact (zaa (by decide)).trans gv1_2
    have gv2_3:v2.tmps.getD 3 undef=(.pointer (some ⟨B,0,none⟩)):=by rw[qv2];exact (zaa (by decide)).trans gv1_3
    have gv2_4:v2.tmps.getD 4 undef=(.pointer (some ⟨bn,0,none⟩)):=by rw[qv2];exact (zaa (by decide)).trans gv1_4
    have gv2_5:v2.tmps.getD 5 undef=(.pointer (some ⟨(B+2),0,none⟩)):=by rw[qv2];exact (zaa (by decide)).trans gv1_5
    have gv2_9:v2.tmps.getD 9 undef=v:=by rw[qv2];exact (zaa (by decide)).trans gv1_9
    have gv2_10:v2.tmps.getD 10 undef=(.int .i64 (xs.length:Nat)):=by rw[qv2];exact zae (by rw[zv1];decide)
    change wpListIn (Fw none) 0 Tryz.prog _ _ _ (v1.put (some 10) (.int .i64 (xs.length:Nat))) W
    rw[←qv2]
    refine zak rfl (zaV (by intro d h;cases h) (ld3 v2 W _ (.tmp 2) rfl gv2_2 hJb.1 rfl) ?_)
    obtain⟨v3,qv3⟩:∃x,x=v2.put (some 11) (.int .i64 (count:Nat)):=⟨_,rfl⟩
    have zv3:v3.tmps.size=36:=by rw[qv3,zaj];exact zv2
    have dv3:v3.defers=[]:=by rw[qv3,zah];exact dv2
    have gv3_0:v3.tmps.getD 0 undef=(.int .i64 (f:Nat)):=by rw[qv3];exact (zaa (by decide)).trans gv2_0
    have gv3_1:v3.tmps.getD 1 undef=(.pointer (some ⟨(B+1),0,none⟩)):=by rw[qv3];exact (zaa (by decide)).trans gv2_1
    have gv3_2:v3.tmps.getD 2 undef=(.pointer (some ⟨bc,0,none⟩)):=by rw[qv3];exact (zaa (by decide)).trans gv2_2
    have gv3_3:v3.tmps.getD 3 undef=(.pointer (some ⟨B,0,none⟩)):=by rw[qv3];exact (zaa (by decide)).trans gv2_3
    have gv3_4:v3.tmps.getD 4 undef=(.pointer (some ⟨bn,0,none⟩)):=by rw[qv3];exact (zaa (by decide)).trans gv2_4
    have gv3_5:v3.tmps.getD 5 undef=(.pointer (some ⟨(B+2),0,none⟩)):=by rw[qv3];exact (zaa (by decide)).trans gv2_5
    have gv3_9:v3.tmps.getD 9 undef=v:=by rw[qv3];exact (zaa (by decide)).trans gv2_9
    have gv3_10:v3.tmps.getD 10 undef=(.int .i64 (xs.length:Nat)):=by rw[qv3];exact (zaa (by decide)).trans gv2_10
    have gv3_11:v3.tmps.getD 11 undef=(.int .i64 (count:Nat)):=by rw[qv3];exact zae (by rw[zv2];decide)
    change wpListIn (Fw none) 0 Tryz.prog _ _ _ (v2.put (some 11) (.int .i64 (count:Nat))) W
    rw[←qv3]
    refine zak rfl (zaV (by intro d h;cases h) (eqR v3 W _ (.tmp 10) (.tmp 11) rfl gv3_10 gv3_11) ?_)
    obtain⟨v4,qv4⟩:∃x,x=v3.put (some 12) (.bool (decide (((xs.length:Nat):Int)=((count:Nat):Int)))):=⟨_,rfl⟩
    have zv4:v4.tmps.size=36:=by rw[qv4,zaj];exact zv3
    have dv4:v4.defers=[]:=by rw[qv4,zah];exact dv3
    have gv4_0:v4.tmps.getD 0 undef=(.int .i64 (f:Nat)):=by rw[qv4];exact (zaa (by decide)).trans gv3_0
    have gv4_1:v4.tmps.getD 1 undef=(.pointer (some ⟨(B+1),0,none⟩)):=by rw[qv4];exact (zaa (by decide)).trans gv3_1
    have gv4_2:v4.tmps.getD 2 undef=(.pointer (some ⟨bc,0,none⟩)):=by rw[qv4];exact (zaa (by decide)).trans gv3_2
    have gv4_3:v4.tmps.getD 3 undef=(.pointer (some ⟨B,0,none⟩)):=by rw[qv4];exact (zaa (by decide)).trans gv3_3
    have gv4_4:v4.tmps.getD 4 undef=(.pointer (some ⟨bn,0,none⟩)):=by rw[qv4];exact (zaa (by decide)).trans gv3_4
    have gv4_5:v4.tmps.getD 5 undef=(.pointer (some ⟨(B+2),0,none⟩)):=by rw[qv4];exact (zaa (by decide)).trans gv3_5
    have gv4_9:v4.tmps.getD 9 undef=v:=by rw[qv4];exact (zaa (by decide)).trans gv3_9
    have gv4_10:v4.tmps.getD 10 undef=(.int .i64 (xs.length:Nat)):=by rw[qv4];exact (zaa (by decide)).trans gv3_10
    have gv4_11:v4.tmps.getD 11 undef=(.int .i64 (count:Nat)):=by rw[qv4];exact (zaa (by decide)).trans gv3_11
    have gv4_12:v4.tmps.getD 12 undef=(.bool (decide (((xs.length:Nat):Int)=((count:Nat):Int)))):=by rw[qv4];exact zae (by rw[zv3];decide)
    change wpListIn (Fw none) 0 Tryz.prog _ _ _ (v3.put (some 12) (.bool (decide (((xs.length:Nat):Int)=((count:Nat):Int))))) W
    rw[←qv4]
    have R2:RS v4 f B bc bn:=⟨zv4,dv4,gv4_0,gv4_1,gv4_2,gv4_3,gv4_4,gv4_5⟩
    have h12:=gv4_12
    refine zaW ?_
    have h12:v4.eval (.tmp 12)=.bool true:=h12.trans (by rw[decide_eq_true (by omega)])
    refine wpIn_cond_true h12 (wpIn_seq ?_)
    change Code.wpIn (Fw none) 0 Tryz.prog N2 _ v4 W
    refine wpIn_region_list ?_
    refine zak rfl (zaV (by intro d h;cases h) (ldF zvz v4 W _ (.tmp 3) rfl R2.s3 H.hy rfl) ?_)
    obtain⟨y1,qy1⟩:∃x,x=v4.put (some 13) yv:=⟨_,rfl⟩
    have zy1:y1.tmps.size=36:=by rw[qy1,zaj];exact R2.size
    have dy1:y1.defers=[]:=by rw[qy1,zah];exact R2.defers
    have gy1_0:y1.tmps.getD 0 undef=(.int .i64 (f:Nat)):=by rw[qy1];exact (zaa (by decide)).trans R2.s0
    have gy1_1:y1.tmps.getD 1 undef=(.pointer (some ⟨(B+1),0,none⟩)):=by rw[qy1];exact (zaa (by decide)).trans R2.s1
    have gy1_2:y1.tmps.getD 2 undef=(.pointer (some ⟨bc,0,none⟩)):=by rw[qy1];exact (zaa (by decide)).trans R2.s2
    have gy1_3:y1.tmps.getD 3 undef=(.pointer (some ⟨B,0,none⟩)):=by rw[qy1];exact (zaa (by decide)).trans R2.s3
    have gy1_4:y1.tmps.getD 4 undef=(.pointer (some ⟨bn,0,none⟩)):=by rw[qy1];exact (zaa (by decide)).trans R2.s4
    have gy1_5:y1.tmps.getD 5 undef=(.pointer (some ⟨(B+2),0,none⟩)):=by rw[qy1];exact (zaa (by decide)).trans R2.s5
    have gy1_13:y1.tmps.getD 13 undef=yv:=by rw[qy1];exact zae (by rw[R2.size];decide)
    change wpListIn (Fw none) 0 Tryz.prog _ _ _ (v4.put (some 13) yv) W
    rw[←qy1]
    refine zak rfl (zaV (by intro d h;cases h) (ld76 y1 W _ (.tmp 1) rfl gy1_1 H.hl rfl) ?_)
    obtain⟨y2,qy2⟩:∃x,x=y1.put (some 14) v:=⟨_,rfl⟩
    have zy2:y2.tmps.size=36:=by rw[qy2,zaj];exact zy1
    have dy2:y2.defers=[]:=by rw[qy2,zah];exact dy1
    have gy2_0:y2.tmps.getD 0 undef=(.int .i64 (f:Nat)):=by rw[qy2];exact (zaa (by decide)).trans gy1_0
    have gy2_1:y2.tmps.getD 1 undef=(.pointer (some ⟨(B+1),0,none⟩)):=by rw[qy2];exact (zaa (by decide)).trans gy1_1
    have gy2_2:y2.tmps.getD 2 undef=(.pointer (some ⟨bc,0,none⟩)):=by rw[qy2];exact (zaa (by decide)).trans gy1_2
    have gy2_3:y2.tmps.getD 3 undef=(.pointer (some ⟨B,0,none⟩)):=by rw[qy2];exact (zaa (by decide)).trans gy1_3
    have gy2_4:y2.tmps.getD 4 undef=(.pointer (some ⟨bn,0,none⟩)):=by rw[qy2];exact (zaa (by decide)).trans gy1_4
    have gy2_5:y2.tmps.getD 5 undef=(.pointer (some ⟨(B+2),0,none⟩)):=by rw[qy2];exact (zaa (by decide)).trans gy1_5
    have gy2_13:y2.tmps.getD 13 undef=yv:=by rw[qy2];exact (zaa (by decide)).trans gy1_13
    have gy2_14:y2.tmps.getD 14 undef=v:=by rw[qy2];exact zae (by rw[zy1];decide)
    change wpListIn (Fw none) 0 Tryz.prog _ _ _ (y1.put (some 14) v) W
    rw[←qy2]
    have hJ:J (xs::rest) W:=by simpa [zcn] using hJ
    rcases H.ld with ⟨h,_⟩|⟨ls,c,cur,l1,l2,l3,l4⟩
    · rw[h] at hk;simp at hk;omega
    obtain⟨fl,tl,al,bl,hrun,hround⟩:=hY.yields xs rest W ls c cur hJ (by omega) l2 l4
    refine zak rfl (ztY (l:=l) (f:=fl) (tmps:=tl) (assign:=al) (body:=bl) (by intro d h;cases h) ?_ (RoundIn.mono hround ?_))
    · simp[execOp,resolve,Deferred.ofValue,ev,gy2_13,gy2_14,hyv,l3,invoke,callFunc]
      exact hrun
    rintro e W' ⟨hab,⟨rfl,hJ'⟩|⟨rfl,hJx⟩⟩
    · refine⟨.bool true,rfl,?_⟩
      obtain⟨yt1,qyt1⟩:∃x,x=y2.put (some 15) (.bool true):=⟨_,rfl⟩
      have zyt1:yt1.tmps.size=36:=by rw[qyt1,zaj];exact zy2
      have dyt1:yt1.defers=[]:=by rw[qyt1,zah];exact dy2
      have gyt1_0:yt1.tmps.getD 0 undef=(.int .i64 (f:Nat)):=by rw[qyt1];exact (zaa (by decide)).trans gy2_0
      have gyt1_1:yt1.tmps.getD 1 undef=(.pointer (some ⟨(B+1),0,none⟩)):=by rw[qyt1];exact (zaa (by decide)).trans gy2_1
      have gyt1_2:yt1.tmps.getD 2 undef=(.pointer (some ⟨bc,0,none⟩)):=by rw[qyt1];exact (zaa (by decide)).trans gy2_2
      have gyt1_3:yt1.tmps.getD 3 undef=(.pointer (some ⟨B,0,none⟩)):=by rw[qyt1];exact (zaa (by decide)).trans gy2_3
      have gyt1_4:yt1.tmps.getD 4 undef=(.pointer (some ⟨bn,0,none⟩)):=by rw[qyt1];exact (zaa (by decide)).trans gy2_4
      have gyt1_5:yt1.tmps.getD 5 undef=(.pointer (some ⟨(B+2),0,none⟩)):=by rw[qyt1];exact (zaa (by decide)).trans gy2_5
      have gyt1_13:yt1.tmps.getD 13 undef=yv:=by rw[qyt1];exact (zaa (by decide)).trans gy2_13
      have gyt1_14:yt1.tmps.getD 14 undef=v:=by rw[qyt1];exact (zaa (by decide)).trans gy2_14
      have gyt1_15:yt1.tmps.getD 15 undef=(.bool true):=by rw[qyt1];exact zae (by rw[zy2];decide)
      change wpListIn (Fw none) 0 Tryz.prog _ _ _ (y2.put (some 15) (.bool true)) W'
      rw[←qyt1]
      refine zak rfl (zaV (by intro d h;cases h) (asR yt1 W' _ (.tmp 15) rfl gyt1_15) ?_)
      obtain⟨yt2,qyt2⟩:∃x,x=yt1.put (some 7) (.bool true):=⟨_,rfl⟩
      have zyt2:yt2.tmps.size=36:=by rw[qyt2,zaj];exact zyt1
      have dyt2:yt2.defers=[]:=by rw[qyt2,zah];exact dyt1
      have gyt2_0:yt2.tmps.getD 0 undef=(.int .i64 (f:Nat)):=by rw[qyt2];exact (zaa (by decide)).trans gyt1_0
      have gyt2_1:yt2.tmps.getD 1 undef=(.pointer (some ⟨(B+1),0,none⟩)):=by rw[qyt2];exact (zaa (by decide)).trans gyt1_1
      have gyt2_2:yt2.tmps.getD 2 undef=(.pointer (some ⟨bc,0,none⟩)):=by rw[qyt2];exact (zaa (by decide)).trans gyt1_2
      have gyt2_3:yt2.tmps.getD 3 undef=(.pointer (some ⟨B,0,none⟩)):=by rw[qyt2];exact (zaa (by decide)).trans gyt1_3
      have gyt2_4:yt2.tmps.getD 4 undef=(.pointer (some ⟨bn,0,none⟩)):=by rw[qyt2];exact (zaa (by decide)).trans gyt1_4
      have gyt2_5:yt2.tmps.getD 5 undef=(.pointer (some ⟨(B+2),0,none⟩)):=by rw[qyt2];exact (zaa (by decide)).trans gyt1_5
      have gyt2_13:yt2.tmps.getD 13 undef=yv:=by rw[qyt2];exact (zaa (by decide)).trans gyt1_13
      have gyt2_14:yt2.tmps.getD 14 undef=v:=by rw[qyt2];exact (zaa (by decide)).trans gyt1_14
      have gyt2_15:yt2.tmps.getD 15 undef=(.bool true):=by rw[qyt2];exact (zaa (by decide)).trans gyt1_15
      have gyt2_7:yt2.tmps.getD 7 undef=(.bool true):=by rw[qyt2];exact zae (by rw[zyt1];decide)
      change wpListIn (Fw none) 0 Tryz.prog _ _ _ (yt1.put (some 7) (.bool true)) W'
      rw[←qyt2]
      refine zaW (wpIn_ret ?_)
      refine (show bodyPost Tryz.prog Tryz.f179 (fun e W'=>(e=.returned (.bool true)∧J rest W'∧∃v',HC B bc bn (.func (.yield l) #[] #[]) W' v' xs)∨(e=.returned (.bool false)∧Jx W')) .ret yt2 W' from ?_)
      refine ret1 dyt2 gyt2_7 (.inl ⟨rfl,hJ',v,?_⟩)
      rw[←hyv];exact H.abv hab
    · refine⟨.bool false,rfl,?_⟩
      obtain⟨yf1,qyf1⟩:∃x,x=y2.put (some 15) (.bool false):=⟨_,rfl⟩
      have zyf1:yf1.tmps.size=36:=by rw[qyf1,zaj];exact zy2
      have dyf1:yf1.defers=[]:=by rw[qyf1,zah];exact dy2
      have gyf1_0:yf1.tmps.getD 0 undef=(.int .i64 (f:Nat)):=by rw[qyf1];exact (zaa (by decide)).trans gy2_0
      have gyf1_1:yf1.tmps.getD 1 undef=(.pointer (some ⟨(B+1),0,none⟩)):=by rw[qyf1];exact (zaa (by decide)).trans gy2_1
      have gyf1_2:yf1.tmps.getD 2 undef=(.pointer (some ⟨bc,0,none⟩)):=by rw[qyf1];exact (zaa (by decide)).trans gy2_2
      have gyf1_3:yf1.tmps.getD 3 undef=(.pointer (some ⟨B,0,none⟩)):=by rw[qyf1];exact (zaa (by decide)).trans gy2_3
      have gyf1_4:yf1.tmps.getD 4 undef=(.pointer (some ⟨bn,0,none⟩)):=by rw[qyf1];exact (zaa (by decide)).trans gy2_4
      have gyf1_5:yf1.tmps.getD 5 undef=(.pointer (some ⟨(B+2),0,none⟩)):=by rw[qyf1];exact (zaa (by decide)).trans gy2_5
      have gyf1_13:yf1.tmps.getD 13 undef=yv:=by rw[qyf1];exact (zaa (by decide)).trans gy2_13
      have gyf1_14:yf1.tmps.getD 14 undef=v:=by rw[qyf1];exact (zaa (by decide)).trans gy2_14
      have gyf1_15:yf1.tmps.getD 15 undef=(.bool false):=by rw[qyf1];exact zae (by rw[zy2];decide)
      change wpListIn (Fw none) 0 Tryz.prog _ _ _ (y2.put (some 15) (.bool false)) W'
      rw[←qyf1]
      refine zak rfl (zaV (by intro d h;cases h) (asR yf1 W' _ (.tmp 15) rfl gyf1_15) ?_)
      obtain⟨yf2,qyf2⟩:∃x,x=yf1.put (some 7) (.bool false):=⟨_,rfl⟩
      have zyf2:yf2.tmps.size=36:=by rw[qyf2,zaj];exact zyf1
      have dyf2:yf2.defers=[]:=by rw[qyf2,zah];exact dyf1
      have gyf2_0:yf2.tmps.getD 0 undef=(.int .i64 (f:Nat)):=by rw[qyf2];exact (zaa (by decide)).trans gyf1_0
      have gyf2_1:yf2.tmps.getD 1 undef=(.pointer (some ⟨(B+1),0,none⟩)):=by rw[qyf2];exact (zaa (by decide)).trans gyf1_1
      have gyf2_2:yf2.tmps.getD 2 undef=(.pointer (some ⟨bc,0,none⟩)):=by rw[qyf2];exact (zaa (by decide)).trans gyf1_2
      have gyf2_3:yf2.tmps.getD 3 undef=(.pointer (some ⟨B,0,none⟩)):=by rw[qyf2];exact (zaa (by decide)).trans gyf1_3
      have gyf2_4:yf2.tmps.getD 4 undef=(.pointer (some ⟨bn,0,none⟩)):=by rw[qyf2];exact (zaa (by decide)).trans gyf1_4
      have gyf2_5:yf2.tmps.getD 5 undef=(.pointer (some ⟨(B+2),0,none⟩)):=by rw[qyf2];exact (zaa (by decide)).trans gyf1_5
      have gyf2_13:yf2.tmps.getD 13 undef=yv:=by rw[qyf2];exact (zaa (by decide)).trans gyf1_13
      have gyf2_14:yf2.tmps.getD 14 undef=v:=by rw[qyf2];exact (zaa (by decide)).trans gyf1_14
      have gyf2_15:yf2.tmps.getD 15 undef=(.bool false):=by rw[qyf2];exact (zaa (by decide)).trans gyf1_15
      have gyf2_7:yf2.tmps.getD 7 undef=(.bool false):=by rw[qyf2];exact zae (by rw[zyf1];decide)
      change wpListIn (Fw none) 0 Tryz.prog _ _ _ (yf1.put (some 7) (.bool false)) W'
      rw[←qyf2]
      refine zaW (wpIn_ret ?_)
      refine (show bodyPost Tryz.prog Tryz.f179 (fun e W'=>(e=.returned (.bool true)∧J rest W'∧∃v',HC B bc bn (.func (.yield l) #[] #[]) W' v' xs)∨(e=.returned (.bool false)∧Jx W')) .ret yf2 W' from ?_)
      exact ret1 dyf2 gyf2_7 (.inr ⟨rfl,hJx⟩)
  | succ k ih=>
    intro f r xs rest W v hk hf H hJ
    obtain⟨yv,hyv⟩:∃yv,yv=Value.func (.yield l) #[] #[]:=⟨_,rfl⟩
    rw[←hyv] at H
    refine callsIn_of_wp (F:=Fw none) (n:=0) (fn:=Tryz.f179) Tryz.func179 zs6 trivial ?_
    obtain⟨a0,ha0⟩:∃a0:Act,a0 = {tmps:=(#[.int .i64 (f:Nat)]++capt B bc bn)++Array.replicate (Tryz.f179.ntmps - (#[Value.int .i64 (f:Nat)]++capt B bc bn).size) undef,defers:=[]}:=⟨_,rfl⟩
    rw[←ha0]
    have R0:RS a0 ((f:Nat):Int) B bc bn:=zrl rfl ha0
    clear ha0
    have hJb:=hY.boxes _ _ hJ
    obtain⟨vad,vc,hv⟩:=zsf H.ld
    refine wpIn_seq (wpIn_region_list ?_)
    refine zak rfl (zaV (by intro d h;cases h) (asR a0 W _ (.const (.bool false)) rfl rfl) ?_)
    obtain⟨u1,qu1⟩:∃x,x=a0.put (some 7) (.bool false):=⟨_,rfl⟩
    have zu1:u1.tmps.size=36:=by rw[qu1,zaj];exact R0.size
    have du1:u1.defers=[]:=by rw[qu1,zah];exact R0.defers
    have gu1_0:u1.tmps.getD 0 undef=(.int .i64 (f:Nat)):=by rw[qu1];exact (zaa (by decide)).trans R0.s0
    have gu1_1:u1.tmps.getD 1 undef=(.pointer (some ⟨(B+1),0,none⟩)):=by rw[qu1];exact (zaa (by decide)).trans R0.s1
    have gu1_2:u1.tmps.getD 2 undef=(.pointer (some ⟨bc,0,none⟩)):=by rw[qu1];exact (zaa (by decide)).trans R0.s2
    have gu1_3:u1.tmps.getD 3 undef=(.pointer (some ⟨B,0,none⟩)):=by rw[qu1];exact (zaa (by decide)).trans R0.s3
    have gu1_4:u1.tmps.getD 4 undef=(.pointer (some ⟨bn,0,none⟩)):=by rw[qu1];exact (zaa (by decide)).trans R0.s4
    have gu1_5:u1.tmps.getD 5 undef=(.pointer (some ⟨(B+2),0,none⟩)):=by rw[qu1];exact (zaa (by decide)).trans R0.s5
    have gu1_7:u1.tmps.getD 7 undef=(.bool false):=by rw[qu1];exact zae (by rw[R0.size];decide)
    change wpListIn (Fw none) 0 Tryz.prog _ _ _ (a0.put (some 7) (.bool false)) W
    rw[←qu1]
    have R1:RS u1 f B bc bn:=⟨zu1,du1,gu1_0,gu1_1,gu1_2,gu1_3,gu1_4,gu1_5⟩
    refine zaW (wpIn_seq (wpIn_seq (wpIn_region_list ?_)))
    refine zak rfl (zaV (by intro d h;cases h) (ld76 u1 W _ (.tmp 1) rfl R1.s1 H.hl rfl) ?_)
    obtain⟨v1,qv1⟩:∃x,x=u1.put (some 9) v:=⟨_,rfl⟩
    have zv1:v1.tmps.size=36:=by rw[qv1,zaj];exact R1.size
    have dv1:v1.defers=[]:=by rw[qv1,zah];exact R1.defers
    have gv1_0:v1.tmps.getD 0 undef=(.int .i64 (f:Nat)):=by rw[qv1];exact (zaa (by decide)).trans R1.s0
    have gv1_1:v1.tmps.getD 1 undef=(.pointer (some ⟨(B+1),0,none⟩)):=by rw[qv1];exact (zaa (by decide)).trans R1.s1
    have gv1_2:v1.tmps.getD 2 undef=(.pointer (some ⟨bc,0,none⟩)):=by rw[qv1];exact (zaa (by decide)).trans R1.s2
    have gv1_3:v1.tmps.getD 3 undef=(.pointer (some ⟨B,0,none⟩)):=by rw[qv1];exact (zaa (by decide)).trans R1.s3
    have gv1_4:v1.tmps.getD 4 undef=(.pointer (some ⟨bn,0,none⟩)):=by rw[qv1];exact (zaa (by decide)).trans R1.s4
    have gv1_5:v1.tmps.getD 5 undef=(.pointer (some ⟨(B+2),0,none⟩)):=by rw[qv1];exact (zaa (by decide)).trans R1.s5
    have gv1_9:v1.tmps.getD 9 undef=v:=by rw[qv1];exact zae (by rw[R1.size];decide)
    change wpListIn (Fw none) 0 Tryz.prog _ _ _ (u1.put (some 9) v) W
    rw[←qv1]
    refine zak rfl (zaV (by intro d h;cases h) (lnR Tryz.underlying76 v1 W _ (.tmp 9) rfl (gv1_9.trans hv)) ?_)
    obtain⟨v2,qv2⟩:∃x,x=v1.put (some 10) (.int .i64 (xs.length:Nat)):=⟨_,rfl⟩
    have zv2:v2.tmps.size=36:=by rw[qv2,zaj];exact zv1
    have dv2:v2.defers=[]:=by rw[qv2,zah];exact dv1
    have gv2_0:v2.tmps.getD 0 undef=(.int .i64 (f:Nat)):=by rw[qv2];exact (zaa (by decide)).trans gv1_0
    have gv2_1:v2.tmps.getD 1 undef=(.pointer (some ⟨(B+1),0,none⟩)):=by rw[qv2];exact (zaa (by decide)).trans gv1_1
    have gv2_2:v2.tmps.getD 2 undef=(.pointer (some ⟨bc,0,none⟩)):=by rw[qv2];exact (zaa (by decide)).trans gv1_2
    have gv2_3:v2.tmps.getD 3 undef=(.pointer (some ⟨B,0,none⟩)):=by rw[qv2];exact (zaa (by decide)).trans gv1_3
    have gv2_4:v2.tmps.getD 4 undef=(.pointer (some ⟨bn,0,none⟩)):=by rw[qv2];exact (zaa (by decide)).trans gv1_4
    have gv2_5:v2.tmps.getD 5 undef=(.pointer (some ⟨(B+2),0,none⟩)):=by rw[qv2];exact (zaa (by decide)).trans gv1_5
    have gv2_9:v2.tmps.getD 9 undef=v:=by rw[qv2];exact (zaa (by decide)).trans gv1_9
    have gv2_10:v2.tmps.getD 10 undef=(.int .i64 (xs.length:Nat)):=by rw[qv2];exact zae (by rw[zv1];decide)
    change wpListIn (Fw none) 0 Tryz.prog _ _ _ (v1.put (some 10) (.int .i64 (xs.length:Nat))) W
    rw[←qv2]
    refine zak rfl (zaV (by intro d h;cases h) (ld3 v2 W _ (.tmp 2) rfl gv2_2 hJb.1 rfl) ?_)
    obtain⟨v3,qv3⟩:∃x,x=v2.put (some 11) (.int .i64 (count:Nat)):=⟨_,rfl⟩
    have zv3:v3.tmps.size=36:=by rw[qv3,zaj];exact zv2
    have dv3:v3.defers=[]:=by rw[qv3,zah];exact dv2
    have gv3_0:v3.tmps.getD 0 undef=(.int .i64 (f:Nat)):=by rw[qv3];exact (zaa (by decide)).trans gv2_0
    have gv3_1:v3.tmps.getD 1 undef=(.pointer (some ⟨(B+1),0,none⟩)):=by rw[qv3];exact (zaa (by decide)).trans gv2_1
    have gv3_2:v3.tmps.getD 2 undef=(.pointer (some ⟨bc,0,none⟩)):=by rw[qv3];exact (zaa (by decide)).trans gv2_2
    have gv3_3:v3.tmps.getD 3 undef=(.pointer (some ⟨B,0,none⟩)):=by rw[qv3];exact (zaa (by decide)).trans gv2_3
    have gv3_4:v3.tmps.getD 4 undef=(.pointer (some ⟨bn,0,none⟩)):=by rw[qv3];exact (zaa (by decide)).trans gv2_4
    have gv3_5:v3.tmps.getD 5 undef=(.pointer (some ⟨(B+2),0,none⟩)):=by rw[qv3];exact (zaa (by decide)).trans gv2_5
    have gv3_9:v3.tmps.getD 9 undef=v:=by rw[qv3];exact (zaa (by decide)).trans gv2_9
    have gv3_10:v3.tmps.getD 10 undef=(.int .i64 (xs.length:Nat)):=by rw[qv3];exact (zaa (by decide)).trans gv2_10
    have gv3_11:v3.tmps.getD 11 undef=(.int .i64 (count:Nat)):=by rw[qv3];exact zae (by rw[zv2];decide)
    change wpListIn (Fw none) 0 Tryz.prog _ _ _ (v2.put (some 11) (.int .i64 (count:Nat))) W
    rw[←qv3]
    refine zak rfl (zaV (by intro d h;cases h) (eqR v3 W _ (.tmp 10) (.tmp 11) rfl gv3_10 gv3_11) ?_)
    obtain⟨v4,qv4⟩:∃x,x=v3.put (some 12) (.bool (decide (((xs.length:Nat):Int)=((count:Nat):Int)))):=⟨_,rfl⟩
    have zv4:v4.tmps.size=36:=by rw[qv4,zaj];exact zv3
    have dv4:v4.defers=[]:=by rw[qv4,zah];exact dv3
    have gv4_0:v4.tmps.getD 0 undef=(.int .i64 (f:Nat)):=by rw[qv4];exact (zaa (by decide)).trans gv3_0
    have gv4_1:v4.tmps.getD 1 undef=(.pointer (some ⟨(B+1),0,none⟩)):=by rw[qv4];exact (zaa (by decide)).trans gv3_1
    have gv4_2:v4.tmps.getD 2 undef=(.pointer (some ⟨bc,0,none⟩)):=by rw[qv4];exact (zaa (by decide)).trans gv3_2
    have gv4_3:v4.tmps.getD 3 undef=(.pointer (some ⟨B,0,none⟩)):=by rw[qv4];exact (zaa (by decide)).trans gv3_3
    have gv4_4:v4.tmps.getD 4 undef=(.pointer (some ⟨bn,0,none⟩)):=by rw[qv4];exact (zaa (by decide)).trans gv3_4
    have gv4_5:v4.tmps.getD 5 undef=(.pointer (some ⟨(B+2),0,none⟩)):=by rw[qv4];exact (zaa (by decide)).trans gv3_5
    have gv4_9:v4.tmps.getD 9 undef=v:=by rw[qv4];exact (zaa (by decide)).trans gv3_9
    have gv4_10:v4.tmps.getD 10 undef=(.int .i64 (xs.length:Nat)):=by rw[qv4];exact (zaa (by decide)).trans gv3_10
    have gv4_11:v4.tmps.getD 11 undef=(.int .i64 (count:Nat)):=by rw[qv4];exact (zaa (by decide)).trans gv3_11
    have gv4_12:v4.tmps.getD 12 undef=(.bool (decide (((xs.length:Nat):Int)=((count:Nat):Int)))):=by rw[qv4];exact zae (by rw[zv3];decide)
    change wpListIn (Fw none) 0 Tryz.prog _ _ _ (v3.put (some 12) (.bool (decide (((xs.length:Nat):Int)=((count:Nat):Int))))) W
    rw[←qv4]
    have R2:RS v4 f B bc bn:=⟨zv4,dv4,gv4_0,gv4_1,gv4_2,gv4_3,gv4_4,gv4_5⟩
    have h12:=gv4_12
    refine zaW ?_
    have h12:v4.eval (.tmp 12)=.bool false:=h12.trans (by rw[decide_eq_false (by omega)])
    refine wpIn_cond_false h12 (wpIn_skip ?_)
    change Code.wpIn (Fw none) 0 Tryz.prog _ _ v4 W
    refine wpIn_seq (wpIn_seq (wpIn_region_list ?_))
    refine zak rfl (zaV (by intro d h;cases h) (mvR v4 W _ (.tmp 0) rfl R2.s0) ?_)
    obtain⟨t1,qt1⟩:∃x,x=v4.put (some 16) (.int .i64 (f:Nat)):=⟨_,rfl⟩
    have zt1:t1.tmps.size=36:=by rw[qt1,zaj];exact R2.size
    have dt1:t1.defers=[]:=by rw[qt1,zah];exact R2.defers
    have gt1_0:t1.tmps.getD 0 undef=(.int .i64 (f:Nat)):=by rw[qt1];exact (zaa (by decide)).trans R2.s0
    have gt1_1:t1.tmps.getD 1 undef=(.pointer (some ⟨(B+1),0,none⟩)):=by rw[qt1];exact (zaa (by decide)).trans R2.s1
    have gt1_2:t1.tmps.getD 2 undef=(.pointer (some ⟨bc,0,none⟩)):=by rw[qt1];exact (zaa (by decide)).trans R2.s2
    have gt1_3:t1.tmps.getD 3 undef=(.pointer (some ⟨B,0,none⟩)):=by rw[qt1];exact (zaa (by decide)).trans R2.s3
    have gt1_4:t1.tmps.getD 4 undef=(.pointer (some ⟨bn,0,none⟩)):=by rw[qt1];exact (zaa (by decide)).trans R2.s4
    have gt1_5:t1.tmps.getD 5 undef=(.pointer (some ⟨(B+2),0,none⟩)):=by rw[qt1];exact (zaa (by decide)).trans R2.s5
    have gt1_16:t1.tmps.getD 16 undef=(.int .i64 (f:Nat)):=by rw[qt1];exact zae (by rw[R2.size];decide)
    change wpListIn (Fw none) 0 Tryz.prog _ _ _ (v4.put (some 16) (.int .i64 (f:Nat))) W
    rw[←qt1]
    refine zak rfl (zaV (by intro d h;cases h) (asR t1 W _ (.tmp 16) rfl gt1_16) ?_)
    obtain⟨t2,qt2⟩:∃x,x=t1.put (some 8) (.int .i64 (f:Nat)):=⟨_,rfl⟩
    have zt2:t2.tmps.size=36:=by rw[qt2,zaj];exact zt1
    have dt2:t2.defers=[]:=by rw[qt2,zah];exact dt1
    have gt2_0:t2.tmps.getD 0 undef=(.int .i64 (f:Nat)):=by rw[qt2];exact (zaa (by decide)).trans gt1_0
    have gt2_1:t2.tmps.getD 1 undef=(.pointer (some ⟨(B+1),0,none⟩)):=by rw[qt2];exact (zaa (by decide)).trans gt1_1
    have gt2_2:t2.tmps.getD 2 undef=(.pointer (some ⟨bc,0,none⟩)):=by rw[qt2];exact (zaa (by decide)).trans gt1_2
    have gt2_3:t2.tmps.getD 3 undef=(.pointer (some ⟨B,0,none⟩)):=by rw[qt2];exact (zaa (by decide)).trans gt1_3
    have gt2_4:t2.tmps.getD 4 undef=(.pointer (some ⟨bn,0,none⟩)):=by rw[qt2];exact (zaa (by decide)).trans gt1_4
    have gt2_5:t2.tmps.getD 5 undef=(.pointer (some ⟨(B+2),0,none⟩)):=by rw[qt2];exact (zaa (by decide)).trans gt1_5
    have gt2_16:t2.tmps.getD 16 undef=(.int .i64 (f:Nat)):=by rw[qt2];exact (zaa (by decide)).trans gt1_16
    have gt2_8:t2.tmps.getD 8 undef=(.int .i64 (f:Nat)):=by rw[qt2];exact zae (by rw[zt1];decide)
    change wpListIn (Fw none) 0 Tryz.prog _ _ _ (t1.put (some 8) (.int .i64 (f:Nat))) W
    rw[←qt2]
    have R3:RS t2 f B bc bn:=⟨zt2,dt2,gt2_0,gt2_1,gt2_2,gt2_3,gt2_4,gt2_5⟩
    refine zaW ?_
    refine wpIn_block (zdX (fun n a w=>∃(p s:Nat) (v:Value),p+s=numbers∧n=s∧RS a ((f:Nat):Int) B bc bn∧a.tmps.getD 8 undef=.int .i64 (p:Nat)∧HC B bc bn yv w v xs∧J ((zcn (k+1) p s).map (xs ++ ·)++rest) w) (n:=r) (a:=t2) (w:=W) ⟨f,r,v,hf,rfl,R3,gt2_8,H,hJ⟩ ?_)
    clear hJb hv hJ H R0 R1 R2 R3
    rintro s a w ⟨p,_,v,hps,rfl,R,h8,H,hJ⟩
    have hJb:=hY.boxes _ _ hJ
    refine wpIn_seq (wpIn_seq (wpIn_region_list ?_))
    refine zak rfl (zaV (by intro d h;cases h) (mvR a w _ (.tmp 8) rfl h8) ?_)
    obtain⟨l1,ql1⟩:∃x,x=a.put (some 17) (.int .i64 (p:Nat)):=⟨_,rfl⟩
    have zl1:l1.tmps.size=36:=by rw[ql1,zaj];exact R.size
    have dl1:l1.defers=[]:=by rw[ql1,zah];exact R.defers
    have gl1_0:l1.tmps.getD 0 undef=(.int .i64 (f:Nat)):=by rw[ql1];exact (zaa (by decide)).trans R.s0
    have gl1_1:l1.tmps.getD 1 undef=(.pointer (some ⟨(B+1),0,none⟩)):=by rw[ql1];exact (zaa (by decide)).trans R.s1
    have gl1_2:l1.tmps.getD 2 undef=(.pointer (some ⟨bc,0,none⟩)):=by rw[ql1];exact (zaa (by decide)).trans R.s2
    have gl1_3:l1.tmps.getD 3 undef=(.pointer (some ⟨B,0,none⟩)):=by rw[ql1];exact (zaa (by decide)).trans R.s3
    have gl1_4:l1.tmps.getD 4 undef=(.pointer (some ⟨bn,0,none⟩)):=by rw[ql1];exact (zaa (by decide)).trans R.s4
    have gl1_5:l1.tmps.getD 5 undef=(.pointer (some ⟨(B+2),0,none⟩)):=by rw[ql1];exact (zaa (by decide)).trans R.s5
    have gl1_8:l1.tmps.getD 8 undef=(.int .i64 (p:Nat)):=by rw[ql1];exact (zaa (by decide)).trans h8
    have gl1_17:l1.tmps.getD 17 undef=(.int .i64 (p:Nat)):=by rw[ql1];exact zae (by rw[R.size];decide)
    change wpListIn (Fw none) 0 Tryz.prog _ _ _ (a.put (some 17) (.int .i64 (p:Nat))) w
    rw[←ql1]
    refine zak rfl (zaV (by intro d h;cases h) (ld3 l1 w _ (.tmp 4) rfl gl1_4 hJb.2 rfl) ?_)
    obtain⟨l2,ql2⟩:∃x,x=l1.put (some 18) (.int .i64 (numbers:Nat)):=⟨_,rfl⟩
    have zl2:l2.tmps.size=36:=by rw[ql2,zaj];exact zl1
    have dl2:l2.defers=[]:=by rw[ql2,zah];exact dl1
    have gl2_0:l2.tmps.getD 0 undef=(.int .i64 (f:Nat)):=by rw[ql2];exact (zaa (by decide)).trans gl1_0
    have gl2_1:l2.tmps.getD 1 undef=(.pointer (some ⟨(B+1),0,none⟩)):=by rw[ql2];exact (zaa (by decide)).trans gl1_1
    have gl2_2:l2.tmps.getD 2 undef=(.pointer (some ⟨bc,0,none⟩)):=by rw[ql2];exact (zaa (by decide)).trans gl1_2
    have gl2_3:l2.tmps.getD 3 undef=(.pointer (some ⟨B,0,none⟩)):=by rw[ql2];exact (zaa (by decide)).trans gl1_3
    have gl2_4:l2.tmps.getD 4 undef=(.pointer (some ⟨bn,0,none⟩)):=by rw[ql2];exact (zaa (by decide)).trans gl1_4
    have gl2_5:l2.tmps.getD 5 undef=(.pointer (some ⟨(B+2),0,none⟩)):=by rw[ql2];exact (zaa (by decide)).trans gl1_5
    have gl2_8:l2.tmps.getD 8 undef=(.int .i64 (p:Nat)):=by rw[ql2];exact (zaa (by decide)).trans gl1_8
    have gl2_17:l2.tmps.getD 17 undef=(.int .i64 (p:Nat)):=by rw[ql2];exact (zaa (by decide)).trans gl1_17
    have gl2_18:l2.tmps.getD 18 undef=(.int .i64 (numbers:Nat)):=by rw[ql2];exact zae (by rw[zl1];decide)
    change wpListIn (Fw none) 0 Tryz.prog _ _ _ (l1.put (some 18) (.int .i64 (numbers:Nat))) w
    rw[←ql2]
    refine zak rfl (zaV (by intro d h;cases h) (ltR l2 w _ (.tmp 17) (.tmp 18) rfl gl2_17 gl2_18) ?_)
    obtain⟨l3,ql3⟩:∃x,x=l2.put (some 19) (.bool (decide (((p:Nat):Int)<((numbers:Nat):Int)))):=⟨_,rfl⟩
    have zl3:l3.tmps.size=36:=by rw[ql3,zaj];exact zl2
    have dl3:l3.defers=[]:=by rw[ql3,zah];exact dl2
    have gl3_0:l3.tmps.getD 0 undef=(.int .i64 (f:Nat)):=by rw[ql3];exact (zaa (by decide)).trans gl2_0
    have gl3_1:l3.tmps.getD 1 undef=(.pointer (some ⟨(B+1),0,none⟩)):=by rw[ql3];exact (zaa (by decide)).trans gl2_1
    have gl3_2:l3.tmps.getD 2 undef=(.pointer (some ⟨bc,0,none⟩)):=by rw[ql3];exact (zaa (by decide)).trans gl2_2
    have gl3_3:l3.tmps.getD 3 undef=(.pointer (some ⟨B,0,none⟩)):=by rw[ql3];exact (zaa (by decide)).trans gl2_3
    have gl3_4:l3.tmps.getD 4 undef=(.pointer (some ⟨bn,0,none⟩)):=by rw[ql3];exact (zaa (by decide)).trans gl2_4
    have gl3_5:l3.tmps.getD 5 undef=(.pointer (some ⟨(B+2),0,none⟩)):=by rw[ql3];exact (zaa (by decide)).trans gl2_5
    have gl3_8:l3.tmps.getD 8 undef=(.int .i64 (p:Nat)):=by rw[ql3];exact (zaa (by decide)).trans gl2_8
    have gl3_17:l3.tmps.getD 17 undef=(.int .i64 (p:Nat)):=by rw[ql3];exact (zaa (by decide)).trans gl2_17
    have gl3_18:l3.tmps.getD 18 undef=(.int .i64 (numbers:Nat)):=by rw[ql3];exact (zaa (by decide)).trans gl2_18
    have gl3_19:l3.tmps.getD 19 undef=(.bool (decide (((p:Nat):Int)<((numbers:Nat):Int)))):=by rw[ql3];exact zae (by rw[zl2];decide)
    change wpListIn (Fw none) 0 Tryz.prog _ _ _ (l2.put (some 19) (.bool (decide (((p:Nat):Int)<((numbers:Nat):Int))))) w
    rw[←ql3]
    have R4:RS l3 f B bc bn:=⟨zl3,dl3,gl3_0,gl3_1,gl3_2,gl3_3,gl3_4,gl3_5⟩
    have h8':=gl3_8
    have h19:=gl3_19
    refine zaW ?_
    by_cases hlt:p<numbers
    · have h19:l3.eval (.tmp 19)=.bool true:=h19.trans (by rw[decide_eq_true (by omega)])
      refine wpIn_cond_true h19 (wpIn_skip ?_)
      change Code.wpIn (Fw none) 0 Tryz.prog _ _ l3 w
      obtain⟨s',rfl⟩:∃s',s=s'+1:=⟨s - 1,by omega⟩
      refine wpIn_seq (wpIn_block (wpIn_seq (wpIn_region_list ?_)))
      refine zak rfl (zaV (by intro d h;cases h) (ld76 l3 w _ (.tmp 1) rfl R4.s1 H.hl rfl) ?_)
      obtain⟨m1,qm1⟩:∃x,x=l3.put (some 22) v:=⟨_,rfl⟩
      have zm1:m1.tmps.size=36:=by rw[qm1,zaj];exact R4.size
      have dm1:m1.defers=[]:=by rw[qm1,zah];exact R4.defers
      have gm1_0:m1.tmps.getD 0 undef=(.int .i64 (f:Nat)):=by rw[qm1];exact (zaa (by decide)).trans R4.s0
      have gm1_1:m1.tmps.getD 1 undef=(.pointer (some ⟨(B+1),0,none⟩)):=by rw[qm1];exact (zaa (by decide)).trans R4.s1
      have gm1_2:m1.tmps.getD 2 undef=(.pointer (some ⟨bc,0,none⟩)):=by rw[qm1];exact (zaa (by decide)).trans R4.s2
      have gm1_3:m1.tmps.getD 3 undef=(.pointer (some ⟨B,0,none⟩)):=by rw[qm1];exact (zaa (by decide)).trans R4.s3
      have gm1_4:m1.tmps.getD 4 undef=(.pointer (some ⟨bn,0,none⟩)):=by rw[qm1];exact (zaa (by decide)).trans R4.s4
      have gm1_5:m1.tmps.getD 5 undef=(.pointer (some ⟨(B+2),0,none⟩)):=by rw[qm1];exact (zaa (by decide)).trans R4.s5
      have gm1_8:m1.tmps.getD 8 undef=(.int .i64 (p:Nat)):=by rw[qm1];exact (zaa (by decide)).trans h8'
      have gm1_22:m1.tmps.getD 22 undef=v:=by rw[qm1];exact zae (by rw[R4.size];decide)
      change wpListIn (Fw none) 0 Tryz.prog _ _ _ (l3.put (some 22) v) w
      rw[←qm1]
      refine zak rfl (zaV (by intro d h;cases h) (mvR m1 w _ (.tmp 8) rfl gm1_8) ?_)
      obtain⟨m2,qm2⟩:∃x,x=m1.put (some 23) (.int .i64 (p:Nat)):=⟨_,rfl⟩
      have zm2:m2.tmps.size=36:=by rw[qm2,zaj];exact zm1
      have dm2:m2.defers=[]:=by rw[qm2,zah];exact dm1
      have gm2_0:m2.tmps.getD 0 undef=(.int .i64 (f:Nat)):=by rw[qm2];exact (zaa (by decide)).trans gm1_0
      have gm2_1:m2.tmps.getD 1 undef=(.pointer (some ⟨(B+1),0,none⟩)):=by rw[qm2];exact (zaa (by decide)).trans gm1_1
      have gm2_2:m2.tmps.getD 2 undef=(.pointer (some ⟨bc,0,none⟩)):=by rw[qm2];exact (zaa (by decide)).trans gm1_2
      have gm2_3:m2.tmps.getD 3 undef=(.pointer (some ⟨B,0,none⟩)):=by rw[qm2];exact (zaa (by decide)).trans gm1_3
      have gm2_4:m2.tmps.getD 4 undef=(.pointer (some ⟨bn,0,none⟩)):=by rw[qm2];exact (zaa (by decide)).trans gm1_4
      have gm2_5:m2.tmps.getD 5 undef=(.pointer (some ⟨(B+2),0,none⟩)):=by rw[qm2];exact (zaa (by decide)).trans gm1_5
      have gm2_8:m2.tmps.getD 8 undef=(.int .i64 (p:Nat)):=by rw[qm2];exact (zaa (by decide)).trans gm1_8
      have gm2_22:m2.tmps.getD 22 undef=v:=by rw[qm2];exact (zaa (by decide)).trans gm1_22
      have gm2_23:m2.tmps.getD 23 undef=(.int .i64 (p:Nat)):=by rw[qm2];exact zae (by rw[zm1];decide)
      change wpListIn (Fw none) 0 Tryz.prog _ _ _ (m1.put (some 23) (.int .i64 (p:Nat))) w
      rw[←qm2]
      obtain⟨wb,hwb⟩:∃x,x=w.alloc (.cells #[.int .i64 (p:Nat)] 3 (0,0)):=⟨_,rfl⟩
      refine zak rfl (zt0 (by intro d h;cases h) (bsR m2 w _ (.tmp 23) rfl gm2_23) ?_)
      rw[←hwb]
      obtain⟨m3,qm3⟩:∃x,x=m2.put (some 24) (.slice (some ⟨w.heap.size,0,none⟩) 1 1):=⟨_,rfl⟩
      have zm3:m3.tmps.size=36:=by rw[qm3,zaj];exact zm2
      have dm3:m3.defers=[]:=by rw[qm3,zah];exact dm2
      have gm3_0:m3.tmps.getD 0 undef=(.int .i64 (f:Nat)):=by rw[qm3];exact (zaa (by decide)).trans gm2_0
      have gm3_1:m3.tmps.getD 1 undef=(.pointer (some ⟨(B+1),0,none⟩)):=by rw[qm3];exact (zaa (by decide)).trans gm2_1
      have gm3_2:m3.tmps.getD 2 undef=(.pointer (some ⟨bc,0,none⟩)):=by rw[qm3];exact (zaa (by decide)).trans gm2_2
      have gm3_3:m3.tmps.getD 3 undef=(.pointer (some ⟨B,0,none⟩)):=by rw[qm3];exact (zaa (by decide)).trans gm2_3
      have gm3_4:m3.tmps.getD 4 undef=(.pointer (some ⟨bn,0,none⟩)):=by rw[qm3];exact (zaa (by decide)).trans gm2_4
      have gm3_5:m3.tmps.getD 5 undef=(.pointer (some ⟨(B+2),0,none⟩)):=by rw[qm3];exact (zaa (by decide)).trans gm2_5
      have gm3_8:m3.tmps.getD 8 undef=(.int .i64 (p:Nat)):=by rw[qm3];exact (zaa (by decide)).trans gm2_8
      have gm3_22:m3.tmps.getD 22 undef=v:=by rw[qm3];exact (zaa (by decide)).trans gm2_22
      have gm3_23:m3.tmps.getD 23 undef=(.int .i64 (p:Nat)):=by rw[qm3];exact (zaa (by decide)).trans gm2_23
      have gm3_24:m3.tmps.getD 24 undef=(.slice (some ⟨w.heap.size,0,none⟩) 1 1):=by rw[qm3];exact zae (by rw[zm2];decide)
      change wpListIn (Fw none) 0 Tryz.prog _ _ _ (m2.put (some 24) (.slice (some ⟨w.heap.size,0,none⟩) 1 1)) wb
      rw[←qm3]
      have hsz:B+3≤w.heap.size:=zag H.hm
      have hnew:wb.heap[w.heap.size]?=some (.cells #[.int .i64 (p:Nat)] 3 (0,0)):=by
        rw[hwb];show (w.heap.push _)[w.heap.size]?=_;simp
      have hbel:Bel w.heap.size w wb:=by rw[hwb];exact zgz
      have Hb:HC B bc bn yv wb v xs:=H.abv (fun b _ hs=>hbel.keep b hs hs)
      refine zak rfl (zAj (by intro d h;cases h) (x:=.tmp 22) (y:=.tmp 24) rfl gm3_22 Hb.ld (by omega) gm3_24 hnew (Nat.le_trans hsz hbel.size) fun v' wc hld hbel2=>?_)
      obtain⟨vad',vc',hv'⟩:=zsf hld
      have hlc:wc.heap[B+1]?=some (.cells #[v] 76 (0,0)):=(hbel2.keep (B+1) (by omega) (zag Hb.hl)).trans Hb.hl
      obtain⟨n1,qn1⟩:∃x,x=m3.put (some 25) v':=⟨_,rfl⟩
      have zn1:n1.tmps.size=36:=by rw[qn1,zaj];exact zm3
      have dn1:n1.defers=[]:=by rw[qn1,zah];exact dm3
      have gn1_0:n1.tmps.getD 0 undef=(.int .i64 (f:Nat)):=by rw[qn1];exact (zaa (by decide)).trans gm3_0
      have gn1_1:n1.tmps.getD 1 undef=(.pointer (some ⟨(B+1),0,none⟩)):=by rw[qn1];exact (zaa (by decide)).trans gm3_1
      have gn1_2:n1.tmps.getD 2 undef=(.pointer (some ⟨bc,0,none⟩)):=by rw[qn1];exact (zaa (by decide)).trans gm3_2
      have gn1_3:n1.tmps.getD 3 undef=(.pointer (some ⟨B,0,none⟩)):=by rw[qn1];exact (zaa (by decide)).trans gm3_3
      have gn1_4:n1.tmps.getD 4 undef=(.pointer (some ⟨bn,0,none⟩)):=by rw[qn1];exact (zaa (by decide)).trans gm3_4
      have gn1_5:n1.tmps.getD 5 undef=(.pointer (some ⟨(B+2),0,none⟩)):=by rw[qn1];exact (zaa (by decide)).trans gm3_5
      have gn1_8:n1.tmps.getD 8 undef=(.int .i64 (p:Nat)):=by rw[qn1];exact (zaa (by decide)).trans gm3_8
      have gn1_22:n1.tmps.getD 22 undef=v:=by rw[qn1];exact (zaa (by decide)).trans gm3_22
      have gn1_23:n1.tmps.getD 23 undef=(.int .i64 (p:Nat)):=by rw[qn1];exact (zaa (by decide)).trans gm3_23
      have gn1_24:n1.tmps.getD 24 undef=(.slice (some ⟨w.heap.size,0,none⟩) 1 1):=by rw[qn1];exact (zaa (by decide)).trans gm3_24
      have gn1_25:n1.tmps.getD 25 undef=v':=by rw[qn1];exact zae (by rw[zm3];decide)
      change wpListIn (Fw none) 0 Tryz.prog _ _ _ (m3.put (some 25) v') wc
      rw[←qn1]
      refine zak rfl (zk2 (by intro d h;cases h) (st76 n1 wc _ (.tmp 1) (.tmp 25) rfl gn1_1 (gn1_25.trans hv') hlc Nat.zero_lt_one) ?_)
      rw[←hv']
      obtain⟨wd,hwd⟩:∃x,x=wc.setRow (B+1) ((#[v]:Array Value).set! 0 v'):=⟨_,rfl⟩
      change wpListIn (Fw none) 0 Tryz.prog _ _ _ n1 (wc.setRow (B+1) ((#[v]:Array Value).set! 0 v'))
      rw[←hwd]
      refine zaW ?_
      have R6:RS n1 f B bc bn:=⟨zn1,dn1,gn1_0,gn1_1,gn1_2,gn1_3,gn1_4,gn1_5⟩
      have h8'':=gn1_8
      have H2:HC B bc bn yv wd v' (xs++[((p:Nat):Int)]):=by
        rw[hwd]
        exact⟨(setRow_other wc (B+1) B _ (by omega)).trans ((hbel2.keep B (by omega) (zag Hb.hy)).trans Hb.hy),setRow_heap wc (B+1) _ _ 76 (0,0) hlc,(setRow_other wc (B+1) (B+2) _ (by omega)).trans ((hbel2.keep (B+2) (by omega) (zag Hb.hm)).trans Hb.hm),znZ hld fun b hb hs=>setRow_other wc (B+1) b _ (by omega)⟩
      have hbd:Bel B w wd:=((hbel.le (by omega)).trans (hbel2.le (by omega))).trans (by rw[hwd];exact zfl (by omega))
      have hJ2:J ((zcn k (p+1) s').map ((xs++[((p:Nat):Int)]) ++ ·)++((zcn (k+1) (p+1) s').map (xs ++ ·)++rest)) wd:=by
        have h:=hY.below _ _ _ hJ hbd
        simpa [zcn,List.map_append,List.map_map,Function.comp_def,List.append_assoc] using h
      refine wpIn_seq (wpIn_seq (wpIn_region_list ?_))
      refine zak rfl (zaV (by intro d h;cases h) (ldF ztj n1 wd _ (.tmp 5) rfl R6.s5 H2.hm rfl) ?_)
      obtain⟨o1,qo1⟩:∃x,x=n1.put (some 26) (.func (.func 179) #[] (capt B bc bn)):=⟨_,rfl⟩
      have zo1:o1.tmps.size=36:=by rw[qo1,zaj];exact R6.size
      have do1:o1.defers=[]:=by rw[qo1,zah];exact R6.defers
      have go1_0:o1.tmps.getD 0 undef=(.int .i64 (f:Nat)):=by rw[qo1];exact (zaa (by decide)).trans R6.s0
      have go1_1:o1.tmps.getD 1 undef=(.pointer (some ⟨(B+1),0,none⟩)):=by rw[qo1];exact (zaa (by decide)).trans R6.s1
      have go1_2:o1.tmps.getD 2 undef=(.pointer (some ⟨bc,0,none⟩)):=by rw[qo1];exact (zaa (by decide)).trans R6.s2
      have go1_3:o1.tmps.getD 3 undef=(.pointer (some ⟨B,0,none⟩)):=by rw[qo1];exact (zaa (by decide)).trans R6.s3
      have go1_4:o1.tmps.getD 4 undef=(.pointer (some ⟨bn,0,none⟩)):=by rw[qo1];exact (zaa (by decide)).trans R6.s4
      have go1_5:o1.tmps.getD 5 undef=(.pointer (some ⟨(B+2),0,none⟩)):=by rw[qo1];exact (zaa (by decide)).trans R6.s5
      have go1_8:o1.tmps.getD 8 undef=(.int .i64 (p:Nat)):=by rw[qo1];exact (zaa (by decide)).trans h8''
      have go1_26:o1.tmps.getD 26 undef=(.func (.func 179) #[] (capt B bc bn)):=by rw[qo1];exact zae (by rw[R6.size];decide)
      change wpListIn (Fw none) 0 Tryz.prog _ _ _ (n1.put (some 26) (.func (.func 179) #[] (capt B bc bn))) wd
      rw[←qo1]
      refine zak rfl (zaV (by intro d h;cases h) (mvR o1 wd _ (.tmp 8) rfl go1_8) ?_)
      obtain⟨o2,qo2⟩:∃x,x=o1.put (some 27) (.int .i64 (p:Nat)):=⟨_,rfl⟩
      have zo2:o2.tmps.size=36:=by rw[qo2,zaj];exact zo1
      have do2:o2.defers=[]:=by rw[qo2,zah];exact do1
      have go2_0:o2.tmps.getD 0 undef=(.int .i64 (f:Nat)):=by rw[qo2];exact (zaa (by decide)).trans go1_0
      have go2_1:o2.tmps.getD 1 undef=(.pointer (some ⟨(B+1),0,none⟩)):=by rw[qo2];exact (zaa (by decide)).trans go1_1
      have go2_2:o2.tmps.getD 2 undef=(.pointer (some ⟨bc,0,none⟩)):=by rw[qo2];exact (zaa (by decide)).trans go1_2
      have go2_3:o2.tmps.getD 3 undef=(.pointer (some ⟨B,0,none⟩)):=by rw[qo2];exact (zaa (by decide)).trans go1_3
      have go2_4:o2.tmps.getD 4 undef=(.pointer (some ⟨bn,0,none⟩)):=by rw[qo2];exact (zaa (by decide)).trans go1_4
      have go2_5:o2.tmps.getD 5 undef=(.pointer (some ⟨(B+2),0,none⟩)):=by rw[qo2];exact (zaa (by decide)).trans go1_5
      have go2_8:o2.tmps.getD 8 undef=(.int .i64 (p:Nat)):=by rw[qo2];exact (zaa (by decide)).trans go1_8
      have go2_26:o2.tmps.getD 26 undef=(.func (.func 179) #[] (capt B bc bn)):=by rw[qo2];exact (zaa (by decide)).trans go1_26
      have go2_27:o2.tmps.getD 27 undef=(.int .i64 (p:Nat)):=by rw[qo2];exact zae (by rw[zo1];decide)
      change wpListIn (Fw none) 0 Tryz.prog _ _ _ (o1.put (some 27) (.int .i64 (p:Nat))) wd
      rw[←qo2]
      refine zak rfl (zaV (by intro d h;cases h) (adR o2 wd _ (.tmp 27) (.const (.int .i64 1)) rfl go2_27 rfl (by omega)) ?_)
      obtain⟨o3,qo3⟩:∃x,x=o2.put (some 28) (.int .i64 ((p:Nat)+(1:Int))):=⟨_,rfl⟩
      have zo3:o3.tmps.size=36:=by rw[qo3,zaj];exact zo2
      have do3:o3.defers=[]:=by rw[qo3,zah];exact do2
      have go3_0:o3.tmps.getD 0 undef=(.int .i64 (f:Nat)):=by rw[qo3];exact (zaa (by decide)).trans go2_0
      have go3_1:o3.tmps.getD 1 undef=(.pointer (some ⟨(B+1),0,none⟩)):=by rw[qo3];exact (zaa (by decide)).trans go2_1
      have go3_2:o3.tmps.getD 2 undef=(.pointer (some ⟨bc,0,none⟩)):=by rw[qo3];exact (zaa (by decide)).trans go2_2
      have go3_3:o3.tmps.getD 3 undef=(.pointer (some ⟨B,0,none⟩)):=by rw[qo3];exact (zaa (by decide)).trans go2_3
      have go3_4:o3.tmps.getD 4 undef=(.pointer (some ⟨bn,0,none⟩)):=by rw[qo3];exact (zaa (by decide)).trans go2_4
      have go3_5:o3.tmps.getD 5 undef=(.pointer (some ⟨(B+2),0,none⟩)):=by rw[qo3];exact (zaa (by decide)).trans go2_5
      have go3_8:o3.tmps.getD 8 undef=(.int .i64 (p:Nat)):=by rw[qo3];exact (zaa (by decide)).trans go2_8
      have go3_26:o3.tmps.getD 26 undef=(.func (.func 179) #[] (capt B bc bn)):=by rw[qo3];exact (zaa (by decide)).trans go2_26
      have go3_27:o3.tmps.getD 27 undef=(.int .i64 (p:Nat)):=by rw[qo3];exact (zaa (by decide)).trans go2_27
      have go3_28:o3.tmps.getD 28 undef=(.int .i64 ((p:Nat)+(1:Int))):=by rw[qo3];exact zae (by rw[zo2];decide)
      change wpListIn (Fw none) 0 Tryz.prog _ _ _ (o2.put (some 28) (.int .i64 ((p:Nat)+(1:Int)))) wd
      rw[←qo3]
      have hc:=ih (p+1) s' (xs++[((p:Nat):Int)]) _ wd v' (by rw[List.length_append,List.length_singleton];omega) (by omega) (by rw[←hyv];exact H2) hJ2
      obtain⟨args,hargs⟩:∃x,x=(#[.int .i64 ((p+1:Nat):Int)]++capt B bc bn:Array Value):=⟨_,rfl⟩
      rw[←hargs] at hc
      refine zak rfl ?_
      refine zj0 (f:=179) (args:=args) ?_ ?_ (hc.mono ?_)
      · intro d h;cases h
      · obtain⟨fn,e1,e2,e3⟩:zdA Tryz.prog 179:=⟨Tryz.f179,Tryz.func179,by kernel_rfl,by kernel_rfl⟩
        have e2':¬fn.name = "runtime.NumGoroutine" := by simpa using e2
        have e3':¬fn.body=none:=by intro hn;rw[hn] at e3;cases e3
        rw[hargs]
        simp[execOp,resolve,Deferred.ofValue,ev,go3_26,go3_28,invoke,callFunc,e1,e2',e3',capt]
      rintro e we (⟨rfl,hJ3,v3,H3⟩|⟨rfl,hJx⟩)
      · refine ⟨.bool true,rfl,?_⟩
        rw[←hyv] at H3
        obtain⟨ls,c,hv3,hlc3,hld3⟩:=zyX H3.ld
        obtain⟨ot1,qot1⟩:∃x,x=o3.put (some 29) (.bool true):=⟨_,rfl⟩
        have zot1:ot1.tmps.size=36:=by rw[qot1,zaj];exact zo3
        have dot1:ot1.defers=[]:=by rw[qot1,zah];exact do3
        have got1_0:ot1.tmps.getD 0 undef=(.int .i64 (f:Nat)):=by rw[qot1];exact (zaa (by decide)).trans go3_0
        have got1_1:ot1.tmps.getD 1 undef=(.pointer (some ⟨(B+1),0,none⟩)):=by rw[qot1];exact (zaa (by decide)).trans go3_1
        have got1_2:ot1.tmps.getD 2 undef=(.pointer (some ⟨bc,0,none⟩)):=by rw[qot1];exact (zaa (by decide)).trans go3_2
        have got1_3:ot1.tmps.getD 3 undef=(.pointer (some ⟨B,0,none⟩)):=by rw[qot1];exact (zaa (by decide)).trans go3_3
        have got1_4:ot1.tmps.getD 4 undef=(.pointer (some ⟨bn,0,none⟩)):=by rw[qot1];exact (zaa (by decide)).trans go3_4
        have got1_5:ot1.tmps.getD 5 undef=(.pointer (some ⟨(B+2),0,none⟩)):=by rw[qot1];exact (zaa (by decide)).trans go3_5
        have got1_8:ot1.tmps.getD 8 undef=(.int .i64 (p:Nat)):=by rw[qot1];exact (zaa (by decide)).trans go3_8
        have got1_26:ot1.tmps.getD 26 undef=(.func (.func 179) #[] (capt B bc bn)):=by rw[qot1];exact (zaa (by decide)).trans go3_26
        have got1_27:ot1.tmps.getD 27 undef=(.int .i64 (p:Nat)):=by rw[qot1];exact (zaa (by decide)).trans go3_27
        have got1_28:ot1.tmps.getD 28 undef=(.int .i64 ((p:Nat)+(1:Int))):=by rw[qot1];exact (zaa (by decide)).trans go3_28
        have got1_29:ot1.tmps.getD 29 undef=(.bool true):=by rw[qot1];exact zae (by rw[zo3];decide)
        change wpListIn (Fw none) 0 Tryz.prog _ _ _ (o3.put (some 29) (.bool true)) we
        rw[←qot1]
        refine zak rfl (zaV (by intro d h;cases h) (ntR ot1 we _ (.tmp 29) rfl got1_29) ?_)
        obtain⟨ot2,qot2⟩:∃x,x=ot1.put (some 30) (.bool false):=⟨_,rfl⟩
        have zot2:ot2.tmps.size=36:=by rw[qot2,zaj];exact zot1
        have dot2:ot2.defers=[]:=by rw[qot2,zah];exact dot1
        have got2_0:ot2.tmps.getD 0 undef=(.int .i64 (f:Nat)):=by rw[qot2];exact (zaa (by decide)).trans got1_0
        have got2_1:ot2.tmps.getD 1 undef=(.pointer (some ⟨(B+1),0,none⟩)):=by rw[qot2];exact (zaa (by decide)).trans got1_1
        have got2_2:ot2.tmps.getD 2 undef=(.pointer (some ⟨bc,0,none⟩)):=by rw[qot2];exact (zaa (by decide)).trans got1_2
        have got2_3:ot2.tmps.getD 3 undef=(.pointer (some ⟨B,0,none⟩)):=by rw[qot2];exact (zaa (by decide)).trans got1_3
        have got2_4:ot2.tmps.getD 4 undef=(.pointer (some ⟨bn,0,none⟩)):=by rw[qot2];exact (zaa (by decide)).trans got1_4
        have got2_5:ot2.tmps.getD 5 undef=(.pointer (some ⟨(B+2),0,none⟩)):=by rw[qot2];exact (zaa (by decide)).trans got1_5
        have got2_8:ot2.tmps.getD 8 undef=(.int .i64 (p:Nat)):=by rw[qot2];exact (zaa (by decide)).trans got1_8
        have got2_26:ot2.tmps.getD 26 undef=(.func (.func 179) #[] (capt B bc bn)):=by rw[qot2];exact (zaa (by decide)).trans got1_26
        have got2_27:ot2.tmps.getD 27 undef=(.int .i64 (p:Nat)):=by rw[qot2];exact (zaa (by decide)).trans got1_27
        have got2_28:ot2.tmps.getD 28 undef=(.int .i64 ((p:Nat)+(1:Int))):=by rw[qot2];exact (zaa (by decide)).trans got1_28
        have got2_29:ot2.tmps.getD 29 undef=(.bool true):=by rw[qot2];exact (zaa (by decide)).trans got1_29
        have got2_30:ot2.tmps.getD 30 undef=(.bool false):=by rw[qot2];exact zae (by rw[zot1];decide)
        change wpListIn (Fw none) 0 Tryz.prog _ _ _ (ot1.put (some 30) (.bool false)) we
        rw[←qot2]
        have R7:RS ot2 f B bc bn:=⟨zot2,dot2,got2_0,got2_1,got2_2,got2_3,got2_4,got2_5⟩
        have h8a:=got2_8
        have h30:=got2_30
        refine zaW (wpIn_cond_false h30 (wpIn_skip ?_))
        change Code.wpIn (Fw none) 0 Tryz.prog N9 _ ot2 we
        refine wpIn_region_list ?_
        refine zak rfl (zaV (by intro d h;cases h) (ld76 ot2 we _ (.tmp 1) rfl R7.s1 H3.hl rfl) ?_)
        obtain⟨r1,qr1⟩:∃x,x=ot2.put (some 31) v3:=⟨_,rfl⟩
        have zr1:r1.tmps.size=36:=by rw[qr1,zaj];exact R7.size
        have dr1:r1.defers=[]:=by rw[qr1,zah];exact R7.defers
        have gr1_0:r1.tmps.getD 0 undef=(.int .i64 (f:Nat)):=by rw[qr1];exact (zaa (by decide)).trans R7.s0
        have gr1_1:r1.tmps.getD 1 undef=(.pointer (some ⟨(B+1),0,none⟩)):=by rw[qr1];exact (zaa (by decide)).trans R7.s1
        have gr1_2:r1.tmps.getD 2 undef=(.pointer (some ⟨bc,0,none⟩)):=by rw[qr1];exact (zaa (by decide)).trans R7.s2
        have gr1_3:r1.tmps.getD 3 undef=(.pointer (some ⟨B,0,none⟩)):=by rw[qr1];exact (zaa (by decide)).trans R7.s3
        have gr1_4:r1.tmps.getD 4 undef=(.pointer (some ⟨bn,0,none⟩)):=by rw[qr1];exact (zaa (by decide)).trans R7.s4
        have gr1_5:r1.tmps.getD 5 undef=(.pointer (some ⟨(B+2),0,none⟩)):=by rw[qr1];exact (zaa (by decide)).trans R7.s5
        have gr1_8:r1.tmps.getD 8 undef=(.int .i64 (p:Nat)):=by rw[qr1];exact (zaa (by decide)).trans h8a
        have gr1_31:r1.tmps.getD 31 undef=v3:=by rw[qr1];exact zae (by rw[R7.size];decide)
        change wpListIn (Fw none) 0 Tryz.prog _ _ _ (ot2.put (some 31) v3) we
        rw[←qr1]
        refine zak rfl (zaV (by intro d h;cases h) (ld76 r1 we _ (.tmp 1) rfl gr1_1 H3.hl rfl) ?_)
        obtain⟨r2,qr2⟩:∃x,x=r1.put (some 32) v3:=⟨_,rfl⟩
        have zr2:r2.tmps.size=36:=by rw[qr2,zaj];exact zr1
        have dr2:r2.defers=[]:=by rw[qr2,zah];exact dr1
        have gr2_0:r2.tmps.getD 0 undef=(.int .i64 (f:Nat)):=by rw[qr2];exact (zaa (by decide)).trans gr1_0
        have gr2_1:r2.tmps.getD 1 undef=(.pointer (some ⟨(B+1),0,none⟩)):=by rw[qr2];exact (zaa (by decide)).trans gr1_1
        have gr2_2:r2.tmps.getD 2 undef=(.pointer (some ⟨bc,0,none⟩)):=by rw[qr2];exact (zaa (by decide)).trans gr1_2
        have gr2_3:r2.tmps.getD 3 undef=(.pointer (some ⟨B,0,none⟩)):=by rw[qr2];exact (zaa (by decide)).trans gr1_3
        have gr2_4:r2.tmps.getD 4 undef=(.pointer (some ⟨bn,0,none⟩)):=by rw[qr2];exact (zaa (by decide)).trans gr1_4
        have gr2_5:r2.tmps.getD 5 undef=(.pointer (some ⟨(B+2),0,none⟩)):=by rw[qr2];exact (zaa (by decide)).trans gr1_5
        have gr2_8:r2.tmps.getD 8 undef=(.int .i64 (p:Nat)):=by rw[qr2];exact (zaa (by decide)).trans gr1_8
        have gr2_31:r2.tmps.getD 31 undef=v3:=by rw[qr2];exact (zaa (by decide)).trans gr1_31
        have gr2_32:r2.tmps.getD 32 undef=v3:=by rw[qr2];exact zae (by rw[zr1];decide)
        change wpListIn (Fw none) 0 Tryz.prog _ _ _ (r1.put (some 32) v3) we
        rw[←qr2]
        refine zak rfl (zaV (by intro d h;cases h) (lnR Tryz.underlying76 r2 we _ (.tmp 32) rfl (gr2_32.trans hv3)) ?_)
        obtain⟨r3,qr3⟩:∃x,x=r2.put (some 33) (.int .i64 ((xs.length+1:Nat))):=⟨_,rfl⟩
        have zr3:r3.tmps.size=36:=by rw[qr3,zaj];exact zr2
        have dr3:r3.defers=[]:=by rw[qr3,zah];exact dr2
        have gr3_0:r3.tmps.getD 0 undef=(.int .i64 (f:Nat)):=by rw[qr3];exact (zaa (by decide)).trans gr2_0
        have gr3_1:r3.tmps.getD 1 undef=(.pointer (some ⟨(B+1),0,none⟩)):=by rw[qr3];exact (zaa (by decide)).trans gr2_1
        have gr3_2:r3.tmps.getD 2 undef=(.pointer (some ⟨bc,0,none⟩)):=by rw[qr3];exact (zaa (by decide)).trans gr2_2
        have gr3_3:r3.tmps.getD 3 undef=(.pointer (some ⟨B,0,none⟩)):=by rw[qr3];exact (zaa (by decide)).trans gr2_3
        have gr3_4:r3.tmps.getD 4 undef=(.pointer (some ⟨bn,0,none⟩)):=by rw[qr3];exact (zaa (by decide)).trans gr2_4
        have gr3_5:r3.tmps.getD 5 undef=(.pointer (some ⟨(B+2),0,none⟩)):=by rw[qr3];exact (zaa (by decide)).trans gr2_5
        have gr3_8:r3.tmps.getD 8 undef=(.int .i64 (p:Nat)):=by rw[qr3];exact (zaa (by decide)).trans gr2_8
        have gr3_31:r3.tmps.getD 31 undef=v3:=by rw[qr3];exact (zaa (by decide)).trans gr2_31
        have gr3_32:r3.tmps.getD 32 undef=v3:=by rw[qr3];exact (zaa (by decide)).trans gr2_32
        have gr3_33:r3.tmps.getD 33 undef=(.int .i64 ((xs.length+1:Nat))):=by rw[qr3];exact zae (by rw[zr2];decide)
        change wpListIn (Fw none) 0 Tryz.prog _ _ _ (r2.put (some 33) (.int .i64 ((xs.length+1:Nat)))) we
        rw[←qr3]
        refine zak rfl (zaV (by intro d h;cases h) (suR r3 we _ (.tmp 33) (.const (.int .i64 1)) rfl gr3_33 rfl (by omega)) ?_)
        obtain⟨r4,qr4⟩:∃x,x=r3.put (some 34) (.int .i64 (((xs.length+1:Nat):Int) - 1)):=⟨_,rfl⟩
        have zr4:r4.tmps.size=36:=by rw[qr4,zaj];exact zr3
        have dr4:r4.defers=[]:=by rw[qr4,zah];exact dr3
        have gr4_0:r4.tmps.getD 0 undef=(.int .i64 (f:Nat)):=by rw[qr4];exact (zaa (by decide)).trans gr3_0
        have gr4_1:r4.tmps.getD 1 undef=(.pointer (some ⟨(B+1),0,none⟩)):=by rw[qr4];exact (zaa (by decide)).trans gr3_1
        have gr4_2:r4.tmps.getD 2 undef=(.pointer (some ⟨bc,0,none⟩)):=by rw[qr4];exact (zaa (by decide)).trans gr3_2
        have gr4_3:r4.tmps.getD 3 undef=(.pointer (some ⟨B,0,none⟩)):=by rw[qr4];exact (zaa (by decide)).trans gr3_3
        have gr4_4:r4.tmps.getD 4 undef=(.pointer (some ⟨bn,0,none⟩)):=by rw[qr4];exact (zaa (by decide)).trans gr3_4
        have gr4_5:r4.tmps.getD 5 undef=(.pointer (some ⟨(B+2),0,none⟩)):=by rw[qr4];exact (zaa (by decide)).trans gr3_5
        have gr4_8:r4.tmps.getD 8 undef=(.int .i64 (p:Nat)):=by rw[qr4];exact (zaa (by decide)).trans gr3_8
        have gr4_31:r4.tmps.getD 31 undef=v3:=by rw[qr4];exact (zaa (by decide)).trans gr3_31
        have gr4_32:r4.tmps.getD 32 undef=v3:=by rw[qr4];exact (zaa (by decide)).trans gr3_32
        have gr4_33:r4.tmps.getD 33 undef=(.int .i64 ((xs.length+1:Nat))):=by rw[qr4];exact (zaa (by decide)).trans gr3_33
        have gr4_34:r4.tmps.getD 34 undef=(.int .i64 (((xs.length+1:Nat):Int) - 1)):=by rw[qr4];exact zae (by rw[zr3];decide)
        change wpListIn (Fw none) 0 Tryz.prog _ _ _ (r3.put (some 34) (.int .i64 (((xs.length+1:Nat):Int) - 1))) we
        rw[←qr4]
        refine zak rfl (zaV (by intro d h;cases h) (slR r4 we _ (.tmp 31) (.tmp 34) rfl (gr4_31.trans hv3) (gr4_34.trans (by rw[show ((xs.length+1:Nat):Int) - 1=(xs.length:Nat) by omega])) hlc3) ?_)
        obtain⟨r5,qr5⟩:∃x,x=r4.put (some 35) (.slice (some ⟨ls,0,none⟩) xs.length c):=⟨_,rfl⟩
        have zr5:r5.tmps.size=36:=by rw[qr5,zaj];exact zr4
        have dr5:r5.defers=[]:=by rw[qr5,zah];exact dr4
        have gr5_0:r5.tmps.getD 0 undef=(.int .i64 (f:Nat)):=by rw[qr5];exact (zaa (by decide)).trans gr4_0
        have gr5_1:r5.tmps.getD 1 undef=(.pointer (some ⟨(B+1),0,none⟩)):=by rw[qr5];exact (zaa (by decide)).trans gr4_1
        have gr5_2:r5.tmps.getD 2 undef=(.pointer (some ⟨bc,0,none⟩)):=by rw[qr5];exact (zaa (by decide)).trans gr4_2
        have gr5_3:r5.tmps.getD 3 undef=(.pointer (some ⟨B,0,none⟩)):=by rw[qr5];exact (zaa (by decide)).trans gr4_3
        have gr5_4:r5.tmps.getD 4 undef=(.pointer (some ⟨bn,0,none⟩)):=by rw[qr5];exact (zaa (by decide)).trans gr4_4
        have gr5_5:r5.tmps.getD 5 undef=(.pointer (some ⟨(B+2),0,none⟩)):=by rw[qr5];exact (zaa (by decide)).trans gr4_5
        have gr5_8:r5.tmps.getD 8 undef=(.int .i64 (p:Nat)):=by rw[qr5];exact (zaa (by decide)).trans gr4_8
        have gr5_31:r5.tmps.getD 31 undef=v3:=by rw[qr5];exact (zaa (by decide)).trans gr4_31
        have gr5_32:r5.tmps.getD 32 undef=v3:=by rw[qr5];exact (zaa (by decide)).trans gr4_32
        have gr5_33:r5.tmps.getD 33 undef=(.int .i64 ((xs.length+1:Nat))):=by rw[qr5];exact (zaa (by decide)).trans gr4_33
        have gr5_34:r5.tmps.getD 34 undef=(.int .i64 (((xs.length+1:Nat):Int) - 1)):=by rw[qr5];exact (zaa (by decide)).trans gr4_34
        have gr5_35:r5.tmps.getD 35 undef=(.slice (some ⟨ls,0,none⟩) xs.length c):=by rw[qr5];exact zae (by rw[zr4];decide)
        change wpListIn (Fw none) 0 Tryz.prog _ _ _ (r4.put (some 35) (.slice (some ⟨ls,0,none⟩) xs.length c)) we
        rw[←qr5]
        refine zak rfl (zk2 (by intro d h;cases h) (st76 r5 we _ (.tmp 1) (.tmp 35) rfl gr5_1 gr5_35 H3.hl Nat.zero_lt_one) ?_)
        obtain⟨wf,hwf⟩:∃x,x=we.setRow (B+1) ((#[v3]:Array Value).set! 0 (.slice (some ⟨ls,0,none⟩) xs.length c)):=⟨_,rfl⟩
        change wpListIn (Fw none) 0 Tryz.prog _ _ _ r5 (we.setRow (B+1) ((#[v3]:Array Value).set! 0 (.slice (some ⟨ls,0,none⟩) xs.length c)))
        rw[←hwf]
        refine zaW ?_
        have R9:RS r5 f B bc bn:=⟨zr5,dr5,gr5_0,gr5_1,gr5_2,gr5_3,gr5_4,gr5_5⟩
        have h8b:=gr5_8
        change Code.wpIn (Fw none) 0 Tryz.prog N5 _ r5 wf
        refine wpIn_region_list ?_
        refine zak rfl (zaV (by intro d h;cases h) (mvR r5 wf _ (.tmp 8) rfl h8b) ?_)
        obtain⟨s1,qs1⟩:∃x,x=r5.put (some 20) (.int .i64 (p:Nat)):=⟨_,rfl⟩
        have zs1:s1.tmps.size=36:=by rw[qs1,zaj];exact R9.size
        have ds1:s1.defers=[]:=by rw[qs1,zah];exact R9.defers
        have gs1_0:s1.tmps.getD 0 undef=(.int .i64 (f:Nat)):=by rw[qs1];exact (zaa (by decide)).trans R9.s0
        have gs1_1:s1.tmps.getD 1 undef=(.pointer (some ⟨(B+1),0,none⟩)):=by rw[qs1];exact (zaa (by decide)).trans R9.s1
        have gs1_2:s1.tmps.getD 2 undef=(.pointer (some ⟨bc,0,none⟩)):=by rw[qs1];exact (zaa (by decide)).trans R9.s2
        have gs1_3:s1.tmps.getD 3 undef=(.pointer (some ⟨B,0,none⟩)):=by rw[qs1];exact (zaa (by decide)).trans R9.s3
        have gs1_4:s1.tmps.getD 4 undef=(.pointer (some ⟨bn,0,none⟩)):=by rw[qs1];exact (zaa (by decide)).trans R9.s4
        have gs1_5:s1.tmps.getD 5 undef=(.pointer (some ⟨(B+2),0,none⟩)):=by rw[qs1];exact (zaa (by decide)).trans R9.s5
        have gs1_8:s1.tmps.getD 8 undef=(.int .i64 (p:Nat)):=by rw[qs1];exact (zaa (by decide)).trans h8b
        have gs1_20:s1.tmps.getD 20 undef=(.int .i64 (p:Nat)):=by rw[qs1];exact zae (by rw[R9.size];decide)
        change wpListIn (Fw none) 0 Tryz.prog _ _ _ (r5.put (some 20) (.int .i64 (p:Nat))) wf
        rw[←qs1]
        refine zak rfl (zaV (by intro d h;cases h) (adN s1 wf _ (.tmp 20) (.const (.int .i64 1)) rfl gs1_20 rfl (by omega)) ?_)
        obtain⟨s2,qs2⟩:∃x,x=s1.put (some 21) (.int .i64 ((p+1:Nat))):=⟨_,rfl⟩
        have zs2:s2.tmps.size=36:=by rw[qs2,zaj];exact zs1
        have ds2:s2.defers=[]:=by rw[qs2,zah];exact ds1
        have gs2_0:s2.tmps.getD 0 undef=(.int .i64 (f:Nat)):=by rw[qs2];exact (zaa (by decide)).trans gs1_0
        have gs2_1:s2.tmps.getD 1 undef=(.pointer (some ⟨(B+1),0,none⟩)):=by rw[qs2];exact (zaa (by decide)).trans gs1_1
        have gs2_2:s2.tmps.getD 2 undef=(.pointer (some ⟨bc,0,none⟩)):=by rw[qs2];exact (zaa (by decide)).trans gs1_2
        have gs2_3:s2.tmps.getD 3 undef=(.pointer (some ⟨B,0,none⟩)):=by rw[qs2];exact (zaa (by decide)).trans gs1_3
        have gs2_4:s2.tmps.getD 4 undef=(.pointer (some ⟨bn,0,none⟩)):=by rw[qs2];exact (zaa (by decide)).trans gs1_4
        have gs2_5:s2.tmps.getD 5 undef=(.pointer (some ⟨(B+2),0,none⟩)):=by rw[qs2];exact (zaa (by decide)).trans gs1_5
        have gs2_8:s2.tmps.getD 8 undef=(.int .i64 (p:Nat)):=by rw[qs2];exact (zaa (by decide)).trans gs1_8
        have gs2_20:s2.tmps.getD 20 undef=(.int .i64 (p:Nat)):=by rw[qs2];exact (zaa (by decide)).trans gs1_20
        have gs2_21:s2.tmps.getD 21 undef=(.int .i64 ((p+1:Nat))):=by rw[qs2];exact zae (by rw[zs1];decide)
        change wpListIn (Fw none) 0 Tryz.prog _ _ _ (s1.put (some 21) (.int .i64 ((p+1:Nat)))) wf
        rw[←qs2]
        refine zak rfl (zaV (by intro d h;cases h) (asR s2 wf _ (.tmp 21) rfl gs2_21) ?_)
        obtain⟨s3,qs3⟩:∃x,x=s2.put (some 8) (.int .i64 ((p+1:Nat))):=⟨_,rfl⟩
        have zs3:s3.tmps.size=36:=by rw[qs3,zaj];exact zs2
        have ds3:s3.defers=[]:=by rw[qs3,zah];exact ds2
        have gs3_0:s3.tmps.getD 0 undef=(.int .i64 (f:Nat)):=by rw[qs3];exact (zaa (by decide)).trans gs2_0
        have gs3_1:s3.tmps.getD 1 undef=(.pointer (some ⟨(B+1),0,none⟩)):=by rw[qs3];exact (zaa (by decide)).trans gs2_1
        have gs3_2:s3.tmps.getD 2 undef=(.pointer (some ⟨bc,0,none⟩)):=by rw[qs3];exact (zaa (by decide)).trans gs2_2
        have gs3_3:s3.tmps.getD 3 undef=(.pointer (some ⟨B,0,none⟩)):=by rw[qs3];exact (zaa (by decide)).trans gs2_3
        have gs3_4:s3.tmps.getD 4 undef=(.pointer (some ⟨bn,0,none⟩)):=by rw[qs3];exact (zaa (by decide)).trans gs2_4
        have gs3_5:s3.tmps.getD 5 undef=(.pointer (some ⟨(B+2),0,none⟩)):=by rw[qs3];exact (zaa (by decide)).trans gs2_5
        have gs3_20:s3.tmps.getD 20 undef=(.int .i64 (p:Nat)):=by rw[qs3];exact (zaa (by decide)).trans gs2_20
        have gs3_21:s3.tmps.getD 21 undef=(.int .i64 ((p+1:Nat))):=by rw[qs3];exact (zaa (by decide)).trans gs2_21
        have gs3_8:s3.tmps.getD 8 undef=(.int .i64 ((p+1:Nat))):=by rw[qs3];exact zae (by rw[zs2];decide)
        change wpListIn (Fw none) 0 Tryz.prog _ _ _ (s2.put (some 8) (.int .i64 ((p+1:Nat)))) wf
        rw[←qs3]
        have R10:RS s3 f B bc bn:=⟨zs3,ds3,gs3_0,gs3_1,gs3_2,gs3_3,gs3_4,gs3_5⟩
        have h8c:=gs3_8
        refine zaW ?_
        have H4:HC B bc bn yv wf (.slice (some ⟨ls,0,none⟩) xs.length c) xs:=by
          rw[hwf]
          exact⟨(setRow_other we (B+1) B _ (by omega)).trans H3.hy,setRow_heap we (B+1) _ _ 76 (0,0) H3.hl,(setRow_other we (B+1) (B+2) _ (by omega)).trans H3.hm,znZ hld3 fun b hb hs=>setRow_other we (B+1) b _ (by omega)⟩
        exact⟨s',Nat.lt_succ_self s',p+1,s',_,by omega,rfl,R10,h8c,H4,hY.below _ _ _ hJ3 (by rw[hwf];exact zfl (by omega))⟩
      · refine⟨.bool false,rfl,?_⟩
        obtain⟨of1,qof1⟩:∃x,x=o3.put (some 29) (.bool false):=⟨_,rfl⟩
        have zof1:of1.tmps.size=36:=by rw[qof1,zaj];exact zo3
        have dof1:of1.defers=[]:=by rw[qof1,zah];exact do3
        have gof1_0:of1.tmps.getD 0 undef=(.int .i64 (f:Nat)):=by rw[qof1];exact (zaa (by decide)).trans go3_0
        have gof1_1:of1.tmps.getD 1 undef=(.pointer (some ⟨(B+1),0,none⟩)):=by rw[qof1];exact (zaa (by decide)).trans go3_1
        have gof1_2:of1.tmps.getD 2 undef=(.pointer (some ⟨bc,0,none⟩)):=by rw[qof1];exact (zaa (by decide)).trans go3_2
        have gof1_3:of1.tmps.getD 3 undef=(.pointer (some ⟨B,0,none⟩)):=by rw[qof1];exact (zaa (by decide)).trans go3_3
        have gof1_4:of1.tmps.getD 4 undef=(.pointer (some ⟨bn,0,none⟩)):=by rw[qof1];exact (zaa (by decide)).trans go3_4
        have gof1_5:of1.tmps.getD 5 undef=(.pointer (some ⟨(B+2),0,none⟩)):=by rw[qof1];exact (zaa (by decide)).trans go3_5
        have gof1_8:of1.tmps.getD 8 undef=(.int .i64 (p:Nat)):=by rw[qof1];exact (zaa (by decide)).trans go3_8
        have gof1_26:of1.tmps.getD 26 undef=(.func (.func 179) #[] (capt B bc bn)):=by rw[qof1];exact (zaa (by decide)).trans go3_26
        have gof1_27:of1.tmps.getD 27 undef=(.int .i64 (p:Nat)):=by rw[qof1];exact (zaa (by decide)).trans go3_27
        have gof1_28:of1.tmps.getD 28 undef=(.int .i64 ((p:Nat)+(1:Int))):=by rw[qof1];exact (zaa (by decide)).trans go3_28
        have gof1_29:of1.tmps.getD 29 undef=(.bool false):=by rw[qof1];exact zae (by rw[zo3];decide)
        change wpListIn (Fw none) 0 Tryz.prog _ _ _ (o3.put (some 29) (.bool false)) we
        rw[←qof1]
        refine zak rfl (zaV (by intro d h;cases h) (ntR of1 we _ (.tmp 29) rfl gof1_29) ?_)
        obtain⟨of2,qof2⟩:∃x,x=of1.put (some 30) (.bool true):=⟨_,rfl⟩
        have zof2:of2.tmps.size=36:=by rw[qof2,zaj];exact zof1
        have dof2:of2.defers=[]:=by rw[qof2,zah];exact dof1
        have gof2_0:of2.tmps.getD 0 undef=(.int .i64 (f:Nat)):=by rw[qof2];exact (zaa (by decide)).trans gof1_0
        have gof2_1:of2.tmps.getD 1 undef=(.pointer (some ⟨(B+1),0,none⟩)):=by rw[qof2];exact (zaa (by decide)).trans gof1_1
        have gof2_2:of2.tmps.getD 2 undef=(.pointer (some ⟨bc,0,none⟩)):=by rw[qof2];exact (zaa (by decide)).trans gof1_2
        have gof2_3:of2.tmps.getD 3 undef=(.pointer (some ⟨B,0,none⟩)):=by rw[qof2];exact (zaa (by decide)).trans gof1_3
        have gof2_4:of2.tmps.getD 4 undef=(.pointer (some ⟨bn,0,none⟩)):=by rw[qof2];exact (zaa (by decide)).trans gof1_4
        have gof2_5:of2.tmps.getD 5 undef=(.pointer (some ⟨(B+2),0,none⟩)):=by rw[qof2];exact (zaa (by decide)).trans gof1_5
        have gof2_8:of2.tmps.getD 8 undef=(.int .i64 (p:Nat)):=by rw[qof2];exact (zaa (by decide)).trans gof1_8
        have gof2_26:of2.tmps.getD 26 undef=(.func (.func 179) #[] (capt B bc bn)):=by rw[qof2];exact (zaa (by decide)).trans gof1_26
        have gof2_27:of2.tmps.getD 27 undef=(.int .i64 (p:Nat)):=by rw[qof2];exact (zaa (by decide)).trans gof1_27
        have gof2_28:of2.tmps.getD 28 undef=(.int .i64 ((p:Nat)+(1:Int))):=by rw[qof2];exact (zaa (by decide)).trans gof1_28
        have gof2_29:of2.tmps.getD 29 undef=(.bool false):=by rw[qof2];exact (zaa (by decide)).trans gof1_29
        have gof2_30:of2.tmps.getD 30 undef=(.bool true):=by rw[qof2];exact zae (by rw[zof1];decide)
        change wpListIn (Fw none) 0 Tryz.prog _ _ _ (of1.put (some 30) (.bool true)) we
        rw[←qof2]
        have R7:RS of2 f B bc bn:=⟨zof2,dof2,gof2_0,gof2_1,gof2_2,gof2_3,gof2_4,gof2_5⟩
        have h8a:=gof2_8
        have h30:=gof2_30
        refine zaW (wpIn_cond_true h30 (wpIn_seq ?_))
        change Code.wpIn (Fw none) 0 Tryz.prog N8 _ of2 we
        refine wpIn_region_list ?_
        refine zak rfl (zaV (by intro d h;cases h) (asR of2 we _ (.const (.bool false)) rfl rfl) ?_)
        obtain⟨e1,qe1⟩:∃x,x=of2.put (some 7) (.bool false):=⟨_,rfl⟩
        have ze1:e1.tmps.size=36:=by rw[qe1,zaj];exact R7.size
        have de1:e1.defers=[]:=by rw[qe1,zah];exact R7.defers
        have ge1_0:e1.tmps.getD 0 undef=(.int .i64 (f:Nat)):=by rw[qe1];exact (zaa (by decide)).trans R7.s0
        have ge1_1:e1.tmps.getD 1 undef=(.pointer (some ⟨(B+1),0,none⟩)):=by rw[qe1];exact (zaa (by decide)).trans R7.s1
        have ge1_2:e1.tmps.getD 2 undef=(.pointer (some ⟨bc,0,none⟩)):=by rw[qe1];exact (zaa (by decide)).trans R7.s2
        have ge1_3:e1.tmps.getD 3 undef=(.pointer (some ⟨B,0,none⟩)):=by rw[qe1];exact (zaa (by decide)).trans R7.s3
        have ge1_4:e1.tmps.getD 4 undef=(.pointer (some ⟨bn,0,none⟩)):=by rw[qe1];exact (zaa (by decide)).trans R7.s4
        have ge1_5:e1.tmps.getD 5 undef=(.pointer (some ⟨(B+2),0,none⟩)):=by rw[qe1];exact (zaa (by decide)).trans R7.s5
        have ge1_7:e1.tmps.getD 7 undef=(.bool false):=by rw[qe1];exact zae (by rw[R7.size];decide)
        change wpListIn (Fw none) 0 Tryz.prog _ _ _ (of2.put (some 7) (.bool false)) we
        rw[←qe1]
        refine zaW (wpIn_ret ?_)
        refine (show bodyPost Tryz.prog Tryz.f179 (fun e W'=>(e=.returned (.bool true)∧J rest W'∧∃v',HC B bc bn (.func (.yield l) #[] #[]) W' v' xs)∨(e=.returned (.bool false)∧Jx W')) .ret e1 we from ?_)
        exact ret1 de1 ge1_7 (.inr ⟨rfl,hJx⟩)
    · have h19:l3.eval (.tmp 19)=.bool false:=h19.trans (by rw[decide_eq_false (by omega)])
      refine wpIn_cond_false h19 (wpIn_exit ?_)
      change Code.wpIn (Fw none) 0 Tryz.prog (.seq N10 .ret) _ l3 w
      refine wpIn_seq (wpIn_region_list ?_)
      refine zak rfl (zaV (by intro d h;cases h) (asR l3 w _ (.const (.bool true)) rfl rfl) ?_)
      obtain⟨x1,qx1⟩:∃x,x=l3.put (some 7) (.bool true):=⟨_,rfl⟩
      have zx1:x1.tmps.size=36:=by rw[qx1,zaj];exact R4.size
      have dx1:x1.defers=[]:=by rw[qx1,zah];exact R4.defers
      have gx1_0:x1.tmps.getD 0 undef=(.int .i64 (f:Nat)):=by rw[qx1];exact (zaa (by decide)).trans R4.s0
      have gx1_1:x1.tmps.getD 1 undef=(.pointer (some ⟨(B+1),0,none⟩)):=by rw[qx1];exact (zaa (by decide)).trans R4.s1
      have gx1_2:x1.tmps.getD 2 undef=(.pointer (some ⟨bc,0,none⟩)):=by rw[qx1];exact (zaa (by decide)).trans R4.s2
      have gx1_3:x1.tmps.getD 3 undef=(.pointer (some ⟨B,0,none⟩)):=by rw[qx1];exact (zaa (by decide)).trans R4.s3
      have gx1_4:x1.tmps.getD 4 undef=(.pointer (some ⟨bn,0,none⟩)):=by rw[qx1];exact (zaa (by decide)).trans R4.s4
      have gx1_5:x1.tmps.getD 5 undef=(.pointer (some ⟨(B+2),0,none⟩)):=by rw[qx1];exact (zaa (by decide)).trans R4.s5
      have gx1_7:x1.tmps.getD 7 undef=(.bool true):=by rw[qx1];exact zae (by rw[R4.size];decide)
      change wpListIn (Fw none) 0 Tryz.prog _ _ _ (l3.put (some 7) (.bool true)) w
      rw[←qx1]
      refine zaW (wpIn_ret ?_)
      refine (show bodyPost Tryz.prog Tryz.f179 (fun e W'=>(e=.returned (.bool true)∧J rest W'∧∃v',HC B bc bn (.func (.yield l) #[] #[]) W' v' xs)∨(e=.returned (.bool false)∧Jx W')) .ret x1 w from ?_)
      refine ret1 dx1 gx1_7 (.inl ⟨rfl,?_,v,by rw[←hyv];exact H⟩)
      have e:s=0:=by omega
      subst e
      simpa [zcn] using hJ
end Go.Eng.Ar
namespace Go.Eng.Ar
open Go.Eng Go.Proofs Go
set_option linter.all false
set_option maxRecDepth 100000
set_option maxHeartbeats 2000000
theorem zsp:Tryz.prog.info? 202=some Tryz.t202:=by kernel_rfl
theorem zvK:Tryz.t202.size=1:=by kernel_rfl
theorem zvC:Tryz.t202.zero=some .nilFunc:=by kernel_rfl
theorem zwB:Tryz.prog.info? 234=some Tryz.t234:=by kernel_rfl
theorem zvJ:Tryz.t234.size=1:=by kernel_rfl
theorem zAR (a:Act) (w:World) (o:Oper) (x:Operand) (ho:o.op=.box 234 x) {fn:Fn} {p q:Array Value} (hx:a.eval x=.func fn p q):(execOp a.eval o).run Tryz.prog w=.ok (.value (.pointer (some ⟨w.heap.size,0,none⟩))) (w.alloc (.cells #[.func fn p q] 234 (0,0))):=by
  simp[execOp,ho,hx,Instr.box,sizeOf,typeInfo,zwB,zvJ,newVar,zvz,newRow,Value.cells]
theorem al76 (a:Act) (w:World) (o:Oper) (ho:o.op=.alloc 76):(execOp a.eval o).run Tryz.prog w=.ok (.value (.pointer (some ⟨w.heap.size,0,none⟩))) (w.alloc (.cells #[.slice none 0 0] 76 (0,0))):=by
  have hz:=zcS zro w
  simp[execOp,ho,hz,newRow,Value.cells]
  try rfl
theorem zAS (a:Act) (w:World) (o:Oper) (ho:o.op=.alloc 202):(execOp a.eval o).run Tryz.prog w=.ok (.value (.pointer (some ⟨w.heap.size,0,none⟩))) (w.alloc (.cells #[.nilFunc] 202 (0,0))):=by
  simp[execOp,ho,Instr.alloc,newRow,Value.cells,zeroValue,typeInfo,zsp,zvC,newVar,ztj]
theorem mfR (a:Act) (w:World) (o:Oper) (ho:o.op=.makeFunc (.func 179) #[] #[.tmp 4,.tmp 1,.tmp 3,.tmp 2,.tmp 5]) {v1 v2 v3 v4 v5:Value} (h4:a.eval (.tmp 4)=v1) (h1:a.eval (.tmp 1)=v2) (h3:a.eval (.tmp 3)=v3) (h2:a.eval (.tmp 2)=v4) (h5:a.eval (.tmp 5)=v5) :
    (execOp a.eval o).run Tryz.prog w=.ok (.value (.func (.func 179) #[] #[v1,v2,v3,v4,v5])) w:=by
  simp[execOp,ho,h1,h2,h3,h4,h5,Instr.makeFunc]
theorem zzU (a:Act) (w:World) (o:Oper) (x y:Operand) (ho:o.op=.store 202 x y) {b el:Nat} {u:Value} {fn:Fn} {p q:Array Value} (hx:a.eval x=.pointer (some ⟨b,0,none⟩)) (hy:a.eval y=.func fn p q) (hb:w.heap[b]?=some (.cells #[u] el (0,0))) :
    (execOp a.eval o).run Tryz.prog w=.ok .skip (w.setRow b #[.func fn p q]):=by
  have h1:=run_storeCells_at Tryz.prog b 0 el [.func fn p q] 0 #[u] w hb (by simp) (by simp[Value.oneCell'])
  have hst:(storeVar 202 ⟨b,0,none⟩ (.func fn p q)).run Tryz.prog w=.ok () (w.setRow b #[.func fn p q]):=by
    simp only[storeVar,Value.cells]
    simp[sizeOf,typeInfo,zsp,zvK]
    rw[h1];simp
  simp[execOp,ho,hx,hy,Instr.storeAt,Instr.sureAddr,hst]
noncomputable def b178:Code:=zcM Tryz.f178
noncomputable def C0:Code:=match b178 with | .seq x _=>x|c=>c
noncomputable def C1:Code:=match b178 with | .seq _ (.seq x _)=>x|c=>c
noncomputable def C2:Code:=match b178 with | .seq _ (.seq _ (.seq x _))=>x|c=>c
noncomputable def C3:Code:=match b178 with | .seq _ (.seq _ (.seq _ (.seq x _)))=>x|c=>c
noncomputable def C4:Code:=match b178 with | .seq _ (.seq _ (.seq _ (.seq _ x)))=>x|c=>c
theorem zw7:(Tryz.f178.body:Option Code)=some (.seq C0 (.seq C1 (.seq C2 (.seq C3 C4)))):=rfl
theorem zwA {n:Nat} (hn:n=9) {x0 x1 x2:Value} {a0:Act} (ha:a0 = {tmps:=(#[x0] ++ #[x1,x2])++Array.replicate (n - (#[x0] ++ #[x1,x2]).size) undef,defers:=[]}):a0.tmps.size=9∧a0.defers=[]∧a0.tmps.getD 0 undef=x0∧a0.tmps.getD 1 undef=x1∧a0.tmps.getD 2 undef=x2:=by
  subst hn
  have e:(#[x0] ++ #[x1,x2])++Array.replicate (9 - (#[x0] ++ #[x1,x2]).size) undef = #[x0,x1,x2]++Array.replicate 6 undef:=rfl
  rw[e] at ha
  rw[ha]
  refine⟨by simp,rfl,?_,?_,?_⟩<;>simp
theorem zee {w:World} {o:Obj} {B:Nat} (h:B=w.heap.size):(w.alloc o).heap[B]?=some o:=by
  subst h;show (w.heap.push o)[w.heap.size]?=_;simp
theorem zcX {w:World} {o p:Obj} {b:Nat} (h:w.heap[b]?=some p):(w.alloc o).heap[b]?=some p:=by
  show (w.heap.push o)[b]?=_
  rw[Array.getElem?_push,if_neg (Nat.ne_of_lt (zag h))];exact h
theorem zdp {w:World} {o:Obj}:(w.alloc o).heap.size=w.heap.size+1:=by
  show (w.heap.push o).size=_
  rw[Array.size_push]
theorem zqp {l B bc bn count numbers:Nat} {J:List (List Int)→World→Prop} {Jx:World→Prop} (hY:Yld l B bc bn count numbers J Jx) (hcn:count≤100∧0<count) (hnn:numbers≤100) (hbc:bc<B∧bn<B) (W:World) (hB:B=W.heap.size) (hJ:J (zcn count 0 numbers) W) :
    CallsIn (Fw none) 0 Tryz.prog 178 (#[Value.func (.yield l) #[] #[]] ++ #[Value.pointer (some ⟨bc,0,none⟩),Value.pointer (some ⟨bn,0,none⟩)]) W fun e W'=>(∃v,e=.returned v)∧(J [] W'∨Jx W'):=by
  refine callsIn_of_wp (F:=Fw none) (n:=0) (fn:=Tryz.f178) Tryz.func178 zw7 trivial ?_
  obtain⟨a0,ha0⟩:∃a0:Act,a0 = {tmps:=(#[Value.func (.yield l) #[] #[]] ++ #[Value.pointer (some ⟨bc,0,none⟩),Value.pointer (some ⟨bn,0,none⟩)])++Array.replicate (Tryz.f178.ntmps - (#[Value.func (.yield l) #[] #[]] ++ #[Value.pointer (some ⟨bc,0,none⟩),Value.pointer (some ⟨bn,0,none⟩)]).size) undef,defers:=[]}:=⟨_,rfl⟩
  rw[←ha0]
  obtain⟨za0,da0,g0,g1,g2⟩:=zwA rfl ha0
  clear ha0
  refine wpIn_seq (wpIn_region_list ?_)
  obtain⟨W1,hW1⟩:∃x,x=W.alloc (.cells #[.func (.yield l) #[] #[]] 234 (0,0)):=⟨_,rfl⟩
  refine zak rfl (zt0 (by intro d h;cases h) (zAR a0 W _ (.tmp 0) rfl g0) ?_)
  rw[←hW1]
  obtain⟨a1,qa1⟩:∃x,x=a0.put (some 3) (.pointer (some ⟨W.heap.size,0,none⟩)):=⟨_,rfl⟩
  have za1:a1.tmps.size=9:=by rw[qa1,zaj];exact za0
  have da1:a1.defers=[]:=by rw[qa1,zah];exact da0
  have ga1_0:a1.tmps.getD 0 undef=(.func (.yield l) #[] #[]):=by rw[qa1];exact (zaa (by decide)).trans g0
  have ga1_1:a1.tmps.getD 1 undef=(.pointer (some ⟨bc,0,none⟩)):=by rw[qa1];exact (zaa (by decide)).trans g1
  have ga1_2:a1.tmps.getD 2 undef=(.pointer (some ⟨bn,0,none⟩)):=by rw[qa1];exact (zaa (by decide)).trans g2
  have ga1_3:a1.tmps.getD 3 undef=(.pointer (some ⟨W.heap.size,0,none⟩)):=by rw[qa1];exact zae (by rw[za0];decide)
  change wpListIn (Fw none) 0 Tryz.prog _ _ _ (a0.put (some 3) (.pointer (some ⟨W.heap.size,0,none⟩))) W1
  rw[←qa1]
  have eW1:W.heap.size=B:=by exact hB.symm
  rw[eW1] at ga1_3
  refine zaW (wpIn_seq (wpIn_region_list ?_))
  obtain⟨W2,hW2⟩:∃x,x=W1.alloc (.cells #[.slice none 0 0] 76 (0,0)):=⟨_,rfl⟩
  refine zak rfl (zt0 (by intro d h;cases h) (al76 a1 W1 _ rfl) ?_)
  rw[←hW2]
  obtain⟨a2,qa2⟩:∃x,x=a1.put (some 4) (.pointer (some ⟨W1.heap.size,0,none⟩)):=⟨_,rfl⟩
  have za2:a2.tmps.size=9:=by rw[qa2,zaj];exact za1
  have da2:a2.defers=[]:=by rw[qa2,zah];exact da1
  have ga2_0:a2.tmps.getD 0 undef=(.func (.yield l) #[] #[]):=by rw[qa2];exact (zaa (by decide)).trans ga1_0
  have ga2_1:a2.tmps.getD 1 undef=(.pointer (some ⟨bc,0,none⟩)):=by rw[qa2];exact (zaa (by decide)).trans ga1_1
  have ga2_2:a2.tmps.getD 2 undef=(.pointer (some ⟨bn,0,none⟩)):=by rw[qa2];exact (zaa (by decide)).trans ga1_2
  have ga2_3:a2.tmps.getD 3 undef=(.pointer (some ⟨B,0,none⟩)):=by rw[qa2];exact (zaa (by decide)).trans ga1_3
  have ga2_4:a2.tmps.getD 4 undef=(.pointer (some ⟨W1.heap.size,0,none⟩)):=by rw[qa2];exact zae (by rw[za1];decide)
  change wpListIn (Fw none) 0 Tryz.prog _ _ _ (a1.put (some 4) (.pointer (some ⟨W1.heap.size,0,none⟩))) W2
  rw[←qa2]
  have eW2:W1.heap.size=(B+1):=by rw[hW1,zdp,eW1]
  rw[eW2] at ga2_4
  refine zaW (wpIn_seq (wpIn_region_list ?_))
  obtain⟨W3,hW3⟩:∃x,x=W2.alloc (.cells #[.nilFunc] 202 (0,0)):=⟨_,rfl⟩
  refine zak rfl (zt0 (by intro d h;cases h) (zAS a2 W2 _ rfl) ?_)
  rw[←hW3]
  obtain⟨a3,qa3⟩:∃x,x=a2.put (some 5) (.pointer (some ⟨W2.heap.size,0,none⟩)):=⟨_,rfl⟩
  have za3:a3.tmps.size=9:=by rw[qa3,zaj];exact za2
  have da3:a3.defers=[]:=by rw[qa3,zah];exact da2
  have ga3_0:a3.tmps.getD 0 undef=(.func (.yield l) #[] #[]):=by rw[qa3];exact (zaa (by decide)).trans ga2_0
  have ga3_1:a3.tmps.getD 1 undef=(.pointer (some ⟨bc,0,none⟩)):=by rw[qa3];exact (zaa (by decide)).trans ga2_1
  have ga3_2:a3.tmps.getD 2 undef=(.pointer (some ⟨bn,0,none⟩)):=by rw[qa3];exact (zaa (by decide)).trans ga2_2
  have ga3_3:a3.tmps.getD 3 undef=(.pointer (some ⟨B,0,none⟩)):=by rw[qa3];exact (zaa (by decide)).trans ga2_3
  have ga3_4:a3.tmps.getD 4 undef=(.pointer (some ⟨(B+1),0,none⟩)):=by rw[qa3];exact (zaa (by decide)).trans ga2_4
  have ga3_5:a3.tmps.getD 5 undef=(.pointer (some ⟨W2.heap.size,0,none⟩)):=by rw[qa3];exact zae (by rw[za2];decide)
  change wpListIn (Fw none) 0 Tryz.prog _ _ _ (a2.put (some 5) (.pointer (some ⟨W2.heap.size,0,none⟩))) W3
  rw[←qa3]
  have eW3:W2.heap.size=(B+2):=by rw[hW2,zdp,eW2]
  rw[eW3] at ga3_5
  refine zaW (wpIn_seq (wpIn_region_list ?_))
  refine zak rfl (zaV (by intro d h;cases h) (mfR a3 W3 _ rfl ga3_4 ga3_1 ga3_3 ga3_2 ga3_5) ?_)
  obtain⟨a4,qa4⟩:∃x,x=a3.put (some 6) (.func (.func 179) #[] (capt B bc bn)):=⟨_,rfl⟩
  have za4:a4.tmps.size=9:=by rw[qa4,zaj];exact za3
  have da4:a4.defers=[]:=by rw[qa4,zah];exact da3
  have ga4_0:a4.tmps.getD 0 undef=(.func (.yield l) #[] #[]):=by rw[qa4];exact (zaa (by decide)).trans ga3_0
  have ga4_1:a4.tmps.getD 1 undef=(.pointer (some ⟨bc,0,none⟩)):=by rw[qa4];exact (zaa (by decide)).trans ga3_1
  have ga4_2:a4.tmps.getD 2 undef=(.pointer (some ⟨bn,0,none⟩)):=by rw[qa4];exact (zaa (by decide)).trans ga3_2
  have ga4_3:a4.tmps.getD 3 undef=(.pointer (some ⟨B,0,none⟩)):=by rw[qa4];exact (zaa (by decide)).trans ga3_3
  have ga4_4:a4.tmps.getD 4 undef=(.pointer (some ⟨(B+1),0,none⟩)):=by rw[qa4];exact (zaa (by decide)).trans ga3_4
  have ga4_5:a4.tmps.getD 5 undef=(.pointer (some ⟨(B+2),0,none⟩)):=by rw[qa4];exact (zaa (by decide)).trans ga3_5
  have ga4_6:a4.tmps.getD 6 undef=(.func (.func 179) #[] (capt B bc bn)):=by rw[qa4];exact zae (by rw[za3];decide)
  change wpListIn (Fw none) 0 Tryz.prog _ _ _ (a3.put (some 6) (.func (.func 179) #[] (capt B bc bn))) W3
  rw[←qa4]
  have x1:W1.heap[B]?=some (.cells #[.func (.yield l) #[] #[]] 234 (0,0)):=by rw[hW1];exact zee eW1.symm
  have x2:W2.heap[B+1]?=some (.cells #[.slice none 0 0] 76 (0,0)):=by rw[hW2];exact zee eW2.symm
  have x3:W3.heap[B+2]?=some (.cells #[.nilFunc] 202 (0,0)):=by rw[hW3];exact zee eW3.symm
  have x13:W3.heap[B]?=some (.cells #[.func (.yield l) #[] #[]] 234 (0,0)):=by rw[hW3];exact zcX (by rw[hW2];exact zcX x1)
  have x23:W3.heap[B+1]?=some (.cells #[.slice none 0 0] 76 (0,0)):=by rw[hW3];exact zcX x2
  refine zak rfl (zk2 (by intro d h;cases h) (zzU a4 W3 _ (.tmp 5) (.tmp 6) rfl ga4_5 ga4_6 x3) ?_)
  obtain⟨W4,hW4⟩:∃x,x=W3.setRow (B+2) #[.func (.func 179) #[] (capt B bc bn)]:=⟨_,rfl⟩
  change wpListIn (Fw none) 0 Tryz.prog _ _ _ a4 (W3.setRow (B+2) #[.func (.func 179) #[] (capt B bc bn)])
  rw[←hW4]
  have H:HC B bc bn (.func (.yield l) #[] #[]) W4 (.slice none 0 0) []:=by
    rw[hW4]
    exact⟨(setRow_other W3 (B+2) B _ (by omega)).trans x13,(setRow_other W3 (B+2) (B+1) _ (by omega)).trans x23,setRow_heap W3 (B+2) _ _ 202 (0,0) x3,.inl ⟨rfl,rfl⟩⟩
  have hbel:Bel B W W4:=by
    rw[hW4,hW3,hW2,hW1]
    exact ((zgz.trans zgz).trans zgz).trans (zfl (by omega))
  have hJ4:J ((zcn count 0 numbers).map ([] ++ ·)++[]) W4:=by simpa using hY.below _ _ _ hJ hbel
  refine zaW ?_
  change Code.wpIn (Fw none) 0 Tryz.prog C4 _ a4 W4
  refine wpIn_region_list ?_
  refine zak rfl (zaV (by intro d h;cases h) (ldF ztj a4 W4 _ (.tmp 5) rfl ga4_5 H.hm rfl) ?_)
  obtain⟨a5,qa5⟩:∃x,x=a4.put (some 7) (.func (.func 179) #[] (capt B bc bn)):=⟨_,rfl⟩
  have za5:a5.tmps.size=9:=by rw[qa5,zaj];exact za4
  have da5:a5.defers=[]:=by rw[qa5,zah];exact da4
  have ga5_0:a5.tmps.getD 0 undef=(.func (.yield l) #[] #[]):=by rw[qa5];exact (zaa (by decide)).trans ga4_0
  have ga5_1:a5.tmps.getD 1 undef=(.pointer (some ⟨bc,0,none⟩)):=by rw[qa5];exact (zaa (by decide)).trans ga4_1
  have ga5_2:a5.tmps.getD 2 undef=(.pointer (some ⟨bn,0,none⟩)):=by rw[qa5];exact (zaa (by decide)).trans ga4_2
  have ga5_3:a5.tmps.getD 3 undef=(.pointer (some ⟨B,0,none⟩)):=by rw[qa5];exact (zaa (by decide)).trans ga4_3
  have ga5_4:a5.tmps.getD 4 undef=(.pointer (some ⟨(B+1),0,none⟩)):=by rw[qa5];exact (zaa (by decide)).trans ga4_4
  have ga5_5:a5.tmps.getD 5 undef=(.pointer (some ⟨(B+2),0,none⟩)):=by rw[qa5];exact (zaa (by decide)).trans ga4_5
  have ga5_6:a5.tmps.getD 6 undef=(.func (.func 179) #[] (capt B bc bn)):=by rw[qa5];exact (zaa (by decide)).trans ga4_6
  have ga5_7:a5.tmps.getD 7 undef=(.func (.func 179) #[] (capt B bc bn)):=by rw[qa5];exact zae (by rw[za4];decide)
  change wpListIn (Fw none) 0 Tryz.prog _ _ _ (a4.put (some 7) (.func (.func 179) #[] (capt B bc bn))) W4
  rw[←qa5]
  have hc:=zwn hY hcn hnn hbc count 0 numbers [] [] W4 (.slice none 0 0) (by rw[List.length_nil];omega) (by omega) H hJ4
  obtain⟨args,hargs⟩:∃x,x=(#[.int .i64 ((0:Nat):Int)]++capt B bc bn:Array Value):=⟨_,rfl⟩
  rw[←hargs] at hc
  refine zak rfl ?_
  refine zj0 (f:=179) (args:=args) ?_ ?_ (hc.mono ?_)
  · intro d h;cases h
  · obtain⟨fn,e1,e2,e3⟩:zdA Tryz.prog 179:=⟨Tryz.f179,Tryz.func179,by kernel_rfl,by kernel_rfl⟩
    have e2':¬fn.name = "runtime.NumGoroutine" := by simpa using e2
    have e3':¬fn.body=none:=by intro hn;rw[hn] at e3;cases e3
    rw[hargs]
    have evc:∀(a:Act) (v:Value),a.eval (.const v)=v:=fun a v=>rfl
    simp[execOp,resolve,Deferred.ofValue,ev,evc,ga5_7,invoke,callFunc,e1,e2',e3',capt]
  have fin:∀(v:Value) (W':World),(J [] W'∨Jx W')→bodyPost Tryz.prog Tryz.f178 (fun e W'=>(∃v,e=.returned v)∧(J [] W'∨Jx W')) .normal (a5.put (some 8) v) W':=by
    intro v W' h
    refine⟨by rw[zah];exact da5,.tuple #[],zb8 (P:=Tryz.prog) (fn:=Tryz.f178) (vs:=[]) rfl,⟨_,rfl⟩,h⟩
  rintro e we (⟨rfl,hJ3,_⟩|⟨rfl,hJx⟩)
  · exact⟨.bool true,rfl,zaW (fin _ _ (.inl hJ3))⟩
  · exact⟨.bool false,rfl,zaW (fin _ _ (.inr hJx))⟩
end Go.Eng.Ar
