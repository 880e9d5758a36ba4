/- Texts G2 G3 G4 G5 G6 G7 G8 Q21 Q10A Q51 Q22 Q23 Q62 Q30 Q32 Q34 Q55 Q63 Q66 Q67 Q68A G9 G10 G11, as far as they are used. Conditions: each lemma's own. -/
import Derived.Test.YtaappjbdkjfkhaaKB1
namespace Go.Eng.Pu
open Go.Eng Go.Proofs
set_option linter.all false
set_option maxRecDepth 100000
set_option maxHeartbeats 8000000
@[reducible] def zoV:Spec:={pats:=[.dat F32],res:=[{t:=I64}],pre:=fun x=>∃n:Int,(-32767≤n∧n≤32767)∧x.1=floatOfInt .f32 n,f:=fun _=>((0:Int),())}
theorem g72:Ok 72 zoV:=by
  refine mkN (X:=x0) (hX:=zkd) (ctr:=[(64,zct),(61,zk9)]) ⟨g64,g61,trivial⟩ (nt:=31) Try.func72 rfl rfl rfl rfl (by kernel_rfl) (by kernel_rfl) (fun _=>[]) ?_
  rintro⟨(x:Nat),_⟩ ⟨n,hn,(hx:x=floatOfInt .f32 n)⟩
  obtain⟨hN,hV⟩:=zeR (n:=n) (by omega) (by omega)
  rw[←hx] at hN hV
  have o1:=zmg (show (FloatKind.f32.format.order x x == some .eq)=true by rw[ziD hN hN];simp)
  have s1:=zkU hN
  have z:=zz32
  have hS:(0:Int)<fS .f32:=ziv .f32
  have hT:fT .f32 x=n:=by unfold fT;rw[hV];exact Int.mul_tdiv_cancel _ (by omega)
  have hm:∀a b:Int,a<b→a*fS .f32<b*fS .f32:=fun a b h=>Int.mul_lt_mul_of_pos_right h hS
  have k1:=hm n 16777216 (by omega)
  have k2:=hm (-16777216) n (by omega)
  have g1:(FloatKind.f32.format.order x 1266679808 == some Ordering.gt)=false:=by rw[znG hN c32.1,c32.2.2.1,hV];exact decide_eq_false (by unfold M32;omega)
  have g2:(FloatKind.f32.format.order x 1266679808 == some Ordering.eq)=false:=by rw[ziD hN c32.1,c32.2.2.1,hV];exact decide_eq_false (by unfold M32;omega)
  have g3:(FloatKind.f32.format.order x 3414163456 == some Ordering.lt)=false:=by rw[znF hN c32.2.1,c32.2.2.2,hV];exact decide_eq_false (by unfold M32;omega)
  have g4:(FloatKind.f32.format.order x 3414163456 == some Ordering.eq)=false:=by rw[ziD hN c32.2.1,c32.2.2.2,hV];exact decide_eq_false (by unfold M32;omega)
  have f3:=zj3 hN (by rw[hT];omega) (by rw[hT];omega)
  rw[hT] at f3
  have o2:(FloatKind.f32.format.order (floatOfInt .f32 n) x != some .eq)=false:=by rw[←hx];exact o1
  have hp:pSz n:=by unfold pSz;omega
  have e5:zbA n≤32767:=by unfold zbA;split<;>omega
  clear hx hV hT k1 k2 hm
  repeat' (intro hzz;(try (rename Two=>hq;cases hq));(try dsimp only at hzz);(try simp only[zac,zab,eqD,inR,big,zaa,Bool.not_true,Bool.not_false,Bool.true_eq,decide_eq_true_eq,decide_eq_false_iff_not,Bool.not_eq_true',Bool.not_eq_false',Bool.and_eq_true,Prod.mk.injEq,and_true,true_and,Int.not_lt,Int.not_le,gt_iff_lt,ge_iff_le] at hzz);(try simp only[zac,zab,eqD,inR,big,zaa,Bool.not_true,Bool.not_false,Bool.true_eq,decide_eq_true_eq,decide_eq_false_iff_not,Bool.not_eq_true',Bool.not_eq_false',Bool.and_eq_true,Prod.mk.injEq,and_true,true_and,Int.not_lt,Int.not_le,gt_iff_lt,ge_iff_le,o1,s1,z,g1,g2,g3,g4,f3,o2,Option.getD_some,Option.isSome_some,Bool.or_self] at hzz);(try (first|contradiction|(exfalso;omega)));(try (have hq:=zfp hzz;subst hq));(try (revert hzz;intro _)))
  all_goals try (rename Unit=>hq;clear hq)
  all_goals try ((with_reducible refine Held.mk ?_);(with_reducible (first|refine Frz.mk ?_|refine And.intro (Frz.mk ?_) ?_|refine And.intro ?_ (Frz.mk ?_)));repeat' first|exact True.intro|(change _=_;with_reducible rfl)|refine And.intro ?_ ?_|(with_reducible refine Frz.mk ?_))
  all_goals try (refine Held.mk ?_;(try dsimp only at *);(try simp only[zac,zab,eqD,inR,big,zaa,Bool.not_true,Bool.not_false,Bool.true_eq,decide_eq_true_eq,decide_eq_false_iff_not,Bool.not_eq_true',Bool.not_eq_false',Bool.and_eq_true,Prod.mk.injEq,and_true,true_and,Int.not_lt,Int.not_le,gt_iff_lt,ge_iff_le] at *);(try simp only[zac,zab,eqD,inR,big,zaa,Bool.not_true,Bool.not_false,Bool.true_eq,decide_eq_true_eq,decide_eq_false_iff_not,Bool.not_eq_true',Bool.not_eq_false',Bool.and_eq_true,Prod.mk.injEq,and_true,true_and,Int.not_lt,Int.not_le,gt_iff_lt,ge_iff_le,o1,s1,z,g1,g2,g3,g4,f3,o2,Option.getD_some,Option.isSome_some,Bool.or_self] at *))
  all_goals try omega
  all_goals first|exact hp|(rw[decide_eq_true e5];rfl)|trace_state
structure PResp (r:Int) (xs:List Nat):Prop where
  rate:8000≤r∧r≤192000
  pos:0<xs.length
  le:xs.length≤1024
  smp:∀i,i<xs.length→∃n:Int,(-32767≤n∧n≤32767)∧xs.getD i 0=floatOfInt .f32 n
@[reducible] def zo6:Spec:={pats:=[.dat zmo],res:=[{t:=I64},{t:=I64}],pre:=fun x=>PResp x.1.1 x.1.2.1,f:=fun _=>((0:Int),(0:Int),())}
theorem g68:Ok 68 zo6:=by
  refine mk (ctr:=[(64,zct),(70,zjA),(71,zlj),(72,zoV)]) ⟨g64,g70,g71,g72,trivial⟩ (nt:=42) Try.func68 rfl rfl rfl rfl (by kernel_rfl) (by kernel_rfl) (fun x=>[fun _=>{σ:=Nat,pat:=fun k=>[sI 30 k],inv:=fun k=>k≤List.length (α:=Nat) x.1.2.1,meas:=fun k=>List.length (α:=Nat) x.1.2.1 - k}]) ?_
  rintro⟨⟨(r:Int),(xs:List Nat),⟨⟩⟩,⟨⟩⟩ (hp:PResp r xs)
  have h1:=hp.rate
  have h2:=hp.pos
  have h3:=hp.le
  have h4:=hp.smp
  have e1:zag r 8000 192000=true:=decide_eq_true h1
  have e2:decide ((0:Int)<(xs.length:Int))=true:=decide_eq_true (by omega)
  have e3:decide ((xs.length:Int)≤1024)=true:=decide_eq_true (by omega)
  have e4:zdq [0,0,0]=0:=rfl
  repeat' (intro hzz;(try (rename Two=>hq;cases hq));(try dsimp only at hzz);(try simp only[zac,zab,eqD,inR,big,zaa,Bool.not_true,Bool.not_false,Bool.true_eq,decide_eq_true_eq,decide_eq_false_iff_not,Bool.not_eq_true',Bool.not_eq_false',Bool.and_eq_true,Prod.mk.injEq,and_true,true_and,Int.not_lt,Int.not_le,gt_iff_lt,ge_iff_le] at hzz);(try simp only[zac,zab,eqD,inR,big,zaa,Bool.not_true,Bool.not_false,Bool.true_eq,decide_eq_true_eq,decide_eq_false_iff_not,Bool.not_eq_true',Bool.not_eq_false',Bool.and_eq_true,Prod.mk.injEq,and_true,true_and,Int.not_lt,Int.not_le,gt_iff_lt,ge_iff_le,e1,e2,e3,e4,Int.toNat_natCast] at hzz);(try (first|contradiction|(exfalso;omega)));(try (revert hzz;intro _)))
  all_goals try (rename Unit=>hq;clear hq)
  all_goals try ((with_reducible refine Held.mk ?_);(with_reducible (first|refine Frz.mk ?_|refine And.intro (Frz.mk ?_) ?_|refine And.intro ?_ (Frz.mk ?_)));repeat' first|exact True.intro|(change _=_;with_reducible rfl)|refine And.intro ?_ ?_|(with_reducible refine Frz.mk ?_))
  all_goals try (refine Held.mk ?_;(try dsimp only at *);(try simp only[zac,zab,eqD,inR,big,zaa,Bool.not_true,Bool.not_false,Bool.true_eq,decide_eq_true_eq,decide_eq_false_iff_not,Bool.not_eq_true',Bool.not_eq_false',Bool.and_eq_true,Prod.mk.injEq,and_true,true_and,Int.not_lt,Int.not_le,gt_iff_lt,ge_iff_le] at *);(try simp only[zac,zab,eqD,inR,big,zaa,Bool.not_true,Bool.not_false,Bool.true_eq,decide_eq_true_eq,decide_eq_false_iff_not,Bool.not_eq_true',Bool.not_eq_false',Bool.and_eq_true,Prod.mk.injEq,and_true,true_and,Int.not_lt,Int.not_le,gt_iff_lt,ge_iff_le,e1,e2,e3,e4,Int.toNat_natCast] at *))
  all_goals try omega
  · show ((3:Nat):Int)≤_
    decide
  ·
    refine zal.mk ?_
    refine Exists.intro (0:Nat) ?_
    refine And.intro (Leaf.mk ?_) ?_
    · repeat' first|exact True.intro|refine And.intro ?_ ?_
      all_goals try ((change _=_<;>try dsimp only)<;>try with_reducible rfl)
      all_goals try omega
      all_goals (rfl)
    exact Nat.zero_le _
  · rename_i h k hk hlt
    exact h4 k (by omega)
  · rename_i h k hk hlt _
    refine zal.mk ?_
    refine Exists.intro (k+1) ?_
    refine And.intro (Leaf.mk ?_) ?_
    · repeat' first|exact True.intro|refine And.intro ?_ ?_
      all_goals try ((change _=_<;>try dsimp only)<;>try with_reducible rfl)
      all_goals try omega
      all_goals (rfl)
    exact⟨by show k+1≤xs.length;omega,by show xs.length - (k+1)<xs.length - k;omega⟩
abbrev AskT:Ty:=.cons zmo (.cons I64 (.cons I64 .nil))
@[reducible] def zo7:Spec:={pats:=[.dat AskT],res:=[{t:=I64},{t:=I64}],pre:=fun x=>PResp x.1.1.1 x.1.1.2.1∧x.1.2.1=(0:Int)∧x.1.2.2.1=(0:Int),f:=fun _=>((0:Int),(0:Int),())}
theorem g60:Ok 60 zo7:=by
  refine mk (ctr:=[(64,zct),(65,zbB),(68,zo6)]) ⟨g64,g65,g68,trivial⟩ (nt:=25) Try.func60 rfl rfl rfl rfl (by kernel_rfl) (by kernel_rfl) (fun _=>[]) ?_
  rintro⟨⟨⟨(r:Int),(xs:List Nat),⟨⟩⟩,(no:Int),(ta:Int),⟨⟩⟩,⟨⟩⟩ ⟨hp,(h1:no=0),(h2:ta=0)⟩
  subst h1;subst h2
  have hp:PResp r xs:=hp
  have e1:zag 0 0 32767=true:=by decide
  have e2:zag 0 0 1000000000000=true:=by decide
  repeat' (intro hzz;(try (rename Two=>hq;cases hq));(try dsimp only at hzz);(try simp only[zac,zab,eqD,inR,big,zaa,Bool.not_true,Bool.not_false,Bool.true_eq,decide_eq_true_eq,decide_eq_false_iff_not,Bool.not_eq_true',Bool.not_eq_false',Bool.and_eq_true,Prod.mk.injEq,and_true,true_and,Int.not_lt,Int.not_le,gt_iff_lt,ge_iff_le] at hzz);(try simp only[zac,zab,eqD,inR,big,zaa,Bool.not_true,Bool.not_false,Bool.true_eq,decide_eq_true_eq,decide_eq_false_iff_not,Bool.not_eq_true',Bool.not_eq_false',Bool.and_eq_true,Prod.mk.injEq,and_true,true_and,Int.not_lt,Int.not_le,gt_iff_lt,ge_iff_le,e1,e2] at hzz);(try (first|contradiction|(exfalso;omega)));(try (revert hzz;intro _)))
  all_goals try (rename Unit=>hq;clear hq)
  all_goals try ((with_reducible refine Held.mk ?_);(with_reducible (first|refine Frz.mk ?_|refine And.intro (Frz.mk ?_) ?_|refine And.intro ?_ (Frz.mk ?_)));repeat' first|exact True.intro|(change _=_;with_reducible rfl)|refine And.intro ?_ ?_|(with_reducible refine Frz.mk ?_))
  all_goals try (refine Held.mk ?_;(try dsimp only at *);(try simp only[zac,zab,eqD,inR,big,zaa,Bool.not_true,Bool.not_false,Bool.true_eq,decide_eq_true_eq,decide_eq_false_iff_not,Bool.not_eq_true',Bool.not_eq_false',Bool.and_eq_true,Prod.mk.injEq,and_true,true_and,Int.not_lt,Int.not_le,gt_iff_lt,ge_iff_le] at *);(try simp only[zac,zab,eqD,inR,big,zaa,Bool.not_true,Bool.not_false,Bool.true_eq,decide_eq_true_eq,decide_eq_false_iff_not,Bool.not_eq_true',Bool.not_eq_false',Bool.and_eq_true,Prod.mk.injEq,and_true,true_and,Int.not_lt,Int.not_le,gt_iff_lt,ge_iff_le,e1,e2] at *))
  all_goals try omega
  all_goals first|exact hp|rfl|exact⟨rfl,rfl⟩|trace_state
/-! ### Parts of a body -/
noncomputable def E0 (w:World):Env:={P:=Try.prog,M:=fun _=>False,mu:=fun _=>False,w0:=w,OB:=OB,x:={nd:=true}}
theorem zjI {w w':World} {nt:Nat} {st:St} {a':Act} (hR:RelS (E0 w) nt st a' w') {ps:List (Nat×Obj)} (h:∀p∈ps,w.heap[p.1]?=some p.2):OwnStep w w' ps ps:=by
  obtain⟨η,g,_⟩:=hR
  exact⟨g.os,g.tape,g.output,g.grow,fun b hb _=>g.keep b hb (fun h=>h) (fun h=>h),fun p hp=>⟨(g.keep p.1 (zaf (h p hp)) (fun h=>h) (fun h=>h)).trans (h p hp),.inl ⟨p.2,hp⟩⟩⟩
theorem zn7 {nt:Nat} {anns:List (St→LoopAnn)} {b:Code} {st0 target:St} {a:Act} {w0 w:World} {Q:Exit→Act→World→Prop} (hR:RelS (E0 w0) nt st0 a w) (hd:zc3 nt b=true) (hnr:zaP b=true)
    (hvc:vc (cfg {} [] nt) (par (cfg {} [] nt)) anns b 0 st0 (fun e st=>match e with | .normal=>Goal (∃s:Unit,ent st target∧True) | _=>False))
    (hQ:∀a' w',RelS (E0 w0) nt target a' w'→zaU (dsts b) a a'→Q .normal a' w'):b.wpIn (Fw none) 0 Try.prog Q a w:=by
  refine wpIn_mono (zbf (zme (X:={}) trivial (ctr:=[]) trivial) (zfQ zod (zme (X:={}) trivial (ctr:=[]) trivial)) b 0 st0 _ a w (E0 w0) none rfl rfl (.inr hnr) hd hvc hR) ?_
  rintro e a' w' ⟨⟨xe,st',h1,h2,h3⟩,hag⟩
  subst h1
  cases xe with
  | normal=>
    obtain⟨_,h4,_⟩:=h2.out
    exact hQ a' w' (zcB h4 h3) (hag (by intro h;cases h))
  | exit id=>exact h2.elim
  | ret=>exact h2.elim
theorem zps {P:Program} {o:Oper} {a:Act} {w:World} {K:Act→World→Prop} {Q Q':Exit→Act→World→Prop} (h:∀c a w,Q (.panic c) a w=Q' (.panic c) a w) (h2:LetsOut Q=LetsOut Q'):o.wpIn (Fw none) 0 P a w K Q=o.wpIn (Fw none) 0 P a w K Q':=by
  have e:∀r,o.uponIn (Fw none) 0 P a K Q r=o.uponIn (Fw none) 0 P a K Q' r:=by
    intro r
    unfold Oper.uponIn
    split<;>simp only[h,h2]
  unfold Oper.wpIn
  rw[e]
theorem zhp {P:Program} {ops:Array Oper} {Q:Exit→Act→World→Prop} {l2:List Oper}:∀(l1:List Oper) (a:Act) (w:World),
    wpListIn (Fw none) 0 P ops (fun e a w=>match e with | .normal=>wpListIn (Fw none) 0 P ops Q l2 a w|e=>Q e a w) l1 a w→wpListIn (Fw none) 0 P ops Q (l1++l2) a w
  | [],a,w,h=>h
  | o :: l1,a,w,h=>by
    simp only[wpListIn,List.cons_append] at h ⊢
    split
    · rename_i hw
      rw[if_pos hw] at h
      refine Oper.wpIn_mono (zhp l1) ?_
      rw[←zps (Q:=fun e a w=>match e with | .normal=>wpListIn (Fw none) 0 P ops Q l2 a w|e=>Q e a w) (Q':=Q) (fun _ _ _=>rfl) rfl]
      exact h
    · rename_i hw
      rw[if_neg hw] at h
      exact⟨h.1,zhp l1 _ _ h.2⟩
theorem zkk {F:Fence} {n:Nat} {P:Program} {Q Q':Exit→Act→World→Prop} {o:Oper} {a:Act} {w:World} {K K':Act→World→Prop} (h:∀a w,K a w→K' a w) (hq:∀e a w,Q e a w→Q' e a w)
    (hh:o.wpIn F n P a w K Q):o.wpIn F n P a w K' Q':=by
  unfold Oper.wpIn at *
  refine⟨hh.1,?_⟩
  have hh:=hh.2
  generalize (o.semAt F.round a.eval).run P w=r at *
  cases r with
  | ok x w'=>
    cases x<;>simp only[Oper.uponIn] at hh ⊢ <;>
      first
        | exact h _ _ hh
        | exact⟨hh.1,CallsIn.mono hh.2 (fun e w'' he=>by cases e<;>first|exact h _ _ he|exact hq _ _ _ he|exact (let ⟨a,w,h⟩:=he;⟨a,w,hq _ _ _ h⟩))⟩
        | exact⟨hh.1,RowsIn.mono hh.2 (fun _ _ he=>h _ _ he)⟩
        | exact⟨hh.1,RoundIn.mono hh.2 (fun e w'' he=>by cases e<;>first|exact h _ _ he|exact hq _ _ _ he|exact (let ⟨a,w,h⟩:=he;⟨a,w,hq _ _ _ h⟩))⟩
  | halt x w'=>cases x<;>simp only[Oper.uponIn] at hh ⊢<;>first|exact hh|exact hq _ _ _ hh
theorem zfY {F:Fence} {n:Nat} {P:Program} {ops:Array Oper} {Q Q':Exit→Act→World→Prop} (hq:∀e a w,Q e a w→Q' e a w):∀(l:List Oper) (a:Act) (w:World),wpListIn F n P ops Q l a w→wpListIn F n P ops Q' l a w
  | [],a,w,h=>hq _ _ _ h
  | o :: r,a,w,h=>by
    unfold wpListIn at h ⊢
    split
    · rename_i hw
      rw[if_pos hw] at h
      exact zkk (zfY hq r) hq h
    · rename_i hw
      rw[if_neg hw] at h
      exact⟨h.1,zfY hq r _ _ h.2⟩
theorem zpx {nt:Nat} {ops:Array Oper} {l:List Oper} {ds:List Nat} {st0 target:St} {a:Act} {w0 w:World} {Q:Exit→Act→World→Prop} (hR:RelS (E0 w0) nt st0 a w)
    (hsub:∀o∈l,o∈ops.toList) (hdst:∀o∈ops.toList,∀t,o.dst=some t→t<nt) (hds:∀o∈l,∀t,o.dst=some t→t∈ds)
    (hvc:zd8 (cfg {} [] nt) ops l st0 (fun st=>Goal (∃s:Unit,ent st target∧True)))
    (hQ:∀a' w',RelS (E0 w0) nt target a' w'→zaU ds a a'→Q .normal a' w'):wpListIn (Fw none) 0 Try.prog ops Q l a w:=by
  refine zfY ?_ l a w (zdD (ds:=ds) (a0:=a) l a w hds (zaU.refl _ _) (zdk (E:=E0 w0) (c:=cfg {} [] nt) (ro:=none) (q:=0) (zme (X:={}) trivial (ctr:=[]) trivial) (ops:=ops) (Q:=fun e a' w'=>e=.normal∧RelS (E0 w0) nt target a' w') hdst l hsub st0 _ a w hvc hR ?_))
  · rintro e a' w' ⟨⟨rfl,h1⟩,h2⟩
    exact hQ a' w' h1 (h2 (by intro h;cases h))
  · intro st' a' w' h1 h2
    obtain⟨_,h4,_⟩:=h1.out
    exact⟨rfl,zcB h4 h2⟩
theorem zcg {ds:List Nat} {a a':Act} (h:zaU ds a a') {t:Nat} (ht:memN t ds=false):a'.tmps.getD t undef=a.tmps.getD t undef:=h t fun hm=>by rw[zan.2 hm] at ht;cases ht
theorem znb {w:World} {b off:Nat} {v:Value} (h:w.cell? ⟨b,off,none⟩=some v):∃cur el f,w.heap[b]?=some (.cells cur el f)∧cur[off]?=some v:=by
  unfold World.cell? at h
  simp only at h
  split at h
  · rename_i cur el f hh
    exact⟨cur,el,f,hh,h⟩
  · cases h
/-! ### The iterator -/
abbrev PA:Type:=zak.Den
@[reducible] def zij:ISpec:={rd:=[(0,0,.sl zak)],e:=zak,seq:=fun x i=>List.getD (α:=PA) x.1 (List.length (α:=PA) x.1 - 1 - i) (0,0,()),len:=fun x=>some (List.length (α:=PA) x.1),pre:=fun x=>List.length (α:=PA) x.1≤1024,two:=true,ix:=fun x i=>(List.length (α:=PA) x.1:Int) - 1 - i}
noncomputable def b69:Code:=zcF Try.f69
noncomputable def d0:Code:=match b69 with | .seq x _=>x|c=>c
noncomputable def dl:Code:=match b69 with | .seq _ (.block _ (.loop x))=>x|c=>c
noncomputable def d1:Code:=match dl with | .seq (.seq x _) _=>x|c=>c
noncomputable def d3:Code:=match dl with | .seq _ (.seq (.block _ (.seq x _)) _)=>x|c=>c
noncomputable def d2:Code:=match dl with | .seq _ (.seq _ x)=>x|c=>c
noncomputable def ops3:List Oper:=match d3 with | .region _ x _=>x.toList | _=>[]
theorem zpV:(Try.f69.body:Option Code)=some (.seq d0 (.block 0 (.loop (.seq (.seq d1 (.cond (.tmp 8) .skip (.exit 0))) (.seq (.block 1 (.seq d3 (.cond (.tmp 18) .ret .skip))) d2))))):=rfl
@[reducible] def stD (y:Value) (xs:List PA) (n:Int):St:=[.slot 0 (.one (.v y)),.slot 1 (.one (.pd (.sl zak) xs)),sI 3 n]
theorem vcD0 (y:Value) (xs:List PA) (hx:xs.length≤1024):vc (cfg {} [] 19) (par (cfg {} [] 19)) [] d0 0 [.slot 0 (.one (.v y)),.slot 1 (.one (.pd (.sl zak) xs))]
    (fun e st=>match e with | .normal=>Goal (∃s:Unit,ent st (stD y xs ((xs.length:Int) - 1))∧True) | _=>False):=by
  repeat' (intro hzz;(try (rename Two=>hq;cases hq));(try dsimp only at hzz);(try simp only[zac,zab,eqD,inR,big,zaa,Bool.not_true,Bool.not_false,Bool.true_eq,decide_eq_true_eq,decide_eq_false_iff_not,Bool.not_eq_true',Bool.not_eq_false',Bool.and_eq_true,Prod.mk.injEq,and_true,true_and,Int.not_lt,Int.not_le,gt_iff_lt,ge_iff_le] at hzz);(try (revert hzz;intro _)))
  all_goals try (rename Unit=>hq;clear hq)
  all_goals try ((with_reducible refine Held.mk ?_);(with_reducible (first|refine Frz.mk ?_|refine And.intro (Frz.mk ?_) ?_|refine And.intro ?_ (Frz.mk ?_)));repeat' first|exact True.intro|(change _=_;with_reducible rfl)|refine And.intro ?_ ?_|(with_reducible refine Frz.mk ?_))
  all_goals try (refine Held.mk ?_;(try dsimp only at *);(try simp only[zac,zab,eqD,inR,big,zaa,Bool.not_true,Bool.not_false,Bool.true_eq,decide_eq_true_eq,decide_eq_false_iff_not,Bool.not_eq_true',Bool.not_eq_false',Bool.and_eq_true,Prod.mk.injEq,and_true,true_and,Int.not_lt,Int.not_le,gt_iff_lt,ge_iff_le] at *))
  all_goals try omega
  ·
    refine zal.mk ?_
    refine Exists.intro () ?_
    refine And.intro (Leaf.mk ?_) ?_
    · repeat' first|exact True.intro|refine And.intro ?_ ?_
      all_goals try ((change _=_<;>try dsimp only)<;>try with_reducible rfl)
      all_goals try omega
      all_goals (rfl)
    trivial
theorem vcD1 (y:Value) (xs:List PA) (n:Int):vc (cfg {} [] 19) (par (cfg {} [] 19)) [] d1 0 (stD y xs n)
    (fun e st=>match e with | .normal=>Goal (∃s:Unit,ent st (.slot 8 (.one (.d .bool (decide (n≥0))))::stD y xs n)∧True) | _=>False):=by
  repeat' (intro hzz;(try (rename Two=>hq;cases hq));(try dsimp only at hzz);(try simp only[zac,zab,eqD,inR,big,zaa,Bool.not_true,Bool.not_false,Bool.true_eq,decide_eq_true_eq,decide_eq_false_iff_not,Bool.not_eq_true',Bool.not_eq_false',Bool.and_eq_true,Prod.mk.injEq,and_true,true_and,Int.not_lt,Int.not_le,gt_iff_lt,ge_iff_le] at hzz);(try (revert hzz;intro _)))
  all_goals try (rename Unit=>hq;clear hq)
  all_goals try ((with_reducible refine Held.mk ?_);(with_reducible (first|refine Frz.mk ?_|refine And.intro (Frz.mk ?_) ?_|refine And.intro ?_ (Frz.mk ?_)));repeat' first|exact True.intro|(change _=_;with_reducible rfl)|refine And.intro ?_ ?_|(with_reducible refine Frz.mk ?_))
  all_goals try (refine Held.mk ?_;(try dsimp only at *);(try simp only[zac,zab,eqD,inR,big,zaa,Bool.not_true,Bool.not_false,Bool.true_eq,decide_eq_true_eq,decide_eq_false_iff_not,Bool.not_eq_true',Bool.not_eq_false',Bool.and_eq_true,Prod.mk.injEq,and_true,true_and,Int.not_lt,Int.not_le,gt_iff_lt,ge_iff_le] at *))
  all_goals try omega
  ·
    refine zal.mk ?_
    refine Exists.intro () ?_
    refine And.intro (Leaf.mk ?_) ?_
    · repeat' first|exact True.intro|refine And.intro ?_ ?_
      all_goals try ((change _=_<;>try dsimp only)<;>try with_reducible rfl)
      all_goals try omega
      all_goals (rfl)
    trivial
theorem vcD3 (y:Value) (xs:List PA) (m:Nat) (hm:m<xs.length) (ops:Array Oper):zd8 (cfg {} [] 19) ops (ops3.take 6) (stD y xs m)
    (fun st=>Goal (∃s:Unit,ent st (.slot 11 (.one (.v y))::sI 12 m::.slot 16 (.one (.d zak (xs.getD m (0,0,()))))::stD y xs m)∧True)):=by
  repeat' (intro hzz;(try (rename Two=>hq;cases hq));(try dsimp only at hzz);(try simp only[zac,zab,eqD,inR,big,zaa,Bool.not_true,Bool.not_false,Bool.true_eq,decide_eq_true_eq,decide_eq_false_iff_not,Bool.not_eq_true',Bool.not_eq_false',Bool.and_eq_true,Prod.mk.injEq,and_true,true_and,Int.not_lt,Int.not_le,gt_iff_lt,ge_iff_le] at hzz);(try (revert hzz;intro _)))
  all_goals try (rename Unit=>hq;clear hq)
  all_goals try ((with_reducible refine Held.mk ?_);(with_reducible (first|refine Frz.mk ?_|refine And.intro (Frz.mk ?_) ?_|refine And.intro ?_ (Frz.mk ?_)));repeat' first|exact True.intro|(change _=_;with_reducible rfl)|refine And.intro ?_ ?_|(with_reducible refine Frz.mk ?_))
  all_goals try (refine Held.mk ?_;(try dsimp only at *);(try simp only[zac,zab,eqD,inR,big,zaa,Bool.not_true,Bool.not_false,Bool.true_eq,decide_eq_true_eq,decide_eq_false_iff_not,Bool.not_eq_true',Bool.not_eq_false',Bool.and_eq_true,Prod.mk.injEq,and_true,true_and,Int.not_lt,Int.not_le,gt_iff_lt,ge_iff_le] at *))
  all_goals try omega
  ·
    refine zal.mk ?_
    refine Exists.intro () ?_
    refine And.intro (Leaf.mk ?_) ?_
    · repeat' first|exact True.intro|refine And.intro ?_ ?_
      all_goals try ((change _=_<;>try dsimp only)<;>try with_reducible rfl)
      all_goals try omega
      all_goals (rfl)
    trivial
theorem vcD2 (y:Value) (xs:List PA) (n:Int) (hn : -1≤n∧n≤10000):vc (cfg {} [] 19) (par (cfg {} [] 19)) [] d2 0 (stD y xs n)
    (fun e st=>match e with | .normal=>Goal (∃s:Unit,ent st (stD y xs (n - 1))∧True) | _=>False):=by
  repeat' (intro hzz;(try (rename Two=>hq;cases hq));(try dsimp only at hzz);(try simp only[zac,zab,eqD,inR,big,zaa,Bool.not_true,Bool.not_false,Bool.true_eq,decide_eq_true_eq,decide_eq_false_iff_not,Bool.not_eq_true',Bool.not_eq_false',Bool.and_eq_true,Prod.mk.injEq,and_true,true_and,Int.not_lt,Int.not_le,gt_iff_lt,ge_iff_le] at hzz);(try (revert hzz;intro _)))
  all_goals try (rename Unit=>hq;clear hq)
  all_goals try ((with_reducible refine Held.mk ?_);(with_reducible (first|refine Frz.mk ?_|refine And.intro (Frz.mk ?_) ?_|refine And.intro ?_ (Frz.mk ?_)));repeat' first|exact True.intro|(change _=_;with_reducible rfl)|refine And.intro ?_ ?_|(with_reducible refine Frz.mk ?_))
  all_goals try (refine Held.mk ?_;(try dsimp only at *);(try simp only[zac,zab,eqD,inR,big,zaa,Bool.not_true,Bool.not_false,Bool.true_eq,decide_eq_true_eq,decide_eq_false_iff_not,Bool.not_eq_true',Bool.not_eq_false',Bool.and_eq_true,Prod.mk.injEq,and_true,true_and,Int.not_lt,Int.not_le,gt_iff_lt,ge_iff_le] at *))
  all_goals try omega
  ·
    refine zal.mk ?_
    refine Exists.intro () ?_
    refine And.intro (Leaf.mk ?_) ?_
    · repeat' first|exact True.intro|refine And.intro ?_ ?_
      all_goals try ((change _=_<;>try dsimp only)<;>try with_reducible rfl)
      all_goals try omega
      all_goals (rfl)
    trivial
structure RawD (a:Act) (y p:Value) (n:Int):Prop where
  size:a.tmps.size=19
  defers:a.defers=[]
  s0:a.tmps.getD 0 undef=y
  s1:a.tmps.getD 1 undef=p
  s3:a.tmps.getD 3 undef=.int .i64 n
theorem znv {a:Act} {y p:Value} {cr:List Value} {xs:List PA} {w:World} {u:Unit} (hsz:a.tmps.size=19) (hd0:a.defers=[]) (g0:a.tmps.getD 0 undef=y) (g1:a.tmps.getD 1 undef=p) (hr:zc8 zij.rd w ([]++(p::cr)) (xs,u)) :
    RelS (E0 w) 19 [.slot 0 (.one (.v y)),.slot 1 (.one (.pd (.sl zak) xs))] a w:=by
  obtain⟨V0,hV0,⟨bp,off,hp0,ys,hrep,hylen,hcell⟩,_⟩:=hr
  have hp:p=.pointer (some ⟨bp,off,none⟩):=by simpa using hp0
  refine ⟨fun _=>none,{
    size:=hsz,lim:=by decide,defers:=⟨⟨[],hd0,List.nodup_nil,fun _ h=>by cases h⟩,fun _ h=>by cases h⟩,os:=rfl,tape:=rfl,output:=rfl,grow:=Nat.le_refl _,keep:=fun _ _ _ _=>rfl,
    own:=fun k b n hk=>(by cases hk),dis:=fun b hb=>hb.elim,inj:=fun k k' b n n' hk=>(by cases hk),old:=fun b hb=>hb.elim,obkeep:=fun b i o _ h=>h.elim,nd:=fun _=>hd0},fun f hf=>?_⟩
  simp only[List.mem_cons,List.not_mem_nil,or_false] at hf
  rcases hf with rfl|rfl
  · simp only[Fact.holds];rw[zbv (by decide),g0];rfl
  · simp only [Fact.holds];rw[zbv (by decide),g1,hp]
    obtain ⟨v,rfl⟩:∃v,ys=[v]:=by
      match ys,hylen with
      | [v],_=>exact⟨v,rfl⟩
    obtain⟨cur,el,f,hb,hc⟩:=znb (hcell 0 v rfl)
    have hlt:=(Array.getElem?_eq_some_iff.1 hc).1
    simp only[Nat.add_zero] at hlt
    refine⟨⟨bp,off,none⟩,cur,rfl,rfl,⟨fun h=>h.elim id (fun⟨_,h⟩=>by cases h),fun _ _ h=>(by cases h),el,f,hb⟩,?_,?_⟩
    · show off+1≤cur.size
      omega
    · have e:(cur.toList.drop off).take 1=[v]:=by
        have hc':cur.toList[off]?=some v:=by simpa using hc
        rw[List.drop_eq_getElem_cons (by simpa using hlt)]
        rw[List.getElem?_eq_getElem (by simpa using hlt)] at hc'
        simp only[List.take_succ_cons,List.take_zero,List.cons.injEq,and_true]
        exact Option.some.inj hc'
      show Rep _ (.sl zak) xs ((cur.toList.drop off).take 1)
      rw[e]
      refine Rep.mono (fun b c h=>?_) _ _ _ hrep
      obtain⟨el,f,h⟩:=hV0 b c h
      exact⟨fun h=>h.elim id (fun⟨_,h⟩=>by cases h),fun _ _ h=>(by cases h),el,f,h⟩
theorem zhf {a:Act} {y p:Value} {cr:List Value} {xs:List PA} {w:World} {u:Unit} {n:Int} (R:RawD a y p n) (hr:zc8 zij.rd w ([]++(p::cr)) (xs,u)):RelS (E0 w) 19 (stD y xs n) a w:=by
  obtain⟨η,g,H⟩:=znv R.size R.defers R.s0 R.s1 hr
  refine⟨η,g,fun f hf=>?_⟩
  simp only[stD,List.mem_cons,List.not_mem_nil,or_false] at hf
  rcases hf with rfl|rfl|rfl
  · exact H _ (by simp)
  · exact H _ (by simp)
  · simp only[Fact.holds];rw[zbv (by decide),R.s3];exact RepV.mk1 rfl rfl
theorem zlq {w w':World} {a a':Act} {ds:List Nat} {y p:Value} {n:Int} {st:St} (R:RawD a y p n) (hR:RelS (E0 w) 19 st a' w') (hag:zaU ds a a')
    (h:(memN 0 ds || (memN 1 ds || memN 3 ds))=false):RawD a' y p n:=by
  simp only[Bool.or_eq_false_iff] at h
  obtain⟨η,g,_⟩:=hR
  exact⟨g.size,g.nd rfl,(zcg hag h.1).trans R.s0,(zcg hag h.2.1).trans R.s1,(zcg hag h.2.2).trans R.s3⟩
theorem zfl {a:Act} {y p u:Value} {n:Int} {t:Nat} (R:RawD a y p n) (ht:(4≤t∧t<19)):RawD (a.put (some t) u) y p n:=by
  have hs:=R.size
  refine⟨by rw[za2];exact hs,R.defers,?_,?_,?_⟩<;>rw[zaw (by omega),if_neg (by omega)]
  · exact R.s0
  · exact R.s1
  · exact R.s3
noncomputable def arr3:Array Oper:=match d3 with | .region _ x _=>x | _=>#[]
theorem zqD:d3=.region 3 arr3 false:=rfl
theorem zpq {V:View} {x:PA} {v:Value} (h:RepV V zak x v):v=encV zak x:=by
  obtain⟨l,⟨l1,l2,e,h1,l3,l4,e2,h2,h3⟩,⟨_,rfl⟩|⟨h,_⟩⟩:=h
  · have h1:l1=[.int .i64 x.1]:=h1
    have h2:l3=[.int .i64 x.2.1]:=h2
    have h3:l4=[]:=h3
    subst h1 h2 h3
    subst e2
    subst e
    rfl
  · cases h
theorem ih69:zg2 Try.prog 69 zij:=by
  intro fv cv x l N J Jx W hnb hcv hpre hJ hJa hJxa hJN hY hJ0
  obtain rfl:fv=[]:=by
    match fv,hnb with
    | [],_=>rfl
  obtain⟨xs,u⟩:=x
  have hpre:xs.length≤1024:=hpre
  obtain ⟨p,cr,rfl⟩:∃p cr,cv=p::cr:=by
    obtain⟨V0,hV0,⟨bp,off,hp0,_⟩,_⟩:=(hJ 0 [] W hJ0).1
    match cv,hp0 with
    | p::cr,_=>exact⟨p,cr,rfl⟩
  have hRd:∀ {i w},J i [] w→zc8 zij.rd w ([]++(p::cr)) (xs,u):=fun h=>(hJ _ _ _ h).1
  obtain⟨y,hy⟩:∃y,y=Value.func (.yield l) #[] #[]:=⟨_,rfl⟩
  refine callsIn_of_wp (F:=Fw none) (n:=0) (fn:=Try.f69) Try.func69 zpV trivial ?_
  rw[←hy]
  obtain⟨a0,ha0⟩:∃a0:Act,a0 = {tmps:=([]:List Value).toArray ++ #[y]++(p::cr).toArray++Array.replicate (Try.f69.ntmps - (([]:List Value).toArray ++ #[y]++(p::cr).toArray).size) undef,defers:=[]}:=⟨_,rfl⟩
  rw[←ha0]
  have hcr:cr.length+1≤16:=hcv
  have hsz:a0.tmps.size=19:=by
    have:Try.f69.ntmps=19:=rfl
    rw[ha0];simp[this];omega
  have g0:a0.tmps.getD 0 undef=y:=by
    rw[ha0]
    simp only[Array.getD_eq_getD_getElem?]
    rw[Array.getElem?_append_left (by simp),Array.getElem?_append_left (by simp),Array.getElem?_append_right (by simp)]
    rfl
  have g1:a0.tmps.getD 1 undef=p:=by
    rw[ha0]
    simp only[Array.getD_eq_getD_getElem?]
    rw[Array.getElem?_append_left (by simp),Array.getElem?_append_right (by simp)]
    rfl
  have hd0:a0.defers=[]:=by rw[ha0]
  refine wpIn_seq (zn7 (znv hsz hd0 g0 g1 (hRd hJ0)) (by kernel_rfl) (by kernel_rfl) (vcD0 y xs hpre) fun a1 w1 hR1 hag1=>?_)
  have hnil:∀w:World,∀p∈([]:List (Nat×Obj)),w.heap[p.1]?=some p.2:=fun _ _ h=>by cases h
  have hJ1:=hJa 0 [] [] W w1 hJ0 (zjI hR1 (hnil _))
  have R1:RawD a1 y p ((xs.length:Int) - 1):=by
    obtain⟨η,g,H⟩:=hR1
    have h3:=H (sI 3 ((xs.length:Int) - 1)) (by simp)
    simp only[Fact.holds] at h3
    rw[zbv (by decide)] at h3
    exact⟨g.size,g.nd rfl,(zcg hag1 (by kernel_rfl)).trans g0,(zcg hag1 (by kernel_rfl)).trans g1,za5 h3⟩
  obtain⟨L,hL⟩:∃L,L=xs.length:=⟨_,rfl⟩
  refine wpIn_block (zdQ (fun n a w=>∃i,J i [] w∧n=L - i∧i≤L∧RawD a y p ((xs.length:Int) - 1 - i)) ⟨0,hJ1,rfl,Nat.zero_le _,by simpa using R1⟩ ?_)
  rintro n a w ⟨i,hJi,rfl,hi,R⟩
  refine wpIn_seq (wpIn_seq (zn7 (zhf R (hRd hJi)) (by kernel_rfl) (by kernel_rfl) (vcD1 y xs _) fun a1 w1 hR1 hag1=>?_))
  have R1:=zlq R hR1 hag1 (by kernel_rfl)
  have hJ1:=hJa i [] [] w w1 hJi (zjI hR1 (hnil _))
  have h8:a1.eval (.tmp 8)=.bool (decide ((xs.length:Int) - 1 - i≥0)):=by
    obtain⟨η,g,H⟩:=hR1
    have h:=H (.slot 8 (.one (.d .bool (decide ((xs.length:Int) - 1 - i≥0))))) (by simp)
    simp only[Fact.holds] at h
    rw[zbv (by decide)] at h
    exact zaZ h
  by_cases hiL:i<L
  case neg=>
    have hfalse:decide ((xs.length:Int) - 1 - i≥0)=false:=decide_eq_false (by omega)
    rw[hfalse] at h8
    refine wpIn_cond_false h8 (wpIn_exit ?_)
    have:i=L:=by omega
    subst this
    exact⟨R1.defers,.tuple #[],zcO (fn:=Try.f69) (vs:=[]) rfl,⟨_,rfl⟩,.inl ⟨i,[],by rw[hL],hJ1⟩⟩
  have htrue:decide ((xs.length:Int) - 1 - i≥0)=true:=decide_eq_true (by omega)
  rw[htrue] at h8
  refine wpIn_cond_true h8 (wpIn_skip ?_)
  obtain⟨m,hm⟩:∃m,m=xs.length - 1 - i:=⟨_,rfl⟩
  have hmi:(xs.length:Int) - 1 - i=(m:Int):=by omega
  rw[hmi] at R1
  have ev:∀(a:Act) (t:Nat),a.eval (.tmp t)=a.tmps.getD t undef:=fun a t=>rfl
  have hJ1r:=zhf (cr:=cr) (u:=u) (xs:=xs) R1 (hRd hJ1)
  clear hR1 hag1
  refine wpIn_seq (wpIn_block (wpIn_seq ?_))
  change Code.wpIn (Fw none) 0 Try.prog d3 _ a1 w1
  rw[zqD]
  refine wpIn_region_list ?_
  change wpListIn _ _ _ _ _ (ops3.take 6++ops3.drop 6) a1 w1
  refine zhp _ _ _ (zpx (ds:=[11,12,13,14,15,16]) hJ1r ?_ ?_ ?_ (vcD3 y xs m (by omega) _) fun a2 w2 hR2 hag2=>?_)
  · exact fun o ho=>by
      change o∈ops3
      exact List.mem_of_mem_take ho
  · intro o ho t ht
    change o∈ops3 at ho
    have hall:(ops3.all fun o=>match o.dst with|some t=>Nat.blt t 19|none=>true)=true:=by kernel_rfl
    have:=List.all_eq_true.1 hall o ho
    rw[ht] at this
    exact Nat.le_of_ble_eq_true this
  · intro o ho t ht
    have hall:((ops3.take 6).all fun o=>match o.dst with|some t=>memN t [11,12,13,14,15,16]|none=>true)=true:=by kernel_rfl
    have:=List.all_eq_true.1 hall o ho
    rw[ht] at this
    exact zan.1 this
  have R2:=zlq R1 hR2 hag2 (by kernel_rfl)
  have hJ2:=hJa i [] [] w1 w2 hJ1 (zjI hR2 (hnil _))
  obtain ⟨fl,tl,al,bl,hrun,hround⟩:=hY i [] w2 hJ2 (fun L' hL'=>by
    have:xs.length=L':=by simpa using hL'
    omega)
  obtain ⟨h11,h12,h16⟩:a2.tmps.getD 11 undef=y∧a2.tmps.getD 12 undef=.int .i64 m∧a2.tmps.getD 16 undef=encV zak (xs.getD m (0,0,())):=by
    obtain⟨η,g,H⟩:=hR2
    have h11:=H (.slot 11 (.one (.v y))) (by simp)
    have h12:=H (sI 12 m) (by simp)
    have h16:=H (.slot 16 (.one (.d zak (xs.getD m (0,0,()))))) (by simp)
    simp only[Fact.holds] at h11 h12 h16
    rw[zbv (by decide)] at h11 h12 h16
    exact⟨h11,za5 h12,zpq h16⟩
  have hargs:zij.args (xs,u) i (encV zij.e (zij.seq (xs,u) i)) = #[.int .i64 m,encV zak (xs.getD m (0,0,()))]:=by
    show #[Value.int .i64 ((xs.length:Int) - 1 - i),encV zak (xs.getD (xs.length - 1 - i) (0,0,()))]=_
    rw[hmi,←hm]
  rw[hargs] at hrun
  obtain⟨eV,heV⟩:∃eV,eV=encV zak (xs.getD m (0,0,())):=⟨_,rfl⟩
  rw[←heV] at h16 hrun
  have hsz2:=R2.size
  change wpListIn (Fw none) 0 Try.prog _ _ (ops3.drop 6) a2 w2
  refine za4 rfl (zjJ (l:=l) (f:=fl) (tmps:=tl) (assign:=al) (body:=bl) (by intro d h;cases h) ?_ (RoundIn.mono hround ?_))
  · simp[execOp,resolve,Deferred.ofValue,ev,h11,h12,h16,hy,invoke,callFunc]
    exact hrun
  rintro e w3 (⟨rfl,hJ3⟩|⟨rfl,hJx3⟩)
  · refine⟨.bool true,rfl,?_⟩
    have R6:=zfl (u:=.bool true) (t:=17) R2 (by decide)
    have h19:(a2.put (some 17) (.bool true)).tmps.getD 17 undef=.bool true:=by rw[zaw (by omega),if_pos rfl]
    obtain⟨a6,ha6⟩:∃a6,a6=a2.put (some 17) (.bool true):=⟨_,rfl⟩
    show wpListIn _ _ _ _ _ _ (a2.put (some 17) (.bool true)) w3
    rw[←ha6] at R6 h19 ⊢
    have hsz6:=R6.size
    refine za4 rfl (zec (v:=.bool false) (by intro d h;cases h) ?_ (zdC ?_))
    · simp[execOp,ev,h19,Op.unary]
    have R7:=zfl (u:=.bool false) (t:=18) R6 (by decide)
    have h20:(a6.put (some 18) (.bool false)).eval (.tmp 18)=.bool false:=by rw[ev,zaw (by omega),if_pos rfl]
    obtain⟨a7,ha7⟩:∃a7,a7=a6.put (some 18) (.bool false):=⟨_,rfl⟩
    show Code.wpIn _ _ _ _ _ (a6.put (some 18) (.bool false)) w3
    rw[←ha7] at R7 h20 ⊢
    refine wpIn_cond_false h20 (wpIn_skip ?_)
    refine zn7 (zhf (cr:=cr) (u:=u) (xs:=xs) R7 (hRd hJ3)) (by kernel_rfl) (by kernel_rfl) (vcD2 y xs m (by omega)) fun a8 w8 hR8 hag8=>?_
    refine⟨L - (i+1),by omega,i+1,hJa (i+1) [] [] w3 w8 hJ3 (zjI hR8 (hnil _)),rfl,by omega,?_⟩
    obtain⟨η,g,H⟩:=hR8
    have h11:=H (sI 3 ((m:Int) - 1)) (by simp)
    simp only[Fact.holds] at h11
    rw[zbv (by decide)] at h11
    have h11:=za5 h11
    refine⟨g.size,g.nd rfl,(zcg hag8 (by kernel_rfl)).trans R7.s0,(zcg hag8 (by kernel_rfl)).trans R7.s1,?_⟩
    rw[h11]
    congr 1
    omega
  · refine⟨.bool false,rfl,?_⟩
    have R6:=zfl (u:=.bool false) (t:=17) R2 (by decide)
    have h19:(a2.put (some 17) (.bool false)).tmps.getD 17 undef=.bool false:=by rw[zaw (by omega),if_pos rfl]
    obtain⟨a6,ha6⟩:∃a6,a6=a2.put (some 17) (.bool false):=⟨_,rfl⟩
    show wpListIn _ _ _ _ _ _ (a2.put (some 17) (.bool false)) w3
    rw[←ha6] at R6 h19 ⊢
    have hsz6:=R6.size
    refine za4 rfl (zec (v:=.bool true) (by intro d h;cases h) ?_ (zdC ?_))
    · simp[execOp,ev,h19,Op.unary]
    have R7:=zfl (u:=.bool true) (t:=18) R6 (by decide)
    have h20:(a6.put (some 18) (.bool true)).eval (.tmp 18)=.bool true:=by rw[ev,zaw (by omega),if_pos rfl]
    refine wpIn_cond_true h20 (wpIn_ret ?_)
    exact⟨R7.defers,.tuple #[],zcO (fn:=Try.f69) (vs:=[]) rfl,⟨_,rfl⟩,.inr ⟨i,[],hJx3⟩⟩
theorem zm5:zdw Try.prog 69:=⟨Try.f69,Try.func69,by kernel_rfl,by kernel_rfl⟩
abbrev BkT:Ty:=.clo 69 (.cons (.ptr (.sl zak)) .nil)
@[reducible] def xB:Xt:={clos:=[(69,[.sl zak])]}
theorem zp4:Its xB.its:=True.intro
@[reducible] def zo9:Spec:={pats:=[.dat (.sl zak)],res:=[{t:=BkT}],pre:=fun _=>True,f:=fun x=>((x.1,()),())}
theorem g62:Ok 62 zo9:=by
  refine mkX (X:=xB) (hX:=zp4) (ctr:=[]) trivial (nt:=4) Try.func62 rfl rfl rfl rfl (by kernel_rfl) (by kernel_rfl) (fun _=>[]) ?_
  rintro⟨(xs:List PA),_⟩ _
  repeat' (intro hzz;(try (rename Two=>hq;cases hq));(try dsimp only at hzz);(try simp only[zac,zab,eqD,inR,big,zaa,Bool.not_true,Bool.not_false,Bool.true_eq,decide_eq_true_eq,decide_eq_false_iff_not,Bool.not_eq_true',Bool.not_eq_false',Bool.and_eq_true,Prod.mk.injEq,and_true,true_and,Int.not_lt,Int.not_le,gt_iff_lt,ge_iff_le] at hzz);(try (revert hzz;intro _)))
  all_goals try (rename Unit=>hq;clear hq)
  all_goals try ((with_reducible refine Held.mk ?_);(with_reducible (first|refine Frz.mk ?_|refine And.intro (Frz.mk ?_) ?_|refine And.intro ?_ (Frz.mk ?_)));repeat' first|exact True.intro|(change _=_;with_reducible rfl)|refine And.intro ?_ ?_|(with_reducible refine Frz.mk ?_))
  all_goals try (refine Held.mk ?_;(try dsimp only at *);(try simp only[zac,zab,eqD,inR,big,zaa,Bool.not_true,Bool.not_false,Bool.true_eq,decide_eq_true_eq,decide_eq_false_iff_not,Bool.not_eq_true',Bool.not_eq_false',Bool.and_eq_true,Prod.mk.injEq,and_true,true_and,Int.not_lt,Int.not_le,gt_iff_lt,ge_iff_le] at *))
/-! ### Backward sums -/
def zG:PA:=((0:Int),(0:Int),())
def zb9:List PA→List PA
  | []=>[zG]
  | r::l=>zi3 r (List.getD (zb9 l) 0 zG)::zb9 l
def zdR (l:List PA) (k:Nat):List PA:=List.replicate (l.length - k) zG++zb9 (l.drop (l.length - k))
theorem zhT:∀l:List PA,(zb9 l).length=l.length+1
  | []=>rfl
  | r::l=>by simp[zb9,zhT l]
theorem zd6 {l:List PA} {k:Nat} (hk:k≤l.length):(zdR l k).length=l.length+1:=by
  unfold zdR
  rw[List.length_append,List.length_replicate,zhT,List.length_drop];omega
theorem zhU {l:List PA} {k:Nat} (hk:k≤l.length):(zdR l k).getD (l.length - k) zG=(zb9 (l.drop (l.length - k))).getD 0 zG:=by
  simp only[zdR,List.getD_eq_getElem?_getD]
  rw[List.getElem?_append_right (by simp)]
  simp
theorem zke (l:List PA):zdR l 0=List.replicate l.length zG++[zG]:=by
  simp[zdR,zb9]
theorem zkR (l:List PA):zdR l l.length=zb9 l:=by simp[zdR]
theorem zkf {l:List PA} {k:Nat} (hk:k<l.length) :
    (zdR l k).set (l.length - 1 - k) (zi3 (l.getD (l.length - 1 - k) zG) ((zdR l k).getD (l.length - k) zG))=zdR l (k+1):=by
  rw[zhU (Nat.le_of_lt hk)]
  obtain⟨m,hm⟩:∃m,m=l.length - 1 - k:=⟨_,rfl⟩
  have e1:l.length - k=m+1:=by omega
  have e2:l.length - (k+1)=m:=by omega
  have hml:m<l.length:=by omega
  rw[←hm]
  simp only[zdR]
  rw[e1,e2]
  have hd:l.drop m=l[m]::l.drop (m+1):=List.drop_eq_getElem_cons hml
  rw[hd]
  simp only[zb9]
  rw[List.replicate_succ',List.append_assoc,List.set_append,if_neg (by simp)]
  have eg:l.getD m zG=l[m]:=by rw[List.getD_eq_getElem?_getD,List.getElem?_eq_getElem hml];rfl
  rw[eg]
  simp
def pE1 (p:PA):Prop:=(0≤p.1∧p.1≤1073741824)∧(0≤p.2.1∧p.2.1≤1073741824)
theorem zkQ:∀(l:List PA),(∀p∈l,pE1 p)→(0≤((zb9 l).getD 0 zG).1∧((zb9 l).getD 0 zG).1≤1073741824*l.length)∧(0≤((zb9 l).getD 0 zG).2.1∧((zb9 l).getD 0 zG).2.1≤1073741824*l.length)
  | [],_=>by simp[zb9,zG]
  | r::l,h=>by
    have h1:=zkQ l (fun p hp=>h p (List.mem_cons_of_mem _ hp))
    have h2:=h r List.mem_cons_self
    unfold pE1 at h2
    have e:(zb9 (r::l)).getD 0 zG=zi3 r ((zb9 l).getD 0 zG):=rfl
    have e1:(zi3 r ((zb9 l).getD 0 zG)).1=r.1+((zb9 l).getD 0 zG).1:=rfl
    have e2:(zi3 r ((zb9 l).getD 0 zG)).2.1=r.2.1+((zb9 l).getD 0 zG).2.1:=rfl
    have e3:((r::l).length:Int)=l.length+1:=by simp
    rw[e,e1,e2,e3]
    generalize ((zb9 l).getD 0 zG).1=a at *
    generalize ((zb9 l).getD 0 zG).2.1=b at *
    obtain⟨h3,h4⟩:=h2
    have h3:(0:Int)≤r.1∧r.1≤1073741824:=h3
    have h4:(0:Int)≤r.2.1∧r.2.1≤1073741824:=h4
    have h5:(0:Int)≤a∧a≤1073741824*(l.length:Int):=h1.1
    have h6:(0:Int)≤b∧b≤1073741824*(l.length:Int):=h1.2
    clear h1 h
    have key:∀x y:Int,(0≤x∧x≤1073741824)→(0≤y∧y≤1073741824*(l.length:Int))→(0≤x+y∧x+y≤1073741824*((l.length:Int)+1)):=fun x y hx hy=>by omega
    exact⟨key _ _ h3 h5,key _ _ h4 h6⟩
/-! ### Energies -/
def ivF (xs:List Nat) (k:Nat):Int:=fT .f32 (xs.getD k 0)
def sqF (xs:List Nat) (k:Nat):PA:=(zbA (ivF xs k)*zbA (ivF xs k),zbA (ivF xs k)*zbA (ivF xs k),())
def sqL (xs:List Nat):List PA:=tab (sqF xs) xs.length
theorem znC {xs:List Nat} (h:∀i,i<xs.length→∃n:Int,(-32767≤n∧n≤32767)∧xs.getD i 0=floatOfInt .f32 n) (k:Nat):floatToIntVal .f32 (xs.getD k 0) .i64=some (ivF xs k)∧-32767≤ivF xs k∧ivF xs k≤32767:=by
  have key:∀n:Int,(-32767≤n∧n≤32767)→floatToIntVal .f32 (floatOfInt .f32 n) .i64=some (fT .f32 (floatOfInt .f32 n))∧-32767≤fT .f32 (floatOfInt .f32 n)∧fT .f32 (floatOfInt .f32 n)≤32767:=by
    intro n hn
    obtain⟨hN,hV⟩:=zeR (n:=n) (by omega) (by omega)
    have hS:(0:Int)<fS .f32:=ziv .f32
    have hT:fT .f32 (floatOfInt .f32 n)=n:=by unfold fT;rw[hV];exact Int.mul_tdiv_cancel _ (by omega)
    have f3:=zj3 hN (by rw[hT];omega) (by rw[hT];omega)
    rw[hT] at f3 ⊢
    exact⟨f3,hn⟩
  unfold ivF
  by_cases hk:k<xs.length
  · obtain⟨n,hn,e⟩:=h k hk
    rw[e]
    exact key n hn
  · have e:xs.getD k 0=0:=by rw[List.getD_eq_getElem?_getD,List.getElem?_eq_none (by omega)];rfl
    have e0:floatOfInt .f32 0=0:=by decide +kernel
    have:=key 0 (by omega)
    rw[e0] at this
    rw[e]
    exact this
theorem zj2 {n:Int} (h : -32767≤n∧n≤32767):0≤zbA n∧zbA n≤32767:=by unfold zbA;split<;>omega
theorem zoP {xs:List Nat} (h:∀i,i<xs.length→∃n:Int,(-32767≤n∧n≤32767)∧xs.getD i 0=floatOfInt .f32 n):∀p∈sqL xs,pE1 p:=by
  intro p hp
  obtain⟨j,hj,rfl⟩:=zg4 hp
  have h1:=zj2 (znC h j).2
  have h2:zbA (ivF xs j)*zbA (ivF xs j)≤32767*32767:=Int.mul_le_mul h1.2 h1.2 h1.1 (by omega)
  have h3:=Int.mul_nonneg h1.1 h1.1
  have h2:zbA (ivF xs j)*zbA (ivF xs j)≤1073741824:=by omega
  exact⟨⟨h3,h2⟩,h3,h2⟩
abbrev DecT:Ty:=.cons AskT (.cons (.sl zak) (.cons (.sl zak) .nil))
@[reducible] def sDec:Spec:={pats:=[.dat AskT],res:=[{t:=.ptr DecT},{t:=I64}],pre:=fun x=>PResp x.1.1.1 x.1.1.2.1∧x.1.2.1=(0:Int)∧x.1.2.2.1=(0:Int),f:=fun x=>((x.1,sqL x.1.1.2.1,zb9 (sqL x.1.1.2.1),()),(0:Int),())}
@[reducible] def xO:Xt:={its:=[(69,zij)],clos:=[(69,[.sl zak])]}
theorem zp3:Its xO.its:=⟨⟨ih69,zm5⟩,trivial⟩
def zpt (r:Int) (xs:List Nat):St:=[.cell 24 0 (.d I64 r),.cell 24 1 (.d (.sl F32) xs),.cell 24 2 (.d I64 (0:Int)),.cell 24 3 (.d I64 (0:Int))]
theorem zpw {s:Int} (h:0≤s):(bif true then if 0<s - 0 then s - 0 else 0 else if s - 0<0 then s - 0 else 0)=s:=by
  show (if 0<s - 0 then s - 0 else 0)=s
  split<;>omega
theorem zoQ {s:Int} (h:0≤s∧s≤32767):0≤s*s∧s*s≤1073741824:=by
  have h2:s*s≤32767*32767:=Int.mul_le_mul h.2 h.2 h.1 (by omega)
  have h3:=Int.mul_nonneg h.1 h.1
  omega
theorem zn2 (n:Nat):(List.replicate ((n:Int)+1).toNat zG).set (n:Int).toNat zG=List.replicate n zG++[zG]:=by
  have e1:((n:Int)+1).toNat=n+1:=by omega
  have e2:(n:Int).toNat=n:=by omega
  rw[e1,e2,List.replicate_succ']
  rw[List.set_append,if_neg (by simp)]
  simp
theorem g52:Ok 52 sDec:=by
  refine mkX (X:=xO) (hX:=zp3) (ctr:=[(60,zo7),(61,zk9),(62,zo9),(63,zlf)]) ⟨g60,g61,g62,g63,trivial⟩ (nt:=109) Try.func52 rfl rfl rfl rfl (by kernel_rfl) (by kernel_rfl) (fun x=>[fun _=>{σ:=Nat,pat:=fun k=>zpt x.1.1.1 x.1.1.2.1++[sI 29 k,.cell 24 4 (.o 60058 k),.cell 24 5 (.v (.slice none 0 0)),.row 60058 89 zak (tab (sqF x.1.1.2.1) k)],inv:=fun k=>k≤List.length (α:=Nat) x.1.1.2.1,meas:=fun k=>List.length (α:=Nat) x.1.1.2.1 - k},fun _=>{σ:=Nat,pat:=fun k=>zpt x.1.1.1 x.1.1.2.1++[.cell 24 4 (.d (.sl zak) (sqL x.1.1.2.1)),.cell 24 5 (.o 69 (List.length (α:=Nat) x.1.1.2.1+1)),.row 69 89 zak (zdR (sqL x.1.1.2.1) k)],inv:=fun k=>k≤List.length (α:=Nat) x.1.1.2.1,meas:=fun k=>k}]) ?_
  rintro⟨⟨⟨(r:Int),(xs:List Nat),⟨⟩⟩,(no:Int),(ta:Int),⟨⟩⟩,⟨⟩⟩ ⟨hp,(h1:no=0),(h2:ta=0)⟩
  subst h1;subst h2
  have hp:PResp r xs:=hp
  have hlen:=hp.le
  have hpos:=hp.pos
  have hiv:=znC hp.smp
  have hf:∀k:Nat,floatToIntVal .f32 (xs.getD (k:Int).toNat F32.dflt) .i64=some (ivF xs k):=fun k=>(hiv k).1
  have hb:=fun k=>zj2 (hiv k).2
  have hiv2:=fun k=>(hiv k).2
  have hsl:(sqL xs).length=xs.length:=zae _ _
  have hsq:=zoP hp.smp
  clear hiv
  repeat' (intro hzz;(try (rename Two=>hq;cases hq));(try dsimp only at hzz);(try simp only[zac,zab,eqD,inR,big,zaa,Bool.not_true,Bool.not_false,Bool.true_eq,decide_eq_true_eq,decide_eq_false_iff_not,Bool.not_eq_true',Bool.not_eq_false',Bool.and_eq_true,Prod.mk.injEq,and_true,true_and,Int.not_lt,Int.not_le,gt_iff_lt,ge_iff_le] at hzz);(try (first|contradiction|(exfalso;omega)));(try (revert hzz;intro _)))
  all_goals try (rename Unit=>hq;clear hq)
  all_goals try ((with_reducible refine Held.mk ?_);(with_reducible (first|refine Frz.mk ?_|refine And.intro (Frz.mk ?_) ?_|refine And.intro ?_ (Frz.mk ?_)));repeat' first|exact True.intro|(change _=_;with_reducible rfl)|refine And.intro ?_ ?_|(with_reducible refine Frz.mk ?_))
  all_goals try (refine Held.mk ?_;(try dsimp only at *);(try simp only[zac,zab,eqD,inR,big,zaa,Bool.not_true,Bool.not_false,Bool.true_eq,decide_eq_true_eq,decide_eq_false_iff_not,Bool.not_eq_true',Bool.not_eq_false',Bool.and_eq_true,Prod.mk.injEq,and_true,true_and,Int.not_lt,Int.not_le,gt_iff_lt,ge_iff_le] at *))
  all_goals try omega
  all_goals try exact (zae _ _).symm
  all_goals try (rename_i k hk hlt j hj he;show xs.length+1=(zdR (sqL xs) j).length;rw[zd6 (by omega),hsl];done)
  all_goals try (rename_i k hk hlt j hj he;show (repl _ _).length=(zdR (sqL xs) j).length;rw[zcQ,zd6 (by omega),hsl];omega)
  ·
    refine zal.mk ?_
    refine Exists.intro (0:Nat) ?_
    refine And.intro (Leaf.mk ?_) ?_
    · repeat' first|exact True.intro|refine And.intro ?_ ?_
      all_goals try ((change _=_<;>try dsimp only)<;>try with_reducible rfl)
      all_goals try omega
      all_goals (rfl)
    exact Nat.zero_le _
  · rename_i k hk hlt
    rw[hf k];rfl
  · rename_i k hk hlt
    have:=hiv2 k
    rw[hf k];show pSz (ivF xs k);unfold pSz;omega
  · rename_i k hk hlt
    have:=hb k
    rw[hf k,Option.getD_some];omega
  · rename_i k hk hlt
    have:=hb k
    rw[hf k,Option.getD_some];omega
  · rename_i k hk hlt
    have h1:=hb k
    rw[hf k,Option.getD_some,zpw h1.1]
    have h2:=zoQ h1
    omega
  · rename_i k hk hlt
    have h1:=hb k
    rw[hf k,Option.getD_some,Int.add_zero]
    have h2:=zoQ h1
    omega
  · rename_i k hk hlt
    rw[zae]
    exact⟨rfl,by show k+1≤2147483648;omega⟩
  · rename_i k hk hlt
    have h1:=hb k
    refine zal.mk ?_
    refine Exists.intro (k+1) ?_
    refine And.intro (Leaf.mk ?_) ?_
    · repeat' first|exact True.intro|refine And.intro ?_ ?_
      all_goals try ((change _=_<;>try dsimp only)<;>try with_reducible rfl)
      all_goals try omega
      all_goals ((simp only[hf k,Option.getD_some,gt_iff_lt,zpw h1.1,Int.add_zero];first|rfl|simp only[List.length_append,zae,List.length_cons,List.length_nil]))
    exact⟨by show k+1≤xs.length;omega,by show xs.length - (k+1)<xs.length - k;omega⟩
  · rename_i k hk hlt
    rw[zcQ];omega
  · rename_i k hk hlt
    rw[zcQ];omega
  · rename_i k hk hlt
    obtain rfl:k=xs.length:=by omega
    refine zal.mk ?_
    refine Exists.intro (0:Nat) ?_
    refine And.intro (Leaf.mk ?_) ?_
    · repeat' first|exact True.intro|refine And.intro ?_ ?_
      all_goals try ((change _=_<;>try dsimp only)<;>try with_reducible rfl)
      all_goals try omega
      all_goals (first|rfl|(rw[zcQ];omega)|(rw[zhd,zke,hsl];exact zn2 xs.length)|trace_state)
    exact⟨Nat.zero_le _,rfl⟩
  · rename_i k hk hlt
    rw[zae];omega
  · intro h;cases h
  · exact fun s hs=>⟨rfl,rfl,rfl⟩
  · rename_i k hk hlt j hj he
    obtain rfl:k=xs.length:=by omega
    have he:(tab (sqF xs) xs.length).length=j:=by simpa using he
    rw[zae] at he
    subst he
    have:=zkR (sqL xs)
    rw[hsl] at this
    exact this
  · rename_i k hk hlt j hj he
    rw[zae] at *
    have:=he k rfl
    omega
  · rename_i k hk hlt j hj he
    rw[zae] at *
    have:=he k rfl
    omega
  · rename_i k hk hlt j hj he
    rw[zae] at *
    have:=he k rfl
    rw[zd6 (by omega)]
    omega
  · rename_i k hk hlt j hj he
    rw[zae] at *
    have:=he k rfl
    obtain rfl:k=xs.length:=by omega
    have hm:(sqL xs).getD (xs.length - 1 - j) zG∈sqL xs:=by
      rw[List.getD_eq_getElem?_getD,List.getElem?_eq_getElem (by omega)]
      exact List.getElem_mem _
    have h1:pE1 ((sqL xs).getD (xs.length - 1 - j) zG):=hsq _ hm
    have h2:=zkQ ((sqL xs).drop (xs.length - j)) (fun p hp=>hsq p (List.mem_of_mem_drop hp))
    have h3:=zhU (l:=sqL xs) (k:=j) (by omega)
    rw[hsl] at h3
    rw[←h3,List.length_drop,hsl] at h2
    have e2:((xs.length:Int) - 1 - j+1).toNat=xs.length - j:=by omega
    rw[e2]
    have k1:1073741824*((xs.length - (xs.length - j):Nat):Int)≤1000000000000000:=by omega
    have up:∀a:Int,(0≤a∧a≤1073741824)→(0≤a∧a≤1000000000000000):=fun a h=>by omega
    exact⟨up _ h1.1,up _ h1.2,⟨h2.1.1,Int.le_trans h2.1.2 k1⟩,⟨h2.2.1,Int.le_trans h2.2.2 k1⟩⟩
  · rename_i k hk hlt j hj he
    rw[zae] at *
    have:=he k rfl
    omega
  · rename_i k hk hlt j hj he
    rw[zae] at *
    have:=he k rfl
    rw[zd6 (by omega)]
    omega
  · rename_i k hk hlt j hj he
    rw[zae] at *
    have:=he k rfl
    obtain rfl:k=xs.length:=by omega
    have h3:=zkf (l:=sqL xs) (k:=j) (by omega)
    rw[hsl] at h3
    have e1:(((tab (sqF xs) xs.length).length:Int) - 1 - j).toNat=xs.length - 1 - j:=by rw[zae];omega
    have e2:(((tab (sqF xs) xs.length).length:Int) - 1 - j+1).toNat=xs.length - j:=by rw[zae];omega
    have e3:(tab (sqF xs) xs.length).length - 1 - j=xs.length - 1 - j:=by rw[zae]
    refine zal.mk ?_
    refine Exists.intro (j+1) ?_
    refine And.intro (Leaf.mk ?_) ?_
    · repeat' first|exact True.intro|refine And.intro ?_ ?_
      all_goals try ((change _=_<;>try dsimp only)<;>try with_reducible rfl)
      all_goals try omega
      all_goals (first|rfl|(rw[e1,e2,e3];exact h3)|trace_state)
    exact⟨by show j+1≤xs.length;omega,rfl⟩
def eK (l:List PA):Nat→PA
  | 0=>zG
  | k+1=>zi3 (eK l k) (l.getD k zG)
theorem zos {l:List PA} (h:∀p∈l,pE1 p):∀k,k≤l.length→(0≤(eK l k).1∧(eK l k).1≤1073741824*(k:Int))∧(0≤(eK l k).2.1∧(eK l k).2.1≤1073741824*(k:Int))
  | 0,_=>by simp[eK,zG]
  | k + 1,hk=>by
    have h1:=zos h k (by omega)
    have hm:l.getD k zG∈l:=by
      rw[List.getD_eq_getElem?_getD,List.getElem?_eq_getElem (by omega)]
      exact List.getElem_mem _
    have h2:pE1 (l.getD k zG):=h _ hm
    have key:∀x y:Int,(0≤y∧y≤1073741824)→(0≤x∧x≤1073741824*(k:Int))→(0≤x+y∧x+y≤1073741824*((k:Int)+1)):=fun x y hx hy=>by omega
    have e1:((k+1:Nat):Int)=(k:Int)+1:=by simp
    rw[e1]
    exact⟨key _ _ h2.1 h1.1,key _ _ h2.2 h1.2⟩
@[reducible] def zoT:Spec:={pats:=[.dat (.ptr DecT),.dat zak],res:=[{t:=I64}],pre:=fun x=>x.2.1.1=(0:Int)∧x.2.1.2.1=(List.length (α:=PA) x.1.2.1:Int)∧List.length (α:=PA) x.1.2.1≤1024,f:=fun _=>((0:Int),())}
theorem g53:Ok 53 zoT:=by
  refine mk (ctr:=[(64,zct),(65,zbB)]) ⟨g64,g65,trivial⟩ (nt:=21) Try.func53 rfl rfl rfl rfl (by kernel_rfl) (by kernel_rfl) (fun _=>[]) ?_
  rintro⟨⟨ask,(l:List PA),(sm:List PA),⟨⟩⟩,⟨(a:Int),(b:Int),⟨⟩⟩,⟨⟩⟩ ⟨(h1:a=0),(h2:b=(l.length:Int)),(h3:l.length≤1024)⟩
  subst h1;subst h2
  have e1:zag (l.length:Int) 0 l.length=true:=decide_eq_true (by omega)
  have e2:zag 0 0 (l.length:Int)=true:=decide_eq_true (by omega)
  repeat' (intro hzz;(try (rename Two=>hq;cases hq));(try dsimp only at hzz);(try simp only[zac,zab,eqD,inR,big,zaa,Bool.not_true,Bool.not_false,Bool.true_eq,decide_eq_true_eq,decide_eq_false_iff_not,Bool.not_eq_true',Bool.not_eq_false',Bool.and_eq_true,Prod.mk.injEq,and_true,true_and,Int.not_lt,Int.not_le,gt_iff_lt,ge_iff_le] at hzz);(try simp only[zac,zab,eqD,inR,big,zaa,Bool.not_true,Bool.not_false,Bool.true_eq,decide_eq_true_eq,decide_eq_false_iff_not,Bool.not_eq_true',Bool.not_eq_false',Bool.and_eq_true,Prod.mk.injEq,and_true,true_and,Int.not_lt,Int.not_le,gt_iff_lt,ge_iff_le,e1,e2] at hzz);(try (first|contradiction|(exfalso;omega)));(try (revert hzz;intro _)))
  all_goals try (rename Unit=>hq;clear hq)
  all_goals try ((with_reducible refine Held.mk ?_);(with_reducible (first|refine Frz.mk ?_|refine And.intro (Frz.mk ?_) ?_|refine And.intro ?_ (Frz.mk ?_)));repeat' first|exact True.intro|(change _=_;with_reducible rfl)|refine And.intro ?_ ?_|(with_reducible refine Frz.mk ?_))
  all_goals try (refine Held.mk ?_;(try dsimp only at *);(try simp only[zac,zab,eqD,inR,big,zaa,Bool.not_true,Bool.not_false,Bool.true_eq,decide_eq_true_eq,decide_eq_false_iff_not,Bool.not_eq_true',Bool.not_eq_false',Bool.and_eq_true,Prod.mk.injEq,and_true,true_and,Int.not_lt,Int.not_le,gt_iff_lt,ge_iff_le] at *);(try simp only[zac,zab,eqD,inR,big,zaa,Bool.not_true,Bool.not_false,Bool.true_eq,decide_eq_true_eq,decide_eq_false_iff_not,Bool.not_eq_true',Bool.not_eq_false',Bool.and_eq_true,Prod.mk.injEq,and_true,true_and,Int.not_lt,Int.not_le,gt_iff_lt,ge_iff_le,e1,e2] at *))
  all_goals try omega
  all_goals (rw[show zag 0 0 (l.length:Int)=true from decide_eq_true (by omega)];rfl)
theorem zou {α:Type} (l:List α):List.drop (Int.toNat 0) (List.take ((l.length:Int)).toNat l)=l:=by simp
theorem zj6 {α:Type} (l:List α):List.drop (Int.toNat 0) (List.take l.length l)=l:=by simp
theorem zmI {l:List PA} (h:∀p∈l,pE1 p) {k:Nat} (hk:k<l.length) (hl:l.length≤1024):zmJ (eK l k).1 (eK l k).2.1 (l.getD k zG).1 (l.getD k zG).2.1:=by
  have h1:=zos h k (by omega)
  have hm:l.getD k zG∈l:=by
    rw[List.getD_eq_getElem?_getD,List.getElem?_eq_getElem (by omega)]
    exact List.getElem_mem _
  have h2:pE1 (l.getD k zG):=h _ hm
  have k1:1073741824*(k:Int)≤1000000000000000:=by omega
  have up:∀a:Int,(0≤a∧a≤1073741824)→(0≤a∧a≤1000000000000000):=fun a h=>by omega
  exact⟨⟨h1.1.1,Int.le_trans h1.1.2 k1⟩,⟨h1.2.1,Int.le_trans h1.2.2 k1⟩,up _ h2.1,up _ h2.2⟩
theorem zpT {l:List PA} {k:Nat} (h:k=l.length):(eK l k).1=(eK l l.length).1∧(eK l k).2.1=(eK l l.length).2.1:=by rw[h];exact⟨rfl,rfl⟩
@[reducible] def sEne:Spec:={pats:=[.dat (.ptr DecT),.dat zak],res:=[{t:=zak}],pre:=fun x=>x.2.1.1=(0:Int)∧x.2.1.2.1=(List.length (α:=PA) x.1.2.1:Int)∧List.length (α:=PA) x.1.2.1≤1024∧∀p∈(x.1.2.1:List PA),pE1 p,f:=fun x=>(eK x.1.2.1 (List.length (α:=PA) x.1.2.1),())}
theorem g54:Ok 54 sEne:=by
  refine mk (ctr:=[(63,zlf)]) ⟨g63,trivial⟩ (nt:=26) Try.func54 rfl rfl rfl rfl (by kernel_rfl) (by kernel_rfl) (fun x=>[fun _=>{σ:=Nat,pat:=fun k=>[sI 17 k,.cell 4 0 (.d I64 (eK x.1.2.1 k).1),.cell 4 1 (.d I64 (eK x.1.2.1 k).2.1)],inv:=fun k=>k≤List.length (α:=PA) x.1.2.1,meas:=fun k=>List.length (α:=PA) x.1.2.1 - k}]) ?_
  rintro⟨⟨ask,(l:List PA),(sm:List PA),⟨⟩⟩,⟨(a:Int),(b:Int),⟨⟩⟩,⟨⟩⟩ ⟨(h1:a=0),(h2:b=(l.length:Int)),(h3:l.length≤1024),(h4:∀p∈l,pE1 p)⟩
  subst h1;subst h2
  repeat' (intro hzz;(try (rename Two=>hq;cases hq));(try dsimp only at hzz);(try simp only[zac,zab,eqD,inR,big,zaa,Bool.not_true,Bool.not_false,Bool.true_eq,decide_eq_true_eq,decide_eq_false_iff_not,Bool.not_eq_true',Bool.not_eq_false',Bool.and_eq_true,Prod.mk.injEq,and_true,true_and,Int.not_lt,Int.not_le,gt_iff_lt,ge_iff_le] at hzz);(try simp only[zac,zab,eqD,inR,big,zaa,Bool.not_true,Bool.not_false,Bool.true_eq,decide_eq_true_eq,decide_eq_false_iff_not,Bool.not_eq_true',Bool.not_eq_false',Bool.and_eq_true,Prod.mk.injEq,and_true,true_and,Int.not_lt,Int.not_le,gt_iff_lt,ge_iff_le,zj6,Int.toNat_natCast] at hzz);(try (first|contradiction|(exfalso;omega)));(try (revert hzz;intro _)))
  all_goals try (rename Unit=>hq;clear hq)
  all_goals try ((with_reducible refine Held.mk ?_);(with_reducible (first|refine Frz.mk ?_|refine And.intro (Frz.mk ?_) ?_|refine And.intro ?_ (Frz.mk ?_)));repeat' first|exact True.intro|(change _=_;with_reducible rfl)|refine And.intro ?_ ?_|(with_reducible refine Frz.mk ?_))
  all_goals try (refine Held.mk ?_;(try dsimp only at *);(try simp only[zac,zab,eqD,inR,big,zaa,Bool.not_true,Bool.not_false,Bool.true_eq,decide_eq_true_eq,decide_eq_false_iff_not,Bool.not_eq_true',Bool.not_eq_false',Bool.and_eq_true,Prod.mk.injEq,and_true,true_and,Int.not_lt,Int.not_le,gt_iff_lt,ge_iff_le] at *);(try simp only[zac,zab,eqD,inR,big,zaa,Bool.not_true,Bool.not_false,Bool.true_eq,decide_eq_true_eq,decide_eq_false_iff_not,Bool.not_eq_true',Bool.not_eq_false',Bool.and_eq_true,Prod.mk.injEq,and_true,true_and,Int.not_lt,Int.not_le,gt_iff_lt,ge_iff_le,zj6,Int.toNat_natCast] at *))
  all_goals try omega
  all_goals try (rename_i k hk hge;exact zpT (Nat.le_antisymm hk (Int.ofNat_le.1 hge)))
  all_goals try (rename_i k hk hlt;exact zmI h4 (by omega) (by omega))
  ·
    refine zal.mk ?_
    refine Exists.intro (0:Nat) ?_
    refine And.intro (Leaf.mk ?_) ?_
    · repeat' first|exact True.intro|refine And.intro ?_ ?_
      all_goals try ((change _=_<;>try dsimp only)<;>try with_reducible rfl)
      all_goals try omega
      all_goals (first|rfl|trace_state)
    exact Nat.zero_le _
  · rename_i k hk hlt
    refine zal.mk ?_
    refine Exists.intro (k+1) ?_
    refine And.intro (Leaf.mk ?_) ?_
    · repeat' first|exact True.intro|refine And.intro ?_ ?_
      all_goals try ((change _=_<;>try dsimp only)<;>try with_reducible rfl)
      all_goals try omega
      all_goals (first|rfl|(rw[zou];rfl)|trace_state)
    exact⟨by show k+1≤l.length;omega,by show l.length - (k+1)<l.length - k;omega⟩
@[reducible] def sEW:Spec:={pats:=[.dat AskT,.dat zak],res:=[{t:=zak},{t:=I64}],pre:=fun x=>(PResp x.1.1.1 x.1.1.2.1∧x.1.2.1=(0:Int)∧x.1.2.2.1=(0:Int))∧x.2.1.1=(0:Int)∧x.2.1.2.1=(List.length (α:=Nat) x.1.1.2.1:Int),f:=fun x=>(eK (sqL x.1.1.2.1) (List.length (α:=Nat) x.1.1.2.1),(0:Int),())}
theorem g39:Ok 39 sEW:=by
  refine mk (ctr:=[(52,sDec),(53,zoT),(54,sEne)]) ⟨g52,g53,g54,trivial⟩ (nt:=41) Try.func39 rfl rfl rfl rfl (by kernel_rfl) (by kernel_rfl) (fun _=>[]) ?_
  rintro⟨⟨⟨(r:Int),(xs:List Nat),⟨⟩⟩,(no:Int),(ta:Int),⟨⟩⟩,⟨(a:Int),(b:Int),⟨⟩⟩,⟨⟩⟩ ⟨⟨hp,(h1:no=0),(h2:ta=0)⟩,(h3:a=0),(h4:b=(xs.length:Int))⟩
  subst h1;subst h2;subst h3;subst h4
  have hp:PResp r xs:=hp
  have hlen:=hp.le
  have hsl:(sqL xs).length=xs.length:=zae _ _
  have hsq:=zoP hp.smp
  repeat' (intro hzz;(try (rename Two=>hq;cases hq));(try dsimp only at hzz);(try simp only[zac,zab,eqD,inR,big,zaa,Bool.not_true,Bool.not_false,Bool.true_eq,decide_eq_true_eq,decide_eq_false_iff_not,Bool.not_eq_true',Bool.not_eq_false',Bool.and_eq_true,Prod.mk.injEq,and_true,true_and,Int.not_lt,Int.not_le,gt_iff_lt,ge_iff_le] at hzz);(try (first|contradiction|(exfalso;omega)));(try (revert hzz;intro _)))
  all_goals try (rename Unit=>hq;clear hq)
  all_goals try ((with_reducible refine Held.mk ?_);(with_reducible (first|refine Frz.mk ?_|refine And.intro (Frz.mk ?_) ?_|refine And.intro ?_ (Frz.mk ?_)));repeat' first|exact True.intro|(change _=_;with_reducible rfl)|refine And.intro ?_ ?_|(with_reducible refine Frz.mk ?_))
  all_goals try (refine Held.mk ?_;(try dsimp only at *);(try simp only[zac,zab,eqD,inR,big,zaa,Bool.not_true,Bool.not_false,Bool.true_eq,decide_eq_true_eq,decide_eq_false_iff_not,Bool.not_eq_true',Bool.not_eq_false',Bool.and_eq_true,Prod.mk.injEq,and_true,true_and,Int.not_lt,Int.not_le,gt_iff_lt,ge_iff_le] at *))
  all_goals try omega
  all_goals try (exact⟨by rw[hsl],by rw[hsl];exact hlen⟩)
  all_goals try (exact⟨by rw[hsl],by rw[hsl];exact hlen,hsq⟩)
  all_goals try (rw[hsl,Int.add_zero];exact⟨rfl,rfl⟩)
  all_goals
    have h5:=(zos hsq (sqL xs).length (Nat.le_refl _)).2
    rw[hsl] at h5 ⊢
    have key:∀a:Int,0≤a→a≤1073741824*(xs.length:Int)→-9223372036854775808≤a+0∧a+0≤9223372036854775807:=fun a h1 h2=>by omega
    exact key _ h5.1 h5.2
@[reducible] def sEn:Spec:={pats:=[.dat zmo,.dat zak],res:=[{t:=I64},{t:=I64}],pre:=fun x=>PResp x.1.1 x.1.2.1∧x.2.1.1=(0:Int)∧x.2.1.2.1=(List.length (α:=Nat) x.1.2.1:Int),f:=fun x=>((eK (sqL x.1.2.1) (List.length (α:=Nat) x.1.2.1)).1,(0:Int),())}
theorem g15:Ok 15 sEn:=by
  refine mk (ctr:=[(39,sEW)]) ⟨g39,trivial⟩ (nt:=18) Try.func15 rfl rfl rfl rfl (by kernel_rfl) (by kernel_rfl) (fun _=>[]) ?_
  rintro⟨⟨(r:Int),(xs:List Nat),⟨⟩⟩,⟨(a:Int),(b:Int),⟨⟩⟩,⟨⟩⟩ ⟨hp,(h3:a=0),(h4:b=(xs.length:Int))⟩
  subst h3;subst h4
  have hp:PResp r xs:=hp
  repeat' (intro hzz;(try (rename Two=>hq;cases hq));(try dsimp only at hzz);(try simp only[zac,zab,eqD,inR,big,zaa,Bool.not_true,Bool.not_false,Bool.true_eq,decide_eq_true_eq,decide_eq_false_iff_not,Bool.not_eq_true',Bool.not_eq_false',Bool.and_eq_true,Prod.mk.injEq,and_true,true_and,Int.not_lt,Int.not_le,gt_iff_lt,ge_iff_le] at hzz);(try (first|contradiction|(exfalso;omega)));(try (revert hzz;intro _)))
  all_goals try (rename Unit=>hq;clear hq)
  all_goals try ((with_reducible refine Held.mk ?_);(with_reducible (first|refine Frz.mk ?_|refine And.intro (Frz.mk ?_) ?_|refine And.intro ?_ (Frz.mk ?_)));repeat' first|exact True.intro|(change _=_;with_reducible rfl)|refine And.intro ?_ ?_|(with_reducible refine Frz.mk ?_))
  all_goals try (refine Held.mk ?_;(try dsimp only at *);(try simp only[zac,zab,eqD,inR,big,zaa,Bool.not_true,Bool.not_false,Bool.true_eq,decide_eq_true_eq,decide_eq_false_iff_not,Bool.not_eq_true',Bool.not_eq_false',Bool.and_eq_true,Prod.mk.injEq,and_true,true_and,Int.not_lt,Int.not_le,gt_iff_lt,ge_iff_le] at *))
  all_goals try omega
  all_goals first|exact⟨⟨hp,rfl,rfl⟩,rfl,rfl⟩|exact⟨hp,rfl,rfl⟩|exact hp|trace_state
end Go.Eng.Pu
namespace Go.Eng.Pu
open Go Go.Eng Go.Proofs Ieee
set_option linter.all false
set_option maxRecDepth 100000
set_option maxHeartbeats 8000000
theorem zgA (f:Format) (neg:Bool) (m j:Nat) (place:Int) (hm:m≠0) (h1:m.log2≤f.fractionBits) (h2:f.leastPlace≤place+j) :
    f.nearest neg (m*2 ^ j) place=f.word neg (min ((max (place+j+m.log2 - f.fractionBits) f.leastPlace - f.leastPlace).toNat*f.binade+m*2 ^ (place+j - max (place+j+m.log2 - f.fractionBits) f.leastPlace).toNat) f.infRung):=by
  have hne:m*2 ^ j≠0:=Nat.mul_ne_zero hm (by have:=Nat.two_pow_pos j;omega)
  have hl:=zdm m j hm
  unfold Format.nearest
  rw[if_neg hne,hl]
  simp only[]
  rw[show place+((m.log2+j:Nat):Int) - f.fractionBits=place+j+m.log2 - f.fractionBits by omega]
  generalize hL:max (place+(j:Int)+m.log2 - f.fractionBits) f.leastPlace=last
  have hL1:f.leastPlace≤last:=by omega
  have hL2:last≤place+j:=by omega
  have hk:Toward.even.cut neg ((m*2 ^ j) <<< (place - last).toNat) (last - place).toNat=m*2 ^ (place+j - last).toNat:=by
    rw[Nat.shiftLeft_eq]
    by_cases hp:last≤place
    · rw[show (last - place).toNat=0 by omega,zeq _ _ _ (by simp[Nat.mod_one]) (by omega),Nat.pow_zero,Nat.div_one,Nat.mul_assoc,←Nat.pow_add]
      congr 2;omega
    · rw[show (place - last).toNat=0 by omega,Nat.pow_zero,Nat.mul_one]
      have hd:(last - place).toNat≤j:=by omega
      have e:m*2 ^ j=m*2 ^ (j - (last - place).toNat)*2 ^ (last - place).toNat:=by rw[Nat.mul_assoc,←Nat.pow_add];congr 2;omega
      rw[zeq _ _ _ (by rw[e];exact Nat.mul_mod_left _ _) (by rw[hl];omega)]
      rw[e,Nat.mul_div_cancel _ (Nat.two_pow_pos _)]
      congr 2;omega
  rw[hk]
theorem zhl {n B:Nat} (hn:n≠0) (h:n<16777216) (neg:Bool):FloatKind.f32.format.nearest neg (n*2 ^ B) (-(B:Int))=FloatKind.f32.format.nearest neg n 0:=by
  have hl:n.log2≤23:=by
    have:n.log2<24:=(Nat.log2_lt hn).2 (by omega)
    omega
  have l32:FloatKind.f32.format.leastPlace = -149:=by decide
  have b32:FloatKind.f32.format.fractionBits=23:=by decide
  rw[zgA FloatKind.f32.format neg n B (-(B:Int)) hn (by rw[b32];exact hl) (by rw[l32];omega)]
  have e:=zgA FloatKind.f32.format neg n 0 0 hn (by rw[b32];exact hl) (by rw[l32];omega)
  rw[Nat.pow_zero,Nat.mul_one] at e
  rw[e,show -(B:Int)+(B:Int)=0 by omega,show (0:Int)+((0:Nat):Int)=0 by omega]
theorem zfq {n:Int} (h : -16777216<n∧n<16777216):∃(k:Nat) (i:Int),FloatKind.f32.format.read (floatOfInt .f32 n)=.number (decide (n<0)) k i∧i≤0∧k=n.natAbs*2 ^ (-i).toNat:=by
  by_cases h0:n=0
  · subst h0
    exact⟨0,-149,by decide +kernel,by decide,by simp⟩
  · have hm:n.natAbs≠0:=by omega
    have hl:n.natAbs.log2≤23:=by
      have:n.natAbs.log2<24:=(Nat.log2_lt hm).2 (by omega)
      omega
    have l32:FloatKind.f32.format.leastPlace = -149:=by decide
    have b32:FloatKind.f32.format.fractionBits=23:=by decide
    have e32:FloatKind.f32.format.exponentBits=8:=by decide
    obtain⟨q,l,g1,g2,g3,g4⟩:=zbL FloatKind.f32.format (decide (n<0)) n.natAbs 0 0 (zdp .f32) hm (by rw[b32];exact hl) (by rw[l32];omega) (by rw[l32,b32,e32];omega)
    rw[Nat.pow_zero,Nat.mul_one] at g1
    exact⟨q,l,g1,by omega,by rw[g4];congr 2;omega⟩
theorem zfE (n:Int) (c:Nat):sg (decide (n<0)) (n.natAbs*c)=n*c:=by
  unfold sg
  by_cases hn:n<0
  · rw[if_pos (by simp;exact hn),Int.natCast_mul,show ((n.natAbs:Nat):Int) = -n by omega,Int.neg_mul,Int.neg_neg]
  · rw[if_neg (by simp;omega),Int.natCast_mul,show ((n.natAbs:Nat):Int)=n by omega]
theorem zkg (n:Int) (c:Nat):sg (!decide (n<0)) (n.natAbs*c)=(-n)*c:=by
  unfold sg
  by_cases hn:n<0
  · rw[if_neg (by simp;exact hn),Int.natCast_mul,show ((n.natAbs:Nat):Int) = -n by omega]
  · rw[if_pos (by simp;omega),Int.natCast_mul,show ((n.natAbs:Nat):Int)=n by omega,Int.neg_mul]
theorem zhV {s t:Bool} {m n:Nat} {i j:Int} {a b:Int} (hi:i≤0) (hj:j≤0) (hm:∀c:Nat,sg s (m*c)=a*((2 ^ (-i).toNat*c:Nat):Int)) (hn:∀c:Nat,sg t (n*c)=b*((2 ^ (-j).toNat*c:Nat):Int))
    (hab : -16777216<a+b∧a+b<16777216) (hst:a+b=0→(s&&t)=false) :
    ((Datum.number s m i).sum (.number t n j)).map FloatKind.f32.format.write=some (floatOfInt .f32 (a+b)):=by
  have hw:floatOfInt .f32 (a+b)=FloatKind.f32.format.nearest (decide (a+b<0)) (a+b).natAbs 0:=rfl
  rw[hw]
  simp only[Datum.sum,Option.map_some,Format.write]
  congr 1
  obtain⟨B,hB⟩:∃B,B=(-(min i j)).toNat:=⟨_,rfl⟩
  have e1:signed s m (i - min i j).toNat=a*((2 ^ B:Nat):Int):=by
    rw[zbI,hm,←Nat.pow_add]
    congr 3;omega
  have e2:signed t n (j - min i j).toNat=b*((2 ^ B:Nat):Int):=by
    rw[zbI,hn,←Nat.pow_add]
    congr 3;omega
  rw[e1,e2,←Int.add_mul,show min i j = -(B:Int) by omega]
  have hp:0<(2 ^ B:Nat):=Nat.two_pow_pos B
  by_cases h0:a+b=0
  · rw[h0,Int.zero_mul,if_pos rfl,hst h0]
    simp[Format.nearest]
  · have hne:(a+b)*((2 ^ B:Nat):Int)≠0:=Int.mul_ne_zero h0 (by omega)
    rw[if_neg hne,Int.natAbs_mul,Int.natAbs_natCast,zhl (by omega) (by omega)]
    congr 1
    by_cases hl:a+b<0
    · rw[decide_eq_true hl,decide_eq_true (Int.mul_neg_of_neg_of_pos hl (by omega))]
    · rw[decide_eq_false hl,decide_eq_false (fun h=>absurd (Int.mul_nonneg (by omega) (by omega)) (Int.not_le.2 h))]
theorem zlW {a b:Int} (ha : -8388608≤a∧a≤8388607) (hb : -8388608≤b∧b≤8388607) (hab : -16777216<a+b):FloatKind.f32.format.add (floatOfInt .f32 a) (floatOfInt .f32 b)=some (floatOfInt .f32 (a+b)):=by
  obtain⟨m,i,r1,r2,r3⟩:=zfq (n:=a) (by omega)
  obtain⟨n,j,q1,q2,q3⟩:=zfq (n:=b) (by omega)
  unfold Format.add
  rw[r1,q1]
  refine zhV r2 q2 (fun c=>?_) (fun c=>?_) (by omega) (fun h=>?_)
  · rw[r3,Nat.mul_assoc];exact zfE _ _
  · rw[q3,Nat.mul_assoc];exact zfE _ _
  · by_cases h1:a<0
    · rw[decide_eq_false (show ¬b<0 by omega),Bool.and_false]
    · rw[decide_eq_false h1,Bool.false_and]
theorem zlV {a b:Int} (ha : -8388607≤a∧a≤8388607) (hb : -8388607≤b∧b≤8388607):FloatKind.f32.format.sub (floatOfInt .f32 a) (floatOfInt .f32 b)=some (floatOfInt .f32 (a - b)):=by
  obtain⟨m,i,r1,r2,r3⟩:=zfq (n:=a) (by omega)
  obtain⟨n,j,q1,q2,q3⟩:=zfq (n:=b) (by omega)
  unfold Format.sub
  rw[r1,q1]
  show ((Datum.number _ m i).sum (.number (!decide (b<0)) n j)).map FloatKind.f32.format.write=_
  rw[show a - b=a + -b by omega]
  refine zhV r2 q2 (fun c=>?_) (fun c=>?_) (by omega) (fun h=>?_)
  · rw[r3,Nat.mul_assoc];exact zfE _ _
  · rw[q3,Nat.mul_assoc];exact zkg _ _
  · have:a=b:=by omega
    subst this
    cases decide (a<0)<;>rfl
theorem cAdd {a b c d:Int} (ha : -8388607≤a∧a≤8388607) (hb : -8388607≤b∧b≤8388607) (hc : -8388607≤c∧c≤8388607) (hd : -8388607≤d∧d≤8388607):cSumBits .add .f32 (floatOfInt .f32 a) (floatOfInt .f32 b) (floatOfInt .f32 c) (floatOfInt .f32 d)=some (floatOfInt .f32 (a+c),floatOfInt .f32 (b+d)):=by
  unfold cSumBits floatBits
  simp only[zlW (a:=a) (b:=c) (by omega) (by omega) (by omega),zlW (a:=b) (b:=d) (by omega) (by omega) (by omega),Option.bind_some]
theorem cSub {a b c d:Int} (ha : -8388607≤a∧a≤8388607) (hb : -8388607≤b∧b≤8388607) (hc : -8388607≤c∧c≤8388607) (hd : -8388607≤d∧d≤8388607):cSumBits .sub .f32 (floatOfInt .f32 a) (floatOfInt .f32 b) (floatOfInt .f32 c) (floatOfInt .f32 d)=some (floatOfInt .f32 (a - c),floatOfInt .f32 (b - d)):=by
  unfold cSumBits floatBits
  simp only[zlV ha hc,zlV hb hd,Option.bind_some]
end Go.Eng.Pu
namespace Go.Eng.Pu
open Go.Eng Go.Proofs
set_option linter.all false
set_option maxRecDepth 100000
set_option maxHeartbeats 8000000
def zoN (d:Int):Nat→Int→Int
  | 0,n=>n
  | f+1,n=>if n % d=0 then zoN d f (n / d) else n
def rs (n:Int):Nat→Int×List Int
  | 0=>(n,[])
  | k+1=>(zoN (k+2:Int) 11 (rs n k).1,if (rs n k).1 % (k+2:Int)=0 then (rs n k).2++[(k+2:Int)] else (rs n k).2)
@[reducible] def zld:Spec:={pats:=[.dat Reg0],res:=[{t:=.bool}],pre:=fun x=>chk x.1.1 x.1.2.1=0∧pLen (List.length (α:=Int) x.1.2.1),f:=fun x=>(decide ((per x.1.1 x.1.2.1 1:Int)=most x.1.1),())}
theorem h64:Ok 19 zld:=by
  refine mk (ctr:=[(41,zoW),(6,zmC)]) ⟨h24,h68,trivial⟩ (nt:=8) Try.func19 rfl rfl rfl rfl (by kernel_rfl) (by kernel_rfl) (fun _=>[]) ?_
  rintro⟨⟨(L:Int),(xs:List Int),_⟩,_⟩ ⟨(hc:chk L xs=0),(hl:pLen xs.length)⟩
  have h1:=zeH hc hl
  have h2:=(zaq hc).1
  repeat' (intro hzz;(try (rename Two=>hq;cases hq));(try dsimp only at hzz);(try simp only[zac,zab,eqD,inR,big,zaa,Bool.not_true,Bool.not_false,Bool.true_eq,decide_eq_true_eq,decide_eq_false_iff_not,Bool.not_eq_true',Bool.not_eq_false',Bool.and_eq_true,Prod.mk.injEq,and_true,true_and,Int.not_lt,Int.not_le,gt_iff_lt,ge_iff_le] at hzz);(try (first|contradiction|(exfalso;omega)));(try (revert hzz;intro _)))
  all_goals try (rename Unit=>hq;clear hq)
  all_goals try ((with_reducible refine Held.mk ?_);(with_reducible (first|refine Frz.mk ?_|refine And.intro (Frz.mk ?_) ?_|refine And.intro ?_ (Frz.mk ?_)));repeat' first|exact True.intro|(change _=_;with_reducible rfl)|refine And.intro ?_ ?_|(with_reducible refine Frz.mk ?_))
  all_goals try (refine Held.mk ?_;(try dsimp only at *);(try simp only[zac,zab,eqD,inR,big,zaa,Bool.not_true,Bool.not_false,Bool.true_eq,decide_eq_true_eq,decide_eq_false_iff_not,Bool.not_eq_true',Bool.not_eq_false',Bool.and_eq_true,Prod.mk.injEq,and_true,true_and,Int.not_lt,Int.not_le,gt_iff_lt,ge_iff_le] at *))
  all_goals try omega
def ufV (xs:CL) (L:Int) (ts:List Int) (s:Int) (k:Nat):IP:=zpy (trV (lP xs) (sgL L ts s) k (-1) (lP xs).length) (flV (lP xs) 1 0 (lP xs).length)
def dvB (n:Int) (p:IP):Bool:=decide (p.1 % n=0)&&decide (p.2.1 % n=0)
def qoP (n:Int) (p:IP):IP:=(p.1 / n,p.2.1 / n,())
def ufQ (xs:CL) (L:Int) (ts:List Int) (s:Int) (k:Nat):IP:=qoP (most L+1) (ufV xs L ts s k)
def ufL (xs:CL) (L:Int) (ts:List Int) (s:Int):List IP:=tab (ufQ xs L ts s) (most L).toNat
def ufB (xs:CL) (L:Int) (ts:List Int) (s:Int):Bool:=(tab (ufV xs L ts s) (most L).toNat).all (dvB (most L+1))
def ufE (xs:CL) (L:Int) (ts:List Int) (s:Int):Int:=
  if lE xs=0 then (if zci L ts s=0 then (if (per L ts 1:Int)=most L then (if (xs.length:Int)=most L then (if ufB xs L ts s=true then tE (ufL xs L ts s) else 20) else 13) else 22) else zci L ts s) else lE xs
def ufR (xs:CL) (L:Int) (ts:List Int) (s:Int):CL:=
  if lE xs=0 then (if zci L ts s=0 then (if (per L ts 1:Int)=most L then (if (xs.length:Int)=most L then (if ufB xs L ts s=true then tL (ufL xs L ts s) else []) else []) else []) else []) else []
theorem znk {xs:CL} {L:Int} {ts:List Int} {s:Int} {k:Nat} (hk:k<(most L).toNat) (h:dvB (most L+1) (ufV xs L ts s k)=false):ufB xs L ts s=false:=by
  unfold ufB
  rw[List.all_eq_false]
  exact⟨_,zjP hk,by rw[h];exact Bool.false_ne_true⟩
theorem zkJ {xs:CL} {L:Int} {ts:List Int} {s:Int} (h:∀k,k<(most L).toNat→dvB (most L+1) (ufV xs L ts s k)=true):ufB xs L ts s=true:=by
  unfold ufB
  rw[List.all_eq_true]
  intro p hp
  obtain⟨i,hi,rfl⟩:=zg4 hp
  exact h i hi
theorem zoK {xs:CL} {L:Int} {ts:List Int} {s:Int} (h:lE xs=0) (hst:pSt L ts s) (hn:(xs.length:Int)=most L) (k:Nat):(-8600000000≤(ufV xs L ts s k).1∧(ufV xs L ts s k).1≤8600000000)∧(-8600000000≤(ufV xs L ts s k).2.1∧(ufV xs L ts s k).2.1≤8600000000):=by
  have hm:=zhm (zaq hst.1).1
  have hl:=zcn h
  have a:=zju (a:=k) (way:=-1) (zih h) (zhZ hst) (lP xs).length
  have b:=zis (p:=1) (zih h) 0 (lP xs).length
  have hl2:((lP xs).length:Int)≤255:=by omega
  show (_≤(trV (lP xs) (sgL L ts s) k (-1) (lP xs).length).1 - (flV (lP xs) 1 0 (lP xs).length).1∧(trV (lP xs) (sgL L ts s) k (-1) (lP xs).length).1 - (flV (lP xs) 1 0 (lP xs).length).1≤_)∧(_≤(trV (lP xs) (sgL L ts s) k (-1) (lP xs).length).2.1 - (flV (lP xs) 1 0 (lP xs).length).2.1∧(trV (lP xs) (sgL L ts s) k (-1) (lP xs).length).2.1 - (flV (lP xs) 1 0 (lP xs).length).2.1≤_)
  omega
@[reducible] def sUnf:Spec:={pats:=[.dat (.sl C64),.dat Reg0,.dat I64],res:=[{own:=some 39,t:=.sl C64},{t:=I64}],pre:=fun x=>pLen (List.length (α:=Int) x.2.1.2.1),f:=fun x=>(ufR x.1 x.2.1.1 x.2.1.2.1 x.2.2.1,ufE x.1 x.2.1.1 x.2.1.2.1 x.2.2.1,())}
theorem h53n : Ok 12 sUnf:=by
  refine mk (ctr:=[(22,zlc),(23,zn0),(32,zns),(25,zkh),(30,zlg),(27,ziX),(28,ziV),(33,zo1),(26,zmB)]) ⟨h91d,h83,h121,h94,h122,h95d,h96n,h123,h93n,trivial⟩ (nt:=103) Try.func12 rfl rfl rfl rfl (by kernel_rfl) (by kernel_rfl) (fun x=>[fun _=>{σ:=Nat,pat:=fun k=>[sI 49 k,.cell 11 0 (.d I64 (flV (lP x.1) 1 0 k).1),.cell 11 1 (.d I64 (flV (lP x.1) 1 0 k).2.1)],inv:=fun k=>k≤(List.length (α:=IP) (lP x.1)),meas:=fun k=>(List.length (α:=IP) (lP x.1)) - k},fun _=>{σ:=Nat,pat:=fun k=>[sI 65 k]++rOwn 16 60016 78 zak (tab (ufQ x.1 x.2.1.1 x.2.1.2.1 x.2.2.1) k),inv:=fun k=>k≤(most x.2.1.1).toNat∧∀j,j<k→dvB (most x.2.1.1+1) (ufV x.1 x.2.1.1 x.2.1.2.1 x.2.2.1 j)=true,meas:=fun k=>(most x.2.1.1).toNat - k}]) ?_
  rintro⟨(xs:CL),⟨(L:Int),(ts:List Int),_⟩,(s:Int),_⟩ (hts:pLen ts.length)
  by_cases h:lE xs=0
  · have hp := zih h
    have hl:=zcn h
    have hl2:=(zcV h).2.1
    by_cases ho:zci L ts s=0
    · obtain ⟨hst,hs1⟩:=zjK hts ho
      have hL:=(zaq hst.1).1
      have hm:=zhm hL
      by_cases hx:(per L ts 1:Int)=most L
      · have hxd:=decide_eq_true hx
        by_cases hn:(xs.length:Int)=most L
        · have u:ufE xs L ts s=(if ufB xs L ts s=true then tE (ufL xs L ts s) else 20):=by unfold ufE;rw[if_pos h,if_pos ho,if_pos hx,if_pos hn]
          have v:ufR xs L ts s=(if ufB xs L ts s=true then tL (ufL xs L ts s) else []):=by unfold ufR;rw[if_pos h,if_pos ho,if_pos hx,if_pos hn]
          have hln:((lP xs).length:Int)=most L:=by omega
          have hsl:=zg8 L ts s
          have hsg:tab (sgI L ts s) (most L).toNat=sgL L ts s:=rfl
          have hin:=zoK h hst hn
          have hso:=zhZ hst
          have hbd:∀a:Int,-8600000000≤a→a≤8600000000→most L+1≠0∧-9223372036854775808≤a.tdiv (most L+1)∧a.tdiv (most L+1)≤9223372036854775807:=fun a h1 h2=>by
            have:=znS (n:=a) (b:=most L+1) (by omega) (by omega)
            omega
          repeat' (intro hzz;(try (rename Two=>hq;cases hq));(try dsimp only at hzz);(try simp only[zac,zab,eqD,inR,big,zaa,Bool.not_true,Bool.not_false,Bool.true_eq,decide_eq_true_eq,decide_eq_false_iff_not,Bool.not_eq_true',Bool.not_eq_false',Bool.and_eq_true,Prod.mk.injEq,and_true,true_and,Int.not_lt,Int.not_le,gt_iff_lt,ge_iff_le] at hzz);(try simp only[zac,zab,eqD,inR,big,zaa,Bool.not_true,Bool.not_false,Bool.true_eq,decide_eq_true_eq,decide_eq_false_iff_not,Bool.not_eq_true',Bool.not_eq_false',Bool.and_eq_true,Prod.mk.injEq,and_true,true_and,Int.not_lt,Int.not_le,gt_iff_lt,ge_iff_le,h,ho,hxd,hln,hsg] at hzz);(try (first|contradiction|(exfalso;omega)));(try (revert hzz;intro _)))
          all_goals try (rename Unit=>hq;clear hq)
          all_goals try ((with_reducible refine Held.mk ?_);(with_reducible (first|refine Frz.mk ?_|refine And.intro (Frz.mk ?_) ?_|refine And.intro ?_ (Frz.mk ?_)));repeat' first|exact True.intro|(change _=_;with_reducible rfl)|refine And.intro ?_ ?_|(with_reducible refine Frz.mk ?_))
          all_goals try (refine Held.mk ?_;(try dsimp only at *);(try simp only[zac,zab,eqD,inR,big,zaa,Bool.not_true,Bool.not_false,Bool.true_eq,decide_eq_true_eq,decide_eq_false_iff_not,Bool.not_eq_true',Bool.not_eq_false',Bool.and_eq_true,Prod.mk.injEq,and_true,true_and,Int.not_lt,Int.not_le,gt_iff_lt,ge_iff_le] at *);(try simp only[zac,zab,eqD,inR,big,zaa,Bool.not_true,Bool.not_false,Bool.true_eq,decide_eq_true_eq,decide_eq_false_iff_not,Bool.not_eq_true',Bool.not_eq_false',Bool.and_eq_true,Prod.mk.injEq,and_true,true_and,Int.not_lt,Int.not_le,gt_iff_lt,ge_iff_le,h,ho,hxd,hln,hsg] at *))
          all_goals try omega
          · exact⟨hst.1,hts⟩
          ·
            refine zal.mk ?_
            refine Exists.intro 0 ?_
            refine And.intro (Leaf.mk ?_) ?_
            · repeat' first|exact True.intro|refine And.intro ?_ ?_
              all_goals try ((change _=_<;>try dsimp only)<;>try with_reducible rfl)
              all_goals try omega
              all_goals (rfl)
            exact Nat.zero_le _
          · rename_i k hk hlt _
            have a:=zis (p:=1) hp 0 k
            have b:=hp k
            exact⟨by unfold okI;omega,by unfold okI;omega,(show okI ((lP xs).getD k (0,0,())).1 by unfold okI;omega),(show okI ((lP xs).getD k (0,0,())).2.1 by unfold okI;omega)⟩
          · rename_i k hk hlt
            have e1:=flV1 (lP xs) k
            refine zal.mk ?_
            refine Exists.intro (k+1) ?_
            refine And.intro (Leaf.mk ?_) ?_
            · repeat' first|exact True.intro|refine And.intro ?_ ?_
              all_goals try ((change _=_<;>try dsimp only)<;>try with_reducible rfl)
              all_goals try omega
              all_goals (first|exact (congrArg (fun z:IP=>z.1) e1).symm|exact (congrArg (fun z:IP=>z.2.1) e1).symm|rfl)
            exact⟨by show k+1≤(lP xs).length;omega,by show (lP xs).length - (k+1)<(lP xs).length - k;omega⟩
          · rename_i k hk hge
            refine zal.mk ?_
            refine Exists.intro 0 ?_
            refine And.intro (Leaf.mk ?_) ?_
            · repeat' first|exact True.intro|refine And.intro ?_ ?_
              all_goals try ((change _=_<;>try dsimp only)<;>try with_reducible rfl)
              all_goals try omega
              all_goals (rfl)
            exact⟨Nat.zero_le _,fun j hj=>by omega⟩
          · rename_i m hm1 hm2 k hk hlt _
            exact⟨(show (lP xs).length≤1024 by omega),hp,⟨(show 1≤(sgL L ts s).length by omega),(show (sgL L ts s).length≤1024 by omega)⟩,hso,⟨(show (0:Int)≤(k:Int) by omega),(show (k:Int)≤1024 by omega)⟩,.inr True.intro⟩
          · rename_i m hm1 hm2 k hk hlt _
            have a:=zis (p:=1) hp 0 m
            have b:=zju (a:=k) (way:=-1) hp hso (lP xs).length
            exact⟨by unfold okI;omega,by unfold okI;omega,by unfold okI;omega,by unfold okI;omega⟩
          · rename_i m hm1 hm2 k hk hlt q1 q2 _
            have hme:m=(lP xs).length:=by omega
            subst hme
            have hf:=znk (xs:=xs) (s:=s) (ts:=ts) (L:=L) (k:=k) (by omega) (by
              unfold dvB
              rw[decide_eq_false (p:=(ufV xs L ts s k).2.1 % (most L+1)=0) (fun hh=>q2 ((zd5 (by omega)).2 hh)),Bool.and_false])
            rw[u,v,hf];exact⟨rfl,rfl⟩
          · rename_i m hm1 hm2 k hk hlt q1 q2 _
            have hme:m=(lP xs).length:=by omega
            subst hme
            have:=hin k
            exact hbd _ this.1.1 this.1.2
          · rename_i m hm1 hm2 k hk hlt q1 q2 _
            have hme:m=(lP xs).length:=by omega
            subst hme
            have:=hin k
            exact hbd _ this.2.1 this.2.2
          · rename_i m hm1 hm2 k hk hlt q1 q2 _
            rw[zae];show k+1≤2147483648;omega
          · rename_i m hm1 hm2 k hk hlt q1 q2
            have hme:m=(lP xs).length:=by omega
            subst hme
            have d1:(ufV xs L ts s k).1 % (most L+1)=0:=(zd5 (by omega)).1 q1
            have d2:(ufV xs L ts s k).2.1 % (most L+1)=0:=(zd5 (by omega)).1 q2
            have e:tab (ufQ xs L ts s) k++[((ufV xs L ts s k).1.tdiv (most L+1),(ufV xs L ts s k).2.1.tdiv (most L+1),())]=tab (ufQ xs L ts s) (k+1):=by
              rw[zkM d1,zkM d2];rfl
            refine zal.mk ?_
            refine Exists.intro (k+1) ?_
            refine And.intro (Leaf.mk ?_) ?_
            · repeat' first|exact True.intro|refine And.intro ?_ ?_
              all_goals try ((change _=_<;>try dsimp only)<;>try with_reducible rfl)
              all_goals try omega
              all_goals (first|exact e|exact congrArg List.length e)
            refine⟨⟨by show k+1≤(most L).toNat;omega,fun j hj=>?_⟩,by show (most L).toNat - (k+1)<(most L).toNat - k;omega⟩
            by_cases he:j=k
            · rw[he]
              show (decide ((ufV xs L ts s k).1 % (most L+1)=0)&&decide ((ufV xs L ts s k).2.1 % (most L+1)=0))=true
              rw[decide_eq_true d1,decide_eq_true d2];rfl
            · exact hk.2 j (by omega)
          · rename_i m hm1 hm2 k hk hlt q1 _
            have hme:m=(lP xs).length:=by omega
            subst hme
            have hf:=znk (xs:=xs) (s:=s) (ts:=ts) (L:=L) (k:=k) (by omega) (by
              unfold dvB
              rw[decide_eq_false (p:=(ufV xs L ts s k).1 % (most L+1)=0) (fun hh=>q1 ((zd5 (by omega)).2 hh)),Bool.false_and])
            rw[u,v,hf];exact⟨rfl,rfl⟩
          · rename_i m hm1 hm2 k hk hge _
            rw[zae];omega
          · rename_i m hm1 hm2 k hk hge _
            have hf:=zkJ (xs:=xs) (s:=s) (ts:=ts) (L:=L) (fun j hj=>hk.2 j (by omega))
            rw[u,v,hf,show k=(most L).toNat by omega];exact⟨rfl,rfl⟩
        · have u:ufE xs L ts s=13:=by unfold ufE;rw[if_pos h,if_pos ho,if_pos hx,if_neg hn]
          have v:ufR xs L ts s=[]:=by unfold ufR;rw[if_pos h,if_pos ho,if_pos hx,if_neg hn]
          have hln:¬((lP xs).length:Int)=most L:=by omega
          repeat' (intro hzz;(try (rename Two=>hq;cases hq));(try dsimp only at hzz);(try simp only[zac,zab,eqD,inR,big,zaa,Bool.not_true,Bool.not_false,Bool.true_eq,decide_eq_true_eq,decide_eq_false_iff_not,Bool.not_eq_true',Bool.not_eq_false',Bool.and_eq_true,Prod.mk.injEq,and_true,true_and,Int.not_lt,Int.not_le,gt_iff_lt,ge_iff_le] at hzz);(try simp only[zac,zab,eqD,inR,big,zaa,Bool.not_true,Bool.not_false,Bool.true_eq,decide_eq_true_eq,decide_eq_false_iff_not,Bool.not_eq_true',Bool.not_eq_false',Bool.and_eq_true,Prod.mk.injEq,and_true,true_and,Int.not_lt,Int.not_le,gt_iff_lt,ge_iff_le,h,ho,hxd,u,v] at hzz);(try (first|contradiction|(exfalso;omega)));(try (revert hzz;intro _)))
          all_goals try (rename Unit=>hq;clear hq)
          all_goals try ((with_reducible refine Held.mk ?_);(with_reducible (first|refine Frz.mk ?_|refine And.intro (Frz.mk ?_) ?_|refine And.intro ?_ (Frz.mk ?_)));repeat' first|exact True.intro|(change _=_;with_reducible rfl)|refine And.intro ?_ ?_|(with_reducible refine Frz.mk ?_))
          all_goals try (refine Held.mk ?_;(try dsimp only at *);(try simp only[zac,zab,eqD,inR,big,zaa,Bool.not_true,Bool.not_false,Bool.true_eq,decide_eq_true_eq,decide_eq_false_iff_not,Bool.not_eq_true',Bool.not_eq_false',Bool.and_eq_true,Prod.mk.injEq,and_true,true_and,Int.not_lt,Int.not_le,gt_iff_lt,ge_iff_le] at *);(try simp only[zac,zab,eqD,inR,big,zaa,Bool.not_true,Bool.not_false,Bool.true_eq,decide_eq_true_eq,decide_eq_false_iff_not,Bool.not_eq_true',Bool.not_eq_false',Bool.and_eq_true,Prod.mk.injEq,and_true,true_and,Int.not_lt,Int.not_le,gt_iff_lt,ge_iff_le,h,ho,hxd,u,v] at *))
          all_goals try omega
          all_goals exact⟨hst.1,hts⟩
      · have hxd:=decide_eq_false hx
        have u:ufE xs L ts s=22:=by unfold ufE;rw[if_pos h,if_pos ho,if_neg hx]
        have v:ufR xs L ts s=[]:=by unfold ufR;rw[if_pos h,if_pos ho,if_neg hx]
        repeat' (intro hzz;(try (rename Two=>hq;cases hq));(try dsimp only at hzz);(try simp only[zac,zab,eqD,inR,big,zaa,Bool.not_true,Bool.not_false,Bool.true_eq,decide_eq_true_eq,decide_eq_false_iff_not,Bool.not_eq_true',Bool.not_eq_false',Bool.and_eq_true,Prod.mk.injEq,and_true,true_and,Int.not_lt,Int.not_le,gt_iff_lt,ge_iff_le] at hzz);(try simp only[zac,zab,eqD,inR,big,zaa,Bool.not_true,Bool.not_false,Bool.true_eq,decide_eq_true_eq,decide_eq_false_iff_not,Bool.not_eq_true',Bool.not_eq_false',Bool.and_eq_true,Prod.mk.injEq,and_true,true_and,Int.not_lt,Int.not_le,gt_iff_lt,ge_iff_le,h,ho,hxd,u,v] at hzz);(try (first|contradiction|(exfalso;omega)));(try (revert hzz;intro _)))
        all_goals try (rename Unit=>hq;clear hq)
        all_goals try ((with_reducible refine Held.mk ?_);(with_reducible (first|refine Frz.mk ?_|refine And.intro (Frz.mk ?_) ?_|refine And.intro ?_ (Frz.mk ?_)));repeat' first|exact True.intro|(change _=_;with_reducible rfl)|refine And.intro ?_ ?_|(with_reducible refine Frz.mk ?_))
        all_goals try (refine Held.mk ?_;(try dsimp only at *);(try simp only[zac,zab,eqD,inR,big,zaa,Bool.not_true,Bool.not_false,Bool.true_eq,decide_eq_true_eq,decide_eq_false_iff_not,Bool.not_eq_true',Bool.not_eq_false',Bool.and_eq_true,Prod.mk.injEq,and_true,true_and,Int.not_lt,Int.not_le,gt_iff_lt,ge_iff_le] at *);(try simp only[zac,zab,eqD,inR,big,zaa,Bool.not_true,Bool.not_false,Bool.true_eq,decide_eq_true_eq,decide_eq_false_iff_not,Bool.not_eq_true',Bool.not_eq_false',Bool.and_eq_true,Prod.mk.injEq,and_true,true_and,Int.not_lt,Int.not_le,gt_iff_lt,ge_iff_le,h,ho,hxd,u,v] at *))
        all_goals try omega
        all_goals exact⟨hst.1,hts⟩
    · have u:ufE xs L ts s=zci L ts s:=by unfold ufE;rw[if_pos h,if_neg ho]
      have v:ufR xs L ts s=[]:=by unfold ufR;rw[if_pos h,if_neg ho]
      repeat' (intro hzz;(try (rename Two=>hq;cases hq));(try dsimp only at hzz);(try simp only[zac,zab,eqD,inR,big,zaa,Bool.not_true,Bool.not_false,Bool.true_eq,decide_eq_true_eq,decide_eq_false_iff_not,Bool.not_eq_true',Bool.not_eq_false',Bool.and_eq_true,Prod.mk.injEq,and_true,true_and,Int.not_lt,Int.not_le,gt_iff_lt,ge_iff_le] at hzz);(try simp only[zac,zab,eqD,inR,big,zaa,Bool.not_true,Bool.not_false,Bool.true_eq,decide_eq_true_eq,decide_eq_false_iff_not,Bool.not_eq_true',Bool.not_eq_false',Bool.and_eq_true,Prod.mk.injEq,and_true,true_and,Int.not_lt,Int.not_le,gt_iff_lt,ge_iff_le,h,u,v] at hzz);(try (first|contradiction|(exfalso;omega)));(try (revert hzz;intro _)))
      all_goals try (rename Unit=>hq;clear hq)
      all_goals try ((with_reducible refine Held.mk ?_);(with_reducible (first|refine Frz.mk ?_|refine And.intro (Frz.mk ?_) ?_|refine And.intro ?_ (Frz.mk ?_)));repeat' first|exact True.intro|(change _=_;with_reducible rfl)|refine And.intro ?_ ?_|(with_reducible refine Frz.mk ?_))
      all_goals try (refine Held.mk ?_;(try dsimp only at *);(try simp only[zac,zab,eqD,inR,big,zaa,Bool.not_true,Bool.not_false,Bool.true_eq,decide_eq_true_eq,decide_eq_false_iff_not,Bool.not_eq_true',Bool.not_eq_false',Bool.and_eq_true,Prod.mk.injEq,and_true,true_and,Int.not_lt,Int.not_le,gt_iff_lt,ge_iff_le] at *);(try simp only[zac,zab,eqD,inR,big,zaa,Bool.not_true,Bool.not_false,Bool.true_eq,decide_eq_true_eq,decide_eq_false_iff_not,Bool.not_eq_true',Bool.not_eq_false',Bool.and_eq_true,Prod.mk.injEq,and_true,true_and,Int.not_lt,Int.not_le,gt_iff_lt,ge_iff_le,h,u,v] at *))
      all_goals try omega
  · have u:ufE xs L ts s=lE xs:=by unfold ufE;rw[if_neg h]
    have v:ufR xs L ts s=[]:=by unfold ufR;rw[if_neg h]
    repeat' (intro hzz;(try (rename Two=>hq;cases hq));(try dsimp only at hzz);(try simp only[zac,zab,eqD,inR,big,zaa,Bool.not_true,Bool.not_false,Bool.true_eq,decide_eq_true_eq,decide_eq_false_iff_not,Bool.not_eq_true',Bool.not_eq_false',Bool.and_eq_true,Prod.mk.injEq,and_true,true_and,Int.not_lt,Int.not_le,gt_iff_lt,ge_iff_le] at hzz);(try simp only[zac,zab,eqD,inR,big,zaa,Bool.not_true,Bool.not_false,Bool.true_eq,decide_eq_true_eq,decide_eq_false_iff_not,Bool.not_eq_true',Bool.not_eq_false',Bool.and_eq_true,Prod.mk.injEq,and_true,true_and,Int.not_lt,Int.not_le,gt_iff_lt,ge_iff_le,u,v] at hzz);(try (first|contradiction|(exfalso;omega)));(try (revert hzz;intro _)))
    all_goals try (rename Unit=>hq;clear hq)
    all_goals try ((with_reducible refine Held.mk ?_);(with_reducible (first|refine Frz.mk ?_|refine And.intro (Frz.mk ?_) ?_|refine And.intro ?_ (Frz.mk ?_)));repeat' first|exact True.intro|(change _=_;with_reducible rfl)|refine And.intro ?_ ?_|(with_reducible refine Frz.mk ?_))
    all_goals try (refine Held.mk ?_;(try dsimp only at *);(try simp only[zac,zab,eqD,inR,big,zaa,Bool.not_true,Bool.not_false,Bool.true_eq,decide_eq_true_eq,decide_eq_false_iff_not,Bool.not_eq_true',Bool.not_eq_false',Bool.and_eq_true,Prod.mk.injEq,and_true,true_and,Int.not_lt,Int.not_le,gt_iff_lt,ge_iff_le] at *);(try simp only[zac,zab,eqD,inR,big,zaa,Bool.not_true,Bool.not_false,Bool.true_eq,decide_eq_true_eq,decide_eq_false_iff_not,Bool.not_eq_true',Bool.not_eq_false',Bool.and_eq_true,Prod.mk.injEq,and_true,true_and,Int.not_lt,Int.not_le,gt_iff_lt,ge_iff_le,u,v] at *))
    all_goals try omega
theorem zoL (xs:CL) (L:Int) (ts:List Int) (s:Int):okC (ufR xs L ts s):=by
  unfold ufR
  repeat' split
  all_goals first|exact znT _|exact zfS
theorem zk3 (f g:Nat→Int):∀k,sm (fun i=>f i+g i) k=sm f k+sm g k
  | 0=>rfl
  | k+1=>by simp only[sm,zk3 f g k];omega
theorem zc9 (c:Int) (f:Nat→Int):∀k,sm (fun i=>c*f i) k=c*sm f k
  | 0=>by simp[sm]
  | k+1=>by simp only[sm,zc9 c f k,Int.mul_add]
theorem zfi (c:Int):∀k:Nat,sm (fun _=>c) k=k*c
  | 0=>by simp[sm]
  | k+1=>by simp only[sm,zfi c k];rw[Int.natCast_add,Int.add_mul];simp
theorem zfD (f:Nat→Nat→Int) (m:Nat):∀n,sm (fun i=>sm (fun j=>f i j) m) n=sm (fun j=>sm (fun i=>f i j) n) m
  | 0=>by
    have:∀m,sm (fun _=>(0:Int)) m=0:=fun m=>by rw[zfi];simp
    simp only[sm]
    exact (this m).symm
  | n+1=>by
    simp only[sm,zfD f m n]
    rw[←zk3]
theorem zeA {f:Nat→Int} {n:Nat} (h:∀i,f (i+n)=f i):∀k,sm (fun i=>f (i+k)) n=sm f n
  | 0=>rfl
  | k + 1=>by
    have ih:=zeA h k
    have e1:∀m,sm (fun i=>f (i+(k+1))) m+f k=sm (fun i=>f (i+k)) m+f (m+k):=by
      intro m
      induction m with
      | zero=>simp[sm]
      | succ m ihm=>
        simp only[sm]
        have e:m+(k+1)=m+1+k:=by omega
        rw[e] at *
        omega
    have:=e1 n
    have h2:=h k
    rw[Nat.add_comm n k,h2] at this
    omega
def Maxi (L:Int) (xs:List Int):Prop:=(per L xs 1:Int)=most L
section
variable {L:Int} {xs:List Int} {s:Int}
theorem zkY (h:pSt L xs s) {i j:Nat} (hij:i≤j) (he:stI L xs s i=stI L xs s j):stI L xs s (j - i)=s:=by
  refine zjn h (j - i) i ?_
  rw[show i+(j - i)=j from by omega]
  exact he
theorem zi4 (h:pSt L xs s) {d:Nat} (hd:stI L xs s d=s):d % per L xs s=0:=by
  obtain⟨h1,h2,h3,h4⟩:=zbx h
  have hm:∀q:Nat,stI L xs s (per L xs s*q)=s:=by
    intro q
    induction q with
    | zero=>rfl
    | succ q ih=>
      rw[Nat.mul_succ,←zcL,ih];exact h1
  have e:stI L xs s (d % per L xs s)=s:=by
    have:=hd
    rw[←Nat.div_add_mod d (per L xs s),←zcL,hm] at this
    exact this
  by_cases hz:d % per L xs s=0
  · exact hz
  · exact absurd e (h4 _ (by omega) (Nat.mod_lt _ (by omega)))
theorem zlu (h:pSt L xs s) (q:Nat):stI L xs s (per L xs s*q)=s:=by
  obtain⟨h1,_⟩:=zbx h
  induction q with
  | zero=>rfl
  | succ q ih=>rw[Nat.mul_succ,←zcL,ih];exact h1
theorem zkc (h:pSt L xs s) (hz:nxt L xs s=0):s=0:=by
  have h0:pSt L xs 0:=⟨h.1,h.2.1,by omega,by have:=h.2.2;omega⟩
  have e:nxt L xs 0=0:=by
    have hp:∀k,parK L xs 0 k=0:=by
      intro k
      induction k with
      | zero=>rfl
      | succ k ih=>simp only[parK,ih,ze1,Int.zero_ediv];rfl
    simp only[nxt,hp]
    simp
  exact zly h h0 (hz.trans e.symm)
theorem zkW (h:pSt L xs s) (hs:1≤s):∀i,1≤stI L xs s i
  | 0=>hs
  | i+1=>by
    have ih:=zkW h hs i
    have h1:=zbn h i
    have h2:=(zbn h (i+1)).2.2
    have h3:nxt L xs (stI L xs s i)≠0:=fun e=>by have:=zkc h1 e;omega
    have h4:stI L xs s (i+1)=nxt L xs (stI L xs s i):=rfl
    rw[h4] at h2 ⊢
    omega
theorem znx (hc:chk L xs=0) (hl:pLen xs.length) (hM:Maxi L xs) (h:pSt L xs s) (hs:1≤s):∃j,stI L xs 1 j=s:=by
  have h1:=zeH hc hl
  obtain⟨p1,p2,p3,p4⟩:=zbx h1
  have hM':(per L xs 1:Int)=most L:=hM
  unfold most at hM'
  have hpos:=zkW h1 (by omega)
  have hst:=zbn h1
  have hs2:=h.2.2
  obtain ⟨i,j,q1,q2,q3⟩:=zlt (per L xs 1) (fun i=>if i<per L xs 1 then (stI L xs 1 i - 1).toNat else (s - 1).toNat) (fun i _=>by
    have a1:=hpos i
    have a2:=(hst i).2.2
    show (if i<per L xs 1 then (stI L xs 1 i - 1).toNat else (s - 1).toNat)<per L xs 1
    split<;>omega)
  have q3:(if i<per L xs 1 then (stI L xs 1 i - 1).toNat else (s - 1).toNat)=(if j<per L xs 1 then (stI L xs 1 j - 1).toNat else (s - 1).toNat):=q3
  rw[if_pos (by omega)] at q3
  have a1:=hpos i
  have a2:=hpos j
  by_cases hj:j<per L xs 1
  · rw[if_pos hj] at q3
    have e:=zkY h1 (Nat.le_of_lt q1) (show stI L xs 1 i=stI L xs 1 j by omega)
    exact absurd e (p4 (j - i) (by omega) (by omega))
  · rw[if_neg hj] at q3
    exact⟨i,by omega⟩
theorem zlv (hc:chk L xs=0) (hl:pLen xs.length) (hM:Maxi L xs) (h:pSt L xs s) (hs:1≤s):per L xs s=per L xs 1:=by
  have h1:=zeH hc hl
  obtain⟨j,hj⟩:=znx hc hl hM h hs
  obtain⟨p1,p2,p3,p4⟩:=zbx h1
  obtain⟨r1,r2,r3,r4⟩:=zbx h
  have e1:stI L xs s (per L xs 1)=s:=by
    rw[←hj,zcL,Nat.add_comm,←zcL,p1]
  have e2:stI L xs 1 (per L xs s)=1:=by
    have:=r1
    rw[←hj,zcL] at this
    have:=zkY h1 (Nat.le_add_right j _) this.symm
    rwa [show j+per L xs (stI L xs 1 j) - j=per L xs s from by rw[hj];omega] at this
  have d1:=zi4 h e1
  have d2:=zi4 h1 e2
  by_cases hlt:per L xs s<per L xs 1
  · rw[Nat.mod_eq_of_lt hlt] at d2;omega
  · by_cases hgt:per L xs 1<per L xs s
    · rw[Nat.mod_eq_of_lt hgt] at d1;omega
    · omega
def zbS (c:Nat→Int):Nat→Int
  | 0=>0
  | k+1=>zbS c k+c k*2 ^ k
theorem zez {c:Nat→Int} (hc:∀i,0≤c i∧c i≤1):∀k:Nat,0≤zbS c k∧zbS c k<2 ^ k
  | 0=>by simp[zbS]
  | k+1=>by
    have ih:=zez hc k
    have h:=hc k
    simp only[zbS]
    rw[Int.pow_succ]
    rcases (show c k=0∨c k=1 from by omega) with e|e<;>(rw[e];omega)
theorem zfB {c:Nat→Int} (hc:∀i,0≤c i∧c i≤1):∀(k j:Nat),j<k→zbS c k / 2 ^ j % 2=c j
  | 0,j,h=>by omega
  | k + 1,j,h=>by
    have hin:=zez hc k
    have hk:=hc k
    simp only[zbS]
    by_cases hj:j=k
    · subst hj
      have hp:(0:Int)<2 ^ j:=Int.pow_pos (by omega)
      rw[Int.add_mul_ediv_right _ _ (by omega),Int.ediv_eq_zero_of_lt hin.1 hin.2]
      omega
    · have ih:=zfB hc k j (by omega)
      obtain⟨m,hm⟩:∃m,k=j+1+m:=⟨k - (j+1),by omega⟩
      rw[←ih,hm]
      exact zma (M:=0) (by rw[←hm];exact hin.1) (c (j+1+m))
theorem uniq (hc:chk L xs=0) (hl:pLen xs.length) {c:Nat→Int} (h01:∀i,0≤c i∧c i≤1) (hr:∀t:Nat,L≤(t:Int)→c t=sm (fun j=>c (t - (xs.getD j 0).toNat)) xs.length % 2) :
    pSt L xs (zbS c L.toNat)∧∀t,bitI L xs (zbS c L.toNat) t=c t:=by
  have hL:=(zaq hc).1
  have hz:=zbJ (zaq hc).2.2.1
  have hin:=zez h01 L.toNat
  have hst:pSt L xs (zbS c L.toNat):=⟨hc,hl,hin.1,hin.2⟩
  refine⟨hst,fun t=>?_⟩
  induction t using Nat.strongRecOn with
  | _ t ih=>
    by_cases ht:(t:Int)<L
    · rw[zes hst ht]
      exact zfB h01 L.toNat t (by omega)
    · rw[zft hst (by omega),hr t (by omega)]
      unfold zbV
      rw[zam xs.length (fun j hj=>ih (t - (xs.getD j 0).toNat) (by have:=hz j (by omega) (by omega);omega))]
theorem znn (f g:Nat→Int):∀k,sm (fun i=>(f i+g i) % 2) k % 2=(sm f k+sm g k) % 2
  | 0=>rfl
  | k+1=>by
    have ih:=znn f g k
    simp only[sm]
    omega
theorem zka (s:Int) (k i:Nat):bitI L xs (stI L xs s k) i=bitI L xs s (k+i):=by
  unfold bitI;rw[zcL]
theorem zne (h:pSt L xs s) {s':Int} (h':pSt L xs s') (he:∀i,bitI L xs s i=bitI L xs s' i):s=s':=by
  have hL:=(zaq h.1).1
  have key : ∀(k:Nat),(k:Int)≤L→s % 2 ^ k=s' % 2 ^ k:=by
    intro k
    induction k with
    | zero=>intro _;simp[Int.emod_one]
    | succ k ih=>
      intro hk
      have e1:=ih (by omega)
      have e2:=he k
      rw[zes h (by omega),zes h' (by omega)] at e2
      have d : ∀x:Int,x % 2 ^ (k+1)=x % 2 ^ k+(x / 2 ^ k % 2)*2 ^ k:=by
        intro x
        have hp:(0:Int)<2 ^ k:=Int.pow_pos (by omega)
        rw[Int.pow_succ]
        have e1:=Int.mul_ediv_add_emod x (2 ^ k)
        have e2:=Int.mul_ediv_add_emod (x / 2 ^ k) 2
        have e3:=Int.emod_nonneg x (show (2:Int) ^ k≠0 by omega)
        have e4:=Int.emod_lt_of_pos x hp
        have e5:=Int.emod_nonneg (x / 2 ^ k) (show (2:Int)≠0 by omega)
        have e6:=Int.emod_lt_of_pos (x / 2 ^ k) (show (0:Int)<2 by omega)
        have e7:x=2 ^ k*2*(x / 2 ^ k / 2)+(x % 2 ^ k+(x / 2 ^ k % 2)*2 ^ k):=by
          have:2 ^ k*(x / 2 ^ k)=2 ^ k*2*(x / 2 ^ k / 2)+(x / 2 ^ k % 2)*2 ^ k:=by
            rw[Int.mul_assoc,Int.mul_comm (x / 2 ^ k % 2) (2 ^ k),←Int.mul_add,e2]
          omega
        have e8:0≤x % 2 ^ k+(x / 2 ^ k % 2)*2 ^ k∧x % 2 ^ k+(x / 2 ^ k % 2)*2 ^ k<2 ^ k*2:=by
          rcases (show x / 2 ^ k % 2=0∨x / 2 ^ k % 2=1 from by omega) with h|h<;>(rw[h];omega)
        have e9:x % (2 ^ k*2)=(x % 2 ^ k+(x / 2 ^ k % 2)*2 ^ k) % (2 ^ k*2):=by
          conv=>lhs;rw[e7]
          rw[Int.mul_add_emod_self_left]
        rw[e9,Int.emod_eq_of_lt e8.1 e8.2]
      rw[d,d,e1,e2]
  have h1:=key L.toNat (by omega)
  have r1:=h.2.2
  have r2:=h'.2.2
  unfold P2 at r1 r2
  rw[Int.emod_eq_of_lt r1.1 r1.2,Int.emod_eq_of_lt r2.1 r2.2] at h1
  exact h1
end
section
variable {L:Int} {xs:List Int} {s:Int}
theorem ziU (s:Int) (k i:Nat):sgI L xs (stI L xs s k) i=sgI L xs s (k+i):=by
  unfold sgI;rw[zka]
theorem ziT (h:pSt L xs s) (i:Nat):sgI L xs s (i+per L xs s)=sgI L xs s i:=by
  rw[Nat.add_comm,←ziU,(zbx h).1]
theorem zh0 (h:pSt L xs s) (q i:Nat):sgI L xs s (per L xs s*q+i)=sgI L xs s i:=by
  rw[←ziU,zlu h]
theorem znX (h:pSt L xs s) (m:Nat):sgI L xs s (m % per L xs s)=sgI L xs s m:=by
  have e:=zh0 h (m / per L xs s) (m % per L xs s)
  rw[Nat.div_add_mod] at e
  exact e.symm
def sumS (L:Int) (xs:List Int) (s:Int):Int:=sm (sgI L xs s) (per L xs 1)
def corS (L:Int) (xs:List Int) (s:Int) (k:Nat):Int:=sm (fun i=>sgI L xs s i*sgI L xs s (i+k)) (per L xs 1)
theorem zjw (hc:chk L xs=0) (hl:pLen xs.length) (hM:Maxi L xs) (h:pSt L xs s) (hs:1≤s):sumS L xs s=sumS L xs 1:=by
  have h1:=zeH hc hl
  obtain⟨j,hj⟩:=znx hc hl hM h hs
  have e:=zeA (f:=sgI L xs 1) (n:=per L xs 1) (fun i=>ziT h1 i) j
  unfold sumS
  rw[←e,←hj]
  exact zam _ fun i _=>by rw[ziU,Nat.add_comm]
theorem zj7 (h:pSt L xs s) (hp:per L xs s=per L xs 1) {k:Nat} (hk:k % per L xs 1=0):corS L xs s k=per L xs 1:=by
  have e:∀i,i<per L xs 1→sgI L xs s i*sgI L xs s (i+k)=1:=by
    intro i _
    have e1:sgI L xs s (i+k)=sgI L xs s i:=by
      have:=zh0 h (k / per L xs s) i
      rw[hp,Nat.mul_div_cancel' (Nat.dvd_of_mod_eq_zero hk),Nat.add_comm] at this
      exact this
    rw[e1]
    have:=zet (L:=L) (xs:=xs) (s:=s) i
    unfold sgI
    rcases (show bitI L xs s i=0∨bitI L xs s i=1 from by omega) with h0|h0<;>(rw[h0];rfl)
  unfold corS
  rw[zam _ e,zfi]
  omega
theorem ziC (hc:chk L xs=0) (hl:pLen xs.length) (hM:Maxi L xs) (h:pSt L xs s) (hs:1≤s) {k:Nat} (hk:¬k % per L xs 1=0):corS L xs s k=sumS L xs 1:=by
  have hp:=zlv hc hl hM h hs
  have hz:=zbJ (zaq hc).2.2.1
  have b:=fun i=>zet (L:=L) (xs:=xs) (s:=s) i
  obtain⟨c,hcd⟩:∃c:Nat→Int,c=fun i=>(bitI L xs s i+bitI L xs s (i+k)) % 2:=⟨_,rfl⟩
  have ce:∀i,c i=(bitI L xs s i+bitI L xs s (i+k)) % 2:=fun i=>by rw[hcd]
  have h01:∀i,0≤c i∧c i≤1:=fun i=>by rw[ce];omega
  have hr:∀t:Nat,L≤(t:Int)→c t=sm (fun j=>c (t - (xs.getD j 0).toNat)) xs.length % 2:=by
    intro t ht
    have e1:=zft h ht
    have e2:=zft h (t:=t+k) (by omega)
    have e3:zbV L xs s (t+k) xs.length=sm (fun j=>bitI L xs s (t - (xs.getD j 0).toNat+k)) xs.length:=by
      refine zam _ fun j hj=>?_
      have:=hz j (by omega) (by omega)
      rw[show t+k - (xs.getD j 0).toNat=t - (xs.getD j 0).toNat+k from by omega]
    have e4:=znn (fun j=>bitI L xs s (t - (xs.getD j 0).toNat)) (fun j=>bitI L xs s (t - (xs.getD j 0).toNat+k)) xs.length
    have e5:sm (fun j=>c (t - (xs.getD j 0).toNat)) xs.length=sm (fun j=>(bitI L xs s (t - (xs.getD j 0).toNat)+bitI L xs s (t - (xs.getD j 0).toNat+k)) % 2) xs.length:=zam _ fun j _=>ce _
    have e6:zbV L xs s t xs.length=sm (fun j=>bitI L xs s (t - (xs.getD j 0).toNat)) xs.length:=rfl
    rw[ce,e1,e2,e3,e5,e4,e6]
    omega
  obtain⟨hu,hub⟩:=uniq hc hl h01 hr
  have hu1 : 1 ≤ zbS c L.toNat:=by
    have:=hu.2.2
    by_cases h0:zbS c L.toNat=0
    · exfalso
      have h00:pSt L xs 0:=by rw[←h0];exact hu
      have z : ∀i,bitI L xs 0 i=0:=by
        have st0:∀i,stI L xs 0 i=0:=by
          intro i
          induction i with
          | zero=>rfl
          | succ i ih=>
            have hpz:∀m,parK L xs 0 m=0:=by
              intro m
              induction m with
              | zero=>rfl
              | succ m ihm=>simp only[parK,ihm,ze1,Int.zero_ediv];rfl
            simp only[stI,ih,nxt,hpz]
            simp
        intro i
        unfold bitI
        rw[st0];rfl
      have e:s=stI L xs s k:=zne h (zbn h k) fun i=>by
        have e1:=hub i
        rw[h0,z i,ce] at e1
        rw[zka,Nat.add_comm]
        have:=b i
        have:=b (i+k)
        omega
      have:=zi4 h e.symm
      rw[hp] at this
      exact hk this
    · omega
  rw[←zjw hc hl hM hu hu1]
  unfold corS sumS
  refine zam _ fun i _=>?_
  unfold sgI
  rw[hub,ce]
  have b1:=b i
  have b2:=b (i+k)
  rcases (show bitI L xs s i=0∨bitI L xs s i=1 from by omega) with e1|e1<;>rcases (show bitI L xs s (i+k)=0∨bitI L xs s (i+k)=1 from by omega) with e2|e2<;>(rw[e1,e2];rfl)
theorem zjx (a b:Int):∀n:Nat,sm (fun k=>if k=0 then a else b) (n+1)=a+n*b
  | 0=>by simp[sm]
  | n+1=>by
    have ih:=zjx a b n
    have e:sm (fun k=>if k=0 then a else b) (n+1+1)=sm (fun k=>if k=0 then a else b) (n+1)+(if n+1=0 then a else b):=rfl
    rw[e,ih,if_neg (by omega),Int.natCast_add,Int.add_mul]
    simp
    omega
theorem zdJ {f:Nat→Int} (h:∀i,0≤f i):∀ {n:Nat},sm f n=0→∀i,i<n→f i=0
  | 0,_,i,hi=>by omega
  | n + 1,hz,i,hi=>by
    have hn:∀m,0≤sm f m:=by
      intro m
      induction m with
      | zero=>exact Int.le_refl _
      | succ m ih=>have:=h m;simp only[sm];omega
    simp only[sm] at hz
    have h1:=hn n
    have h2:=h n
    by_cases he:i=n
    · subst he;omega
    · exact zdJ h (n:=n) (by omega) i (by omega)
theorem zkT (hc:chk L xs=0) (hl:pLen xs.length) (hM:Maxi L xs):sumS L xs 1 = -1:=by
  have h1:=zeH hc hl
  have hL:=(zaq hc).1
  obtain⟨p1,p2,p3,p4⟩:=zbx h1
  obtain⟨n,hn⟩:∃n,per L xs 1=n+1:=⟨per L xs 1 - 1,by omega⟩
  obtain⟨S,hS⟩:∃S,S=sumS L xs 1:=⟨_,rfl⟩
  -- all correlations, added up
  have e1:sm (fun k=>corS L xs 1 k) (per L xs 1)=(n+1:Int)+n*S:=by
    have:sm (fun k=>corS L xs 1 k) (per L xs 1)=sm (fun k=>if k=0 then ((n+1:Nat):Int) else S) (n+1):=by
      rw[←hn]
      refine zam _ fun k hk=>?_
      by_cases h0:k=0
      · rw[if_pos h0,zj7 h1 rfl (by rw[h0];exact Nat.zero_mod _)]
      · rw[if_neg h0,ziC hc hl hM h1 (by omega) (by rw[Nat.mod_eq_of_lt hk];exact h0),hS]
    rw[this,zjx]
    simp
  have e2:sm (fun k=>corS L xs 1 k) (per L xs 1)=S*S:=by
    have f1:sm (fun k=>corS L xs 1 k) (per L xs 1)=sm (fun i=>sm (fun k=>sgI L xs 1 i*sgI L xs 1 (i+k)) (per L xs 1)) (per L xs 1):=(zfD (fun i k=>sgI L xs 1 i*sgI L xs 1 (i+k)) (per L xs 1) (per L xs 1)).symm
    rw[f1]
    have f2:∀i,i<per L xs 1→sm (fun k=>sgI L xs 1 i*sgI L xs 1 (i+k)) (per L xs 1)=S*sgI L xs 1 i:=by
      intro i _
      rw[zc9]
      have f3:=zeA (f:=sgI L xs 1) (n:=per L xs 1) (fun i=>ziT h1 i) i
      have f4:sm (fun k=>sgI L xs 1 (i+k)) (per L xs 1)=sm (fun k=>sgI L xs 1 (k+i)) (per L xs 1):=zam _ fun k _=>by rw[Nat.add_comm]
      rw[f4,f3,Int.mul_comm,hS];rfl
    rw[zam _ f2,zc9,hS];rfl
  have e3:(S - (n+1:Int))*(S+1)=0:=by
    have e:=e1.symm.trans e2
    have:(S - (n+1:Int))*(S+1)=S*S - ((n+1:Int)+n*S):=by
      rw[Int.sub_mul,Int.mul_add,Int.mul_add,Int.mul_one,Int.mul_one,Int.add_mul,Int.one_mul]
      omega
    rw[this,←e];omega
  rcases Int.mul_eq_zero.1 e3 with h|h
  · exfalso
    -- all bits would be 0
    have e4:S=(n+1:Int) - 2*sm (bitI L xs 1) (per L xs 1):=by
      rw[hS]
      unfold sumS
      have:sm (sgI L xs 1) (per L xs 1)=sm (fun i=>1+(-2)*bitI L xs 1 i) (per L xs 1):=zam _ fun i _=>by unfold sgI;omega
      rw[this,zk3,zfi,zc9,hn]
      simp
      omega
    have hz:sm (bitI L xs 1) (per L xs 1)=0:=by omega
    have:=zdJ (fun i=>(zet (L:=L) (xs:=xs) (s:=1) i).1) hz 0 (by omega)
    rw[zes h1 (by omega)] at this
    simp at this
  · rw[←hS];omega
end
/-! ### Numbers read back -/
theorem znw {n:Int} (h1 : -16777216≤n) (h2:n≤16777216):pE (floatOfInt .f32 n)=0∧fT .f32 (floatOfInt .f32 n)=n:=by
  obtain⟨a,b⟩:=zeR h1 h2
  have h0:=ziv .f32
  have ht:fT .f32 (floatOfInt .f32 n)=n:=by
    unfold fT;rw[b,Int.mul_tdiv_cancel _ (by omega)]
  have hw:fWh .f32 (floatOfInt .f32 n)=true:=by
    unfold fWh;rw[ht,b];exact decide_eq_true rfl
  refine⟨?_,ht⟩
  unfold pE M32
  rw[if_pos a,b,hw,if_neg ?_,if_pos rfl]
  generalize fS .f32=S at *
  rintro (h|h)
  · have:=Int.mul_le_mul_of_nonneg_right h2 (show 0≤S by omega);omega
  · have:=Int.mul_le_mul_of_nonneg_right h1 (show 0≤S by omega);omega
theorem zfh {α:Type} (d:α) (l:List α):tab (fun i=>l.getD i d) l.length=l:=by
  apply List.ext_getElem
  · exact zae _ _
  · intro i h1 h2
    have h3:=zaE (fun i=>l.getD i d) d l.length i h2
    have e1:(tab (fun i=>l.getD i d) l.length).getD i d=(tab (fun i=>l.getD i d) l.length)[i]:=by
      rw[List.getD_eq_getElem?_getD,List.getElem?_eq_getElem h1];rfl
    have e2:l.getD i d=l[i]:=by
      rw[List.getD_eq_getElem?_getD,List.getElem?_eq_getElem h2];rfl
    rw[←e1,h3,e2]
theorem zof {xs:CL} (h:∀i,i<xs.length→eE (xs.getD i (0,0))=0):lF xs=0:=by
  have key:∀k,k≤xs.length→lF (xs.drop (xs.length - k))=0:=by
    intro k
    induction k with
    | zero=>intro _;rw[List.drop_eq_nil_of_le (by omega)];rfl
    | succ k ih=>
      intro hk
      rw[zht (by omega),if_pos (h _ (by omega)),show xs.length - (k+1)+1=xs.length - k by omega]
      exact ih (by omega)
  have:=key xs.length (Nat.le_refl _)
  rwa [Nat.sub_self,List.drop_zero] at this
theorem zpv {ps:List IP} (hf:za9 ps=true) (i:Nat):eE (nmF ps i)=0∧prT (nmF ps i)=ps.getD i (0,0,()):=by
  have h:=zcG hf i
  have a:=znw h.1.1 h.1.2
  have b:=znw h.2.1 h.2.2
  refine⟨eE_c a.1 b.1,?_⟩
  show (fT .f32 (floatOfInt .f32 _),fT .f32 (floatOfInt .f32 _),())=_
  rw[a.2,b.2]
theorem zex {ps:List IP} (hf:za9 ps=true) (h1:1≤ps.length) (h2:ps.length≤1024):lE (tL ps)=0∧lP (tL ps)=ps∧(tL ps).length=ps.length:=by
  have e:tL ps=tab (nmF ps) ps.length:=by unfold tL;rw[if_pos hf]
  have hl:(tL ps).length=ps.length:=by rw[e];exact zae _ _
  have hg:∀i,i<ps.length→(tL ps).getD i (0,0)=nmF ps i:=fun i hi=>by rw[e,zaE _ _ _ _ hi]
  have hE:lE (tL ps)=0:=by
    unfold lE
    rw[if_neg (by omega),if_neg (by omega)]
    exact zof fun i hi=>by rw[hg i (by omega)];exact (zpv hf i).1
  refine⟨hE,?_,hl⟩
  unfold lP
  rw[if_pos hE,hl]
  refine Eq.trans (zaG _ fun i hi=>?_) (zfh (0,0,()) ps)
  rw[hg i hi];exact (zpv hf i).2
/-! ### Sums by parts -/
theorem znQ (ps:List IP) (sg:List Int) (a way:Int):∀n:Nat,(trV ps sg a way n).1=sm (fun k=>(ps.getD k (0,0,())).1*sgA sg (way*(a - k))) n
  | 0=>rfl
  | n+1=>by
    show (trV ps sg a way n).1+_=sm _ n+_
    rw[znQ ps sg a way n];rfl
theorem znP (ps:List IP) (sg:List Int) (a way:Int):∀n:Nat,(trV ps sg a way n).2.1=sm (fun k=>(ps.getD k (0,0,())).2.1*sgA sg (way*(a - k))) n
  | 0=>rfl
  | n+1=>by
    show (trV ps sg a way n).2.1+_=sm _ n+_
    rw[znP ps sg a way n];rfl
theorem zpJ (ps:List IP):∀n:Nat,(flV ps 1 0 n).1=sm (fun k=>(ps.getD k (0,0,())).1) n
  | 0=>rfl
  | n+1=>by rw[flV1];show (flV ps 1 0 n).1+_=sm _ n+_;rw[zpJ ps n]
theorem zpI (ps:List IP):∀n:Nat,(flV ps 1 0 n).2.1=sm (fun k=>(ps.getD k (0,0,())).2.1) n
  | 0=>rfl
  | n+1=>by rw[flV1];show (flV ps 1 0 n).2.1+_=sm _ n+_;rw[zpI ps n]
/-! ### Signs of a maximal register -/
structure Mx (L:Int) (ts:List Int) (s:Int):Prop where
  hst:pSt L ts s
  hs:1≤s
  hM:(per L ts 1:Int)=most L
theorem Mx.N {L:Int} {ts:List Int} {s:Int} (m:Mx L ts s):per L ts 1=(most L).toNat:=by have:=m.hM;omega
theorem Mx.per {L:Int} {ts:List Int} {s:Int} (m:Mx L ts s):per L ts s=(most L).toNat:=(zlv m.hst.1 m.hst.2.1 m.hM m.hst m.hs).trans m.N
theorem Mx.pos {L:Int} {ts:List Int} {s:Int} (m:Mx L ts s):3≤most L∧most L≤255:=zhm (zaq m.hst.1).1
theorem znY {L:Int} {ts:List Int} {s:Int} (m:Mx L ts s) (i:Nat):sgA (sgL L ts s) (i:Int)=sgI L ts s i:=by
  have hp:=m.pos
  unfold sgA
  rw[zg8]
  have e:(fMod (i:Int) ((most L).toNat:Nat)).toNat=i % (most L).toNat:=by
    show ((i:Int) % ((most L).toNat:Nat)).toNat=_
    rw[←Int.natCast_emod];rfl
  rw[e]
  unfold sgL
  rw[zaE _ _ _ _ (Nat.mod_lt _ (by omega)),←m.per,znX m.hst]
theorem zfk {L:Int} {ts:List Int} {s:Int} (m:Mx L ts s) {t j:Nat} (hj:j≤(most L).toNat):sgA (sgL L ts s) ((t:Int) - j)=sgI L ts s (t+((most L).toNat - j)):=by
  rw[←znY m]
  have hp:=m.pos
  unfold sgA
  rw[zg8]
  have e:fMod ((t:Int) - j) ((most L).toNat:Nat)=fMod ((t+((most L).toNat - j):Nat):Int) ((most L).toNat:Nat):=by
    show ((t:Int) - j) % _=((t+((most L).toNat - j):Nat):Int) % _
    rw[show ((t+((most L).toNat - j):Nat):Int)=(t:Int) - j+((most L).toNat:Nat) by omega,Int.add_emod_right]
  rw[e]
theorem zfj {L:Int} {ts:List Int} {s:Int} (m:Mx L ts s) (i:Nat):sgI L ts s (i+(most L).toNat)=sgI L ts s i:=by
  have:=ziT m.hst i
  rwa [m.per] at this
theorem zkS {L:Int} {ts:List Int} {s:Int} (m:Mx L ts s) (j:Nat) (hj:j≤(most L).toNat):sm (fun t=>sgA (sgL L ts s) ((t:Int) - j)) (most L).toNat = -1:=by
  rw[zam _ fun t _=>zfk m hj,zeA (zfj m)]
  have a:=zjw m.hst.1 m.hst.2.1 m.hM m.hst m.hs
  rw[zkT m.hst.1 m.hst.2.1 m.hM] at a
  unfold sumS at a
  rwa [m.N] at a
theorem znE {L:Int} {ts:List Int} {s:Int} (m:Mx L ts s) {a b:Nat} (hab:a≤b) (hb:b<a+(most L).toNat):sm (fun t=>sgI L ts s (t+a)*sgI L ts s (t+b)) (most L).toNat=if a=b then most L else -1:=by
  have hp:=m.pos
  have e:sm (fun t=>sgI L ts s (t+a)*sgI L ts s (t+b)) (most L).toNat=corS L ts s (b - a):=by
    unfold corS
    rw[m.N]
    have h:=zeA (f:=fun i=>sgI L ts s i*sgI L ts s (i+(b - a))) (n:=(most L).toNat) (fun i=>by
      show sgI L ts s (i+(most L).toNat)*sgI L ts s (i+(most L).toNat+(b - a))=_
      rw[zfj m,show i+(most L).toNat+(b - a)=i+(b - a)+(most L).toNat by omega,zfj m]) a
    rw[←h]
    refine zam _ fun t _=>?_
    show _=sgI L ts s (t+a)*sgI L ts s (t+a+(b - a))
    rw[show t+a+(b - a)=t+b by omega]
  rw[e]
  by_cases h:a=b
  · rw[if_pos h,zj7 m.hst (m.per.trans m.N.symm) (by rw[show b - a=0 by omega,Nat.zero_mod])];exact m.hM
  · rw[if_neg h,ziC m.hst.1 m.hst.2.1 m.hM m.hst m.hs (by rw[m.N,Nat.mod_eq_of_lt (by omega)];omega),zkT m.hst.1 m.hst.2.1 m.hM]
theorem zov {L:Int} {ts:List Int} {s:Int} (m:Mx L ts s) {j k:Nat} (hj:j<(most L).toNat) (hk:k<(most L).toNat) :
    sm (fun t=>sgA (sgL L ts s) ((t:Int) - j)*sgA (sgL L ts s) ((t:Int) - k)) (most L).toNat=if j=k then most L else -1:=by
  rw[zam _ fun t _=>by rw[zfk m (Nat.le_of_lt hj),zfk m (Nat.le_of_lt hk)]]
  rcases Nat.le_total j k with h|h
  · have:=znE m (a:=(most L).toNat - k) (b:=(most L).toNat - j) (by omega) (by omega)
    rw[zam _ fun t _=>Int.mul_comm _ _,this]
    by_cases e:j=k
    · rw[if_pos (by omega),if_pos e]
    · rw[if_neg (by omega),if_neg e]
  · have:=znE m (a:=(most L).toNat - j) (b:=(most L).toNat - k) (by omega) (by omega)
    rw[this]
    by_cases e:j=k
    · rw[if_pos (by omega),if_pos e]
    · rw[if_neg (by omega),if_neg e]
theorem zk2 (c d:Int) (f:Nat→Int) (k:Nat):∀n:Nat,sm (fun j=>f j*(if j=k then c else d)) n=d*sm f n+(if k<n then (c - d)*f k else 0)
  | 0=>by simp[sm]
  | n + 1=>by
    show sm _ n+f n*(if n=k then c else d)=d*(sm f n+f n)+_
    rw[zk2 c d f k n]
    by_cases h:n=k
    · subst h
      rw[if_pos rfl,if_neg (by omega),if_pos (by omega)];grind
    · rw[if_neg h]
      by_cases h2:k<n
      · rw[if_pos h2,if_pos (by omega)];grind
      · rw[if_neg h2,if_neg (by omega)];grind
theorem zkb {L:Int} {ts:List Int} {s:Int} (m:Mx L ts s) (h:Nat→Int) {k:Nat} (hk:k<(most L).toNat) :
    sm (fun t=>sm (fun j=>h j*sgA (sgL L ts s) ((t:Int) - j)) (most L).toNat*sgA (sgL L ts s) ((t:Int) - k)) (most L).toNat - sm (fun t=>sm (fun j=>h j*sgA (sgL L ts s) ((t:Int) - j)) (most L).toNat) (most L).toNat=(most L+1)*h k:=by
  have e1:sm (fun t=>sm (fun j=>h j*sgA (sgL L ts s) ((t:Int) - j)) (most L).toNat*sgA (sgL L ts s) ((t:Int) - k)) (most L).toNat=sm (fun j=>h j*(if j=k then most L else -1)) (most L).toNat:=by
    have:∀t,t<(most L).toNat→sm (fun j=>h j*sgA (sgL L ts s) ((t:Int) - j)) (most L).toNat*sgA (sgL L ts s) ((t:Int) - k)=sm (fun j=>h j*(sgA (sgL L ts s) ((t:Int) - j)*sgA (sgL L ts s) ((t:Int) - k))) (most L).toNat:=fun t _=>by
      rw[Int.mul_comm,←zc9]
      refine zam _ fun j _=>?_
      rw[Int.mul_comm,Int.mul_assoc]
    rw[zam _ this,zfD]
    refine zam _ fun j hj=>?_
    rw[zc9,zov m hj hk]
  have e2:sm (fun t=>sm (fun j=>h j*sgA (sgL L ts s) ((t:Int) - j)) (most L).toNat) (most L).toNat=sm (fun j=>h j * -1) (most L).toNat:=by
    rw[zfD]
    refine zam _ fun j hj=>?_
    rw[zc9,zkS m j (Nat.le_of_lt hj)]
  have e3:sm (fun j=>h j * -1) (most L).toNat = -1*sm h (most L).toNat:=by
    rw[←zc9];exact zam _ fun j _=>Int.mul_comm _ _
  rw[e1,e2,e3,zk2,if_pos hk]
  grind
/-! ### Congruence -/
def Cg (p x y:Int):Prop:=x % p=y % p
theorem Cg.refl (p x:Int):Cg p x x:=rfl
theorem Cg.symm {p x y:Int} (h:Cg p x y):Cg p y x:=Eq.symm h
theorem Cg.trans {p x y z:Int} (h:Cg p x y) (h':Cg p y z):Cg p x z:=Eq.trans h h'
theorem Cg.add {p x y u v:Int} (h:Cg p x y) (h':Cg p u v):Cg p (x+u) (y+v):=by
  unfold Cg at *;rw[Int.add_emod,h,h',←Int.add_emod]
theorem Cg.mul {p x y u v:Int} (h:Cg p x y) (h':Cg p u v):Cg p (x*u) (y*v):=by
  unfold Cg at *;rw[Int.mul_emod,h,h',←Int.mul_emod]
theorem Cg.pow {p x y:Int} (h:Cg p x y):∀n:Nat,Cg p (x ^ n) (y ^ n)
  | 0=>by rw[Int.pow_zero,Int.pow_zero];exact Cg.refl _ _
  | n+1=>by rw[Int.pow_succ,Int.pow_succ];exact (h.pow n).mul h
theorem Cg.sm {p:Int} {f g:Nat→Int}:∀n:Nat,(∀i,i<n→Cg p (f i) (g i))→Cg p (sm f n) (sm g n)
  | 0,_=>rfl
  | n+1,h=>(Cg.sm n fun i hi=>h i (by omega)).add (h n (by omega))
theorem Cg.eq {p x y:Int} (h:Cg p x y) (hx:0≤x) (hx':x<p) (hy:0≤y) (hy':y<p):x=y:=by
  unfold Cg at h
  rwa [Int.emod_eq_of_lt hx hx',Int.emod_eq_of_lt hy hy'] at h
/-! ### Fermat -/
def ch:Nat→Nat→Int
  | _,0=>1
  | 0,_+1=>0
  | n+1,k+1=>ch n k+ch n (k+1)
theorem zfN {p w:Int} {n:Nat} (h:Cg p (w ^ n) 1) (k:Nat):Cg p (w ^ (n*k)) 1:=by
  rw[Int.pow_mul]
  have:=h.pow k
  rwa [Int.one_pow] at this
theorem zmG {p w:Int} {n:Nat} (h:Cg p (w ^ n) 1) (k:Nat):Cg p (w ^ (k % n)) (w ^ k):=by
  have e:k=k % n+n*(k / n):=(Nat.mod_add_div k n).symm
  have:Cg p (w ^ (k % n+n*(k / n))) (w ^ (k % n)):=by
    rw[Int.pow_add]
    have:=(Cg.refl p (w ^ (k % n))).mul (zfN h (k / n))
    rwa [Int.mul_one] at this
  rw[←e] at this
  exact this.symm
def pw (b e p:Int):Int:=b ^ e.toNat % p
def inv (a p:Int):Int:=pw a (p - 2) p
abbrev zjr:Ty:=.cons Reg0 (.cons I64 .nil)
theorem Cg.sub {p x y u v:Int} (h:Cg p x y) (h':Cg p u v):Cg p (x - u) (y - v):=by
  have:=h.add ((Cg.refl p (-1)).mul h')
  have e1:x + -1*u=x - u:=by omega
  have e2:y + -1*v=y - v:=by omega
  rwa [e1,e2] at this
/-! ### By correlation -/
theorem zpP (xs:CL) (L:Int) (ts:List Int) (s:Int) (t:Nat):(exF xs L ts s t).1=sm (fun j=>((exf xs L).getD j (0,0,())).1*sgA (sgL L ts s) ((t:Int) - j)) (most L).toNat:=by
  unfold exF
  rw[znQ,zd2]
  exact zam _ fun j _=>by rw[Int.one_mul]
theorem zpO (xs:CL) (L:Int) (ts:List Int) (s:Int) (t:Nat):(exF xs L ts s t).2.1=sm (fun j=>((exf xs L).getD j (0,0,())).2.1*sgA (sgL L ts s) ((t:Int) - j)) (most L).toNat:=by
  unfold exF
  rw[znP,zd2]
  exact zam _ fun j _=>by rw[Int.one_mul]
theorem znj {ys:CL} {xs:CL} {L:Int} {ts:List Int} {s:Int} (m:Mx L ts s) (hy:lP ys=exL xs L ts s) {k:Nat} (hk:k<(most L).toNat) :
    ufV ys L ts s k=((most L+1)*((exf xs L).getD k (0,0,())).1,(most L+1)*((exf xs L).getD k (0,0,())).2.1,()):=by
  have hl:(exL xs L ts s).length=(most L).toNat:=zae _ _
  have hg:∀t,t<(most L).toNat→(exL xs L ts s).getD t (0,0,())=exF xs L ts s t:=fun t ht=>zaE _ _ _ _ ht
  have a:=zkb m (fun j=>((exf xs L).getD j (0,0,())).1) hk
  have b:=zkb m (fun j=>((exf xs L).getD j (0,0,())).2.1) hk
  unfold ufV zpy
  rw[hy,hl,znQ,znP,zpJ,zpI]
  have e1:sm (fun t=>((exL xs L ts s).getD t (0,0,())).1*sgA (sgL L ts s) (-1*((k:Int) - t))) (most L).toNat=sm (fun t=>sm (fun j=>((exf xs L).getD j (0,0,())).1*sgA (sgL L ts s) ((t:Int) - j)) (most L).toNat*sgA (sgL L ts s) ((t:Int) - k)) (most L).toNat:=zam _ fun t ht=>by
    rw[hg t ht,zpP,show -1*((k:Int) - t)=(t:Int) - k by omega]
  have e2:sm (fun t=>((exL xs L ts s).getD t (0,0,())).2.1*sgA (sgL L ts s) (-1*((k:Int) - t))) (most L).toNat=sm (fun t=>sm (fun j=>((exf xs L).getD j (0,0,())).2.1*sgA (sgL L ts s) ((t:Int) - j)) (most L).toNat*sgA (sgL L ts s) ((t:Int) - k)) (most L).toNat:=zam _ fun t ht=>by
    rw[hg t ht,zpO,show -1*((k:Int) - t)=(t:Int) - k by omega]
  have e3:sm (fun t=>((exL xs L ts s).getD t (0,0,())).1) (most L).toNat=sm (fun t=>sm (fun j=>((exf xs L).getD j (0,0,())).1*sgA (sgL L ts s) ((t:Int) - j)) (most L).toNat) (most L).toNat:=zam _ fun t ht=>by
    rw[hg t ht,zpP]
  have e4:sm (fun t=>((exL xs L ts s).getD t (0,0,())).2.1) (most L).toNat=sm (fun t=>sm (fun j=>((exf xs L).getD j (0,0,())).2.1*sgA (sgL L ts s) ((t:Int) - j)) (most L).toNat) (most L).toNat:=zam _ fun t ht=>by
    rw[hg t ht,zpO]
  rw[e1,e2,e3,e4,a,b]
theorem zhN {ys xs:CL} {L:Int} {ts:List Int} {s:Int} (m:Mx L ts s) (h1:lE ys=0) (hy:lP ys=exL xs L ts s) (hf:za9 (exf xs L)=true) :
    ufE ys L ts s=0∧ufR ys L ts s=tL (exf xs L):=by
  have hp:=m.pos
  have ho:zci L ts s=0:=by
    unfold zci
    rw[if_pos m.hst.1]
    unfold ziR
    have h2:=m.hst.2.2.2
    have:s≤most L:=by unfold most;omega
    simp only[m.hs,this,and_self,if_true]
  have hl:(ys.length:Int)=most L:=by
    have a:=zcn h1
    have b:(exL xs L ts s).length=(most L).toNat:=zae _ _
    rw[hy,b] at a;omega
  have hB:ufB ys L ts s=true:=zkJ fun k hk=>by
    rw[znj m hy hk]
    unfold dvB
    simp
  have hL:ufL ys L ts s=exf xs L:=by
    unfold ufL
    refine Eq.trans (zaG _ fun k hk=>?_) (Eq.trans (congrArg (tab fun i=>(exf xs L).getD i (0,0,())) (zd2 xs L).symm) (zfh (0,0,()) (exf xs L)))
    unfold ufQ
    rw[znj m hy hk]
    unfold qoP
    show ((most L+1)*_ / (most L+1),(most L+1)*_ / (most L+1),())=_
    rw[Int.mul_ediv_cancel_left _ (by omega),Int.mul_ediv_cancel_left _ (by omega)]
  constructor
  · unfold ufE
    rw[if_pos h1,if_pos ho,if_pos m.hM,if_pos hl,if_pos hB,hL]
    unfold tE;rw[if_pos hf]
  · unfold ufR
    rw[if_pos h1,if_pos ho,if_pos m.hM,if_pos hl,if_pos hB,hL]
/-! ### By transforms -/
def sgT (L:Int) (ts:List Int) (s w:Int) (k:Nat):Int:=sm (fun t=>sgI L ts s t*w ^ (t*k)) (most L).toNat
theorem zjG {p v:Int} {n:Nat} (h:Cg p (v ^ n) 1) (u:Nat):Cg p (v ^ (u % n)) (v ^ u):=zmG h u
theorem zmu {p v:Int} {L:Int} {ts:List Int} {s:Int} (m:Mx L ts s) (hv:Cg p (v ^ (most L).toNat) 1) (a:Nat) :
    Cg p (sm (fun t=>sgI L ts s (t+a)*v ^ (t+a)) (most L).toNat) (sm (fun t=>sgI L ts s t*v ^ t) (most L).toNat):=by
  have h:=zeA (f:=fun u=>sgI L ts s u*v ^ (u % (most L).toNat)) (n:=(most L).toNat) (fun i=>by
    show sgI L ts s (i+(most L).toNat)*v ^ ((i+(most L).toNat) % (most L).toNat)=_
    rw[zfj m,Nat.add_mod_right]) a
  have e1:Cg p (sm (fun t=>sgI L ts s (t+a)*v ^ (t+a)) (most L).toNat) (sm (fun t=>sgI L ts s (t+a)*v ^ ((t+a) % (most L).toNat)) (most L).toNat):=
    Cg.sm _ fun t _=>(Cg.refl p _).mul (zjG hv (t+a)).symm
  have e2:Cg p (sm (fun t=>sgI L ts s t*v ^ (t % (most L).toNat)) (most L).toNat) (sm (fun t=>sgI L ts s t*v ^ t) (most L).toNat):=
    Cg.sm _ fun t _=>(Cg.refl p _).mul (zjG hv t)
  exact (e1.trans (by rw[←h];exact Cg.refl p _)).trans e2
theorem zhg (w:Int) (t k:Nat):w ^ (t*k)=(w ^ k) ^ t:=by rw[Nat.mul_comm,Int.pow_mul]
theorem zp7 (L:Int) (ts:List Int) (s w:Int) (k:Nat):sgT L ts s w k=sm (fun t=>sgI L ts s t*(w ^ k) ^ t) (most L).toNat:=
  zam _ fun t _=>by rw[zhg]
theorem conv {p w:Int} {L:Int} {ts:List Int} {s:Int} (m:Mx L ts s) (hw:Cg p (w ^ (most L).toNat) 1) (h:Nat→Int) (k:Nat) :
    Cg p (sm (fun t=>sm (fun j=>h j*sgA (sgL L ts s) ((t:Int) - j)) (most L).toNat*w ^ (t*k)) (most L).toNat) (sm (fun j=>h j*w ^ (j*k)) (most L).toNat*sgT L ts s w k):=by
  have hv:Cg p ((w ^ k) ^ (most L).toNat) 1:=by
    rw[←Int.pow_mul,Nat.mul_comm];exact zfN hw k
  have e1:sm (fun t=>sm (fun j=>h j*sgA (sgL L ts s) ((t:Int) - j)) (most L).toNat*w ^ (t*k)) (most L).toNat=sm (fun j=>h j*sm (fun t=>sgA (sgL L ts s) ((t:Int) - j)*(w ^ k) ^ t) (most L).toNat) (most L).toNat:=by
    have:∀t,t<(most L).toNat→sm (fun j=>h j*sgA (sgL L ts s) ((t:Int) - j)) (most L).toNat*w ^ (t*k)=sm (fun j=>h j*(sgA (sgL L ts s) ((t:Int) - j)*(w ^ k) ^ t)) (most L).toNat:=fun t _=>by
      rw[Int.mul_comm,←zc9]
      refine zam _ fun j _=>?_
      rw[Int.mul_comm,Int.mul_assoc,zhg]
    rw[zam _ this,zfD]
    exact zam _ fun j _=>zc9 _ _ _
  have e2:sm (fun j=>h j*w ^ (j*k)) (most L).toNat*sgT L ts s w k=sm (fun j=>h j*((w ^ k) ^ j*sgT L ts s w k)) (most L).toNat:=by
    rw[Int.mul_comm,←zc9]
    refine zam _ fun j _=>?_
    rw[zhg,Int.mul_comm,Int.mul_assoc]
  rw[e1,e2]
  refine Cg.sm _ fun j hj=>(Cg.refl p _).mul ?_
  have e3:sm (fun t=>sgA (sgL L ts s) ((t:Int) - j)*(w ^ k) ^ t) (most L).toNat=sm (fun t=>sgI L ts s (t+((most L).toNat - j))*(w ^ k) ^ t) (most L).toNat:=zam _ fun t _=>by rw[zfk m (Nat.le_of_lt hj)]
  rw[e3]
  have e4:=zmu m hv ((most L).toNat - j)
  rw[←zp7] at e4
  have e5:=(Cg.refl p ((w ^ k) ^ j)).mul e4
  refine Cg.trans ?_ e5
  rw[←zc9]
  refine Cg.sm _ fun t _=>?_
  have e6:(w ^ k) ^ j*(sgI L ts s (t+((most L).toNat - j))*(w ^ k) ^ (t+((most L).toNat - j)))=sgI L ts s (t+((most L).toNat - j))*((w ^ k) ^ t*(w ^ k) ^ (most L).toNat):=by
    have:(w ^ k) ^ j*(w ^ k) ^ (t+((most L).toNat - j))=(w ^ k) ^ t*(w ^ k) ^ (most L).toNat:=by
      rw[←Int.pow_add,←Int.pow_add,show j+(t+((most L).toNat - j))=t+(most L).toNat by omega]
    rw[←this];grind
  rw[e6]
  have:=(Cg.refl p ((w ^ k) ^ t)).mul hv
  rw[Int.mul_one] at this
  exact (Cg.refl p _).mul this.symm
@[reducible] def zla:Spec:={pats:=[.dat I64,.dat I64],res:=[{t:=C64}],pre:=fun x=>((-10000:Int)≤x.1∧x.1≤(10000:Int))∧((-10000:Int)≤x.2.1∧x.2.1≤(10000:Int)),f:=fun x=>((floatOfInt .f32 x.1,floatOfInt .f32 x.2.1),())}
theorem h143:Ok 21 zla:=by
  refine mk (ctr:=[]) trivial (nt:=14) Try.func21 rfl rfl rfl rfl (by kernel_rfl) (by kernel_rfl) (fun _=>[]) ?_
  rintro⟨(a:Int),(b:Int),_⟩ ⟨⟨(h1 : -10000≤a),(h2:a≤10000)⟩,⟨(h3 : -10000≤b),(h4:b≤10000)⟩⟩
  repeat' (intro hzz;(try (rename Two=>hq;cases hq));(try dsimp only at hzz);(try simp only[zac,zab,eqD,inR,big,zaa,Bool.not_true,Bool.not_false,Bool.true_eq,decide_eq_true_eq,decide_eq_false_iff_not,Bool.not_eq_true',Bool.not_eq_false',Bool.and_eq_true,Prod.mk.injEq,and_true,true_and,Int.not_lt,Int.not_le,gt_iff_lt,ge_iff_le] at hzz);(try (first|contradiction|(exfalso;omega)));(try (revert hzz;intro _)))
  all_goals try (rename Unit=>hq;clear hq)
  all_goals try ((with_reducible refine Held.mk ?_);(with_reducible (first|refine Frz.mk ?_|refine And.intro (Frz.mk ?_) ?_|refine And.intro ?_ (Frz.mk ?_)));repeat' first|exact True.intro|(change _=_;with_reducible rfl)|refine And.intro ?_ ?_|(with_reducible refine Frz.mk ?_))
  all_goals try (refine Held.mk ?_;(try dsimp only at *);(try simp only[zac,zab,eqD,inR,big,zaa,Bool.not_true,Bool.not_false,Bool.true_eq,decide_eq_true_eq,decide_eq_false_iff_not,Bool.not_eq_true',Bool.not_eq_false',Bool.and_eq_true,Prod.mk.injEq,and_true,true_and,Int.not_lt,Int.not_le,gt_iff_lt,ge_iff_le] at *))
  all_goals try omega
  simp only[cond_true,cond_false]
  repeat' split
  all_goals first|rfl|(exfalso;omega)|(refine Prod.ext ?_ ?_<;>(show floatOfInt .f32 _=floatOfInt .f32 _)<;>(congr 1;omega))|(exact⟨rfl,rfl⟩)|(exact⟨congrArg (floatOfInt .f32) (by omega),congrArg (floatOfInt .f32) (by omega)⟩)|(refine And.intro ?_ ?_<;>(congr 1;omega))|(congr 1;omega)|skip
def zcj (B:Int) (ps:List IP):Bool:=ps.all fun p=>zag p.1 (-B) B&&zag p.2.1 (-B) B
theorem zjW {B:Int} (hB:0≤B) {ps:List IP} (h:zcj B ps=true) (i:Nat):inBP B (ps.getD i (0,0,())):=by
  by_cases hi:i<ps.length
  · have:=List.all_eq_true.1 h ps[i] (List.getElem_mem hi)
    rw[Bool.and_eq_true] at this
    rw[List.getD_eq_getElem?_getD,List.getElem?_eq_getElem hi,Option.getD_some]
    exact⟨of_decide_eq_true this.1,of_decide_eq_true this.2⟩
  · rw[List.getD_eq_getElem?_getD,List.getElem?_eq_none (by omega)]
    show inBP B (0,0,())
    exact⟨⟨by show -B≤0;omega,hB⟩,⟨by show -B≤0;omega,hB⟩⟩
theorem zjV {B:Int} {ps:List IP} {k:Nat} (hk:k<ps.length) (h:(zag (ps.getD k (0,0,())).1 (-B) B&&zag (ps.getD k (0,0,())).2.1 (-B) B)=false):zcj B ps=false:=by
  unfold zcj
  rw[List.all_eq_false]
  refine⟨ps[k],List.getElem_mem hk,?_⟩
  rw[List.getD_eq_getElem?_getD,List.getElem?_eq_getElem hk,Option.getD_some] at h
  rw[h];exact Bool.false_ne_true
theorem zlP {B:Int} {ps:List IP} (h:∀j,j<ps.length→(zag (ps.getD j (0,0,())).1 (-B) B&&zag (ps.getD j (0,0,())).2.1 (-B) B)=true):zcj B ps=true:=by
  unfold zcj
  rw[List.all_eq_true]
  intro p hp
  obtain⟨j,hj,e⟩:=List.mem_iff_getElem.1 hp
  have:=h j hj
  rw[List.getD_eq_getElem?_getD,List.getElem?_eq_getElem hj,Option.getD_some,e] at this
  exact this
theorem wi2 {a b B:Int} (h1 : -B≤a∧a≤B) (h2 : -B≤b∧b≤B):(zag a (-B) B&&zag b (-B) B)=true:=by
  rw[show zag a (-B) B=true from decide_eq_true h1,show zag b (-B) B=true from decide_eq_true h2];rfl
@[reducible] def zoX:Spec:={pats:=[.dat (.sl zak),.dat I64],res:=[{own:=some 39,t:=.sl C64},{t:=.bool}],pre:=fun x=>List.length (α:=IP) x.1≤2000000000∧((0:Int)≤x.2.1∧x.2.1≤(10000:Int)),f:=fun x=>((if zcj x.2.1 x.1=true then tab (nmF x.1) (List.length (α:=IP) x.1) else []),zcj x.2.1 x.1,())}
theorem h79:Ok 7 zoX:=by
  refine mk (ctr:=[(20,zbB),(21,zla)]) ⟨h25,h143,trivial⟩ (nt:=51) Try.func7 rfl rfl rfl rfl (by kernel_rfl) (by kernel_rfl) (fun x=>[fun _=>{σ:=Nat,pat:=fun k=>[sI 7 k]++rOwn 6 60006 39 C64 (tab (nmF x.1) k),inv:=fun k=>k≤List.length (α:=IP) x.1∧∀j,j<k→(zag (List.getD (α:=IP) x.1 j (0,0,())).1 (-x.2.1) x.2.1&&zag (List.getD (α:=IP) x.1 j (0,0,())).2.1 (-x.2.1) x.2.1)=true,meas:=fun k=>List.length (α:=IP) x.1 - k}]) ?_
  rintro⟨(ps:List IP),(B:Int),_⟩ ⟨(hl:ps.length≤2000000000),⟨(h0:0≤B),(h1:B≤10000)⟩⟩
  repeat' (intro hzz;(try (rename Two=>hq;cases hq));(try dsimp only at hzz);(try simp only[zac,zab,eqD,inR,big,zaa,Bool.not_true,Bool.not_false,Bool.true_eq,decide_eq_true_eq,decide_eq_false_iff_not,Bool.not_eq_true',Bool.not_eq_false',Bool.and_eq_true,Prod.mk.injEq,and_true,true_and,Int.not_lt,Int.not_le,gt_iff_lt,ge_iff_le] at hzz);(try (first|contradiction|(exfalso;omega)));(try (revert hzz;intro _)))
  all_goals try (rename Unit=>hq;clear hq)
  all_goals try ((with_reducible refine Held.mk ?_);(with_reducible (first|refine Frz.mk ?_|refine And.intro (Frz.mk ?_) ?_|refine And.intro ?_ (Frz.mk ?_)));repeat' first|exact True.intro|(change _=_;with_reducible rfl)|refine And.intro ?_ ?_|(with_reducible refine Frz.mk ?_))
  all_goals try (refine Held.mk ?_;(try dsimp only at *);(try simp only[zac,zab,eqD,inR,big,zaa,Bool.not_true,Bool.not_false,Bool.true_eq,decide_eq_true_eq,decide_eq_false_iff_not,Bool.not_eq_true',Bool.not_eq_false',Bool.and_eq_true,Prod.mk.injEq,and_true,true_and,Int.not_lt,Int.not_le,gt_iff_lt,ge_iff_le] at *))
  all_goals try omega
  ·
    refine zal.mk ?_
    refine Exists.intro 0 ?_
    refine And.intro (Leaf.mk ?_) ?_
    · repeat' first|exact True.intro|refine And.intro ?_ ?_
      all_goals try ((change _=_<;>try dsimp only)<;>try with_reducible rfl)
      all_goals try omega
      all_goals (rfl)
    exact⟨Nat.zero_le _,fun j hj=>by omega⟩
  · rename_i k hk hlt q1 q2
    have u:=zjV (B:=B) (ps:=ps) (k:=k) (by omega) (by rw[show zag (ps.getD k (0,0,())).2.1 (-B) B=false from decide_eq_false q2,Bool.and_false])
    rw[u];exact⟨rfl,rfl⟩
  · rename_i k hk hlt q1 q2
    have a:=(show -B≤(ps.getD k (0,0,())).1∧(ps.getD k (0,0,())).1≤B from q1)
    have b:=(show -B≤(ps.getD k (0,0,())).2.1∧(ps.getD k (0,0,())).2.1≤B from q2)
    exact⟨⟨(show -10000≤(ps.getD k (0,0,())).1 by omega),(show (ps.getD k (0,0,())).1≤10000 by omega)⟩,⟨(show -10000≤(ps.getD k (0,0,())).2.1 by omega),(show (ps.getD k (0,0,())).2.1≤10000 by omega)⟩⟩
  · rename_i k hk hlt q1 q2
    rw[zae];show k+1≤2147483648;omega
  · rename_i k hk hlt q1 q2
    refine zal.mk ?_
    refine Exists.intro (k+1) ?_
    refine And.intro (Leaf.mk ?_) ?_
    · repeat' first|exact True.intro|refine And.intro ?_ ?_
      all_goals try ((change _=_<;>try dsimp only)<;>try with_reducible rfl)
      all_goals try omega
      all_goals (rfl)
    refine⟨⟨by show k+1≤ps.length;omega,fun j hj=>?_⟩,by show ps.length - (k+1)<ps.length - k;omega⟩
    by_cases e:j=k
    · rw[e];exact wi2 q1 q2
    · have h:=hk.2 j (by omega);exact wi2 h.1 h.2
  · rename_i k hk hlt q1
    have u:=zjV (B:=B) (ps:=ps) (k:=k) (by omega) (by rw[show zag (ps.getD k (0,0,())).1 (-B) B=false from decide_eq_false q1,Bool.false_and])
    rw[u];exact⟨rfl,rfl⟩
  · rename_i k hk hge
    have u:=zlP (B:=B) (ps:=ps) (fun j hj=>by
      have h:=hk.2 j (by omega)
      rw[show zag (ps.getD j (0,0,())).1 (-B) B=true from decide_eq_true h.1,show zag (ps.getD j (0,0,())).2.1 (-B) B=true from decide_eq_true h.2];rfl)
    rw[u,show k=ps.length by omega];exact⟨rfl,rfl⟩
def pmB (L:Int) (ts:List Int) (s:Int):Bool:=decide (ts.length≤8)&&(decide (zci L ts s=0)&&(decide (L≤5)&&decide ((per L ts 1:Int)=most L)))
@[reducible] def zoY:Spec:={pats:=[.dat zjr],res:=[{t:=.bool}],pre:=fun _=>True,f:=fun x=>(pmB x.1.1.1 x.1.1.2.1 x.1.2.1,())}
theorem h78:Ok 5 zoY:=by
  refine mk (ctr:=[(18,zk7),(19,zld)]) ⟨h23,h64,trivial⟩ (nt:=27) Try.func5 rfl rfl rfl rfl (by kernel_rfl) (by kernel_rfl) (fun _=>[]) ?_
  rintro⟨⟨⟨(L:Int),(ts:List Int),_⟩,(s:Int),_⟩,_⟩ _
  by_cases h8:ts.length≤8
  · have hts:pLen ts.length:=by unfold pLen;omega
    by_cases ho:zci L ts s=0
    · have hst:=(zjK hts ho).1
      by_cases h5:L≤5
      · have u:pmB L ts s=decide ((per L ts 1:Int)=most L):=by unfold pmB;rw[decide_eq_true h8,decide_eq_true ho,decide_eq_true h5];rfl
        repeat' (intro hzz;(try (rename Two=>hq;cases hq));(try dsimp only at hzz);(try simp only[zac,zab,eqD,inR,big,zaa,Bool.not_true,Bool.not_false,Bool.true_eq,decide_eq_true_eq,decide_eq_false_iff_not,Bool.not_eq_true',Bool.not_eq_false',Bool.and_eq_true,Prod.mk.injEq,and_true,true_and,Int.not_lt,Int.not_le,gt_iff_lt,ge_iff_le] at hzz);(try simp only[zac,zab,eqD,inR,big,zaa,Bool.not_true,Bool.not_false,Bool.true_eq,decide_eq_true_eq,decide_eq_false_iff_not,Bool.not_eq_true',Bool.not_eq_false',Bool.and_eq_true,Prod.mk.injEq,and_true,true_and,Int.not_lt,Int.not_le,gt_iff_lt,ge_iff_le,ho,u] at hzz);(try (first|contradiction|(exfalso;omega)));(try (revert hzz;intro _)))
        all_goals try (rename Unit=>hq;clear hq)
        all_goals try ((with_reducible refine Held.mk ?_);(with_reducible (first|refine Frz.mk ?_|refine And.intro (Frz.mk ?_) ?_|refine And.intro ?_ (Frz.mk ?_)));repeat' first|exact True.intro|(change _=_;with_reducible rfl)|refine And.intro ?_ ?_|(with_reducible refine Frz.mk ?_))
        all_goals try (refine Held.mk ?_;(try dsimp only at *);(try simp only[zac,zab,eqD,inR,big,zaa,Bool.not_true,Bool.not_false,Bool.true_eq,decide_eq_true_eq,decide_eq_false_iff_not,Bool.not_eq_true',Bool.not_eq_false',Bool.and_eq_true,Prod.mk.injEq,and_true,true_and,Int.not_lt,Int.not_le,gt_iff_lt,ge_iff_le] at *);(try simp only[zac,zab,eqD,inR,big,zaa,Bool.not_true,Bool.not_false,Bool.true_eq,decide_eq_true_eq,decide_eq_false_iff_not,Bool.not_eq_true',Bool.not_eq_false',Bool.and_eq_true,Prod.mk.injEq,and_true,true_and,Int.not_lt,Int.not_le,gt_iff_lt,ge_iff_le,ho,u] at *))
        all_goals try omega
        all_goals exact⟨hst.1,hts⟩
      · have u:pmB L ts s=false:=by unfold pmB;rw[decide_eq_true h8,decide_eq_true ho,decide_eq_false h5];rfl
        repeat' (intro hzz;(try (rename Two=>hq;cases hq));(try dsimp only at hzz);(try simp only[zac,zab,eqD,inR,big,zaa,Bool.not_true,Bool.not_false,Bool.true_eq,decide_eq_true_eq,decide_eq_false_iff_not,Bool.not_eq_true',Bool.not_eq_false',Bool.and_eq_true,Prod.mk.injEq,and_true,true_and,Int.not_lt,Int.not_le,gt_iff_lt,ge_iff_le] at hzz);(try simp only[zac,zab,eqD,inR,big,zaa,Bool.not_true,Bool.not_false,Bool.true_eq,decide_eq_true_eq,decide_eq_false_iff_not,Bool.not_eq_true',Bool.not_eq_false',Bool.and_eq_true,Prod.mk.injEq,and_true,true_and,Int.not_lt,Int.not_le,gt_iff_lt,ge_iff_le,ho,u] at hzz);(try (first|contradiction|(exfalso;omega)));(try (revert hzz;intro _)))
        all_goals try (rename Unit=>hq;clear hq)
        all_goals try ((with_reducible refine Held.mk ?_);(with_reducible (first|refine Frz.mk ?_|refine And.intro (Frz.mk ?_) ?_|refine And.intro ?_ (Frz.mk ?_)));repeat' first|exact True.intro|(change _=_;with_reducible rfl)|refine And.intro ?_ ?_|(with_reducible refine Frz.mk ?_))
        all_goals try (refine Held.mk ?_;(try dsimp only at *);(try simp only[zac,zab,eqD,inR,big,zaa,Bool.not_true,Bool.not_false,Bool.true_eq,decide_eq_true_eq,decide_eq_false_iff_not,Bool.not_eq_true',Bool.not_eq_false',Bool.and_eq_true,Prod.mk.injEq,and_true,true_and,Int.not_lt,Int.not_le,gt_iff_lt,ge_iff_le] at *);(try simp only[zac,zab,eqD,inR,big,zaa,Bool.not_true,Bool.not_false,Bool.true_eq,decide_eq_true_eq,decide_eq_false_iff_not,Bool.not_eq_true',Bool.not_eq_false',Bool.and_eq_true,Prod.mk.injEq,and_true,true_and,Int.not_lt,Int.not_le,gt_iff_lt,ge_iff_le,ho,u] at *))
        all_goals try omega
    · have u:pmB L ts s=false:=by unfold pmB;rw[decide_eq_true h8,decide_eq_false ho];rfl
      repeat' (intro hzz;(try (rename Two=>hq;cases hq));(try dsimp only at hzz);(try simp only[zac,zab,eqD,inR,big,zaa,Bool.not_true,Bool.not_false,Bool.true_eq,decide_eq_true_eq,decide_eq_false_iff_not,Bool.not_eq_true',Bool.not_eq_false',Bool.and_eq_true,Prod.mk.injEq,and_true,true_and,Int.not_lt,Int.not_le,gt_iff_lt,ge_iff_le] at hzz);(try simp only[zac,zab,eqD,inR,big,zaa,Bool.not_true,Bool.not_false,Bool.true_eq,decide_eq_true_eq,decide_eq_false_iff_not,Bool.not_eq_true',Bool.not_eq_false',Bool.and_eq_true,Prod.mk.injEq,and_true,true_and,Int.not_lt,Int.not_le,gt_iff_lt,ge_iff_le,u] at hzz);(try (first|contradiction|(exfalso;omega)));(try (revert hzz;intro _)))
      all_goals try (rename Unit=>hq;clear hq)
      all_goals try ((with_reducible refine Held.mk ?_);(with_reducible (first|refine Frz.mk ?_|refine And.intro (Frz.mk ?_) ?_|refine And.intro ?_ (Frz.mk ?_)));repeat' first|exact True.intro|(change _=_;with_reducible rfl)|refine And.intro ?_ ?_|(with_reducible refine Frz.mk ?_))
      all_goals try (refine Held.mk ?_;(try dsimp only at *);(try simp only[zac,zab,eqD,inR,big,zaa,Bool.not_true,Bool.not_false,Bool.true_eq,decide_eq_true_eq,decide_eq_false_iff_not,Bool.not_eq_true',Bool.not_eq_false',Bool.and_eq_true,Prod.mk.injEq,and_true,true_and,Int.not_lt,Int.not_le,gt_iff_lt,ge_iff_le] at *);(try simp only[zac,zab,eqD,inR,big,zaa,Bool.not_true,Bool.not_false,Bool.true_eq,decide_eq_true_eq,decide_eq_false_iff_not,Bool.not_eq_true',Bool.not_eq_false',Bool.and_eq_true,Prod.mk.injEq,and_true,true_and,Int.not_lt,Int.not_le,gt_iff_lt,ge_iff_le,u] at *))
      all_goals try omega
  · have u:pmB L ts s=false:=by unfold pmB;rw[decide_eq_false h8];rfl
    repeat' (intro hzz;(try (rename Two=>hq;cases hq));(try dsimp only at hzz);(try simp only[zac,zab,eqD,inR,big,zaa,Bool.not_true,Bool.not_false,Bool.true_eq,decide_eq_true_eq,decide_eq_false_iff_not,Bool.not_eq_true',Bool.not_eq_false',Bool.and_eq_true,Prod.mk.injEq,and_true,true_and,Int.not_lt,Int.not_le,gt_iff_lt,ge_iff_le] at hzz);(try simp only[zac,zab,eqD,inR,big,zaa,Bool.not_true,Bool.not_false,Bool.true_eq,decide_eq_true_eq,decide_eq_false_iff_not,Bool.not_eq_true',Bool.not_eq_false',Bool.and_eq_true,Prod.mk.injEq,and_true,true_and,Int.not_lt,Int.not_le,gt_iff_lt,ge_iff_le,u] at hzz);(try (first|contradiction|(exfalso;omega)));(try (revert hzz;intro _)))
    all_goals try (rename Unit=>hq;clear hq)
    all_goals try ((with_reducible refine Held.mk ?_);(with_reducible (first|refine Frz.mk ?_|refine And.intro (Frz.mk ?_) ?_|refine And.intro ?_ (Frz.mk ?_)));repeat' first|exact True.intro|(change _=_;with_reducible rfl)|refine And.intro ?_ ?_|(with_reducible refine Frz.mk ?_))
    all_goals try (refine Held.mk ?_;(try dsimp only at *);(try simp only[zac,zab,eqD,inR,big,zaa,Bool.not_true,Bool.not_false,Bool.true_eq,decide_eq_true_eq,decide_eq_false_iff_not,Bool.not_eq_true',Bool.not_eq_false',Bool.and_eq_true,Prod.mk.injEq,and_true,true_and,Int.not_lt,Int.not_le,gt_iff_lt,ge_iff_le] at *);(try simp only[zac,zab,eqD,inR,big,zaa,Bool.not_true,Bool.not_false,Bool.true_eq,decide_eq_true_eq,decide_eq_false_iff_not,Bool.not_eq_true',Bool.not_eq_false',Bool.and_eq_true,Prod.mk.injEq,and_true,true_and,Int.not_lt,Int.not_le,gt_iff_lt,ge_iff_le,u] at *))
    all_goals try omega
@[reducible] def zle:Spec:={pats:=[],res:=[{t:=.bool}],pre:=fun _=>True,f:=fun _=>(true,())}
def ex1:CL:=lsL [(1082130432,0,()),(3212836864,1073741824,())]
def ex2:CL:=lsL [(3225419776,3221225472,()),(1084227584,3221225472,()),(3231711232,1073741824,())]
def ex3:CL:=lsL [(1082130432,0,()),(3212836864,1073741824,()),(0,0,())]
theorem ziw:exE ex1 2 [1,2] 1=0∧exR ex1 2 [1,2] 1=ex2∧ufE ex2 2 [1,2] 1=0∧ufR ex2 2 [1,2] 1=ex3:=by decide +kernel
theorem zlx {ps:List IP} (h:okL 16777216 ps):za9 ps=true:=by
  unfold za9
  rw[List.all_eq_true]
  intro p hp
  obtain⟨j,hj,e⟩:=List.mem_iff_getElem.1 hp
  have:=h j
  rw[List.getD_eq_getElem?_getD,List.getElem?_eq_getElem hj,Option.getD_some,e] at this
  show (fRec p.1&&fRec p.2.1)=true
  rw[show fRec p.1=true from decide_eq_true this.1,show fRec p.2.1=true from decide_eq_true this.2];rfl
theorem h77:Ok 4 zle:=by
  refine mk (ctr:=[(16,znr),(17,sTwo),(8,sExc),(12,sUnf),(13,zlb)]) ⟨h30n,h82,h31n,h53n,h34n,trivial⟩ (nt:=48) Try.func4 rfl rfl rfl rfl (by kernel_rfl) (by kernel_rfl) (fun _=>[]) ?_
  rintro _ _
  have p2:pLen 2:=by decide
  obtain⟨A,hA⟩:∃A,lsL [(1082130432,0,()),(3212836864,1073741824,())]=A:=⟨_,rfl⟩
  obtain⟨B,hB⟩:∃B,lsL [(3225419776,3221225472,()),(1084227584,3221225472,()),(3231711232,1073741824,())]=B:=⟨_,rfl⟩
  obtain⟨C,hC⟩:∃C,lsL [(1082130432,0,()),(3212836864,1073741824,()),(0,0,())]=C:=⟨_,rfl⟩
  have e1:exE A 2 [1,2] 1=0:=hA▸ziw.1
  have e2:exR A 2 [1,2] 1=B:=hA▸hB▸ziw.2.1
  have e3:ufE B 2 [1,2] 1=0:=hB▸ziw.2.2.1
  have e4:ufR B 2 [1,2] 1=C:=hB▸hC▸ziw.2.2.2
  repeat' (intro hzz;(try (rename Two=>hq;cases hq));(try dsimp only at hzz);(try simp only[zac,zab,eqD,inR,big,zaa,Bool.not_true,Bool.not_false,Bool.true_eq,decide_eq_true_eq,decide_eq_false_iff_not,Bool.not_eq_true',Bool.not_eq_false',Bool.and_eq_true,Prod.mk.injEq,and_true,true_and,Int.not_lt,Int.not_le,gt_iff_lt,ge_iff_le] at hzz);(try simp only[zac,zab,eqD,inR,big,zaa,Bool.not_true,Bool.not_false,Bool.true_eq,decide_eq_true_eq,decide_eq_false_iff_not,Bool.not_eq_true',Bool.not_eq_false',Bool.and_eq_true,Prod.mk.injEq,and_true,true_and,Int.not_lt,Int.not_le,gt_iff_lt,ge_iff_le,hA,hB,hC,e1,e2,e3,e4] at hzz);(try (first|contradiction|(exfalso;omega)));(try (revert hzz;intro _)))
  all_goals try (rename Unit=>hq;clear hq)
  all_goals try ((with_reducible refine Held.mk ?_);(with_reducible (first|refine Frz.mk ?_|refine And.intro (Frz.mk ?_) ?_|refine And.intro ?_ (Frz.mk ?_)));repeat' first|exact True.intro|(change _=_;with_reducible rfl)|refine And.intro ?_ ?_|(with_reducible refine Frz.mk ?_))
  all_goals try (refine Held.mk ?_;(try dsimp only at *);(try simp only[zac,zab,eqD,inR,big,zaa,Bool.not_true,Bool.not_false,Bool.true_eq,decide_eq_true_eq,decide_eq_false_iff_not,Bool.not_eq_true',Bool.not_eq_false',Bool.and_eq_true,Prod.mk.injEq,and_true,true_and,Int.not_lt,Int.not_le,gt_iff_lt,ge_iff_le] at *);(try simp only[zac,zab,eqD,inR,big,zaa,Bool.not_true,Bool.not_false,Bool.true_eq,decide_eq_true_eq,decide_eq_false_iff_not,Bool.not_eq_true',Bool.not_eq_false',Bool.and_eq_true,Prod.mk.injEq,and_true,true_and,Int.not_lt,Int.not_le,gt_iff_lt,ge_iff_le,hA,hB,hC,e1,e2,e3,e4] at *))
  all_goals try omega
  · decide
  · decide
  · decide
  · exact⟨Nat.le_trans (Nat.le_of_eq (congrArg List.length ziw.2.1)) (by decide +kernel),ziw.2.1,zpN _ _ _ _⟩
  · decide
  · exact⟨Nat.le_trans (Nat.le_of_eq (congrArg List.length ziw.2.2.2)) (by decide +kernel),ziw.2.2.2,zoL _ _ _ _⟩
theorem zg5 {ps:List IP} (h:za9 ps=true):tL ps=tab (nmF ps) ps.length:=by unfold tL;rw[if_pos h]
theorem zbW {ps:List IP} {B:Int} (h:okL B ps) (hB:B≤16777216):za9 ps=true:=zlx (zmM h hB)
theorem zpo {L:Int} {ts:List Int} {s:Int} (h:pmB L ts s=true):ts.length≤8∧zci L ts s=0∧L≤5∧(per L ts 1:Int)=most L:=by
  unfold pmB at h
  rw[Bool.and_eq_true,Bool.and_eq_true,Bool.and_eq_true] at h
  exact⟨of_decide_eq_true h.1,of_decide_eq_true h.2.1,of_decide_eq_true h.2.2.1,of_decide_eq_true h.2.2.2⟩
theorem zjv {α:Type} (f:Nat→α):∀ {n m:Nat},m≤n→(tab f n).take m=tab f m
  | 0,m,h=>by rw[show m=0 by omega];rfl
  | n + 1,m,h=>by
    show (tab f n++[f n]).take m=_
    by_cases e:m=n+1
    · rw[e,List.take_of_length_le (by rw[List.length_append,zae];simp)];rfl
    · rw[List.take_append_of_le_length (by rw[zae];omega)]
      exact zjv f (by omega)
def hzL (ps:List IP) (n:Nat):List IP:=tab (fun j=>ps.getD j (0,0,())) n
theorem zjX {ps:List IP} {B:Int} (hB:0≤B) (h:okL B ps) (n:Nat):okL B (hzL ps n):=zfR hB fun i _=>h i
theorem zok {ps:List IP} (hp:okL 1000 ps) {N:Nat} (h:ps.length≤N):List.take ps.length (tL (hzL ps N))=tL ps:=by
  rw[zg5 (zbW (zjX (by decide) hp N) (by decide)),zg5 (zbW hp (by decide))]
  unfold hzL
  rw[zae,zjv _ h]
  refine zaG _ fun i hi=>?_
  unfold nmF
  rw[zaE _ _ _ _ (by omega)]
theorem zit {ps:List IP} {n:Nat} (h:ps.length≤n):flL ps n ps.length=hzL ps n:=by
  unfold flL hzL
  refine zaG n fun i hi=>?_
  have key:∀k,k≤n→flV ps n i k=if i<k then ps.getD i (0,0,()) else (0,0,()):=by
    intro k
    induction k with
    | zero=>intro _;rw[if_neg (by omega)];rfl
    | succ k ih=>
      intro hk
      show (if i=k % n then zdX (flV ps n i k) (ps.getD k (0,0,())) else flV ps n i k)=_
      rw[Nat.mod_eq_of_lt (by omega),ih (by omega)]
      by_cases e:i=k
      · subst e;rw[if_pos rfl,if_neg (by omega),if_pos (by omega),zfO]
      · rw[if_neg e]
        by_cases h2:i<k
        · rw[if_pos h2,if_pos (by omega)]
        · rw[if_neg h2,if_neg (by omega)]
  rw[key _ h]
  by_cases h2:i<ps.length
  · rw[if_pos h2]
  · rw[if_neg h2,List.getD_eq_getElem?_getD,List.getElem?_eq_none (by omega)];rfl
theorem ziP {B:Int} {ps:List IP} {sg:List Int} {a way:Int} (h:okL B ps) (hs:okS sg):∀k:Nat,inBP (k*B) (trV ps sg a way k)
  | 0=>by show (_≤(0:Int)∧(0:Int)≤_)∧(_≤(0:Int)∧(0:Int)≤_);simp
  | k+1=>by
    have ih:=ziP (a:=a) (way:=way) h hs k
    have hk:=h k
    have hsk:=hs (fMod (way*(a - k)) sg.length).toNat
    have b1:=zkC hk.1.1 hk.1.2 hsk.1 hsk.2
    have b2:=zkC hk.2.1 hk.2.2 hsk.1 hsk.2
    have e:((k+1:Nat):Int)*B=k*B+B:=by rw[Int.natCast_add,Int.add_mul];simp
    rw[e]
    obtain⟨i1,i2⟩:=ih
    show (_≤(trV ps sg a way k).1+(ps.getD k (0,0,())).1*sg.getD (fMod (way*(a - k)) sg.length).toNat 0∧(trV ps sg a way k).1+(ps.getD k (0,0,())).1*sg.getD (fMod (way*(a - k)) sg.length).toNat 0≤_)∧(_≤(trV ps sg a way k).2.1+(ps.getD k (0,0,())).2.1*sg.getD (fMod (way*(a - k)) sg.length).toNat 0∧(trV ps sg a way k).2.1+(ps.getD k (0,0,())).2.1*sg.getD (fMod (way*(a - k)) sg.length).toNat 0≤_)
    omega
theorem zl1 {ps:List IP} {L:Int} {ts:List Int} {s:Int} (m:Mx L ts s) (ho:zci L ts s=0) (hp:okL 1000 ps) (h1:1≤ps.length) (h2:(ps.length:Int)≤most L) (h3:most L≤31) :
    exE (tL ps) L ts s=0∧exR (tL ps) L ts s=tL (exL (tL ps) L ts s)∧ufE (tL (exL (tL ps) L ts s)) L ts s=0∧ufR (tL (exL (tL ps) L ts s)) L ts s=tL (hzL ps (most L).toNat):=by
  have hpos:=m.pos
  obtain⟨a1,a2,a3⟩:=zex (zbW hp (by decide)) h1 (by omega)
  have hx:exf (tL ps) L=hzL ps (most L).toNat:=by
    unfold exf
    rw[a2]
    exact zit (by omega)
  have hox:okL 1000 (exf (tL ps) L):=by rw[hx];exact zjX (by decide) hp _
  have hfx:za9 (exf (tL ps) L)=true:=zbW hox (by decide)
  have hel:(exL (tL ps) L ts s).length=(most L).toNat:=zae _ _
  have hoe:okL 16777216 (exL (tL ps) L ts s):=zfR (by decide) fun i _=>by
    have b:=ziP (a:=i) (way:=1) hox (zhZ m.hst) (exf (tL ps) L).length
    have hl:=zd2 (tL ps) L
    unfold exF
    exact zeh b (by rw[hl];omega)
  have hfe:za9 (exL (tL ps) L ts s)=true:=zlx hoe
  obtain⟨c1,c2,c3⟩:=zex hfe (by omega) (by omega)
  obtain⟨d1,d2⟩:=zhN (ys:=tL (exL (tL ps) L ts s)) (xs:=tL ps) m c1 c2 hfx
  refine⟨?_,?_,d1,by rw[d2,hx]⟩
  · unfold exE
    rw[if_pos a1,if_pos ho,if_pos hfx]
    unfold tE;rw[if_pos hfe]
  · unfold exR
    rw[if_pos a1,if_pos ho,if_pos hfx]
theorem zl2 {ps:List IP} {L:Int} {ts:List Int} {s:Int} (m:Mx L ts s) (hp:okL 1000 ps) (h1:1≤ps.length) (h2:(ps.length:Int)≤most L) (h3:most L≤31):okL 31000 (exL (tL ps) L ts s):=by
  have hpos:=m.pos
  obtain⟨a1,a2,a3⟩:=zex (zbW hp (by decide)) h1 (by omega)
  have hx:exf (tL ps) L=hzL ps (most L).toNat:=by
    unfold exf
    rw[a2]
    exact zit (by omega)
  have hox:okL 1000 (exf (tL ps) L):=by rw[hx];exact zjX (by decide) hp _
  exact zfR (by decide) fun i _=>by
    have b:=ziP (a:=i) (way:=1) hox (zhZ m.hst) (exf (tL ps) L).length
    have hl:=zd2 (tL ps) L
    unfold exF
    exact zeh b (by rw[hl];omega)
/-! ### Disturbed recordings -/
def addK (w:Int) (Y D:List IP) (k j:Nat):IP:=if j<k then ((Y.getD j (0,0,())).1+w*(D.getD j (0,0,())).1,(Y.getD j (0,0,())).2.1+w*(D.getD j (0,0,())).2.1,()) else Y.getD j (0,0,())
def addL (w:Int) (Y D:List IP) (k:Nat):List IP:=tab (addK w Y D k) Y.length
theorem zb2 (w:Int) (Y D:List IP) (k:Nat):(addL w Y D k).length=Y.length:=zae _ _
theorem zmm (w:Int) (Y D:List IP):addL w Y D 0=Y:=by
  unfold addL
  refine Eq.trans (zaG _ fun j _=>?_) (zfh (0,0,()) Y)
  unfold addK;rw[if_neg (by omega)]
theorem zev (w:Int) (Y D:List IP) (k:Nat) {j:Nat} (hj:j<Y.length):(addL w Y D k).getD j (0,0,())=addK w Y D k j:=zaE _ _ _ _ hj
theorem zeZ {w:Int} (hw:w=1∨w = -1) {Y D:List IP} (hY:okL 31000 Y) (hD:okL 1000 D) (k:Nat):okL 32000 (addL w Y D k):=zfR (by decide) fun j _=>by
  have a:=hY j
  have b:=hD j
  obtain⟨⟨a1,a2⟩,a3,a4⟩:=a
  obtain⟨⟨b1,b2⟩,b3,b4⟩:=b
  unfold addK
  split
  · rcases hw with rfl|rfl
    · exact⟨⟨by show -32000≤_+1*_;omega,by show _+1*_≤32000;omega⟩,⟨by show -32000≤_+1*_;omega,by show _+1*_≤32000;omega⟩⟩
    · exact⟨⟨by show -32000≤_ + -1*_;omega,by show _ + -1*_≤32000;omega⟩,⟨by show -32000≤_ + -1*_;omega,by show _ + -1*_≤32000;omega⟩⟩
  · exact⟨⟨by omega,by omega⟩,⟨by omega,by omega⟩⟩
theorem ziN {w:Int} {Y D:List IP} {k:Nat} (hk:k<Y.length):(tab (nmF (addL w Y D k)) Y.length).set k (floatOfInt .f32 ((Y.getD k (0,0,())).1+w*(D.getD k (0,0,())).1),floatOfInt .f32 ((Y.getD k (0,0,())).2.1+w*(D.getD k (0,0,())).2.1))=tab (nmF (addL w Y D (k+1))) Y.length:=by
  rw[zg3]
  refine zaG _ fun j hj=>?_
  unfold nmF
  rw[zev _ _ _ _ hj,zev _ _ _ _ hj]
  by_cases e:j=k
  · subst e
    rw[if_pos rfl]
    unfold addK
    rw[if_pos (by omega)]
  · rw[if_neg e]
    unfold addK
    by_cases h:j<k
    · rw[if_pos h,if_pos (by omega)]
    · rw[if_neg h,if_neg (by omega)]
theorem zlH {Y D:List IP} (hY:okL 31000 Y) (hD:okL 1000 D) (h1:1≤Y.length) (h2:Y.length≤31) (k:Nat) :
    avE [tL (addL 1 Y D k),tL (addL (-1) Y D k)]=0∧avR [tL (addL 1 Y D k),tL (addL (-1) Y D k)]=tL Y:=by
  have fa:=zbW (zeZ (.inl rfl) hY hD k) (by decide)
  have fb:=zbW (zeZ (.inr rfl) hY hD k) (by decide)
  obtain⟨a1,a2,a3⟩:=zex fa (by rw[zb2];exact h1) (by rw[zb2];omega)
  obtain⟨b1,b2,b3⟩:=zex fb (by rw[zb2];exact h1) (by rw[zb2];omega)
  rw[zb2] at a3 b3
  have hN:avN [tL (addL 1 Y D k),tL (addL (-1) Y D k)]=Y.length:=a3
  have hF:avF (avN [tL (addL 1 Y D k),tL (addL (-1) Y D k)]) [tL (addL 1 Y D k),tL (addL (-1) Y D k)]=0:=by
    rw[hN]
    show (if lE (tL (addL 1 Y D k))=0 then (if (tL (addL 1 Y D k)).length=Y.length then (if lE (tL (addL (-1) Y D k))=0 then (if (tL (addL (-1) Y D k)).length=Y.length then 0 else 13) else lE (tL (addL (-1) Y D k))) else 13) else lE (tL (addL 1 Y D k)))=0
    rw[if_pos a1,if_pos a3,if_pos b1,if_pos b3]
  have hL:avL [tL (addL 1 Y D k),tL (addL (-1) Y D k)]=Y:=by
    unfold avL
    rw[hN]
    refine Eq.trans (zaG _ fun j hj=>?_) (zfh (0,0,()) Y)
    show mnP 2 (zdX (zdX (0,0,()) ((lP (tL (addL 1 Y D k))).getD j (0,0,()))) ((lP (tL (addL (-1) Y D k))).getD j (0,0,())))=_
    rw[a2,b2,zev _ _ _ _ hj,zev _ _ _ _ hj]
    have mn:∀u v y:Int,u+v=2*y→mnI (0+u+v) 2=y:=fun u v y h=>by
      unfold mnI
      omega
    unfold addK
    split
    · refine Prod.ext (mn _ _ _ ?_) (Prod.ext (mn _ _ _ ?_) rfl)
      · show (_+1*_)+(_ + -1*_)=(2:Int)*_;omega
      · show (_+1*_)+(_ + -1*_)=(2:Int)*_;omega
    · refine Prod.ext (mn _ _ _ ?_) (Prod.ext (mn _ _ _ ?_) rfl)
      · omega
      · omega
  have fY:=zbW hY (by decide)
  constructor
  · unfold avE
    rw[if_neg (by simp),if_neg (by simp),hF,if_pos rfl,hL]
    unfold tE;rw[if_pos fY]
  · unfold avR
    rw[if_neg (by simp),if_neg (by simp),hF,if_pos rfl,hL]
theorem zls {P:List IP} (h:okL 1000 P) (i:Int) (k:Nat) : -1000≤prtF P i k∧prtF P i k≤1000:=by
  have a:=h k
  obtain⟨⟨a1,a2⟩,a3,a4⟩:=a
  unfold prtF
  split<;>omega
theorem zor {P:List IP} (h:okL 1000 P) (h1:1≤P.length) (h2:P.length≤1024):erE (tL P) 48000=0∧erR (tL P) 48000=((48000,erS P 0,()),(48000,erS P 1,()),()):=by
  obtain⟨a1,a2,a3⟩:=zex (zbW h (by decide)) h1 h2
  have hs:P.all smpP=true:=zl4 fun j hj=>by
    have a:=h j
    obtain⟨⟨b1,b2⟩,b3,b4⟩:=a
    unfold smpP smp
    rw[show zag (P.getD j (0,0,())).1 (-32767) 32767=true from decide_eq_true ⟨by omega,by omega⟩,show zag (P.getD j (0,0,())).2.1 (-32767) 32767=true from decide_eq_true ⟨by omega,by omega⟩];rfl
  constructor
  · unfold erE
    rw[if_pos a1,if_pos (by decide),a2,if_pos hs]
  · unfold erR
    rw[if_pos a1,if_pos (by decide),a2,if_pos hs]
theorem zeU (P:List IP) (i:Int):(erS P i).length=P.length:=zae _ _
theorem zj4 {P:List IP} (h:okL 1000 P) (i:Int) (h1:1≤P.length) (h2:P.length≤1024):PResp 48000 (erS P i) where
  rate:=by decide
  pos:=by rw[zeU];omega
  le:=by rw[zeU];omega
  smp:=fun k hk=>by
    rw[zeU] at hk
    have a:=zls h i k
    exact⟨prtF P i k,⟨by omega,by omega⟩,zaE _ _ _ _ hk⟩
theorem zol {n:Int} (h : -16777216≤n∧n≤16777216):fT .f32 (floatOfInt .f32 n)=n:=by
  obtain⟨hN,hV⟩:=zeR h.1 h.2
  have hS:(0:Int)<fS .f32:=ziv .f32
  unfold fT;rw[hV];exact Int.mul_tdiv_cancel _ (by omega)
theorem zm4 (n:Int):zbA n*zbA n=n*n:=by
  unfold zbA
  split
  · exact Int.neg_mul_neg n n
  · rfl
def sqP (i:Int) (l:List IP) (k:Nat):Int:=prtF l i k*prtF l i k
theorem zpS (l:List PA):∀k:Nat,(eK l k).1=sm (fun j=>(l.getD j zG).1) k
  | 0=>rfl
  | k+1=>by
    show (eK l k).1+(l.getD k zG).1=sm _ k+(l.getD k zG).1
    rw[zpS l k]
theorem zgV {P:List IP} (h:okL 1000 P) (i:Int):(eK (sqL (erS P i)) (erS P i).length).1=sm (sqP i P) P.length:=by
  rw[zpS,zeU]
  refine zam _ fun k hk=>?_
  have e:(sqL (erS P i)).getD k zG=sqF (erS P i) k:=zaE _ _ _ _ (by rw[zeU];exact hk)
  rw[e]
  have e2:ivF (erS P i) k=prtF P i k:=by
    unfold ivF
    have e3:(erS P i).getD k 0=floatOfInt .f32 (prtF P i k):=zaE _ _ _ _ hk
    rw[e3]
    have a:=zls h i k
    exact zol ⟨by omega,by omega⟩
  show zbA (ivF (erS P i) k)*zbA (ivF (erS P i) k)=_
  rw[e2,zm4];rfl
theorem zk1 (f:Nat→Int) {m:Nat}:∀n:Nat,m≤n→(∀k,m≤k→f k=0)→sm f n=sm f m
  | 0,h,_=>by rw[show m=0 by omega]
  | n + 1,h,hf=>by
    by_cases e:m=n+1
    · rw[e]
    · show sm f n+f n=_
      rw[zk1 f n (by omega) hf,hf n (by omega)];omega
theorem zim (l:List IP) (i:Int) {N:Nat} (hN:l.length≤N):sm (sqP i (hzL l N)) (hzL l N).length=sm (sqP i l) l.length:=by
  have hl:(hzL l N).length=N:=zae _ _
  rw[hl]
  have e:sm (sqP i (hzL l N)) N=sm (sqP i l) N:=zam _ fun k hk=>by
    have:(hzL l N).getD k (0,0,())=l.getD k (0,0,()):=zaE _ _ _ _ hk
    unfold sqP prtF
    rw[this]
  rw[e]
  refine zk1 _ N hN fun k hk=>?_
  have:l.getD k (0,0,())=(0,0,()):=by rw[List.getD_eq_getElem?_getD,List.getElem?_eq_none hk];rfl
  unfold sqP prtF
  rw[this]
  split<;>rfl
theorem zhX {l:List IP} (h:okL 1000 l) (i:Int) (k:Nat):0≤sqP i l k∧sqP i l k≤1000000:=by
  have a:=zls h i k
  unfold sqP
  generalize prtF l i k=n at a
  have h1:(1000 - n)*(1000+n)≥0:=Int.mul_nonneg (by omega) (by omega)
  have h2:0≤n*n:=by
    rcases Int.le_total 0 n with h|h
    · exact Int.mul_nonneg h h
    · have:=Int.mul_nonneg (show 0≤-n by omega) (show 0≤-n by omega);rw[Int.neg_mul_neg] at this;exact this
  have h3:(1000 - n)*(1000+n)=1000000 - n*n:=by grind
  omega
theorem zkZ {l:List IP} (h:okL 1000 l) (i:Int):∀k:Nat,0≤sm (sqP i l) k∧sm (sqP i l) k≤k*1000000
  | 0=>by simp[sm]
  | k+1=>by
    have a:=zkZ h i k
    have b:=zhX h i k
    show 0≤sm (sqP i l) k+sqP i l k∧sm (sqP i l) k+sqP i l k≤_
    omega
@[reducible] def znt:Spec:={pats:=[.dat (.sl C64)],res:=[{own:=some 39,t:=.sl C64}],pre:=fun x=>List.length (α:=Nat×Nat) x.1≤2000000000,f:=fun x=>(x.1,())}
theorem h80o:Ok 9 znt:=by
  refine mk (ctr:=[]) trivial (nt:=6) Try.func9 rfl rfl rfl rfl (by kernel_rfl) (by kernel_rfl) (fun _=>[]) ?_
  rintro⟨(xs:CL),_⟩ (h:xs.length≤2000000000)
  repeat' (intro hzz;(try (rename Two=>hq;cases hq));(try dsimp only at hzz);(try simp only[zac,zab,eqD,inR,big,zaa,Bool.not_true,Bool.not_false,Bool.true_eq,decide_eq_true_eq,decide_eq_false_iff_not,Bool.not_eq_true',Bool.not_eq_false',Bool.and_eq_true,Prod.mk.injEq,and_true,true_and,Int.not_lt,Int.not_le,gt_iff_lt,ge_iff_le] at hzz);(try simp only[zac,zab,eqD,inR,big,zaa,Bool.not_true,Bool.not_false,Bool.true_eq,decide_eq_true_eq,decide_eq_false_iff_not,Bool.not_eq_true',Bool.not_eq_false',Bool.and_eq_true,Prod.mk.injEq,and_true,true_and,Int.not_lt,Int.not_le,gt_iff_lt,ge_iff_le,List.nil_append] at hzz);(try (first|contradiction|(exfalso;omega)));(try (revert hzz;intro _)))
  all_goals try (rename Unit=>hq;clear hq)
  all_goals try ((with_reducible refine Held.mk ?_);(with_reducible (first|refine Frz.mk ?_|refine And.intro (Frz.mk ?_) ?_|refine And.intro ?_ (Frz.mk ?_)));repeat' first|exact True.intro|(change _=_;with_reducible rfl)|refine And.intro ?_ ?_|(with_reducible refine Frz.mk ?_))
  all_goals try (refine Held.mk ?_;(try dsimp only at *);(try simp only[zac,zab,eqD,inR,big,zaa,Bool.not_true,Bool.not_false,Bool.true_eq,decide_eq_true_eq,decide_eq_false_iff_not,Bool.not_eq_true',Bool.not_eq_false',Bool.and_eq_true,Prod.mk.injEq,and_true,true_and,Int.not_lt,Int.not_le,gt_iff_lt,ge_iff_le] at *);(try simp only[zac,zab,eqD,inR,big,zaa,Bool.not_true,Bool.not_false,Bool.true_eq,decide_eq_true_eq,decide_eq_false_iff_not,Bool.not_eq_true',Bool.not_eq_false',Bool.and_eq_true,Prod.mk.injEq,and_true,true_and,Int.not_lt,Int.not_le,gt_iff_lt,ge_iff_le,List.nil_append] at *))
  all_goals try omega
  all_goals (show 0+xs.length≤2147483648;omega)
@[reducible] def zp8:Spec:={pats:=[.dat (.sl zak),.dat zjr,.dat (.sl zak)],res:=[{t:=.bool}],pre:=fun _=>True,f:=fun _=>(true,())}
abbrev lwY (l:List IP) (L:Int) (ts:List Int) (s:Int):List IP:=exL (tL l) L ts s
def zpU (Y D:List IP):LoopAnn:={σ:=Nat,pat:=fun k=>[sI 15 k,.row 93 39 C64 (tab (nmF (addL 1 Y D k)) Y.length),.row 95 39 C64 (tab (nmF (addL (-1) Y D k)) Y.length)],inv:=fun k=>k≤Y.length∧k≤D.length,meas:=fun k=>Y.length - k}
def zp6 (l:List IP) (i:Int):LoopAnn:={σ:=Nat,pat:=fun k=>[sI 26 k,sI 25 (sm (sqP i l) k)],inv:=fun k=>k≤l.length,meas:=fun k=>l.length - k}
structure LF (l D Y:List IP) (L:Int) (ts:List Int) (s0:Int):Prop where
  hin:zcj 1000 l=true
  hid:zcj 1000 D=true
  sp:tab (nmF l) l.length=tL l
  x2:exR (tL l) L ts s0=tL Y
  ye:exL (tL l) L ts s0=Y
  yl:Y.length=(most L).toNat
  yt:tab (nmF Y) Y.length=tL Y
  okY:okL 31000 Y
  okD:okL 1000 D
  okl:okL 1000 l
  l31:1≤l.length∧l.length≤31
  m31:3≤most L∧most L≤31
  lm:(l.length:Int)≤most L
section
variable {l D Y:List IP} {L:Int} {ts:List Int} {s0:Int}
theorem LF.cY (h:LF l D Y L ts s0):(tL Y).length≤2000000000:=by
  have:=h.m31;have:=h.yl
  rw[←h.yt,zae];omega
theorem LF.cH (h:LF l D Y L ts s0):List.length (α:=Nat×Nat) (if zcj 1000 l=true then tab (nmF l) l.length else [])≤2000000000:=by
  have:=h.l31
  rw[if_pos h.hin,zae];omega
theorem LF.row0 (h:LF l D Y L ts s0) (w:Int):exR (if zcj 1000 l=true then tab (nmF l) l.length else []) L ts s0=tab (nmF (addL w (lwY l L ts s0) D 0)) (lwY l L ts s0).length:=by
  unfold lwY
  rw[if_pos h.hin,h.sp,h.x2,h.ye,zmm,h.yt]
theorem LF.frz (h:LF l D Y L ts s0) (w:Int) (k:Nat):List.length (α:=Nat×Nat) (exR (if zcj 1000 l=true then tab (nmF l) l.length else []) L ts s0)=List.length (α:=Nat×Nat) (tab (nmF (addL w (lwY l L ts s0) D k)) (lwY l L ts s0).length):=by
  rw[h.row0 w,zae,zae]
theorem LF.getY (h:LF l D Y L ts s0) {w:Int} {k:Nat} (hk:k<Y.length):(tab (nmF (addL w Y D k)) Y.length).getD k C64.dflt=(floatOfInt .f32 (Y.getD k (0,0,())).1,floatOfInt .f32 (Y.getD k (0,0,())).2.1):=by
  have e:(tab (nmF (addL w Y D k)) Y.length).getD k C64.dflt=nmF (addL w Y D k) k:=zaE _ _ _ _ hk
  rw[e]
  unfold nmF
  rw[zev _ _ _ _ hk]
  unfold addK
  rw[if_neg (by omega)]
theorem LF.getD (h:LF l D Y L ts s0) {k:Nat} (hk:k<D.length):(tab (nmF D) D.length).getD k C64.dflt=(floatOfInt .f32 (D.getD k (0,0,())).1,floatOfInt .f32 (D.getD k (0,0,())).2.1):=zaE _ _ _ _ hk
theorem LF.addE (h:LF l D Y L ts s0) {k:Nat} (h1:k<Y.length) (h2:k<D.length):cSumBits .add .f32 ((tab (nmF (addL 1 Y D k)) Y.length).getD k C64.dflt).1 ((tab (nmF (addL 1 Y D k)) Y.length).getD k C64.dflt).2 ((tab (nmF D) D.length).getD k C64.dflt).1 ((tab (nmF D) D.length).getD k C64.dflt).2=some (floatOfInt .f32 ((Y.getD k (0,0,())).1+1*(D.getD k (0,0,())).1),floatOfInt .f32 ((Y.getD k (0,0,())).2.1+1*(D.getD k (0,0,())).2.1)):=by
  rw[h.getY h1,h.getD h2,Int.one_mul,Int.one_mul]
  obtain⟨⟨a1,a2⟩,a3,a4⟩:=h.okY k
  obtain⟨⟨b1,b2⟩,b3,b4⟩:=h.okD k
  exact cAdd ⟨by omega,by omega⟩ ⟨by omega,by omega⟩ ⟨by omega,by omega⟩ ⟨by omega,by omega⟩
theorem LF.subE (h:LF l D Y L ts s0) {k:Nat} (h1:k<Y.length) (h2:k<D.length):cSumBits .sub .f32 ((tab (nmF (addL (-1) Y D k)) Y.length).getD k C64.dflt).1 ((tab (nmF (addL (-1) Y D k)) Y.length).getD k C64.dflt).2 ((tab (nmF D) D.length).getD k C64.dflt).1 ((tab (nmF D) D.length).getD k C64.dflt).2=some (floatOfInt .f32 ((Y.getD k (0,0,())).1 + -1*(D.getD k (0,0,())).1),floatOfInt .f32 ((Y.getD k (0,0,())).2.1 + -1*(D.getD k (0,0,())).2.1)):=by
  rw[h.getY h1,h.getD h2,Int.neg_one_mul,Int.neg_one_mul]
  obtain⟨⟨a1,a2⟩,a3,a4⟩:=h.okY k
  obtain⟨⟨b1,b2⟩,b3,b4⟩:=h.okD k
  exact cSub ⟨by omega,by omega⟩ ⟨by omega,by omega⟩ ⟨by omega,by omega⟩ ⟨by omega,by omega⟩
theorem LF.lt (h:LF l D Y L ts s0) {k:Nat} (h1:(k:Int)<most L) (h2:(k:Int)<(tab (nmF D) D.length).length):k<Y.length∧k<D.length:=by
  have:=h.yl
  rw[zae] at h2
  omega
theorem LF.someA (h:LF l D Y L ts s0) {k:Nat} (h1:(k:Int)<most L) (h2:(k:Int)<(tab (nmF D) D.length).length):(cSumBits .add .f32 ((tab (nmF (addL 1 Y D k)) Y.length).getD k C64.dflt).1 ((tab (nmF (addL 1 Y D k)) Y.length).getD k C64.dflt).2 ((tab (nmF D) D.length).getD k C64.dflt).1 ((tab (nmF D) D.length).getD k C64.dflt).2).isSome=true:=by
  rw[h.addE (h.lt h1 h2).1 (h.lt h1 h2).2];rfl
theorem LF.someB (h:LF l D Y L ts s0) {k:Nat} (h1:(k:Int)<most L) (h2:(k:Int)<(tab (nmF D) D.length).length):(cSumBits .sub .f32 ((tab (nmF (addL (-1) Y D k)) Y.length).getD k C64.dflt).1 ((tab (nmF (addL (-1) Y D k)) Y.length).getD k C64.dflt).2 ((tab (nmF D) D.length).getD k C64.dflt).1 ((tab (nmF D) D.length).getD k C64.dflt).2).isSome=true:=by
  rw[h.subE (h.lt h1 h2).1 (h.lt h1 h2).2];rfl
theorem LF.inA (h:LF l D Y L ts s0) {k:Nat} (w:Int) (h1:(k:Int)<most L) (h2:(k:Int)<(tab (nmF D) D.length).length):0≤(k:Int)∧(k:Int)<(tab (nmF (addL w Y D k)) Y.length).length:=by
  rw[zae]
  have:=h.lt h1 h2
  omega
theorem LF.stepA (h:LF l D Y L ts s0) {k:Nat} (h1:(k:Int)<most L) (h2:(k:Int)<(tab (nmF D) D.length).length) :
    (tab (nmF (addL 1 (lwY l L ts s0) D k)) (lwY l L ts s0).length).set (k:Int).toNat ((cSumBits .add .f32 ((tab (nmF (addL 1 (lwY l L ts s0) D k)) (lwY l L ts s0).length).getD (k:Int).toNat C64.dflt).1 ((tab (nmF (addL 1 (lwY l L ts s0) D k)) (lwY l L ts s0).length).getD (k:Int).toNat C64.dflt).2 ((if zcj 1000 D=true then tab (nmF D) D.length else []).getD (k:Int).toNat C64.dflt).1 ((if zcj 1000 D=true then tab (nmF D) D.length else []).getD (k:Int).toNat C64.dflt).2).getD (0,0)) =
      tab (nmF (addL 1 (lwY l L ts s0) D (k+1))) (lwY l L ts s0).length:=by
  unfold lwY
  rw[h.ye,if_pos h.hid,Int.toNat_natCast,h.addE (h.lt h1 h2).1 (h.lt h1 h2).2,Option.getD_some]
  exact ziN (h.lt h1 h2).1
theorem LF.stepB (h:LF l D Y L ts s0) {k:Nat} (h1:(k:Int)<most L) (h2:(k:Int)<(tab (nmF D) D.length).length) :
    (tab (nmF (addL (-1) (lwY l L ts s0) D k)) (lwY l L ts s0).length).set (k:Int).toNat ((cSumBits .sub .f32 ((tab (nmF (addL (-1) (lwY l L ts s0) D k)) (lwY l L ts s0).length).getD (k:Int).toNat C64.dflt).1 ((tab (nmF (addL (-1) (lwY l L ts s0) D k)) (lwY l L ts s0).length).getD (k:Int).toNat C64.dflt).2 ((if zcj 1000 D=true then tab (nmF D) D.length else []).getD (k:Int).toNat C64.dflt).1 ((if zcj 1000 D=true then tab (nmF D) D.length else []).getD (k:Int).toNat C64.dflt).2).getD (0,0)) =
      tab (nmF (addL (-1) (lwY l L ts s0) D (k+1))) (lwY l L ts s0).length:=by
  unfold lwY
  rw[h.ye,if_pos h.hid,Int.toNat_natCast,h.subE (h.lt h1 h2).1 (h.lt h1 h2).2,Option.getD_some]
  exact ziN (h.lt h1 h2).1
theorem LF.step (h:LF l D Y L ts s0) {k:Nat} (op:BinOp) (w:Int) (h1:(k:Int)<most L) (h2:(k:Int)<(tab (nmF D) D.length).length) (hw:(op=.add∧w=1)∨(op=.sub∧w = -1)) :
    (tab (nmF (addL w (lwY l L ts s0) D k)) (lwY l L ts s0).length).set (k:Int).toNat ((cSumBits op .f32 ((tab (nmF (addL w (lwY l L ts s0) D k)) (lwY l L ts s0).length).getD (k:Int).toNat C64.dflt).1 ((tab (nmF (addL w (lwY l L ts s0) D k)) (lwY l L ts s0).length).getD (k:Int).toNat C64.dflt).2 ((if zcj 1000 D=true then tab (nmF D) D.length else []).getD (k:Int).toNat C64.dflt).1 ((if zcj 1000 D=true then tab (nmF D) D.length else []).getD (k:Int).toNat C64.dflt).2).getD (0,0)) =
      tab (nmF (addL w (lwY l L ts s0) D (k+1))) (lwY l L ts s0).length:=by
  rcases hw with ⟨rfl,rfl⟩|⟨rfl,rfl⟩
  · exact h.stepA h1 h2
  · exact h.stepB h1 h2
theorem LF.inv (h:LF l D Y L ts s0) {k:Nat} (h1:(k:Int)<most L) (h2:(k:Int)<(tab (nmF D) D.length).length):(k+1≤(lwY l L ts s0).length∧k+1≤D.length)∧(lwY l L ts s0).length - (k+1)<(lwY l L ts s0).length - k:=by
  have:=h.lt h1 h2
  unfold lwY
  rw[h.ye]
  omega
theorem LF.eLen (h:LF l D Y L ts s0) (i:Int):most L=((erS (hzL l (most L).toNat) i).length:Int):=by
  have:=h.m31
  rw[zeU];unfold hzL;rw[zae];omega
theorem LF.sq0 (h:LF l D Y L ts s0) (k:Nat) : -9223372036854775808≤(l.getD k zak.dflt).1*(l.getD k zak.dflt).1∧(l.getD k zak.dflt).1*(l.getD k zak.dflt).1≤9223372036854775807:=by
  have a:=zhX h.okl 0 k
  have e:sqP 0 l k=(l.getD k zak.dflt).1*(l.getD k zak.dflt).1:=rfl
  rw[←e];omega
theorem LF.sq1 (h:LF l D Y L ts s0) (k:Nat) : -9223372036854775808≤(l.getD k zak.dflt).2.1*(l.getD k zak.dflt).2.1∧(l.getD k zak.dflt).2.1*(l.getD k zak.dflt).2.1≤9223372036854775807:=by
  have a:=zhX h.okl 1 k
  have e:sqP 1 l k=(l.getD k zak.dflt).2.1*(l.getD k zak.dflt).2.1:=rfl
  rw[←e];omega
theorem LF.sm0 (h:LF l D Y L ts s0) {k:Nat} (hk:k≤l.length) : -9223372036854775808≤sm (sqP 0 l) k+(l.getD k zak.dflt).1*(l.getD k zak.dflt).1∧sm (sqP 0 l) k+(l.getD k zak.dflt).1*(l.getD k zak.dflt).1≤9223372036854775807:=by
  have a:=zhX h.okl 0 k
  have b:=zkZ h.okl 0 k
  have c:=h.l31
  have e:sqP 0 l k=(l.getD k zak.dflt).1*(l.getD k zak.dflt).1:=rfl
  rw[←e];omega
theorem LF.sm1 (h:LF l D Y L ts s0) {k:Nat} (hk:k≤l.length) : -9223372036854775808≤sm (sqP (0+1) l) k+(l.getD k zak.dflt).2.1*(l.getD k zak.dflt).2.1∧sm (sqP (0+1) l) k+(l.getD k zak.dflt).2.1*(l.getD k zak.dflt).2.1≤9223372036854775807:=by
  have a:=zhX h.okl (0+1) k
  have b:=zkZ h.okl (0+1) k
  have c:=h.l31
  have e:sqP (0+1) l k=(l.getD k zak.dflt).2.1*(l.getD k zak.dflt).2.1:=rfl
  rw[←e];omega
end
theorem h3 : Ok 3 zp8:=by
  refine mkU (X:=x4) (unr:=[1]) (hX:=zp5) (ctr:=[(4,zle),(5,zoY),(6,zmC),(7,zoX),(8,sExc),(9,znt),(10,zo5),(11,zpa),(12,sUnf),(13,zlb),(14,zo4),(15,sEn)]) ⟨h77,h78,h68,h79,h31n,h80o,h19,h58,h53n,h34n,h55,g15,trivial⟩ (nt:=220) Try.func3 rfl rfl rfl rfl (by kernel_rfl) (by kernel_rfl) (fun x=>[fun _=>zpU (lwY x.1 x.2.1.1.1 x.2.1.1.2.1 x.2.1.2.1) x.2.2.1,fun st=>zpU [] [],fun st=>znM 22 st fun i=>zp6 x.1 i]) ?_
  rintro⟨(l:List IP),⟨⟨(L:Int),(ts:List Int),⟨⟩⟩,(s0:Int),⟨⟩⟩,(D:List IP),⟨⟩⟩ _
  by_cases hl0:l.length=0
  ·
    repeat' (intro hzz;(try (rename Two=>hq;cases hq));(try dsimp only at hzz);(try simp only[zac,zab,eqD,inR,big,zaa,Bool.not_true,Bool.not_false,Bool.true_eq,decide_eq_true_eq,decide_eq_false_iff_not,Bool.not_eq_true',Bool.not_eq_false',Bool.and_eq_true,Prod.mk.injEq,and_true,true_and,Int.not_lt,Int.not_le,gt_iff_lt,ge_iff_le] at hzz);(try (first|contradiction|(exfalso;omega)));(try (revert hzz;intro _)))
    all_goals try (rename Unit=>hq;clear hq)
    all_goals try ((with_reducible refine Held.mk ?_);(with_reducible (first|refine Frz.mk ?_|refine And.intro (Frz.mk ?_) ?_|refine And.intro ?_ (Frz.mk ?_)));repeat' first|exact True.intro|(change _=_;with_reducible rfl)|refine And.intro ?_ ?_|(with_reducible refine Frz.mk ?_))
    all_goals try (refine Held.mk ?_;(try dsimp only at *);(try simp only[zac,zab,eqD,inR,big,zaa,Bool.not_true,Bool.not_false,Bool.true_eq,decide_eq_true_eq,decide_eq_false_iff_not,Bool.not_eq_true',Bool.not_eq_false',Bool.and_eq_true,Prod.mk.injEq,and_true,true_and,Int.not_lt,Int.not_le,gt_iff_lt,ge_iff_le] at *))
    all_goals try omega
  by_cases hl1:31<l.length
  ·
    repeat' (intro hzz;(try (rename Two=>hq;cases hq));(try dsimp only at hzz);(try simp only[zac,zab,eqD,inR,big,zaa,Bool.not_true,Bool.not_false,Bool.true_eq,decide_eq_true_eq,decide_eq_false_iff_not,Bool.not_eq_true',Bool.not_eq_false',Bool.and_eq_true,Prod.mk.injEq,and_true,true_and,Int.not_lt,Int.not_le,gt_iff_lt,ge_iff_le] at hzz);(try (first|contradiction|(exfalso;omega)));(try (revert hzz;intro _)))
    all_goals try (rename Unit=>hq;clear hq)
    all_goals try ((with_reducible refine Held.mk ?_);(with_reducible (first|refine Frz.mk ?_|refine And.intro (Frz.mk ?_) ?_|refine And.intro ?_ (Frz.mk ?_)));repeat' first|exact True.intro|(change _=_;with_reducible rfl)|refine And.intro ?_ ?_|(with_reducible refine Frz.mk ?_))
    all_goals try (refine Held.mk ?_;(try dsimp only at *);(try simp only[zac,zab,eqD,inR,big,zaa,Bool.not_true,Bool.not_false,Bool.true_eq,decide_eq_true_eq,decide_eq_false_iff_not,Bool.not_eq_true',Bool.not_eq_false',Bool.and_eq_true,Prod.mk.injEq,and_true,true_and,Int.not_lt,Int.not_le,gt_iff_lt,ge_iff_le] at *))
    all_goals try omega
  by_cases hd1:31<D.length
  ·
    repeat' (intro hzz;(try (rename Two=>hq;cases hq));(try dsimp only at hzz);(try simp only[zac,zab,eqD,inR,big,zaa,Bool.not_true,Bool.not_false,Bool.true_eq,decide_eq_true_eq,decide_eq_false_iff_not,Bool.not_eq_true',Bool.not_eq_false',Bool.and_eq_true,Prod.mk.injEq,and_true,true_and,Int.not_lt,Int.not_le,gt_iff_lt,ge_iff_le] at hzz);(try (first|contradiction|(exfalso;omega)));(try (revert hzz;intro _)))
    all_goals try (rename Unit=>hq;clear hq)
    all_goals try ((with_reducible refine Held.mk ?_);(with_reducible (first|refine Frz.mk ?_|refine And.intro (Frz.mk ?_) ?_|refine And.intro ?_ (Frz.mk ?_)));repeat' first|exact True.intro|(change _=_;with_reducible rfl)|refine And.intro ?_ ?_|(with_reducible refine Frz.mk ?_))
    all_goals try (refine Held.mk ?_;(try dsimp only at *);(try simp only[zac,zab,eqD,inR,big,zaa,Bool.not_true,Bool.not_false,Bool.true_eq,decide_eq_true_eq,decide_eq_false_iff_not,Bool.not_eq_true',Bool.not_eq_false',Bool.and_eq_true,Prod.mk.injEq,and_true,true_and,Int.not_lt,Int.not_le,gt_iff_lt,ge_iff_le] at *))
    all_goals try omega
  by_cases hm:pmB L ts s0=true
  · obtain ⟨h8,ho,h5,hM⟩:=zpo hm
    have htp:pLen ts.length:=by unfold pLen;omega
    obtain⟨hst,hs1⟩:=zjK htp ho
    have hL:=(zaq hst.1).1
    have m:Mx L ts s0:=⟨hst,hs1,hM⟩
    have hpos:=m.pos
    have h31:most L≤31:=by
      have:L=2∨L=3∨L=4∨L=5:=by omega
      rcases this with rfl|rfl|rfl|rfl<;>decide
    by_cases hn:most L<(l.length:Int)
    ·
      repeat' (intro hzz;(try (rename Two=>hq;cases hq));(try dsimp only at hzz);(try simp only[zac,zab,eqD,inR,big,zaa,Bool.not_true,Bool.not_false,Bool.true_eq,decide_eq_true_eq,decide_eq_false_iff_not,Bool.not_eq_true',Bool.not_eq_false',Bool.and_eq_true,Prod.mk.injEq,and_true,true_and,Int.not_lt,Int.not_le,gt_iff_lt,ge_iff_le] at hzz);(try simp only[zac,zab,eqD,inR,big,zaa,Bool.not_true,Bool.not_false,Bool.true_eq,decide_eq_true_eq,decide_eq_false_iff_not,Bool.not_eq_true',Bool.not_eq_false',Bool.and_eq_true,Prod.mk.injEq,and_true,true_and,Int.not_lt,Int.not_le,gt_iff_lt,ge_iff_le,hm,hn] at hzz);(try (first|contradiction|(exfalso;omega)));(try (revert hzz;intro _)))
      all_goals try (rename Unit=>hq;clear hq)
      all_goals try ((with_reducible refine Held.mk ?_);(with_reducible (first|refine Frz.mk ?_|refine And.intro (Frz.mk ?_) ?_|refine And.intro ?_ (Frz.mk ?_)));repeat' first|exact True.intro|(change _=_;with_reducible rfl)|refine And.intro ?_ ?_|(with_reducible refine Frz.mk ?_))
      all_goals try (refine Held.mk ?_;(try dsimp only at *);(try simp only[zac,zab,eqD,inR,big,zaa,Bool.not_true,Bool.not_false,Bool.true_eq,decide_eq_true_eq,decide_eq_false_iff_not,Bool.not_eq_true',Bool.not_eq_false',Bool.and_eq_true,Prod.mk.injEq,and_true,true_and,Int.not_lt,Int.not_le,gt_iff_lt,ge_iff_le] at *);(try simp only[zac,zab,eqD,inR,big,zaa,Bool.not_true,Bool.not_false,Bool.true_eq,decide_eq_true_eq,decide_eq_false_iff_not,Bool.not_eq_true',Bool.not_eq_false',Bool.and_eq_true,Prod.mk.injEq,and_true,true_and,Int.not_lt,Int.not_le,gt_iff_lt,ge_iff_le,hm,hn] at *))
      all_goals try omega
      all_goals first|omega|exact⟨by omega,by decide,by decide⟩|exact⟨htp,by omega⟩|trace_state
    by_cases hin:zcj 1000 l=true
    · by_cases hid:zcj 1000 D=true
      · have hp:okL 1000 l:=fun i=>zjW (B:=1000) (by decide) hin i
        have hD:okL 1000 D:=fun i=>zjW (B:=1000) (by decide) hid i
        have hsp:tab (nmF l) l.length=tL l:=(zg5 (zbW hp (by decide))).symm
        obtain⟨x1,x2,x3,x4⟩:=zl1 m ho hp (by omega) (by omega) h31
        have hY:=zl2 m hp (by omega) (by omega) h31
        have lY0:(exL (tL l) L ts s0).length=(most L).toNat:=zae _ _
        obtain⟨Y,hYe⟩:∃Y,exL (tL l) L ts s0=Y:=⟨_,rfl⟩
        rw[hYe] at x2 x3 x4 hY lY0
        have hYt:tab (nmF Y) Y.length=tL Y:=(zg5 (zbW hY (by decide))).symm
        have lY:((tL Y).length:Int)=most L:=by rw[←hYt,zae];omega
        have lP:(hzL l (most L).toNat).length=(most L).toNat:=zae _ _
        have hP:=zjX (by decide) hp (most L).toNat
        have lU:((tL (hzL l (most L).toNat)).length:Int)=most L:=by
          rw[zg5 (zbW hP (by decide)),zae];omega
        have lX:(tL l).length=l.length:=by rw[←hsp,zae]
        obtain⟨e1,e2⟩:=zor hP (by omega) (by omega)
        have n0:(eK (sqL (erS (hzL l (most L).toNat) 0)) (erS (hzL l (most L).toNat) 0).length).1=sm (sqP 0 l) l.length:=by rw[zgV hP,zim l 0 (by omega)]
        have n1:(eK (sqL (erS (hzL l (most L).toNat) 1)) (erS (hzL l (most L).toNat) 1).length).1=sm (sqP 1 l) l.length:=by rw[zgV hP,zim l 1 (by omega)]
        have r0:=zj4 hP 0 (by omega) (by omega)
        have r1:=zj4 hP 1 (by omega) (by omega)
        have mE:∀k,avE [tab (nmF (addL 1 Y D k)) Y.length,tab (nmF (addL (-1) Y D k)) Y.length]=0:=fun k=>by
          have:=(zlH hY hD (by omega) (by omega) k).1
          rwa [zg5 (zbW (zeZ (.inl rfl) hY hD k) (by decide)),zg5 (zbW (zeZ (.inr rfl) hY hD k) (by decide)),zb2,zb2] at this
        have mR:∀k,avR [tab (nmF (addL 1 Y D k)) Y.length,tab (nmF (addL (-1) Y D k)) Y.length]=tL Y:=fun k=>by
          have:=(zlH hY hD (by omega) (by omega) k).2
          rwa [zg5 (zbW (zeZ (.inl rfl) hY hD k) (by decide)),zg5 (zbW (zeZ (.inr rfl) hY hD k) (by decide)),zb2,zb2] at this
        have t2:=zok hp (N:=(most L).toNat) (by omega)
        have o1:=znT l
        have hF:LF l D Y L ts s0:=⟨hin,hid,hsp,x2,hYe,lY0,hYt,hY,hD,hp,⟨by omega,by omega⟩,⟨by omega,by omega⟩,by omega⟩
        repeat' (intro hzz;(try (rename Two=>hq;cases hq));(try dsimp only at hzz);(try simp only[zac,zab,eqD,inR,big,zaa,Bool.not_true,Bool.not_false,Bool.true_eq,decide_eq_true_eq,decide_eq_false_iff_not,Bool.not_eq_true',Bool.not_eq_false',Bool.and_eq_true,Prod.mk.injEq,and_true,true_and,Int.not_lt,Int.not_le,gt_iff_lt,ge_iff_le] at hzz);(try simp only[zac,zab,eqD,inR,big,zaa,Bool.not_true,Bool.not_false,Bool.true_eq,decide_eq_true_eq,decide_eq_false_iff_not,Bool.not_eq_true',Bool.not_eq_false',Bool.and_eq_true,Prod.mk.injEq,and_true,true_and,Int.not_lt,Int.not_le,gt_iff_lt,ge_iff_le,not_true_eq_false,not_false_eq_true,hl0,hl1,hd1,hm,hn,hin,hid,if_true,hsp,x1,x2,x3,x4,lY,lU,lX,Int.toNat_natCast,t2,e1,e2,hYe,mE,mR,n0,n1] at hzz);(try (revert hzz;intro _)))
        all_goals try (rename Unit=>hq;clear hq)
        all_goals try ((with_reducible refine Held.mk ?_);(with_reducible (first|refine Frz.mk ?_|refine And.intro (Frz.mk ?_) ?_|refine And.intro ?_ (Frz.mk ?_)));repeat' first|exact True.intro|(change _=_;with_reducible rfl)|refine And.intro ?_ ?_|(with_reducible refine Frz.mk ?_))
        all_goals try (refine Held.mk ?_;(try dsimp only at *);(try simp only[zac,zab,eqD,inR,big,zaa,Bool.not_true,Bool.not_false,Bool.true_eq,decide_eq_true_eq,decide_eq_false_iff_not,Bool.not_eq_true',Bool.not_eq_false',Bool.and_eq_true,Prod.mk.injEq,and_true,true_and,Int.not_lt,Int.not_le,gt_iff_lt,ge_iff_le] at *);(try simp only[zac,zab,eqD,inR,big,zaa,Bool.not_true,Bool.not_false,Bool.true_eq,decide_eq_true_eq,decide_eq_false_iff_not,Bool.not_eq_true',Bool.not_eq_false',Bool.and_eq_true,Prod.mk.injEq,and_true,true_and,Int.not_lt,Int.not_le,gt_iff_lt,ge_iff_le,not_true_eq_false,not_false_eq_true,hl0,hl1,hd1,hm,hn,hin,hid,if_true,hsp,x1,x2,x3,x4,lY,lU,lX,Int.toNat_natCast,t2,e1,e2,hYe,mE,mR,n0,n1] at *))
        all_goals try omega
        all_goals try ((with_reducible (change Fact.frzP _ _ _));exact hF.frz _ _)
        all_goals try with_reducible exact⟨by omega,by decide,by decide⟩
        all_goals try with_reducible exact⟨htp,by omega⟩
        all_goals try with_reducible exact⟨by omega,o1⟩
        all_goals try with_reducible exact⟨r0,hF.eLen 0⟩
        all_goals try with_reducible exact⟨r1,hF.eLen 1⟩
        all_goals try with_reducible exact hF.cY
        all_goals try with_reducible exact hF.sq0 _
        all_goals try with_reducible exact hF.sq1 _
        all_goals try with_reducible exact hF.sm0 (by assumption)
        all_goals try with_reducible exact hF.sm1 (by assumption)
        all_goals try with_reducible exact hF.someA (by assumption) (by assumption)
        all_goals try with_reducible exact hF.someB (by assumption) (by assumption)
        all_goals try with_reducible exact hF.inA _ (by assumption) (by assumption)
        · exact hF.cH
        ·
          refine zal.mk ?_
          refine Exists.intro (0:Nat) ?_
          refine And.intro (Leaf.mk ?_) ?_
          · repeat' first|exact True.intro|refine And.intro ?_ ?_
            all_goals try ((change _=_<;>try dsimp only)<;>try with_reducible rfl)
            all_goals try omega
            all_goals (first|with_reducible rfl|exact hF.row0 _|trace_state)
          exact⟨Nat.zero_le _,Nat.zero_le _⟩
        · rename_i k hk h1 h2
          refine zal.mk ?_
          refine Exists.intro (k+1) ?_
          refine And.intro (Leaf.mk ?_) ?_
          · repeat' first|exact True.intro|refine And.intro ?_ ?_
            all_goals try ((change _=_<;>try dsimp only)<;>try with_reducible rfl)
            all_goals try omega
            all_goals (first|with_reducible rfl|exact hF.step _ _ h1 h2 (.inl ⟨rfl,rfl⟩)|exact hF.step _ _ h1 h2 (.inr ⟨rfl,rfl⟩)|trace_state)
          exact hF.inv h1 h2
        ·
          refine zal.mk ?_
          refine Exists.intro (0:Nat) ?_
          refine And.intro (Leaf.mk ?_) ?_
          · repeat' first|exact True.intro|refine And.intro ?_ ?_
            all_goals try ((change _=_<;>try dsimp only)<;>try with_reducible rfl)
            all_goals try omega
            all_goals (first|with_reducible rfl|rfl)
          exact Nat.zero_le _
        · rename_i k hk hlt
          refine zal.mk ?_
          refine Exists.intro (k+1) ?_
          refine And.intro (Leaf.mk ?_) ?_
          · repeat' first|exact True.intro|refine And.intro ?_ ?_
            all_goals try ((change _=_<;>try dsimp only)<;>try with_reducible rfl)
            all_goals try omega
            all_goals (first|with_reducible rfl|rfl)
          exact⟨by show k+1≤l.length;omega,by show l.length - (k+1)<l.length - k;omega⟩
        · exfalso
          rename_i k hk hge ht hne hla
          exact hne (by rw[show k=l.length by omega];try rfl)
        ·
          refine zal.mk ?_
          refine Exists.intro (0:Nat) ?_
          refine And.intro (Leaf.mk ?_) ?_
          · repeat' first|exact True.intro|refine And.intro ?_ ?_
            all_goals try ((change _=_<;>try dsimp only)<;>try with_reducible rfl)
            all_goals try omega
            all_goals (first|with_reducible rfl|rfl)
          exact Nat.zero_le _
        · rename_i k hk hlt
          refine zal.mk ?_
          refine Exists.intro (k+1) ?_
          refine And.intro (Leaf.mk ?_) ?_
          · repeat' first|exact True.intro|refine And.intro ?_ ?_
            all_goals try ((change _=_<;>try dsimp only)<;>try with_reducible rfl)
            all_goals try omega
            all_goals (first|with_reducible rfl|rfl)
          exact⟨by show k+1≤l.length;omega,by show l.length - (k+1)<l.length - k;omega⟩
        · exfalso
          rename_i k hk hge ht hne hla
          exact hne (by rw[show k=l.length by omega];try rfl)
        ·
          refine zal.mk ?_
          refine Exists.intro (0:Nat) ?_
          refine And.intro (Leaf.mk ?_) ?_
          · repeat' first|exact True.intro|refine And.intro ?_ ?_
            all_goals try ((change _=_<;>try dsimp only)<;>try with_reducible rfl)
            all_goals try omega
            all_goals (first|with_reducible rfl|rfl)
          exact Nat.zero_le _
        · rename_i k hk hlt
          refine zal.mk ?_
          refine Exists.intro (k+1) ?_
          refine And.intro (Leaf.mk ?_) ?_
          · repeat' first|exact True.intro|refine And.intro ?_ ?_
            all_goals try ((change _=_<;>try dsimp only)<;>try with_reducible rfl)
            all_goals try omega
            all_goals (first|with_reducible rfl|rfl)
          exact⟨by show k+1≤l.length;omega,by show l.length - (k+1)<l.length - k;omega⟩
        · exfalso
          rename_i k hk hge ht hne hla
          exact hne (by rw[show k=l.length by omega];try rfl)
        ·
          refine zal.mk ?_
          refine Exists.intro (0:Nat) ?_
          refine And.intro (Leaf.mk ?_) ?_
          · repeat' first|exact True.intro|refine And.intro ?_ ?_
            all_goals try ((change _=_<;>try dsimp only)<;>try with_reducible rfl)
            all_goals try omega
            all_goals (first|with_reducible rfl|rfl)
          exact Nat.zero_le _
        · rename_i k hk hlt
          refine zal.mk ?_
          refine Exists.intro (k+1) ?_
          refine And.intro (Leaf.mk ?_) ?_
          · repeat' first|exact True.intro|refine And.intro ?_ ?_
            all_goals try ((change _=_<;>try dsimp only)<;>try with_reducible rfl)
            all_goals try omega
            all_goals (first|with_reducible rfl|rfl)
          exact⟨by show k+1≤l.length;omega,by show l.length - (k+1)<l.length - k;omega⟩
        · exfalso
          rename_i k hk hge ht hne hla
          exact hne (by rw[show k=l.length by omega];try rfl)
      · have hid:zcj 1000 D=false:=by simpa using hid
        repeat' (intro hzz;(try (rename Two=>hq;cases hq));(try dsimp only at hzz);(try simp only[zac,zab,eqD,inR,big,zaa,Bool.not_true,Bool.not_false,Bool.true_eq,decide_eq_true_eq,decide_eq_false_iff_not,Bool.not_eq_true',Bool.not_eq_false',Bool.and_eq_true,Prod.mk.injEq,and_true,true_and,Int.not_lt,Int.not_le,gt_iff_lt,ge_iff_le] at hzz);(try simp only[zac,zab,eqD,inR,big,zaa,Bool.not_true,Bool.not_false,Bool.true_eq,decide_eq_true_eq,decide_eq_false_iff_not,Bool.not_eq_true',Bool.not_eq_false',Bool.and_eq_true,Prod.mk.injEq,and_true,true_and,Int.not_lt,Int.not_le,gt_iff_lt,ge_iff_le,hm,hn,hin,hid] at hzz);(try (first|contradiction|(exfalso;omega)));(try (revert hzz;intro _)))
        all_goals try (rename Unit=>hq;clear hq)
        all_goals try ((with_reducible refine Held.mk ?_);(with_reducible (first|refine Frz.mk ?_|refine And.intro (Frz.mk ?_) ?_|refine And.intro ?_ (Frz.mk ?_)));repeat' first|exact True.intro|(change _=_;with_reducible rfl)|refine And.intro ?_ ?_|(with_reducible refine Frz.mk ?_))
        all_goals try (refine Held.mk ?_;(try dsimp only at *);(try simp only[zac,zab,eqD,inR,big,zaa,Bool.not_true,Bool.not_false,Bool.true_eq,decide_eq_true_eq,decide_eq_false_iff_not,Bool.not_eq_true',Bool.not_eq_false',Bool.and_eq_true,Prod.mk.injEq,and_true,true_and,Int.not_lt,Int.not_le,gt_iff_lt,ge_iff_le] at *);(try simp only[zac,zab,eqD,inR,big,zaa,Bool.not_true,Bool.not_false,Bool.true_eq,decide_eq_true_eq,decide_eq_false_iff_not,Bool.not_eq_true',Bool.not_eq_false',Bool.and_eq_true,Prod.mk.injEq,and_true,true_and,Int.not_lt,Int.not_le,gt_iff_lt,ge_iff_le,hm,hn,hin,hid] at *))
        all_goals try omega
        all_goals first|omega|exact⟨by omega,by decide,by decide⟩|exact⟨htp,by omega⟩|trace_state
    · have hin:zcj 1000 l=false:=by simpa using hin
      repeat' (intro hzz;(try (rename Two=>hq;cases hq));(try dsimp only at hzz);(try simp only[zac,zab,eqD,inR,big,zaa,Bool.not_true,Bool.not_false,Bool.true_eq,decide_eq_true_eq,decide_eq_false_iff_not,Bool.not_eq_true',Bool.not_eq_false',Bool.and_eq_true,Prod.mk.injEq,and_true,true_and,Int.not_lt,Int.not_le,gt_iff_lt,ge_iff_le] at hzz);(try simp only[zac,zab,eqD,inR,big,zaa,Bool.not_true,Bool.not_false,Bool.true_eq,decide_eq_true_eq,decide_eq_false_iff_not,Bool.not_eq_true',Bool.not_eq_false',Bool.and_eq_true,Prod.mk.injEq,and_true,true_and,Int.not_lt,Int.not_le,gt_iff_lt,ge_iff_le,hm,hn,hin] at hzz);(try (first|contradiction|(exfalso;omega)));(try (revert hzz;intro _)))
      all_goals try (rename Unit=>hq;clear hq)
      all_goals try ((with_reducible refine Held.mk ?_);(with_reducible (first|refine Frz.mk ?_|refine And.intro (Frz.mk ?_) ?_|refine And.intro ?_ (Frz.mk ?_)));repeat' first|exact True.intro|(change _=_;with_reducible rfl)|refine And.intro ?_ ?_|(with_reducible refine Frz.mk ?_))
      all_goals try (refine Held.mk ?_;(try dsimp only at *);(try simp only[zac,zab,eqD,inR,big,zaa,Bool.not_true,Bool.not_false,Bool.true_eq,decide_eq_true_eq,decide_eq_false_iff_not,Bool.not_eq_true',Bool.not_eq_false',Bool.and_eq_true,Prod.mk.injEq,and_true,true_and,Int.not_lt,Int.not_le,gt_iff_lt,ge_iff_le] at *);(try simp only[zac,zab,eqD,inR,big,zaa,Bool.not_true,Bool.not_false,Bool.true_eq,decide_eq_true_eq,decide_eq_false_iff_not,Bool.not_eq_true',Bool.not_eq_false',Bool.and_eq_true,Prod.mk.injEq,and_true,true_and,Int.not_lt,Int.not_le,gt_iff_lt,ge_iff_le,hm,hn,hin] at *))
      all_goals try omega
      all_goals first|omega|exact⟨by omega,by decide,by decide⟩|exact⟨htp,by omega⟩|trace_state
  · have hm:pmB L ts s0=false:=by simpa using hm
    repeat' (intro hzz;(try (rename Two=>hq;cases hq));(try dsimp only at hzz);(try simp only[zac,zab,eqD,inR,big,zaa,Bool.not_true,Bool.not_false,Bool.true_eq,decide_eq_true_eq,decide_eq_false_iff_not,Bool.not_eq_true',Bool.not_eq_false',Bool.and_eq_true,Prod.mk.injEq,and_true,true_and,Int.not_lt,Int.not_le,gt_iff_lt,ge_iff_le] at hzz);(try simp only[zac,zab,eqD,inR,big,zaa,Bool.not_true,Bool.not_false,Bool.true_eq,decide_eq_true_eq,decide_eq_false_iff_not,Bool.not_eq_true',Bool.not_eq_false',Bool.and_eq_true,Prod.mk.injEq,and_true,true_and,Int.not_lt,Int.not_le,gt_iff_lt,ge_iff_le,hm] at hzz);(try (first|contradiction|(exfalso;omega)));(try (revert hzz;intro _)))
    all_goals try (rename Unit=>hq;clear hq)
    all_goals try ((with_reducible refine Held.mk ?_);(with_reducible (first|refine Frz.mk ?_|refine And.intro (Frz.mk ?_) ?_|refine And.intro ?_ (Frz.mk ?_)));repeat' first|exact True.intro|(change _=_;with_reducible rfl)|refine And.intro ?_ ?_|(with_reducible refine Frz.mk ?_))
    all_goals try (refine Held.mk ?_;(try dsimp only at *);(try simp only[zac,zab,eqD,inR,big,zaa,Bool.not_true,Bool.not_false,Bool.true_eq,decide_eq_true_eq,decide_eq_false_iff_not,Bool.not_eq_true',Bool.not_eq_false',Bool.and_eq_true,Prod.mk.injEq,and_true,true_and,Int.not_lt,Int.not_le,gt_iff_lt,ge_iff_le] at *);(try simp only[zac,zab,eqD,inR,big,zaa,Bool.not_true,Bool.not_false,Bool.true_eq,decide_eq_true_eq,decide_eq_false_iff_not,Bool.not_eq_true',Bool.not_eq_false',Bool.and_eq_true,Prod.mk.injEq,and_true,true_and,Int.not_lt,Int.not_le,gt_iff_lt,ge_iff_le,hm] at *))
    all_goals try omega
    all_goals trace_state
end Go.Eng.Pu
