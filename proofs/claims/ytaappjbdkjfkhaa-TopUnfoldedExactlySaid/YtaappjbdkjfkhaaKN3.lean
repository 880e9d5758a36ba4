/- Texts EC ED B1 L0 Q40 Q41 Q1 Q42 B2, as far as they are used. Conditions: each lemma's own. -/
import Derived.Test.YtaappjbdkjfkhaaKN2
import Derived.RowKit
import Derived.RowKit3
import Derived.OpenShut
import Derived.Carry
import Derived.ChangeOld
import Derived.KernelRfl
import Derived.Test.YtaappjbdkjfkhaaProg
import GoSem.Extern.MathFloatBits
import Derived.ChangeKeysEq
import Derived.Test.YtaappjbdkjfkhaaRows
import Derived.WalkKit
import Derived.ChangeCalls
import Derived.ProofKit
set_option linter.all false
namespace Go.Eng
section
variable {E:Env} {a:Act} {w:World} {c:Cfg}
theorem zg7 (hC:CfgOk E.P E.OB c) {st:St} (hR:RelS E c.nt st a w) {o:Oper} {r:Res} (h:zdS c st o=some r) (hob:r.ob.hold) {K:Act→World→Prop} {Q:Exit→Act→World→Prop}
    (hK:∀a' w',RelS E c.nt (after st r) a' w'→K a' w') {ro:Option Nat} {q:Nat}:o.wpIn (Fw ro) q E.P a w K Q:=by
  obtain⟨η,g,H⟩:=hR
  unfold zdS at h
  split at h
  case h_2=>cases h
  case h_1 e he=>
    have hsem:=zf8 hC g H he
    have up:∀a' w',Rel E c.nt (upd (fun f=>f∈st) r.add r.kill) a' w'→K a' w':=fun a' w' hr=>hK a' w' (hr.weaken fun f hf=>by
      rcases List.mem_append.1 hf with h|h
      · exact .inl h
      · exact .inr (zcT.1 h))
    split at h
    · rename_i hd
      exact zcK g H hsem (by rw[hd];exact h) (fun d hd'=>by rw[hd] at hd';cases hd') hob (zbZ he) up
    · rename_i d hd
      cases hb:Nat.blt d c.nt with
      | false=>rw[hb] at h;simp at h
      | true=>
        rw[hb] at h
        exact zcK g H hsem (by rw[hd];exact h) (fun d' hd'=>by
          rw[hd] at hd'
          simp only[Option.some.injEq] at hd'
          subst hd'
          simpa using hb) hob (zbZ he) up
theorem zjQ {ks:List Nat} {f:Fact}:∀ {l:St},f∈demL ks l→∃g∈l,f=g.dem ks
  | [],h=>by cases h
  | x :: r,h=>by
    simp only[demL,List.mem_cons] at h
    rcases h with rfl|h
    · exact⟨x,List.mem_cons_self,rfl⟩
    · obtain⟨g,h1,h2⟩:=zjQ h
      exact⟨g,List.mem_cons_of_mem _ h1,h2⟩
theorem ziB {nt:Nat} {st:St} (ks:List Nat) (hR:RelS E nt st a w):RelS E nt (zj5 ks st) a w:=by
  unfold zj5
  split
  · exact hR
  · obtain ⟨η,g,H⟩:=hR
    refine⟨η,g,fun f hf=>?_⟩
    obtain⟨q,hq,rfl⟩:=zjQ hf
    have h:=H q hq
    cases q with
    | cell k off s=>
      simp only[Fact.dem]
      cases s.ment ks with
      | false=>exact h
      | true=>
        obtain⟨b,c,cur,el,v,h1,h2,h3,h4,h5,_⟩:=h
        exact⟨b,c,cur,el,v,h1,h2,h3,h4,h5,trivial⟩
    | slot t s=>exact h
    | row k el e xs=>exact h
    | ob k i=>exact h
    | fix k=>exact h
theorem zeK {k:Nat} {t:Ty} {x:t.Den} {f:Fact}:∀ {st:St},f∈zgM k t x st→∃q∈st,f=q.frzC k t x∧f.ment [k]=false
  | [],h=>by simp[zgM] at h
  | q :: r,h=>by
    simp only[zgM] at h
    cases hm:(q.frzC k t x).ment [k] with
    | true=>
      rw[hm] at h
      obtain⟨q',h1,h2⟩:=zeK (st:=r) h
      exact⟨q',List.mem_cons_of_mem _ h1,h2⟩
    | false=>
      rw[hm] at h
      rcases List.mem_cons.1 h with rfl|h
      · exact⟨q,List.mem_cons_self,rfl,hm⟩
      · obtain⟨q',h1,h2⟩:=zeK (st:=r) h
        exact⟨q',List.mem_cons_of_mem _ h1,h2⟩
theorem zhv {nt k:Nat} {t:Ty} {st st':St} (h:zje k t st=some st') (hR:RelS E nt st a w):RelS E nt st' a w:=by
  unfold zje at h
  split at h
  case h_2=>cases h
  case h_1 cs hcs=>
    split at h
    case h_2=>cases h
    case h_1 x hx=>
      cases hz:Nat.ble 1 t.size with
      | false=>rw[hz] at h;simp at h
      | true =>
        rw[hz] at h
        simp only[cond_true,Option.some.injEq] at h
        subst h
        have hz:=Nat.le_of_ble_eq_true hz
        obtain⟨η,g,H⟩:=hR
        obtain⟨n,hn⟩:∃n,t.size=n+1:=⟨t.size - 1,by omega⟩
        have hk:∃b c,η k=some (b,c):=by
          have hcs':=hcs
          rw[hn] at hcs'
          simp only[za0] at hcs'
          cases h1:zaM k 0 st with
          | none=>rw[h1] at hcs';cases hcs'
          | some s=>
            obtain⟨b,c,_,_,_,_,q1,_⟩:=H _ (zaD h1)
            exact⟨b,c,q1⟩
        obtain⟨b,c,hk⟩:=hk
        obtain⟨vs,e1,e2,e3,e4⟩:=zaT H hk _ 0 cs hcs
        obtain⟨cur,el,hlow,hb,hsz⟩:=e4 (by omega)
        obtain⟨l1,l2,q1,q2,q3⟩:=zcb t cs vs x [] hx e1
        have hl2:l2=[]:=by
          cases l2 with
          | nil=>rfl
          | cons _ _=>exact q3.elim
        rw[hl2,List.append_nil] at q1
        subst q1
        have hv:=(zaR g k).2
        have hnk:∀k' n,zax η k k'≠some (b,n):=fun k' n hh=>by
          unfold zax at hh
          split at hh
          · cases hh
          · rename_i hne
            exact hne (g.inj k' k b n c hh hk)
        have hnM:¬E.Mp b:=fun hm=>by
          rcases hm with hm|⟨o,hm⟩
          · exact g.old b hm hlow
          · exact (g.defers.2 _ hm).2.2 k c hk
        have hV:vw E (zax η k) w b cur:=⟨hnM,hnk,el,(0,0),hb⟩
        have hl:(cur.toList.drop 0).take t.size=vs:=by
          apply List.ext_getElem?
          intro j
          rw[List.drop_zero,List.getElem?_take]
          split
          · rename_i hj
            have hj':j<vs.length:=by omega
            have:=e3 j _ (List.getElem?_eq_getElem hj')
            rw[zbE hb,Nat.zero_add] at this
            rw[List.getElem?_eq_getElem hj',←this]
            simp
          · rw[List.getElem?_eq_none (by omega)]
        have hrep:zaK (vw E (zax η k) w) (zax η k) (.pd t x) (.pointer (some ⟨b,0,none⟩)):=
          ⟨⟨b,0,none⟩,cur,rfl,rfl,hV,by simpa using hsz,by
            show Rep _ t x ((cur.toList.drop 0).take t.size)
            rw[hl]
            exact Rep.mono hv t x vs q2⟩
        refine⟨zax η k,(zaR g k).1,fun f hf=>?_⟩
        obtain⟨q,q1,rfl,q3⟩:=zeK hf
        have keep:∀ {f:Fact},f∈st→f.ment [k]=false→f.holds E (zax η k) a w:=fun hf hm=>Fact.keep (ks:=[k]) hv (fun j hj=>zaj hj) hm (H _ hf)
        cases q with
        | slot j s=>
          cases s with
          | one s=>
            simp only[Fact.frzC] at q3 ⊢
            cases s with
            | p k' off=>
              simp only[S1.frzC] at q3 ⊢
              cases hb:(Nat.beq k' k&&Nat.beq off 0) with
              | true=>
                rw[Bool.and_eq_true] at hb
                have e5:=Nat.eq_of_beq_eq_true hb.1
                have e6:=Nat.eq_of_beq_eq_true hb.2
                subst e5 e6
                obtain⟨b',c',r1,r2⟩:=H _ q1
                rw[hk] at r1
                simp only[Option.some.injEq,Prod.mk.injEq] at r1
                obtain⟨rfl,rfl⟩:=r1
                simp only[Fact.holds,cond_true,zai]
                rw[r2]
                exact hrep
              | false=>
                rw[hb] at q3
                exact keep q1 q3
            | _=>exact keep q1 q3
          | _=>exact keep q1 q3
        | _=>exact keep q1 q3
theorem zbl {nt:Nat}:∀ {os:List Operand} {ts:List Ty} {st:St},RelS E nt st a w→RelS E nt (zbY os ts st) a w
  | [],_,st,hR=>by simpa only [zbY] using hR
  | _::_,[],st,hR=>by simpa only [zbY] using hR
  | o :: r,t::l,st,hR=>by
    simp only[zbY]
    split
    · split
      · rename_i hf;exact zbl (zhv hf hR)
      · exact zbl hR
    · exact zbl hR
theorem zck {nt:Nat}:∀ {rs:List ResultVar} {cs:List RC} {st:St},RelS E nt st a w→RelS E nt (zdL rs cs st) a w
  | [],_,st,hR=>by simpa only [zdL] using hR
  | .tmp t::rs,[],st,hR=>by simpa only [zdL] using hR
  | .cell _ _::rs,[],st,hR=>by simpa only [zdL] using hR
  | .tmp t::rs,q::cs,st,hR=>by
    simp only[zdL]
    split
    · exact zck (zbl hR)
    · exact zck hR
  | .cell _ _::rs,q::cs,st,hR=>by
    simp only[zdL]
    exact zck hR
theorem ziE {nt:Nat} {o:Oper} {st:St} (hR:RelS E nt st a w):RelS E nt (zj8 c o st) a w:=by
  unfold zj8
  split
  · split
    · exact zbl hR
    · exact hR
  · exact hR
theorem fo_holds {k:FloatKind} {n d:Nat} {x:Option Nat} {η:Eta} (h:Fact.holds E η a w (.slot d (.one (.fo k x)))):∃n,fok k x n∧Fact.holds E η a w (.slot d (.one (.d (.flt k) n))):=by
  obtain⟨n,hv,hn⟩:=h
  exact⟨n,hn,⟨[.float k n],rfl,.inr ⟨rfl,by rw[hv]⟩⟩⟩
theorem zh4 {nt:Nat} {st:St} {r:Res} {K:Res→Prop} (h:zln r K) (hR:RelS E nt (after st r) a w):∃r',K r'∧RelS E nt (after st r') a w:=by
  unfold zln at h
  split at h
  · rename_i d k x l he
    obtain⟨η,g,H⟩:=hR
    obtain⟨n,hn,hv⟩:=fo_holds (n:=0) (H (.slot d (.one (.fo k x))) (by unfold after;rw[he];simp))
    refine⟨_,h n hn,η,g,fun f hf=>?_⟩
    unfold after at hf
    rcases List.mem_append.1 hf with hf|hf
    · rcases List.mem_cons.1 hf with rfl|hf
      · exact hv
      · exact H f (by unfold after;rw[he];exact List.mem_append_left _ (List.mem_cons_of_mem _ hf))
    · exact H f (by unfold after;exact List.mem_append_right _ hf)
  · exact⟨r,h,hR⟩
theorem zeD {η:Eta}:∀ {st:St} {K:St→Prop} (_:zdU st K) (_:∀f∈st,Fact.holds E η a w f),∃st',K st'∧∀f∈st',Fact.holds E η a w f
  | [],K,h,H=>⟨[],h,H⟩
  | f :: l,K,h,H=>by
    unfold zdU at h
    split at h
    · rename_i heq;cases heq
    · rename_i d k x l' heq
      cases heq
      obtain⟨n,hn,hv⟩:=fo_holds (n:=0) (H _ List.mem_cons_self)
      obtain⟨s2,h1,h2⟩:=zeD (h n hn) fun f hf=>H f (List.mem_cons_of_mem _ hf)
      exact ⟨_,h1,fun f hf=>by
        rcases List.mem_cons.1 hf with rfl|hf
        · exact hv
        · exact h2 f hf⟩
    · rename_i f' l' _ heq
      cases heq
      obtain⟨s2,h1,h2⟩:=zeD h fun f hf=>H f (List.mem_cons_of_mem _ hf)
      exact ⟨_,h1,fun f hf=>by
        rcases List.mem_cons.1 hf with rfl|hf
        · exact H _ List.mem_cons_self
        · exact h2 f hf⟩
theorem zhc {nt:Nat} {st:St} {K:St→Prop} (h:zdU st K) (hR:RelS E nt st a w):∃st',K st'∧RelS E nt st' a w:=by
  obtain⟨η,g,H⟩:=hR
  obtain⟨s2,h1,h2⟩:=zeD h H
  exact⟨s2,h1,η,g,h2⟩
theorem ze4 (hC:CfgOk E.P E.OB c) {st:St} (hR:RelS E c.nt st a w) {o:Oper} {K:St→Prop} (h:zjB c o st K) {K':Act→World→Prop} {Q:Exit→Act→World→Prop}
    (hK:∀st' a' w',K st'→RelS E c.nt st' a' w'→K' a' w') {ro:Option Nat} {q:Nat}:o.wpIn (Fw ro) q E.P a w K' Q:=by
  unfold zjB at h
  split at h
  case h_1 F hF=>exact hC.hk c.nt E rfl rfl o st F a w K K' Q ro q hF h hR hK
  case h_2 _=>
  split at h
  case h_2=>exact h.elim
  case h_1 p st1 hf=>
    split at h
    case h_2=>exact h.elim
    case h_1 r hr=>
      obtain⟨h1,h⟩:=OP.andK_out h
      obtain⟨h2,h3⟩:=OP.andK_out h
      exact zg7 hC (ziE (ziB _ (zbh hf h1 hR))) hr h2 (fun a' w' h=>by
        obtain⟨r',h4,h5⟩:=zh4 h3 h
        rw[za8] at h4
        exact hK _ a' w' h4 h5)
theorem zd3 {st:St} {nt:Nat} (hR:RelS E nt st a w) (d:Option Nat) (hd:∀t,d=some t→t<nt):RelS E nt (zfu d st) (a.put d undef) w:=by
  obtain⟨η,g,H⟩:=hR
  cases d with
  | none=>exact⟨η,g,H⟩
  | some t=>
    refine (zeE g (F:=fun f=>f∈st) H (hd t rfl) (s:=.one (.v undef)) (v:=undef) rfl).weaken fun f hf=>?_
    simp only[zfu,List.mem_cons] at hf
    rcases hf with rfl|hf
    · exact .inl List.mem_cons_self
    · exact .inr (zcT.1 hf)
theorem zmF {a:Act} {t:Nat} (h:t<a.tmps.size):a.put (some t) (a.tmps.getD t undef)=a:=by
  cases a with
  | mk tmps defers=>
    simp only[Act.put]
    congr 1
    apply Array.ext
    · simp
    · intro i h1 h2
      by_cases hi:t=i
      · subst hi
        simp at h1
        simp[h1]
      · rw[Array.getElem_setIfInBounds_ne (by simpa using h1) hi]
theorem zfF {st:St} {nt t:Nat} {b:Bool} (ht:t<nt) (hR:RelS E nt st a w) (hv:a.tmps.getD t undef=.bool b):RelS E nt (zmA t b st) a w:=by
  obtain⟨η,g,H⟩:=hR
  have:=(zeE g (F:=fun f=>f∈st) H ht (s:=.one (.lb b)) (v:=.bool b) rfl)
  rw[←hv,zmF (by rw[g.size];exact ht)] at this
  refine this.weaken fun f hf=>?_
  simp only[zmA,List.mem_cons] at hf
  rcases hf with rfl|hf
  · exact .inl List.mem_cons_self
  · exact .inr (zcT.1 hf)
theorem zc0 {ops : Array Oper} {st:St} (hR:RelS E c.nt st a w) {o:Oper} :
    match zao c ops st o with
    | .yes=>Region.wanted o (yielded ops a.tmps)=true
    | .no=>Region.wanted o (yielded ops a.tmps)=false
    | .open_ t b=>t<c.nt∧a.tmps.getD t undef=.bool b∧Region.wanted o (yielded ops a.tmps)=(b == zaa o)
    | .bad=>True:=by
  obtain⟨η,g,H⟩:=hR
  cases hg:o.guard with
  | none=>simp[zao,hg,Region.wanted]
  | some p =>
    obtain⟨j,want⟩:=p
    cases hgd:ops[j]? with
    | none=>simp only[zao,hg,hgd]
    | some gd =>
      cases ht:gd.dst with
      | none=>simp only[zao,hg,hgd,ht]
      | some t =>
        cases hb:Nat.blt t c.nt with
        | false=>simp only[zao,hg,hgd,ht,hb,cond_false]
        | true =>
          have hlt:t<c.nt:=by simpa using hb
          have hlt':t<a.tmps.size:=by rw[g.size];exact hlt
          have hget:a.tmps[t]?=some (a.tmps.getD t undef):=by simp[Array.getD,hlt']
          have hy:yielded ops a.tmps j=match a.tmps.getD t undef with | .bool b=>some b | _=>none:=by
            simp only[yielded,hgd,Option.bind_some,ht,hget]
            split<;>rename_i heq<;>simp_all
          have hwant:Region.wanted o (yielded ops a.tmps)=(yielded ops a.tmps j == some want):=by simp[Region.wanted,hg]
          have hwo:zaa o=want:=by simp[zaa,hg]
          cases hs:zaI t st with
          | none=>simp only[zao,hg,hgd,ht,hb,cond_true,hs]
          | some s =>
            have hold:=H _ (zaC hs)
            simp only[Fact.holds] at hold
            rw[zbv (Nat.lt_of_lt_of_le hlt g.lim)] at hold
            cases s with
            | agg cs=>simp only[zao,hg,hgd,ht,hb,cond_true,hs]
            | tup cs=>simp only[zao,hg,hgd,ht,hb,cond_true,hs]
            | one u=>
              cases u with
              | u=>simp only[zao,hg,hgd,ht,hb,cond_true,hs]
              | pw t' x'=>simp only[zao,hg,hgd,ht,hb,cond_true,hs]
              | dfl e' ys=>simp only[zao,hg,hgd,ht,hb,cond_true,hs]
              | fn g fs cs=>simp only[zao,hg,hgd,ht,hb,cond_true,hs]
              | lb b=>
                have hv:a.tmps.getD t undef=.bool b:=hold
                rw[hy,hv] at hwant
                simp only[zao,hg,hgd,ht,hb,cond_true,hs]
                cases b<;>cases want<;>simpa using hwant
              | d ty x=>
                cases ty with
                | bool=>
                  have hv:a.tmps.getD t undef=.bool x:=zaZ hold
                  rw[hy,hv] at hwant
                  simp only[zao,hg,hgd,ht,hb,cond_true,hs]
                  refine⟨hlt,hv,?_⟩
                  rw[hwant,hwo]
                  cases x<;>cases want<;>rfl
                | int k=>simp only[zao,hg,hgd,ht,hb,cond_true,hs]
                | str=>simp only[zao,hg,hgd,ht,hb,cond_true,hs]
                | flt k=>simp only[zao,hg,hgd,ht,hb,cond_true,hs]
                | cpx k=>simp only[zao,hg,hgd,ht,hb,cond_true,hs]
                | sl e=>simp only[zao,hg,hgd,ht,hb,cond_true,hs]
                | nil=>simp only[zao,hg,hgd,ht,hb,cond_true,hs]
                | cons p q=>simp only[zao,hg,hgd,ht,hb,cond_true,hs]
                | _=>simp only[zao,hg,hgd,ht,hb,cond_true,hs]
              | v x=>
                have hv:a.tmps.getD t undef=x:=hold
                rw[hy,hv] at hwant
                cases x<;>simp only[zao,hg,hgd,ht,hb,cond_true,hs]
                simpa using hwant
              | p k off=>simp only[zao,hg,hgd,ht,hb,cond_true,hs]
              | pd ty x=>simp only[zao,hg,hgd,ht,hb,cond_true,hs]
              | po off ty x=>simp only[zao,hg,hgd,ht,hb,cond_true,hs]
              | pr k i sz=>simp only[zao,hg,hgd,ht,hb,cond_true,hs]
              | pq k i sz off=>simp only[zao,hg,hgd,ht,hb,cond_true,hs]
              | fo q r=>simp only[zao,hg,hgd,ht,hb,cond_true,hs]
              | o k n=>simp only[zao,hg,hgd,ht,hb,cond_true,hs]
theorem zeT (p:Nat→Prop) (h:∃n,p n):∃n,p n∧∀m,p m→n≤m:=by
  obtain⟨n,hn⟩:=h
  induction n using Nat.strongRecOn with
  | _ n ih=>
    by_cases hm:∃m,m<n∧p m
    · obtain⟨m,h1,h2⟩:=hm
      exact ih m h1 h2
    · exact ⟨n,hn,fun m hm'=>by
        rcases Nat.lt_or_ge m n with h|h
        · exact absurd ⟨m,h,hm'⟩ hm
        · exact h⟩
open Classical in
theorem zdQ {F:Fence} {q:Nat} {P:Program} {b:Code} {Q:Exit→Act→World→Prop} (I:Nat→Act→World→Prop) {n:Nat} {a:Act} {w:World} (h0:I n a w)
    (round:∀n a w,I n a w→b.wpIn F q P (Exit.then (fun a' w'=>∃n',n'<n∧I n' a' w') Q) a w):(Code.loop b).wpIn F q P Q a w:=by
  let μ:Act→World→Nat:=fun a w=>if h:∃n,I n a w then Classical.choose (zeT (fun n=>I n a w) h) else 0
  have hμ:∀n a w,I n a w→I (μ a w) a w∧μ a w≤n:=by
    intro n a w h
    have hex:∃n,I n a w:=⟨n,h⟩
    have hc:=Classical.choose_spec (zeT (fun n=>I n a w) hex)
    have he:μ a w=Classical.choose (zeT (fun n=>I n a w) hex):=dif_pos hex
    rw[he]
    exact⟨hc.1,hc.2 n h⟩
  refine wpIn_loop (fun a w=>∃n,I n a w) μ ⟨n,h0⟩ fun a w ⟨m,hm⟩=>?_
  refine wpIn_mono (round (μ a w) a w (hμ m a w hm).1) fun e a' w' hq=>?_
  cases e with
  | normal=>
    obtain⟨n',h1,h2⟩:=hq
    exact⟨⟨n',h2⟩,Nat.lt_of_le_of_lt (hμ n' a' w' h2).2 h1⟩
  | exit id=>exact hq
  | goto l=>exact hq
  | ret=>exact hq
  | panic ch=>exact hq
  | outgrown=>exact hq
theorem zdk {ro:Option Nat} {q:Nat} (hC:CfgOk E.P E.OB c) {ops:Array Oper} {Q:Exit→Act→World→Prop} (hdst:∀o∈ops.toList,∀t,o.dst=some t→t<c.nt):∀(l:List Oper) (_:∀o∈l,o∈ops.toList) (st:St) (K:St→Prop) (a:Act) (w:World),
    zd8 c ops l st K→RelS E c.nt st a w→(∀st' a' w',K st'→RelS E c.nt st' a' w'→Q .normal a' w')→wpListIn (Fw ro) q E.P ops Q l a w
  | [],_,st,K,a,w,h,hR,hQ=>hQ st a w h hR
  | o :: r,hl,st,K,a,w,h,hR,hQ=>by
    have ih:=zdk (ro:=ro) (q:=q) hC (Q:=Q) hdst r (fun o ho=>hl o (List.mem_cons_of_mem _ ho))
    have hg:=zc0 (ops:=ops) hR (o:=o)
    have hd:=hdst o (hl o List.mem_cons_self)
    simp only[zd8,za8] at h
    unfold wpListIn
    split at h
    · rename_i heq
      rw[heq] at hg
      simp only at hg
      rw[if_pos hg]
      exact (ze4 hC hR h fun st' a' w' hk hr=>ih st' K a' w' hk hr hQ)
    · rename_i heq
      rw[heq] at hg
      simp only at hg
      rw[if_neg (by rw[hg];simp)]
      exact⟨fun _ _=>trivial,ih _ K _ w h (zd3 hR _ hd) hQ⟩
    · rename_i t b heq
      rw[heq] at hg
      simp only at hg
      obtain⟨ht,hv,hw⟩:=hg
      by_cases hbw:b=zaa o
      · rw[if_pos (by rw[hw,hbw];simp)]
        have hv':a.tmps.getD t undef=.bool (zaa o):=by rw[hv,hbw]
        exact (ze4 hC (zfF ht hR hv') (h.out.1 hbw) fun st' a' w' hk hr=>ih st' K a' w' hk hr hQ)
      · have hbn:b = !zaa o:=by cases b<;>cases hh:zaa o<;>simp_all
        rw[if_neg (by rw[hw];simpa using hbw)]
        have hv':a.tmps.getD t undef=.bool (!zaa o):=by rw[hv,hbn]
        exact⟨fun _ _=>trivial,ih _ K _ w (h.out.2 hbn) (zd3 (zfF ht hR hv') _ hd) hQ⟩
    · exact h.elim
def XE.to:XE→Exit
  | .normal=>.normal
  | .exit id=>.exit id
  | .ret=>.ret
/-! ### Slots that a body does not write -/
def zaU (ds:List Nat) (a a':Act):Prop:=∀t,t ∉ ds→a'.tmps.getD t undef=a.tmps.getD t undef
theorem zaU.refl (ds:List Nat) (a:Act):zaU ds a a:=fun _ _=>rfl
theorem zaU.trans {ds:List Nat} {a b d:Act} (h:zaU ds a b) (k:zaU ds b d):zaU ds a d:=fun t ht=>(k t ht).trans (h t ht)
theorem zaU.more {ds ds':List Nat} {a b:Act} (h:zaU ds a b) (hs:∀t,t∈ds→t∈ds'):zaU ds' a b:=fun t ht=>h t fun hc=>ht (hs t hc)
theorem zgl (a:Act) (d:Option Nat) (v:Value) {ds:List Nat} (h:∀t,d=some t→t∈ds):zaU ds a (a.put d v):=fun t ht=>by
  cases d with
  | none=>rfl
  | some d=>exact zbd fun e=>ht (by rw[e];exact h d rfl)
def AgX (ds:List Nat) (a0:Act) (Q:Exit→Act→World→Prop):Exit→Act→World→Prop:=fun e a w=>Q e a w∧(e≠.outgrown→zaU ds a0 a)
theorem zjL {F:Fence} {q:Nat} {P:Program} {o:Oper} {ds:List Nat} {a0 a:Act} {w:World} {K:Act→World→Prop} {Q:Exit→Act→World→Prop} (hd:∀t,o.dst=some t→t∈ds) (h0:zaU ds a0 a)
    (h:o.wpIn F q P a w K Q):o.wpIn F q P a w (fun a' w'=>K a' w'∧zaU ds a0 a') (AgX ds a0 Q):=by
  have hp:∀v,zaU ds a0 (a.put o.dst v):=fun v=>h0.trans (zgl a o.dst v hd)
  have hp':∀d v,zaU ds a0 (({a with defers:=d::a.defers}:Act).put o.dst v):=fun d v t ht=>by
    have:=hp v t ht
    cases hd:o.dst<;>simpa [Act.put,hd] using this
  have hout:LetsOut Q→LetsOut (AgX ds a0 Q):=fun⟨x,y,hq⟩=>⟨x,y,hq,fun hc=>absurd rfl hc⟩
  unfold Oper.wpIn at *
  refine⟨h.1,?_⟩
  have h:=h.2
  generalize (o.semAt F.round a.eval).run P w=r at *
  cases r with
  | ok x w'=>
    cases x<;>simp only[Oper.uponIn] at h ⊢ <;>
      first
        | exact⟨h,hp _⟩
        | exact⟨h.1,CallsIn.mono h.2 (fun e w'' he=>by cases e<;>first|exact⟨he,hp _⟩|exact⟨he,fun _=>h0⟩|exact hout he)⟩
        | exact⟨h.1,RowsIn.mono h.2 (fun _ _ he=>⟨he,hp _⟩)⟩
        | exact⟨h.1,RoundIn.mono h.2 (fun e w'' he=>by cases e<;>first|exact⟨he,hp _⟩|exact⟨he,fun _=>h0⟩|exact hout he)⟩
        | exact⟨h,hp' _ _⟩
  | halt x w'=>cases x<;>simp only[Oper.uponIn] at h ⊢<;>first|exact⟨h,fun _=>h0⟩|exact h
theorem zeJ {t:Nat}:∀ {l:List Oper},t∈ze6 l↔∃o∈l,o.dst=some t
  | []=>by simp[ze6]
  | o::r=>by
    have ih:=zeJ (t:=t) (l:=r)
    cases hd:o.dst with
    | none=>simp[ze6,hd,ih]
    | some d=>simp[ze6,hd,ih,eq_comm]
theorem zdD {F:Fence} {q:Nat} {P:Program} {ops:Array Oper} {Q:Exit→Act→World→Prop} {ds:List Nat} {a0:Act}:∀(l:List Oper) (a:Act) (w:World),(∀o∈l,∀t,o.dst=some t→t∈ds)→zaU ds a0 a→
    wpListIn F q P ops Q l a w→wpListIn F q P ops (AgX ds a0 Q) l a w
  | [],a,w,_,h0,h=>⟨h,fun _=>h0⟩
  | o :: r,a,w,hd,h0,h=>by
    have hd':∀o∈r,∀t,o.dst=some t→t∈ds:=fun o ho=>hd o (List.mem_cons_of_mem _ ho)
    unfold wpListIn at h ⊢
    split
    · rename_i hw
      rw[if_pos hw] at h
      exact Oper.wpIn_mono (fun a w hk=>zdD r a w hd' hk.2 hk.1) (zjL (hd o List.mem_cons_self) h0 h)
    · rename_i hw
      rw[if_neg hw] at h
      exact⟨h.1,zdD r _ _ hd' (h0.trans (zgl a o.dst undef (hd o List.mem_cons_self))) h.2⟩
theorem zeu {F:Fence} {q:Nat} {P:Program} {md:Region.Mode} {ops:Array Oper} {Q:Exit→Act→World→Prop} {ds:List Nat} {a0:Act} (hd:∀o∈ops.toList,∀t,o.dst=some t→t∈ds):∀(fuel:Nat) (L:Array Bool) (a:Act) (w:World),zaU ds a0 a→
    wpAnyIn F q P md ops Q fuel L a w→wpAnyIn F q P md ops (AgX ds a0 Q) fuel L a w
  | 0,L,a,w,h0,h=>⟨h.1,h.2,fun _=>h0⟩
  | fuel + 1,L,a,w,h0,h=>by
    refine⟨fun hr=>⟨h.1 hr,fun _=>h0⟩,fun i hi=>?_⟩
    have h1:=h.2 i hi
    unfold wpOpIn at *
    cases ho:ops[i]? with
    | none=>rw[ho] at h1;exact zeu hd fuel _ a w h0 h1
    | some o=>
      rw[ho] at h1
      simp only at h1 ⊢
      have hm:o∈ops.toList:=by
        obtain⟨hlt,he⟩:=Array.getElem?_eq_some_iff.1 ho
        rw[←he];simp
      split
      · rename_i hw
        rw[if_pos hw] at h1
        exact Oper.wpIn_mono (fun a w hk=>zeu hd fuel _ a w hk.2 hk.1) (zjL (hd o hm) h0 h1)
      · rename_i hw
        rw[if_neg hw] at h1
        exact⟨h1.1,zeu hd fuel _ _ _ (h0.trans (zgl a o.dst undef (hd o hm))) h1.2⟩
def zqE (E:Env) (c:Cfg) (par:Array Oper→St→(St→Prop)→Prop):Prop:=
  ∀ (id:Nat) (ops:Array Oper) (st:St) (K:St→Prop) (a:Act) (w:World) (Q:Exit→Act→World→Prop),par ops st K→RelS E c.nt st a w→
    (∀st' a' w',K st'→RelS E c.nt st' a' w'→Q .normal a' w')→∀(ro:Option Nat) (q:Nat),(Code.region id ops true).wpIn (Fw ro) q E.P (AgX (ze6 ops.toList) a Q) a w
def zc3 (nt:Nat):Code→Bool
  | .region _ ops _=>ops.toList.all fun o=>match o.dst with|some d=>Nat.blt d nt|none=>true
  | .seq a b=>zc3 nt a&&zc3 nt b
  | .cond _ a b=>zc3 nt a&&zc3 nt b
  | .block _ b=>zc3 nt b
  | .loop b=>zc3 nt b
  | .rangeFunc _ ps a b=>(zc3 nt a&&zc3 nt b)&&ps.toList.all fun p=>Nat.blt p nt
  | _=>true
def zmp (E:Env) (nt:Nat) (K:XE→St→Prop):Exit→Act→World→Prop:=fun e a w=>∃x st,XE.to x=e∧K x st∧RelS E nt st a w
theorem zaO {ds ps ks:List Nat}:∀ {st:St} {t:Nat} {s:SV},Fact.slot t s∈zbM ds ps ks st→t ∉ ds
  | [],t,s,h=>by cases h
  | f :: r, t,s,h=>by
    cases f with
    | slot t' s'=>
      simp only[zbM] at h
      cases hb:(memN t' ds || memN t' ps || s'.ment ds) with
      | true=>rw[hb] at h;exact zaO h
      | false=>
        rw[hb] at h
        rcases List.mem_cons.1 h with h|h
        · injection h with h1 h2
          subst h1
          intro hc
          rw[zan.2 hc] at hb
          cases hb
        · exact zaO h
    | cell k off s'=>
      simp only[zbM] at h
      cases hb:(memN k ks || memN k ds || s'.ment ds) with
      | true=>rw[hb] at h;exact zaO h
      | false=>
        rw[hb] at h
        rcases List.mem_cons.1 h with h|h
        · cases h
        · exact zaO h
    | row k el e xs=>
      simp only[zbM] at h
      cases hb:(memN k ks || memN k ds) with
      | true=>rw[hb] at h;exact zaO h
      | false=>
        rw[hb] at h
        rcases List.mem_cons.1 h with h|h
        · cases h
        · exact zaO h
    | ob k i=>
      simp only[zbM] at h
      cases hb:memN k ds with
      | true=>rw[hb] at h;exact zaO h
      | false=>
        rw[hb] at h
        rcases List.mem_cons.1 h with h|h
        · cases h
        · exact zaO h
    | fix k=>
      simp only[zbM] at h
      cases hb:memN k ds with
      | true=>rw[hb] at h;exact zaO h
      | false=>
        rw[hb] at h
        rcases List.mem_cons.1 h with h|h
        · cases h
        · exact zaO h
theorem zlz:∀ {st:St},zeB st=[]→∀t s,Fact.slot t s ∉ st
  | [],_,t,s,h=>by cases h
  | f :: r,hs,t,s,h=>by
    cases f with
    | slot t' s'=>cases hs
    | _=>
      rcases List.mem_cons.1 h with h|h
      · cases h
      · exact zlz (by simpa only [zeB] using hs) t s h
theorem zhA {V:View}:∀(t:Ty) (x:t.Den),t.flat=true→Rep V t x (encL t x)
  | .int k,x,_=>rfl
  | .bool,x,_=>rfl
  | .str,x,_=>rfl
  | .flt k,x,_=>rfl
  | .cpx k,x,_=>rfl
  | .sl _,_,h=>by cases h
  | .ptr _,_,h=>by cases h
  | .clo _ _,_,h=>by cases h
  | .fnl _,_,h=>by cases h
  | .osl _,_,h=>by cases h
  | .err,_,h=>by cases h
  | .nil,_,_=>rfl
  | .cons a b,x,h=>by
    simp only[Ty.flat,Bool.and_eq_true] at h
    exact⟨_,_,rfl,zhA a x.1 h.1,zhA b x.2 h.2⟩
theorem zm6 {V:View} {t:Ty} {x:t.Den} (h:t.flat=true):RepV V t x (encV t x):=by
  have hr:=zhA (V:=V) t x h
  cases hag:t.agg with
  | true=>exact⟨_,hr,.inl (by simp[encV,hag])⟩
  | false=>
    have hl:(encL t x).length=t.size:=Rep.length t x _ hr
    have h1:t.size=1:=by cases t<;>simp_all [Ty.agg,Ty.size]
    match hv:encL t x,hl with
    | [v],_=>exact⟨[v],by rw[←hv];exact hr,.inr ⟨hag,by simp[encV,hag,hv]⟩⟩
    | [],hl=>rw[h1] at hl;simp at hl
    | _::_::_,hl=>rw[h1] at hl;simp at hl
section
variable {E:Env} {nt:Nat} {η:Eta} {st:St} {a:Act} {w:World}
theorem zjF {η:Eta}:∀ {ps:List (Nat×Nat)} {vs:List Value} {i:Nat} {p:Nat×Nat},ptrL η ps vs→nth ps i=some p→∃b c,η p.1=some (b,c)∧vs[i]?=some (.pointer (some ⟨b,p.2,none⟩))
  | [],[],i,p,_,h=>by simp[nth] at h
  | [],_::_,_,_,h,_=>h.elim
  | _::_,[],_,_,h,_=>h.elim
  | q::r,v::l,0,p,⟨⟨b,c,h1,h2⟩,_⟩,h=>by
    have h:q=p:=Option.some.inj h
    subst h
    exact⟨b,c,h1,by rw[h2];rfl⟩
  | q::r,v::l,i+1,p,⟨_,h2⟩,h=>by
    obtain⟨b,c,h3,h4⟩:=zjF h2 (show nth r i=some p from h)
    exact⟨b,c,h3,by simpa using h4⟩
theorem zdW {η:Eta}:∀ {ps:List (Nat×Nat)} {vs:List Value},ptrL η ps vs→ps.length=vs.length
  | [],[],_=>rfl
  | [],_::_,h=>h.elim
  | _::_,[],h=>h.elim
  | _::_,_::_,h=>by simp[zdW h.2]
theorem zfM {η:Eta}:∀ {ps qs:List (Nat×Nat)} {vs us:List Value},ptrL η ps vs→ptrL η qs us→ptrL η (ps++qs) (vs++us)
  | [],_,[],_,_,h=>h
  | [],_,_::_,_,h,_=>h.elim
  | _::_,_,[],_,h,_=>h.elim
  | _::_,_,_::_,_,⟨h1,h2⟩,h=>⟨h1,zfM h2 h⟩
theorem zgw (H : ∀f∈st,Fact.holds E η a w f) {ps:List (Nat×Nat)} {vs:List Value} (hp:ptrL η ps vs):∀(rd:List (Nat×Nat×Ty)) (x:(rdTy rd).Den),rdOf st ps rd=some x→zhM (vw E η w) w vs rd x
  | [],_,_=>trivial
  | r :: l, x, h=>by
    unfold rdOf at h
    split at h
    case h_2=>cases h
    case h_1 p hnp=>
      split at h
      case h_2=>cases h
      case h_1 cs hcs=>
        split at h
        case h_2=>cases h
        case h_1 y hy=>
          split at h
          case h_2=>cases h
          case h_1 z hz=>
            have h:=Option.some.inj h
            subst h
            obtain⟨b,c,h1,h2⟩:=zjF hp hnp
            obtain⟨us,e1,e2,e3,_⟩:=zaT H h1 _ _ _ hcs
            obtain⟨l1,l2,q1,q2,q3⟩:=zcb r.2.2 cs us y [] hy e1
            refine⟨⟨b,p.2,h2,us,?_,e2,fun j v hj=>e3 j v hj⟩,zgw H hp l z hz⟩
            have:l2=[]:=by
              cases l2 with
              | nil=>rfl
              | cons _ _=>exact q3.elim
            rw[q1,this,List.append_nil]
            exact q2
theorem zi1 (g:Good E nt η a w) (H:∀f∈st,Fact.holds E η a w f) {ps:List (Nat×Nat)} {vs:List Value} (hp:ptrL η ps vs) {rd:List (Nat×Nat×Ty)} {x:(rdTy rd).Den} (h:rdOf st ps rd=some x):zc8 rd w vs x:=
  ⟨vw E η w,fun b c ⟨_,_,h⟩=>h,zgw H hp rd x h⟩
theorem zkn {w':World} (hsame:∀(b:Nat) (o:Obj),w.heap[b]?=some o→w'.heap[b]?=some o):Keeps E η η a a w w' {}:=
  ⟨fun b c ⟨h1,h2,el,f,h3⟩=>⟨h1,h2,el,f,hsame _ _ h3⟩,fun _ _=>rfl,fun _ _=>rfl,
    fun k off b c cur el v _ _ _ _ _ h5 h6=>⟨cur,hsame _ _ h5,h6⟩,fun k b c cur el _ _ _ _ _ h5=>hsame _ _ h5,fun k i b c o _ _ _ _ h5 h6=>⟨o,hsame _ _ h5,h6⟩⟩
theorem zkP (f:Fact):Kill.surv {} f=true:=by
  have zl:∀l:List S1,anyS (S1.ment []) l=false:=zc7
  cases f with
  | slot t s=>cases s<;>simp[Kill.surv,memN,SV.ment,zbG,zl]
  | cell k off s=>simp[Kill.surv,memN,memC,zbG]
  | row k el e xs=>simp[Kill.surv,memN]
  | ob k i=>simp[Kill.surv,memN]
  | fix k=>simp[Kill.surv,memN]
theorem Env.low_eq {E E':Env} (hw0:E'.w0=E.w0) (hx:E'.x=E.x):E'.low=E.low:=by
  funext b
  simp only[Env.low,hw0,hx]
theorem zlr {E':Env} (hP:E'.P=E.P) (hM:E'.M=E.M) (hmu:E'.mu=E.mu) (hw0:E'.w0=E.w0) (hOB:E'.OB=E.OB) (hx:E'.x=E.x) (g:Good E nt η a w) (H:∀f∈st,Fact.holds E η a w f) {l:Nat} {o o':Obj} {a':Act}
    (hl:(l,o)∈E.pins) (hsub:∀p∈E'.pins,∃o,(p.1,o)∈E.pins) (hlow:E.w0.heap.size≤l) (hfree:∀k c,η k≠some (l,c)) (ht:a'.tmps=a.tmps) (hmk:zgs E' η a' (w.putObj l o')) (hnd:E'.x.nd=true→a'.defers=[]) :
    Good E' nt η a' (w.putObj l o')∧∀f∈st,Fact.holds E' η a' (w.putObj l o') f:=by
  have hother:∀(b:Nat) (x:Obj),w.heap[b]?=some x→b≠l→(w.putObj l o').heap[b]?=some x:=fun b x h hb=>(World.putObj_heap_other hb).trans h
  have hsz:(w.putObj l o').heap.size=w.heap.size:=by simp[World.putObj]
  have hne:∀k b c,η k=some (b,c)→b≠l:=fun k b c h e=>hfree k c (e▸h)
  have hview:∀b c,vw E η w b c→vw E' η (w.putObj l o') b c:=fun b c ⟨h1,h2,el,f,h3⟩=>⟨fun hm=>h1 (hm.imp (fun h=>by rw[hM] at h;exact h) fun⟨o,h⟩=>hsub _ h),h2,el,f,hother b _ h3 (fun e=>h1 (.inr ⟨o,e▸hl⟩))⟩
  refine ⟨{
    size:=by rw[ht];exact g.size
    nd:=hnd
    lim:=g.lim
    defers:=hmk
    os:=by rw[hw0];exact g.os
    tape:=by rw[hw0];exact g.tape
    output:=by rw[hw0];exact g.output
    grow:=by rw[hsz,hw0];exact g.grow
    keep:=fun b hb hm hw=>by
      rw[hw0] at hb ⊢
      exact (World.putObj_heap_other (by omega)).trans (g.keep b hb (by rw[←hmu];exact hm) (by rw[←hx];exact hw))
    own:=fun k b c h=>by rw[hsz,Env.low_eq hw0 hx,hmu];exact g.own k b c h
    dis:=fun b hb=>by rw[Env.low_eq hw0 hx];exact g.dis b (by rw[←hmu];exact hb)
    inj:=g.inj
    old:=fun b hb=>by rw[Env.low_eq hw0 hx];exact g.old b (by rw[←hM];exact hb)
    obkeep:=fun b i o1 hb hm h1 h2=>by
      rw[hw0] at hb h1
      rw[hOB] at h2 ⊢
      obtain⟨o2,h3,h4⟩:=g.obkeep b i o1 hb (by rw[←hmu];exact hm) h1 h2
      exact⟨o2,hother b o2 h3 (by omega),h4⟩},fun f hf=>?_⟩
  have h:=H f hf
  cases f with
  | slot t s=>
    simp only[Fact.holds] at h ⊢
    rw[zey (a':=a') (a:=a) (t:=t) (by rw[ht])]
    exact zcd (ks:=[]) hview (fun _ _=>rfl) (by cases s<;>simp[SV.ment,zbG,zc7]) h
  | cell k off s=>
    obtain⟨b,c,cur,el,v,h1,h2,h3,h4,h5,h6⟩:=h
    exact⟨b,c,cur,el,v,by rw[Env.low_eq hw0 hx];exact h1,h2,hother b _ h3 (hne k b c h2),h4,h5,zap (ks:=[]) hview (fun _ _=>rfl) (zbG s) h6⟩
  | row k el e xs=>
    rcases h with h|⟨b,c,cur,h1,h2,h3,h4⟩
    · exact .inl h
    · exact .inr ⟨b,c,cur,by rw[Env.low_eq hw0 hx];exact h1,h2,hother b _ h3 (hne k b c h2),h4.mono hview⟩
  | ob k i=>
    obtain⟨b,c,o1,h1,h2,h3⟩:=h
    exact⟨b,c,o1,h1,hother b _ h2 (hne k b c h1),by rw[hOB];exact h3⟩
  | fix k=>
    show η k=_
    rw[hx];exact h
theorem zjE {E':Env} (hP:E'.P=E.P) (hM:E'.M=E.M) (hmu:E'.mu=E.mu) (hw0:E'.w0=E.w0) (hOB:E'.OB=E.OB) (hx:E'.x=E.x) (g:Good E nt η a w) (H:∀f∈st,Fact.holds E η a w f) {a':Act} {ds:List Nat}
    (hview:∀b c,vw E η w b c→vw E' η w b c) (hsz:a'.tmps.size=nt) (hag:zaU ds a' a) (hds:∀t s,Fact.slot t s∈st→t ∉ ds) (hmk:zgs E' η a' w) (hnd:E'.x.nd=true→a'.defers=[]):Good E' nt η a' w∧∀f∈st,Fact.holds E' η a' w f:=by
  refine ⟨{
    size:=hsz
    nd:=hnd
    lim:=g.lim
    defers:=hmk
    os:=by rw[hw0];exact g.os
    tape:=by rw[hw0];exact g.tape
    output:=by rw[hw0];exact g.output
    grow:=by rw[hw0];exact g.grow
    keep:=fun b hb hm hw=>by rw[hw0] at hb ⊢;exact g.keep b hb (by rw[←hmu];exact hm) (by rw[←hx];exact hw)
    own:=fun k b c h=>by rw[Env.low_eq hw0 hx,hmu];exact g.own k b c h
    dis:=fun b hb=>by rw[Env.low_eq hw0 hx];exact g.dis b (by rw[←hmu];exact hb)
    inj:=g.inj
    old:=fun b hb=>by rw[Env.low_eq hw0 hx];exact g.old b (by rw[←hM];exact hb)
    obkeep:=fun b i o1 hb hm h1 h2=>by
      rw[hw0] at hb h1
      rw[hOB] at h2 ⊢
      exact g.obkeep b i o1 hb (by rw[←hmu];exact hm) h1 h2},fun f hf=>?_⟩
  have h:=H f hf
  cases f with
  | slot t s=>
    simp only[Fact.holds] at h ⊢
    rw[zey (hag t (hds t s hf))] at h
    exact zcd (ks:=[]) hview (fun _ _=>rfl) (by cases s<;>simp[SV.ment,zbG,zc7]) h
  | cell k off s=>
    obtain⟨b,c,cur,el,v,h1,h2,h3,h4,h5,h6⟩:=h
    exact⟨b,c,cur,el,v,by rw[Env.low_eq hw0 hx];exact h1,h2,h3,h4,h5,zap (ks:=[]) hview (fun _ _=>rfl) (zbG s) h6⟩
  | row k el e xs=>
    rcases h with h|⟨b,c,cur,h1,h2,h3,h4⟩
    · exact .inl h
    · exact .inr ⟨b,c,cur,by rw[Env.low_eq hw0 hx];exact h1,h2,h3,h4.mono hview⟩
  | ob k i=>
    obtain⟨b,c,o1,h1,h2,h3⟩:=h
    exact⟨b,c,o1,h1,h2,by rw[hOB];exact h3⟩
  | fix k=>
    show η k=_
    rw[hx];exact h
end
theorem zpE (w:World) (o:Obj) (b:Nat) (h:b<w.heap.size):(w.alloc o).heap[b]?=w.heap[b]?:=(World.grownBy_alloc w o none).block b h (by simp)
theorem zdu {ds:List Nat}:∀ {st:St} {f:Fact},f∈zep ds st→f∈st
  | [],f,h=>h
  | g :: r,f,h=>by
    cases g with
    | slot t s=>
      simp only[zep] at h
      cases hb:memN t ds with
      | true=>rw[hb] at h;exact List.mem_cons_of_mem _ (zdu h)
      | false=>
        rw[hb] at h
        rcases List.mem_cons.1 h with h|h
        · rw[h];exact List.mem_cons_self
        · exact List.mem_cons_of_mem _ (zdu h)
    | _=>
      simp only[zep] at h
      rcases List.mem_cons.1 h with h|h
      · rw[h];exact List.mem_cons_self
      · exact List.mem_cons_of_mem _ (zdu h)
theorem zcC {ds:List Nat}:∀ {st:St} {t:Nat} {s:SV},Fact.slot t s∈zep ds st→t ∉ ds
  | [],t,s,h=>by cases h
  | g :: r, t,s,h=>by
    cases g with
    | slot t' s'=>
      simp only[zep] at h
      cases hb:memN t' ds with
      | true=>rw[hb] at h;exact zcC h
      | false=>
        rw[hb] at h
        rcases List.mem_cons.1 h with h|h
        · injection h with h1 h2
          subst h1
          intro hc
          rw[zan.2 hc] at hb
          cases hb
        · exact zcC h
    | _=>
      simp only[zep] at h
      rcases List.mem_cons.1 h with h|h
      · cases h
      · exact zcC h
section
variable {E:Env} {nt:Nat} {η:Eta} {st:St} {a:Act} {w:World}
theorem zkp {w':World} (g:Good E nt η a w) (H:∀f∈st,Fact.holds E η a w f) (hg:w.grownBy w' none):Good E nt η a w'∧∀f∈st,Fact.holds E η a w' f:=by
  have hsame:∀b o,w.heap[b]?=some o→w'.heap[b]?=some o:=fun b o h=>(hg.block b (zaf h) (by simp)).trans h
  have hk:=zkn (E:=E) (η:=η) (a:=a) hsame
  refine⟨?_,fun f hf=>hk.fact (zkP f) (H f hf)⟩
  exact {
    size:=g.size
    lim:=g.lim
    defers:=g.defers.mono rfl (fun D o h _=>hsame D o h) (fun k b c h=>.inl ⟨k,c,h⟩)
    os:=hg.os.trans g.os,tape:=hg.tape.trans g.tape,output:=hg.output.trans g.output
    grow:=Nat.le_trans g.grow hg.size
    dis:=g.dis
    keep:=fun b hb hm hw=>(hg.block b (by have:=g.grow;omega) (by simp)).trans (g.keep b hb hm hw)
    own:=fun k b c h=>by have hz:=hg.size;have:=g.own k b c h;exact⟨by omega,this.2⟩
    inj:=g.inj,old:=g.old
    obkeep:=fun b i o hb hm h1 h2=>by
      obtain⟨o',h3,h4⟩:=g.obkeep b i o hb hm h1 h2
      exact⟨o',hsame b o' h3,h4⟩}
theorem zkl {E':Env} {a':Act} {l:Nat} {o o':Obj} (h:zgs E η a w) (hl:(l,o)∈E.pins) (hno:o≠.deferred (some [])) (hw0:E'.w0=E.w0)
    (hd:a'.defers=a.defers) (hp:∀p∈E'.pins,(p∈E.pins∧p.1≠l)∨p=(l,o')):zgs E' η a' (w.putObj l o'):=by
  obtain⟨⟨ms,h1,h2,h3⟩,h4⟩:=h
  obtain⟨q1,q2,q4⟩:=h4 _ hl
  refine⟨⟨ms,hd.trans h1,h2,fun D hD=>?_⟩,fun p hpm=>?_⟩
  · obtain⟨k1,k2,k3⟩:=h3 D hD
    refine⟨by rw[hw0];exact k1,(World.putObj_heap_other (fun e=>?_)).trans k2,k3⟩
    rw[e] at k2
    exact hno (by rw[q2] at k2;exact Option.some.inj k2)
  · rcases hp p hpm with ⟨k1,k2⟩|rfl
    · obtain⟨r1,r2,r4⟩:=h4 _ k1
      exact⟨by rw[hw0];exact r1,(World.putObj_heap_other k2).trans r2,r4⟩
    · exact⟨by rw[hw0];exact q1,World.putObj_heap_same (zaf q2),q4⟩
def zea (E:Env) (ms:List Nat) (D:Nat):List (Nat×Obj):=(D,.deferred (some []))::(ms.map fun D=>(D,Obj.deferred (some [])))++E.pins
def zaF (E:Env) (ms:List Nat) (D l:Nat) (o:Obj):Env:={E with pins:=(l,o)::zea E ms D}
theorem zif {a':Act} (h:zgs E η a w) (hd:a'.defers=[]):zgs E η a' w:=⟨⟨[],hd,List.nodup_nil,fun _ h=>by cases h⟩,h.2⟩
theorem zlp {st':St} (hR:RelS E nt st a w) (h:∀f∈st',f∈st):RelS E nt st' a w:=
  let ⟨η,g,H⟩:=hR
  ⟨η,g,fun f hf=>H f (h f hf)⟩
theorem turn {ms:List Nat} {D l:Nat} {o o':Obj} {a':Act} {ds:List Nat} (hR:RelS (zaF E ms D l o) nt st a w) (hno:o≠.deferred (some []))
    (hrest:∀p∈zea E ms D,p.1≠l) (hlow:E.w0.heap.size≤l)
    (hsz:a'.tmps.size=nt) (hag:zaU ds a' a) (hds:∀t s,Fact.slot t s∈st→t ∉ ds) (hd:a'.defers=[]∨a'.defers=a.defers):RelS (zaF E ms D l o') nt st a' (w.putObj l o'):=by
  obtain⟨η,g,H⟩:=hR
  have hm:(l,o)∈(zaF E ms D l o).pins:=List.mem_cons_self
  obtain⟨q1,q2,q4⟩:=g.defers.2 _ hm
  obtain⟨g1,H1⟩:=zjE (E:=zaF E ms D l o) (E':=zaF E ms D l o) rfl rfl rfl rfl rfl rfl g H (fun _ _ h=>h) hsz hag hds (hd.elim (zif g.defers) fun hd=>⟨let ⟨ms,h1,h2⟩:=g.defers.1;⟨ms,hd.trans h1,h2⟩,g.defers.2⟩) (fun h=>hd.elim id fun hd=>hd.trans (g.nd h))
  obtain ⟨g2,H2⟩:=zlr (E:=zaF E ms D l o) (E':=zaF E ms D l o') (a':=a') (o':=o') rfl rfl rfl rfl rfl rfl g1 H1 hm (fun p hp=>by
      rcases List.mem_cons.1 hp with rfl|h
      · exact⟨o,hm⟩
      · exact⟨p.2,List.mem_cons_of_mem _ h⟩) hlow q4 rfl
    (zkl g1.defers hm hno rfl rfl fun p hp=>by
      rcases List.mem_cons.1 hp with h|h
      · exact .inr h
      · exact .inl ⟨List.mem_cons_of_mem _ h,hrest p h⟩) g1.nd
  exact⟨η,g2,H2⟩
theorem zh5 {ms:List Nat} {D l:Nat} {o:Obj} (hR:RelS (zaF E ms D l o) nt st a w):w.heap[l]?=some o:=
  let ⟨_,g,_⟩:=hR
  (g.defers.2 (l,o) List.mem_cons_self).2.1
theorem zmE {o:Obj} (hR:RelS E nt st a w) (ho:o.isCells=false) :
    ∃ ms,a.defers=ms.map mkD∧ms.Nodup∧(∀D∈ms,D<w.heap.size)∧(∀p∈zea E ms w.heap.size,p.1≠w.heap.size+1)∧E.w0.heap.size≤w.heap.size∧
      RelS (zaF E ms w.heap.size (w.heap.size+1) o) nt st {tmps:=a.tmps,defers:=[]} ((w.alloc (.deferred (some []))).alloc o):=by
  obtain⟨η,g,H⟩:=hR
  obtain⟨⟨ms,h1,h2,h3⟩,h4⟩:=g.defers
  have hg:w.grownBy ((w.alloc (.deferred (some []))).alloc o) none:=(World.grownBy_alloc w _ none).trans (World.grownBy_alloc _ o none)
  obtain⟨g1,H1⟩:=zkp g H hg
  have hsame:∀b o',w.heap[b]?=some o'→((w.alloc (.deferred (some []))).alloc o).heap[b]?=some o':=fun b o' h=>(hg.block b (zaf h) (by simp)).trans h
  have hrest:∀p∈zea E ms w.heap.size,p=(w.heap.size,.deferred (some []))∨(E.w0.heap.size≤p.1∧w.heap[p.1]?=some p.2∧(p∈E.pins∨p.2=.deferred (some []))∧∀k c,η k≠some (p.1,c)):=by
    intro p hp
    rcases List.mem_cons.1 hp with h|h
    · exact .inl h
    · rcases List.mem_append.1 h with h|h
      · obtain⟨D,hD,rfl⟩:=List.mem_map.1 h
        obtain⟨k1,k2,k3⟩:=h3 D hD
        exact .inr ⟨k1,k2,.inr rfl,k3⟩
      · exact .inr ⟨(h4 p h).1,(h4 p h).2.1,.inl h,(h4 p h).2.2⟩
  have hfree:∀b,w.heap.size≤b→∀k c,η k≠some (b,c):=fun b hb k c h=>by have:=(g.own k b c h).1;omega
  refine⟨ms,h1,h2,fun D hD=>zaf (h3 D hD).2.1,fun p hp=>?_,g.grow,η,?_⟩
  · rcases hrest p hp with rfl|⟨_,h,_⟩
    · simp
    · have:=zaf h;omega
  · have hpins:∀p∈(zaF E ms w.heap.size (w.heap.size+1) o).pins,E.w0.heap.size≤p.1∧((w.alloc (.deferred (some []))).alloc o).heap[p.1]?=some p.2∧(p∈E.pins∨p.2.isCells=false)∧∀k c,η k≠some (p.1,c):=fun p hp=>by
      rcases List.mem_cons.1 hp with rfl|hp
      · refine⟨Nat.le_succ_of_le g.grow,?_,.inr ho,hfree _ (Nat.le_succ _)⟩
        have:=World.alloc_heap_new (w.alloc (.deferred (some []))) o
        rwa [World.size_alloc] at this
      · rcases hrest p hp with rfl|⟨k1,k2,k3,k4⟩
        · refine⟨g.grow,?_,.inr rfl,hfree _ (Nat.le_refl _)⟩
          exact (zpE _ _ _ (by simp)).trans (World.alloc_heap_new w _)
        · exact⟨k1,hsame _ _ k2,k3.imp id (fun h=>by rw[h];rfl),k4⟩
    refine zjE (E:=E) (E':=zaF E ms w.heap.size (w.heap.size+1) o) (ds:=[]) rfl rfl rfl rfl rfl rfl g1 H1 (fun b c ⟨v1,v2,el,fz,v3⟩=>⟨fun hm=>?_,v2,el,fz,v3⟩) g.size (zaU.refl _ _) (fun _ _ _ h=>by cases h) ⟨⟨[],rfl,List.nodup_nil,fun _ h=>by cases h⟩,fun p hp=>⟨(hpins p hp).1,(hpins p hp).2.1,(hpins p hp).2.2.2⟩⟩ (fun _=>rfl)
    rcases hm with hm|⟨o1,hm⟩
    · exact v1 (.inl hm)
    · obtain ⟨_,u1,u2,_⟩:=hpins _ hm
      rcases u2 with u2|u2
      · exact v1 (.inr ⟨o1,u2⟩)
      · rw[v3] at u1
        have u1:=Option.some.inj u1
        rw[←u1] at u2
        cases u2
theorem zfK {ms:List Nat} {D l:Nat} {o o':Obj} {a0:Act} (hR:RelS (zaF E ms D l o) nt st a0 w) (hno:o≠.deferred (some [])) (hrest:∀p∈zea E ms D,p.1≠l) (hlow:E.w0.heap.size≤l)
    (ht:a.tmps=a0.tmps) (hd:a.defers=ms.map mkD) (hnd:ms.Nodup) (hlt:∀D'∈ms,D'<D) (hx0:E.x.nd=false) :
    RelS E nt st {a with defers:=mkD D::a.defers} (w.putObj l o'):=by
  obtain⟨η,g,H⟩:=hR
  have hm:(l,o)∈(zaF E ms D l o).pins:=List.mem_cons_self
  obtain⟨q1,q2,q4⟩:=g.defers.2 _ hm
  have hpin:∀p∈zea E ms D,E.w0.heap.size≤p.1∧(w.putObj l o').heap[p.1]?=some p.2∧∀k c,η k≠some (p.1,c):=fun p hp=>by
    obtain⟨r1,r2,r4⟩:=g.defers.2 p (List.mem_cons_of_mem _ hp)
    exact⟨r1,(World.putObj_heap_other (hrest p hp)).trans r2,r4⟩
  refine⟨η,zlr (E:=zaF E ms D l o) (E':=E) rfl rfl rfl rfl rfl rfl g H hm (fun p hp=>⟨p.2,List.mem_cons_of_mem _ (List.mem_cons_of_mem _ (List.mem_append.2 (.inr hp)))⟩) hlow q4 ht ⟨⟨D::ms,by simp[hd],?_,fun D' hD'=>?_⟩,fun p hp=>?_⟩ (fun h=>by rw[hx0] at h;cases h)⟩
  · exact List.nodup_cons.2 ⟨fun h=>Nat.lt_irrefl _ (hlt D h),hnd⟩
  · obtain ⟨r1,r2,r4⟩:=hpin (D',.deferred (some [])) (by
      rcases List.mem_cons.1 hD' with rfl|h
      · exact List.mem_cons_self
      · exact List.mem_cons_of_mem _ (List.mem_append.2 (.inl (List.mem_map.2 ⟨D',h,rfl⟩))))
    exact⟨r1,r2,r4⟩
  · exact hpin p (List.mem_cons_of_mem _ (List.mem_append.2 (.inr hp)))
theorem zfP {ds:List Nat} {p:Nat} {t:Ty} {x:t.Den} (hR:RelS E nt st a w) (ha:a.defers=[]) (hp:p<nt) (hpd:p∈ds) (hf:t.flat=true) (hds:∀u s,Fact.slot u s∈st→u ∉ ds) :
    RelS E nt (.slot p (.one (.d t x))::st) {tmps:=a.tmps.setIfInBounds p (encV t x),defers:=[]} w:=by
  obtain⟨η,g,H⟩:=hR
  have hag:zaU ds {tmps:=a.tmps.setIfInBounds p (encV t x),defers:=[]} a:=fun u hu=>by
    have hne:p≠u:=fun e=>hu (e▸hpd)
    simp[Array.getD_eq_getD_getElem?,Array.getElem?_setIfInBounds_ne hne]
  obtain⟨g1,H1⟩:=zjE (E:=E) (E':=E) (a':={tmps:=a.tmps.setIfInBounds p (encV t x),defers:=[]}) rfl rfl rfl rfl rfl rfl g H (fun _ _ h=>h) (by simpa using g.size) hag hds (zif g.defers rfl) (fun _=>rfl)
  refine⟨η,g1,fun f hf'=>?_⟩
  rcases List.mem_cons.1 hf' with rfl|h
  · simp only [Fact.holds,zai,zaK]
    have:(a.tmps.setIfInBounds p (encV t x)).getD p undef=encV t x:=by
      simp only[Array.getD_eq_getD_getElem?]
      rw[Array.getElem?_setIfInBounds_self_of_lt (by rw[g.size];exact hp)]
      rfl
    rw[zbv (Nat.lt_of_lt_of_le hp g.lim),this]
    exact zm6 hf
  · exact H1 f h
theorem zmK {E':Env} {w':World} (hP:E'.P=E.P) (hM:E'.M=E.M) (hmu:E'.mu=E.mu) (hw0:E'.w0=E.w0) (hOB:E'.OB=E.OB) (hx:E'.x=E.x) (hR:RelS E nt st a w) (hd:a.defers=[])
    (hos:w'.os=w.os) (htape:w'.tape=w.tape) (hout:w'.output=w.output) (hsize:w.heap.size≤w'.heap.size)
    (hstay:∀b,b<w.heap.size→(∀o,(b,o) ∉ E.pins)→w'.heap[b]?=w.heap[b]?)
    (hpins:∀p∈E'.pins,w'.heap[p.1]?=some p.2∧((∃o,(p.1,o)∈E.pins)∨w.heap.size≤p.1)):RelS E' nt st a w':=by
  obtain⟨η,g,H⟩:=hR
  have hlowp:∀b o,(b,o)∈E.pins→E.w0.heap.size≤b:=fun b o h=>(g.defers.2 _ h).1
  have hview:∀b c,vw E η w b c→vw E' η w' b c:=fun b c ⟨h1,h2,el,f,h3⟩=>by
    refine⟨fun hm=>?_,h2,el,f,(hstay b (zaf h3) fun o ho=>h1 (.inr ⟨o,ho⟩)).trans h3⟩
    rcases hm with hm|⟨o,hm⟩
    · rw[hM] at hm;exact h1 (.inl hm)
    · rcases (hpins _ hm).2 with ⟨o',h⟩|h
      · exact h1 (.inr ⟨o',h⟩)
      · have:=zaf h3;simp only at h;omega
  have hkey:∀k b c o,η k=some (b,c)→w.heap[b]?=some o→w'.heap[b]?=some o:=fun k b c o hk h=>(hstay b (zaf h) fun o' ho=>(g.defers.2 _ ho).2.2 k c hk).trans h
  refine ⟨η,{
    size:=g.size
    lim:=g.lim
    defers:=⟨⟨[],hd,List.nodup_nil,fun _ h=>by cases h⟩,fun p hp=>?_⟩
    nd:=fun _=>hd
    os:=by rw[hw0];exact hos.trans g.os
    tape:=by rw[hw0];exact htape.trans g.tape
    output:=by rw[hw0];exact hout.trans g.output
    grow:=by rw[hw0];exact Nat.le_trans g.grow hsize
    keep:=fun b hb hm hw=>by
      rw[hw0] at hb ⊢
      have:=g.grow
      exact (hstay b (by omega) fun o ho=>by have:=hlowp b o ho;omega).trans (g.keep b hb (by rw[←hmu];exact hm) (by rw[←hx];exact hw))
    own:=fun k b c h=>by rw[Env.low_eq hw0 hx,hmu];have:=g.own k b c h;exact⟨by omega,this.2⟩
    dis:=fun b hb=>by rw[Env.low_eq hw0 hx];exact g.dis b (by rw[←hmu];exact hb)
    inj:=g.inj
    old:=fun b hb=>by rw[Env.low_eq hw0 hx];exact g.old b (by rw[←hM];exact hb)
    obkeep:=fun b i o hb hm h1 h2=>by
      rw[hw0] at hb h1
      rw[hOB] at h2 ⊢
      obtain⟨o',h3,h4⟩:=g.obkeep b i o hb (by rw[←hmu];exact hm) h1 h2
      exact⟨o',(hstay b (zaf h3) fun o ho=>by have:=hlowp b o ho;omega).trans h3,h4⟩},fun f hf=>?_⟩
  · obtain⟨h1,h2⟩:=hpins p hp
    rw[hw0]
    rcases h2 with ⟨o,h2⟩|h2
    · exact⟨hlowp _ _ h2,h1,(g.defers.2 _ h2).2.2⟩
    · exact⟨Nat.le_trans g.grow h2,h1,fun k c hk=>by have:=(g.own k _ c hk).1;omega⟩
  · have h:=H f hf
    cases f with
    | slot t s=>
      simp only[Fact.holds] at h ⊢
      exact zcd (ks:=[]) hview (fun _ _=>rfl) (by cases s<;>simp[SV.ment,zbG,zc7]) h
    | cell k off s=>
      obtain⟨b,c,cur,el,v,h1,h2,h3,h4,h5,h6⟩:=h
      exact⟨b,c,cur,el,v,by rw[Env.low_eq hw0 hx];exact h1,h2,hkey k b c _ h2 h3,h4,h5,zap (ks:=[]) hview (fun _ _=>rfl) (zbG s) h6⟩
    | row k el e xs=>
      rcases h with h|⟨b,c,cur,h1,h2,h3,h4⟩
      · exact .inl h
      · exact .inr ⟨b,c,cur,by rw[Env.low_eq hw0 hx];exact h1,h2,hkey k b c _ h2 h3,h4.mono hview⟩
    | ob k i=>
      obtain⟨b,c,o1,h1,h2,h3⟩:=h
      exact⟨b,c,o1,h1,hkey k b c _ h1 h2,by rw[hOB];exact h3⟩
    | fix k=>
      show η k=_
      rw[hx];exact h
def zcr (E:Env) (ps:List (Nat×Obj)):Env:={E with pins:=ps++E.pins}
def Dis (E:Env) (ms:List Nat) (D l:Nat) (ps:List (Nat×Obj)):Prop:=∀p∈ps,p.1≠l∧∀q∈zea E ms D,p.1≠q.1
theorem zfH {ms:List Nat} {D:Nat} {ps:List (Nat×Obj)} {p:Nat×Obj} (h:p∈zea (zcr E ps) ms D):p∈ps∨p∈zea E ms D:=by
  simp only[zea,zcr,List.mem_cons,List.mem_append,List.cons_append] at h ⊢
  rcases h with h|h|h|h<;>simp[h]
theorem zgc {ps:List (Nat×Obj)} (hR:RelS (zcr E ps) nt st a w):RelS E nt st a w:=by
  obtain⟨η,g,H⟩:=hR
  exact ⟨η,zjE (E:=zcr E ps) (E':=E) (ds:=[]) rfl rfl rfl rfl rfl rfl g H (fun b c ⟨h1,h2⟩=>⟨fun hm=>h1 (hm.imp id fun⟨o,h⟩=>⟨o,List.mem_append.2 (.inr h)⟩),h2⟩) g.size (zaU.refl _ _) (fun _ _ _ h=>by cases h)
    ⟨g.defers.1,fun p hp=>g.defers.2 p (List.mem_append.2 (.inr hp))⟩ g.nd⟩
theorem zgx {ms:List Nat} {D l:Nat} {o:Obj} {ps ps':List (Nat×Obj)} {w':World} (hR:RelS (zaF (zcr E ps) ms D l o) nt st a w) (hd:a.defers=[])
    (hdis0:Dis E ms D l ps) (h:OwnStep w w' ps ps') :
    Dis E ms D l ps'∧RelS (zaF (zcr E ps') ms D l o) nt st a w':=by
  have hdis:∀p∈ps,∀q∈(zaF E ms D l o).pins,p.1≠q.1:=fun p hp q hq=>by
    rcases List.mem_cons.1 hq with rfl|hq
    · exact (hdis0 p hp).1
    · exact (hdis0 p hp).2 q hq
  have hin:∀ps p,p∈(zaF (zcr E ps) ms D l o).pins↔p∈ps∨p∈(zaF E ms D l o).pins:=fun ps p=>by
    simp only[zaF,zea,zcr,List.mem_cons,List.mem_append]
    constructor
    · rintro (h|(h|h)|h|h)<;>simp[h]
    · rintro (h|h|(h|h)|h)<;>simp[h]
  have hpin:∀q∈(zaF E ms D l o).pins,w.heap[q.1]?=some q.2:=fun q hq=>by
    obtain⟨η,g,H⟩:=hR
    exact (g.defers.2 q ((hin ps q).2 (.inr hq))).2.1
  have hdis':∀p∈ps',∀q∈(zaF E ms D l o).pins,p.1≠q.1:=fun p hp q hq=>by
    rcases (h.pins p hp).2 with ⟨o',h2⟩|h2
    · exact hdis _ h2 q hq
    · have:=zaf (hpin q hq);omega
  refine⟨fun p hp=>⟨hdis' p hp (l,o) List.mem_cons_self,fun q hq=>hdis' p hp q (List.mem_cons_of_mem _ hq)⟩,zmK (E:=zaF (zcr E ps) ms D l o) (E':=zaF (zcr E ps') ms D l o) rfl rfl rfl rfl rfl rfl hR hd h.os h.tape h.output h.size (fun b hb hn=>h.block b hb fun o' ho'=>hn o' ((hin ps _).2 (.inl ho'))) fun p hp=>?_⟩
  rcases (hin ps' p).1 hp with hp|hp
  · obtain⟨h1,h2⟩:=h.pins p hp
    exact⟨h1,h2.imp (fun⟨o',h⟩=>⟨o',(hin ps _).2 (.inl h)⟩) id⟩
  · refine⟨(h.block p.1 (zaf (hpin p hp)) fun o' ho'=>hdis _ ho' p hp rfl).trans (hpin p hp),.inl ⟨p.2,(hin ps _).2 (.inr hp)⟩⟩
theorem zm2 {V:View} {η:Eta} {sv:SV} {g:Nat} {v:Value} (h:fnOf sv=some g) (hv:zai V η sv v):∃fv cv:List Value,v=.func (.func g) fv.toArray cv.toArray:=by
  unfold fnOf at h
  split at h
  · simp only[Option.some.injEq] at h
    subst h
    obtain⟨fv,cv,h,_⟩:=hv
    exact⟨fv,cv,h⟩
  · simp only [Option.some.injEq] at h
    subst h
    obtain⟨l,⟨cv,hl,hcv⟩,⟨h2,_⟩|⟨_,h2⟩⟩:=hv
    · cases h2
    · rw[hl] at h2
      exact⟨[],cv,by simpa using h2.symm⟩
  · cases h
theorem zge {V : View} (hV:∀b c,V b c→∃el f,w.heap[b]?=some (.cells c el f)):∀(i:Nat) (rd:List (Nat×Nat×Ty)) (a:Ty) (y:a.Den) (x:(rdTy rd).Den) (vs us:List Value),zkx i rd a y=some x→Rep V a y vs→us.length=i→
    zhM V w (us++vs) rd x
  | _,[],_,_,_,_,_,_,_,_=>trivial
  | i, r :: l, a,y,x,vs,us,h,hr,hl=>by
    cases a with
    | cons a1 b=>cases a1 with
     | ptr t =>
      unfold zkx at h
      cases hb:(Nat.beq r.1 i&&Nat.beq r.2.1 0) with
      | false=>rw[hb] at h;simp at h
      | true =>
        rw[hb] at h
        simp only[cond_true] at h
        rw[Bool.and_eq_true] at hb
        have q1:=Nat.eq_of_beq_eq_true hb.1
        have q2:=Nat.eq_of_beq_eq_true hb.2
        split at h
        case h_2=>cases h
        case h_1 z hz=>
          split at h
          case h_2=>cases h
          case h_1 u hu=>
            have h:=Option.some.inj h
            subst h
            obtain⟨l1,l2,rfl,⟨ad,c,e1,e2,e3,e4,e5⟩,e6⟩:=hr
            subst e1
            obtain⟨he,hz⟩:=zaN hz
            obtain⟨n,off,ty⟩:=r
            have q1:n=i:=q1
            have q2:off=0:=q2
            have he:t=ty:=he
            subst he q1 q2
            have hz:z=y.1:=hz
            subst hz
            obtain⟨el,f,hbk⟩:=hV _ _ e3
            have hlen:=Rep.length _ _ _ e5
            have hat:=zlo e5 rfl
            obtain⟨ab,ao,asp⟩:=ad
            simp only at e2 e3 e4 e5 hlen hat hbk
            subst e2
            refine⟨⟨ab,ao,by rw[←hl];simp,_,e5,hlen,fun j v hj=>?_⟩,?_⟩
            · rw[zbE hbk,Nat.add_zero]
              simpa using hat j v hj
            · have:=zge hV (n+1) l b y.2 u l2 (us++[.pointer (some ⟨ab,ao,none⟩)]) hu e6 (by simp[hl])
              simpa using this
     | _=>simp[zkx] at h
    | _=>simp[zkx] at h
theorem zlX (g:Good E nt η a w) (H:∀f∈st,Fact.holds E η a w f) {sv:SV} {v:Value} (hv:zai (vw E η w) η sv v) {f:Nat} {fv cv:List Value} (he:v=.func (.func f) fv.toArray cv.toArray)
    {nb:Nat} {rd:List (Nat×Nat×Ty)} {x:(rdTy rd).Den} (h:rdAt st nb sv rd=some x):zc8 rd w (fv++cv) x∧fv.length=nb∧cv.length≤16:=by
  unfold rdAt at h
  split at h
  · rename_i g' fs cs
    cases hb:(Nat.beq fs.length nb&&Nat.ble cs.length 16) with
    | false=>rw[hb] at h;simp at h
    | true=>
    rw[hb] at h
    simp only[cond_true] at h
    rw[Bool.and_eq_true] at hb
    have hc:=Nat.le_of_ble_eq_true hb.2
    have hb:=Nat.eq_of_beq_eq_true hb.1
    obtain⟨fv',cv',q1,q2,q3⟩:=hv
    rw[he] at q1
    simp only[Value.func.injEq] at q1
    obtain⟨_,u1,u2⟩:=q1
    have u1:fv=fv':=by simpa using congrArg Array.toList u1
    have u2:cv=cv':=by simpa using congrArg Array.toList u2
    subst u1 u2
    exact⟨zi1 g H (zfM q2 q3) h,(zdW q2).symm.trans hb,(zdW q3).symm▸hc⟩
  · rename_i g' b y
    cases hb:(Nat.beq 0 nb&&Nat.ble b.size 16) with
    | false=>rw[hb] at h;simp at h
    | true=>
    rw[hb] at h
    simp only[cond_true] at h
    rw[Bool.and_eq_true] at hb
    have hc:=Nat.le_of_ble_eq_true hb.2
    have hb:=Nat.eq_of_beq_eq_true hb.1
    obtain⟨l,⟨cv',hl,hcv⟩,⟨h2,_⟩|⟨_,h2⟩⟩:=hv
    · cases h2
    · rw[hl,he] at h2
      simp only[List.cons.injEq,Value.func.injEq,and_true] at h2
      obtain⟨_,u1,u2⟩:=h2
      have u1:fv=[]:=by simpa using (congrArg Array.toList u1).symm
      have u2:cv=cv':=by simpa using (congrArg Array.toList u2).symm
      subst u1 u2
      exact⟨⟨vw E η w,fun b c ⟨_,_,h⟩=>h,zge (fun b c ⟨_,_,h⟩=>h) 0 rd b y x cv [] h hcv rfl⟩,hb,(Rep.length _ _ _ hcv).symm▸hc⟩
  · cases h
theorem zkj {isp:ISpec} {ds:List Nat} {ps:Array Nat} {p q:Nat} {x:(rdTy isp.rd).Den} {i:Nat} (hps:parP ps.toList=some (p,isp.two,q)) (hR:RelS E nt st a w) (ha:a.defers=[]) (hp:p<nt) (hpd:p∈ds) (hq:q<nt) (hqd:q∈ds)
    (hf:isp.e.flat=true) (hds:∀u s,Fact.slot u s∈st→u ∉ ds) (hpq:isp.two=true→p≠q) :
    ∃ tm,(ps.zip (isp.args x i (encV isp.e (isp.seq x i)))).foldl (fun tmps (t,a)=>tmps.setIfInBounds t a) a.tmps=tm∧
      RelS E nt (.slot p (.one (.d isp.e (isp.seq x i)))::addQ isp.two q (isp.ix x i) st) {tmps:=tm,defers:=[]} w∧zaU ds a {tmps:=tm,defers:=[]}:=by
  have hset:∀(tm:Array Value) (dd:List Deferred) (p:Nat) (v:Value),p∈ds→zaU ds {tmps:=tm,defers:=dd} {tmps:=tm.setIfInBounds p v,defers:=[]}:=fun tm dd p v hpd u hu=>by
    have hne:p≠u:=fun e=>hu (e▸hpd)
    simp[Array.getD_eq_getD_getElem?,Array.getElem?_setIfInBounds_ne hne]
  rcases ps with ⟨l⟩
  simp only at hps
  match l,hps with
  | [p'],hps=>
    simp only[parP,Option.some.injEq,Prod.mk.injEq] at hps
    obtain⟨rfl,h2,rfl⟩:=hps
    have e:isp.args x i (encV isp.e (isp.seq x i)) = #[encV isp.e (isp.seq x i)]:=by simp only[ISpec.args];rw[←h2]
    rw[e,←h2]
    exact⟨_,by simp,zfP (x:=isp.seq x i) hR ha hp hpd hf hds,hset a.tmps a.defers _ _ hpd⟩
  | [q', p'],hps=>
    simp only[parP,Option.some.injEq,Prod.mk.injEq] at hps
    obtain⟨rfl,h2,rfl⟩:=hps
    have e:isp.args x i (encV isp.e (isp.seq x i)) = #[.int .i64 (isp.ix x i),encV isp.e (isp.seq x i)]:=by simp only[ISpec.args];rw[←h2]
    rw[e]
    have R1:=zfP (t:=.int .i64) (x:=isp.ix x i) hR ha hq hqd rfl hds
    have hne:=hpq h2.symm
    have R2:=zfP (ds:=[p']) (x:=isp.seq x i) R1 rfl hp List.mem_cons_self hf (fun u s hu=>by
      rcases List.mem_cons.1 hu with hu|hu
      · cases hu
        simpa using fun e=>hne e.symm
      · have:=hds u s hu
        simp only[List.mem_singleton]
        exact fun e=>this (e▸hpd))
    rw[←h2]
    refine⟨_,?_,R2,(hset a.tmps a.defers _ _ hqd).trans (hset _ [] _ _ hpd)⟩
    have e1:encV (.int .i64) (isp.ix x i)=.int .i64 (isp.ix x i):=rfl
    rw[e1]
    simp
  | [],hps=>cases hps
  | _::_::_::_,hps=>cases hps
theorem zi5 {isp:ISpec} {ps:Array Nat} {p q:Nat} {x:(rdTy isp.rd).Den} {i:Nat} {v:Value} (hps:parP ps.toList=some (p,isp.two,q)):ps.size=(isp.args x i v).size:=by
  rcases ps with ⟨l⟩
  simp only at hps
  match l,hps with
  | [p'],hps=>
    simp only[parP,Option.some.injEq,Prod.mk.injEq] at hps
    simp only[ISpec.args];rw[←hps.2.1];rfl
  | [q',p'],hps=>
    simp only[parP,Option.some.injEq,Prod.mk.injEq] at hps
    simp only[ISpec.args];rw[←hps.2.1];rfl
  | [],hps=>cases hps
  | _::_::_::_,hps=>cases hps
theorem zpp {ps:Array Nat} {p q nt:Nat} {t:Bool} (h:parP ps.toList=some (p,t,q)) (hd:(ps.toList.all fun p=>Nat.blt p nt)=true):p<nt∧q<nt:=by
  rcases ps with ⟨l⟩
  simp only at h hd
  match l,h with
  | [p'],h=>
    simp only[parP,Option.some.injEq,Prod.mk.injEq] at h
    obtain⟨rfl,_,rfl⟩:=h
    have:p'<nt:=by simpa using hd
    exact⟨this,this⟩
  | [q',p'],h=>
    simp only[parP,Option.some.injEq,Prod.mk.injEq] at h
    obtain⟨rfl,_,rfl⟩:=h
    have:q'<nt∧p'<nt:=by simpa using hd
    exact⟨this.2,this.1⟩
  | [],h=>cases h
  | _::_::_::_,h=>cases h
theorem zi2 {g:Nat} {isp:ISpec} {sv:SV} {ps:Array Nat} {p q:Nat} {x:(rdTy isp.rd).Den} {σ:Type} {head:σ→St} {inv:σ→Prop} {meas:σ→Nat} {B:σ→St→Prop} {ds:List Nat} {K:XE→St→Prop} {f:Operand} {assign body:Code}
    (hx0:E.x.nd=false) (hI:zg2 E.P g isp) (hE:zdw E.P g) (hflat:isp.e.flat=true) (hps:parP ps.toList=some (p,isp.two,q)) (hp:p<nt) (hpd:p∈ds) (hq:q<nt) (hqd:q∈ds) (hda:∀t∈dsts assign,t∈ds) (hdb:∀t∈dsts body,t∈ds)
    (hpre:isp.pre x) (hpq:isp.two=true→p≠q) (hfn:fnOf sv=some g) (hhead:∀s,inv s→eval (head s) f=some sv∧rdAt (head s) isp.nb sv isp.rd=some x)
    (hslot:∀s,inv s→∀t v,Fact.slot t v∈head s→t ∉ ds) (s0:σ) (h0:inv s0) (hm0:meas s0=0) (hR:RelS E nt (head s0) a w)
    (hN:isp.len x=none→∃N,∀s,inv s→meas s<N) (hfin:∀s,inv s→isp.len x=some (meas s)→K .normal (head s))
    (hassign:∀s,inv s→(∀L,isp.len x=some L→meas s<L)→∀(E1:Env) (l:Nat) (a1:Act) (W:World),E1.P=E.P→E1.OB=E.OB→RelS E1 nt (.slot p (.one (.d isp.e (isp.seq x (meas s))))::addQ isp.two q (isp.ix x (meas s)) (head s)) a1 W→
      assign.wpIn (Fw (some l)) 0 E1.P (AgX (dsts assign) a1 (zmp E1 nt fun e st1=>e=.normal∧B s st1)) a1 W)
    (hbody:∀s st1,B s st1→∀(E1:Env) (l:Nat) (a1:Act) (W:World),E1.P=E.P→E1.OB=E.OB→RelS E1 nt st1 a1 W→
      body.wpIn (Fw (some l)) 0 E1.P (AgX (dsts body) a1 (zmp E1 nt fun e st'=>match e with | .normal=>∃s',ent st' (head s')∧inv s'∧meas s'=meas s+1|e=>K e (zep ds st'))) a1 W) :
    (Code.rangeFunc f ps assign body).wpIn (Fw none) 0 E.P (AgX [] a (zmp E nt K)) a w:=by
  have hfe:∃fv cv:List Value,a.eval f=.func (.func g) fv.toArray cv.toArray:=by
    obtain⟨η,gd,H⟩:=hR
    exact zm2 hfn (zad H (hhead s0 h0).1)
  obtain⟨fv,cv,hfe⟩:=hfe
  have hsz:a.tmps.size=nt:=by obtain⟨η,gd,H⟩:=hR;exact gd.size
  obtain ⟨N,hN⟩:∃N,isp.len x=none→∀s,inv s→meas s<N:=by
    cases hl:isp.len x with
    | none=>obtain⟨N,h⟩:=hN hl;exact⟨N,fun _=>h⟩
    | some L=>exact⟨0,fun h=>by cases h⟩
  refine wpIn_rangeFunc fun fn hfn=>?_
  obtain⟨rc,hrc⟩:∃rc:LoopState→Option Code→Loop,rc=fun st pe=>{state:=st,pending:=pe,fn,tmps:=a.tmps,params:=ps,assign,body,defers:=w.heap.size}:=⟨_,rfl⟩
  obtain⟨ms,d1,d2,d3,d4,d5,R0⟩:=zmE (o:=.loop (rc .ready none)) hR rfl
  obtain⟨D,hD⟩:∃D,D=w.heap.size:=⟨_,rfl⟩
  obtain⟨a0,ha0⟩:∃a0:Act,a0 = {tmps:=a.tmps,defers:=[]}:=⟨_,rfl⟩
  obtain⟨W1,hW1⟩:∃W1,W1=(w.alloc (.deferred (some []))).alloc (.loop (rc .ready none)):=⟨_,rfl⟩
  rw[←ha0,←hW1,←hD] at R0
  rw[←hD] at d3 d4 d5
  have hfe0:a0.eval f=.func (.func g) fv.toArray cv.toArray:=by rw[ha0];exact hfe
  have hlow:E.w0.heap.size≤D+1:=Nat.le_succ_of_le d5
  have hnb:fv.length=isp.nb∧cv.length≤16:=by obtain⟨η,gd,H⟩:=hR;exact (zlX gd H (zad H (hhead s0 h0).1) hfe (hhead s0 h0).2).2
  have hloop:∀r:Loop,Obj.loop r≠.deferred (some []):=fun r h=>by cases h
  refine⟨D+1,[mkD D],W1,{target:=.fn (.func g) cv.toArray,args:=fv.toArray ++ #[.func (.yield (D+1)) #[] #[]]},W1,g,fv.toArray ++ #[.func (.yield (D+1)) #[] #[]]++cv.toArray,W1,?_,?_,?_,?_,fun h=>(by cases h),?_⟩
  · rw[hW1,hrc,hD];exact run_enterLoop_outer _ _ _ _ _
  · simp only[resolve,hfe]
    simp[go_sem,Deferred.ofValue]
  · intro f' _;trivial
  · obtain⟨fn',e1,e2,e3⟩:=hE
    have e2':¬fn'.name = "runtime.NumGoroutine" := by simpa using e2
    have e3':¬fn'.body=none:=by intro hn;rw[hn] at e3;cases e3
    simp[invoke,callFunc,e1,e2',e3']
  · refine (hI fv cv x (D+1) N
      (fun i ps W=>∃s,inv s∧meas s=i∧(∀L,isp.len x=some L→i≤L)∧Dis E ms D (D+1) ps∧RelS (zaF (zcr E ps) ms D (D+1) (.loop (rc .ready none))) nt (head s) a0 W)
      (fun i ps W=>∃e st' c,((e=XE.ret∧c=Code.ret)∨∃id,e=XE.exit id∧c=Code.exit id)∧K e st'∧Dis E ms D (D+1) ps∧RelS (zaF (zcr E ps) ms D (D+1) (.loop (rc .done (some c)))) nt st' a0 W)
      W1 hnb.1 hnb.2 hpre ?_ ?_ ?_ ?_ ?_ ?_).mono ?_
    · rintro i ps W ⟨s,k1,k2,k3,kd,η,gd,H⟩
      exact⟨(zlX gd H (zad H (hhead s k1).1) hfe0 (hhead s k1).2).1,fun q hq=>(gd.defers.2 q (List.mem_cons_of_mem _ (List.mem_append.2 (.inr (List.mem_append.2 (.inl hq)))))).2.1⟩
    · rintro i ps ps' W W' ⟨s,k1,k2,k3,kd,k4⟩ hg
      exact⟨s,k1,k2,k3,zgx k4 (by rw[ha0]) kd hg⟩
    · rintro i ps ps' W W' ⟨e,st',c,k1,k2,kd,k3⟩ hg
      exact⟨e,st',c,k1,k2,zgx k3 (by rw[ha0]) kd hg⟩
    · rintro i ps W ⟨s,k1,k2,k3,k4⟩
      split
      · rename_i L hL;exact k3 L hL
      · rename_i hL;rw[←k2];exact hN hL s k1
    · rintro i ps W ⟨s,k1,k2,k3,kd,k4⟩ hlt
      subst k2
      have d4:∀q∈zea (zcr E ps) ms D,q.1≠D+1:=fun q hq=>(zfH hq).elim (fun h=>(kd q h).1) (d4 q)
      have hlow:(zcr E ps).w0.heap.size≤D+1:=hlow
      have hl:=zh5 k4
      have hdf0:a0.defers=[]:=by rw[ha0]
      obtain⟨tm,htm,R1,hag1⟩:=zkj (x:=x) (i:=meas s) hps k4 hdf0 hp hpd hq hqd hflat (hslot s k1) hpq
      have hsz1:(rc .ready none).params.size=(isp.args x (meas s) (encV isp.e (isp.seq x (meas s)))).size:=by
        rw[hrc];exact zi5 hps
      have hy:=run_yield (P:=E.P) (args:=isp.args x (meas s) (encV isp.e (isp.seq x (meas s)))) hl hsz1.symm
      have htm:((rc .ready none).params.zip (isp.args x (meas s) (encV isp.e (isp.seq x (meas s))))).foldl (fun tmps (t,a)=>tmps.setIfInBounds t a) (rc .ready none).tmps=tm:=by
        rw[←htm,hrc,ha0]
      rw[htm] at hy
      have e1:(rc .ready none).fn=fn:=by rw[hrc]
      have e2:(rc .ready none).assign=assign:=by rw[hrc]
      have e3:(rc .ready none).body=body:=by rw[hrc]
      rw[e1,e2,e3] at hy
      have hsz0:a0.tmps.size=nt:=by rw[ha0];exact hsz
      refine⟨fn,_,assign,body,hy,roundIn_of_wpIn hfn (wpIn_mono (hassign s k1 hlt (zaF (zcr E ps) ms D (D+1) (.loop (rc .ready none))) (D+1) _ W rfl rfl R1) ?_)⟩
      rintro e a2 W2 ⟨⟨xe,st1,g1,⟨g2,hB⟩,R2⟩,hag⟩
      subst g1 g2
      have hag:=hag (by intro h;cases h)
      have hl2:=zh5 R2
      refine⟨_,run_beginRound hl2 (by rw[hrc]),?_⟩
      have R3:=turn (o':=.loop {rc .ready none with state:=.busy}) (a':=a2) (ds:=[]) R2 (hloop _) d4 hlow (by obtain⟨η,gd,_⟩:=R2;exact gd.size) (zaU.refl _ _) (fun _ _ _ h=>by cases h) (.inr rfl)
      refine wpIn_mono (hbody s st1 hB (zaF (zcr E ps) ms D (D+1) (.loop {rc .ready none with state:=.busy})) (D+1) a2 _ rfl rfl R3) ?_
      rintro e a3 W3 ⟨⟨xe,st',g1,g2,R4⟩,hag3⟩
      subst g1
      have hl4:=zh5 R4
      have hagA:=(hag1.trans (hag.more hda))
      cases xe with
      | normal=>
        obtain⟨s',q1,q2,q3⟩:=g2
        have hag4:=hagA.trans ((hag3 (by intro h;cases h)).more hdb)
        have R6:=turn (o':=.loop (rc .ready none)) (a':=a0) (ds:=ds) (zcB q1 R4) (hloop _) d4 hlow hsz0 hag4 (hslot s' q2) (.inl hdf0)
        refine⟨_,_,run_endRound none hl4,.inl ⟨rfl,s',q2,q3,fun L hL=>hlt L hL,kd,?_⟩⟩
        subst hrc
        exact R6
      | exit id=>
        have hag4:=hagA.trans ((hag3 (by intro h;cases h)).more hdb)
        have R6:=turn (o':=.loop (rc .done (some (.exit id)))) (a':=a0) (ds:=ds) (zlp R4 (fun f hf=>zdu hf)) (hloop _) d4 hlow hsz0 hag4 (fun t s h=>zcC (ds:=ds) h) (.inl hdf0)
        refine⟨_,_,run_endRound (some (.exit id)) hl4,.inr ⟨rfl,.exit id,zep ds st',.exit id,.inr ⟨id,rfl,rfl⟩,g2,kd,?_⟩⟩
        subst hrc
        exact R6
      | ret=>
        have hag4:=hagA.trans ((hag3 (by intro h;cases h)).more hdb)
        have R6:=turn (o':=.loop (rc .done (some .ret))) (a':=a0) (ds:=ds) (zlp R4 (fun f hf=>zdu hf)) (hloop _) d4 hlow hsz0 hag4 (fun t s h=>zcC (ds:=ds) h) (.inl hdf0)
        refine⟨_,_,run_endRound (some .ret) hl4,.inr ⟨rfl,.ret,zep ds st',.ret,.inl ⟨rfl,rfl⟩,g2,kd,?_⟩⟩
        subst hrc
        exact R6
    · refine⟨s0,h0,hm0,fun _ _=>Nat.zero_le _,(fun _ h=>by cases h),R0⟩
    · rintro e W2 ⟨⟨v,rfl⟩,(⟨L,ps,hL,s,k1,k2,k3,kd,k4⟩|⟨i,ps,e,st',c,k1,k2,kd,k3⟩)⟩
      · have d4:∀q∈zea (zcr E ps) ms D,q.1≠D+1:=fun q hq=>(zfH hq).elim (fun h=>(kd q h).1) (d4 q)
        have hl:=zh5 k4
        refine⟨_,_,run_endLoop hl (by rw[hrc];simp),?_⟩
        have hpd:(rc .ready none).pending=none:=by rw[hrc]
        rw[hpd]
        exact⟨⟨.normal,head s,rfl,hfin s k1 (by rw[k2];exact hL),zgc (zfK (E:=zcr E ps) k4 (hloop _) d4 hlow (by rw[ha0]) d1 d2 d3 hx0)⟩,fun _=>fun _ _=>rfl⟩
      · have d4:∀q∈zea (zcr E ps) ms D,q.1≠D+1:=fun q hq=>(zfH hq).elim (fun h=>(kd q h).1) (d4 q)
        have hl:=zh5 k3
        refine⟨_,_,run_endLoop hl (by rw[hrc];simp),?_⟩
        have hpd:(rc .done (some c)).pending=some c:=by rw[hrc]
        rw[hpd]
        rcases k1 with ⟨rfl,rfl⟩|⟨id,rfl,rfl⟩
        · exact wpIn_ret ⟨⟨.ret,st',rfl,k2,zgc (zfK (E:=zcr E ps) k3 (hloop _) d4 hlow (by rw[ha0]) d1 d2 d3 hx0)⟩,fun _=>fun _ _=>rfl⟩
        · exact wpIn_exit ⟨⟨.exit id,st',rfl,k2,zgc (zfK (E:=zcr E ps) k3 (hloop _) d4 hlow (by rw[ha0]) d1 d2 d3 hx0)⟩,fun _=>fun _ _=>rfl⟩
end
def zmq (P:Program) (OB:Nat→Obj→Prop) (c:Cfg) (par:Array Oper→St→(St→Prop)→Prop):Prop:=∀E:Env,E.P=P→E.OB=OB→zqE E c par
theorem zeM {f:Fact}:∀ {st:St},f∈ziG st→∃k off j n,f=.cell k off .u∧.cell k off (.o j n)∈st
  | [],h=>by cases h
  | q :: r,h=>by
    unfold ziG at h
    split at h
    · cases h
    · rename_i k off j n _ e
      cases e
      rcases List.mem_cons.1 h with rfl|h
      · exact⟨_,_,_,_,rfl,List.mem_cons_self⟩
      · obtain⟨a,b,c,d,e1,e2⟩:=zeM h;exact⟨a,b,c,d,e1,List.mem_cons_of_mem _ e2⟩
    · rename_i e;cases e
      obtain⟨a,b,c,d,e1,e2⟩:=zeM h;exact⟨a,b,c,d,e1,List.mem_cons_of_mem _ e2⟩
theorem zg1 {nt:Nat} {st:St} (hR:RelS E nt st a w):RelS E nt (addU st) a w:=by
  obtain⟨η,g,H⟩:=hR
  refine⟨η,g,fun f hf=>?_⟩
  rcases List.mem_append.1 hf with hf|hf
  · exact H f hf
  · obtain⟨k,off,j,n,rfl,h⟩:=zeM hf
    obtain⟨b,c,cur,el,v,h1,h2,h3,h4,h5,_⟩:=H _ h
    exact⟨b,c,cur,el,v,h1,h2,h3,h4,h5,trivial⟩
theorem zbf {P:Program} {OB:Nat→Obj→Prop} (hC:CfgOk P OB c) {par:Array Oper→St→(St→Prop)→Prop} (hpar:zmq P OB c par) {anns:List (St→LoopAnn)}:∀(b:Code) (n:Nat) (st:St) (K:XE→St→Prop) (a:Act) (w:World) (E:Env) (ro:Option Nat),
    E.P=P→E.OB=OB→((ro=none∧E.x.nd=false)∨zaP b=true)→zc3 c.nt b=true→vc c par anns b n st K→RelS E c.nt st a w→b.wpIn (Fw ro) 0 E.P (AgX (dsts b) a (zmp E c.nt K)) a w
  | .skip,n,st,K,a,w,E,ro,hP,hOB,hro,_,h,hR=>wpIn_skip ⟨⟨.normal,st,rfl,h,hR⟩,fun _=>zaU.refl _ _⟩
  | .label _,n,st,K,a,w,E,ro,hP,hOB,hro,_,h,hR=>wpIn_label ⟨⟨.normal,st,rfl,h,hR⟩,fun _=>zaU.refl _ _⟩
  | .region id ops false,n,st,K,a,w,E,ro,hP,hOB,hro,hd,h,hR=>by
    refine wpIn_region_list (zdD _ _ _ (fun o ho t ht=>zeJ.2 ⟨o,ho,ht⟩) (zaU.refl _ _) ?_)
    have hdst:∀o∈ops.toList,∀t,o.dst=some t→t<c.nt:=by
      intro o ho t ht
      simp only[zc3,List.all_eq_true] at hd
      have:=hd o ho
      rw[ht] at this
      simpa using this
    exact zdk (E:=E) (hP▸hOB▸hC) hdst ops.toList (fun _ h=>h) st _ a w h hR fun st' a' w' hk hr=>⟨.normal,st',rfl,hk,hr⟩
  | .region id ops true,n,st,K,a,w,E,ro,hP,hOB,hro,_,h,hR=>by
    have h:(bif c.nan then par ops (addU st) (fun st'=>zdU st' (K .normal)) else par ops (addU st) (K .normal)):=h
    cases hn:c.nan with
    | false=>
      rw[hn] at h
      exact hpar E hP hOB id ops (addU st) _ a w _ h (zg1 hR) (fun st' a' w' hk hr=>⟨.normal,st',rfl,hk,hr⟩) ro 0
    | true=>
      rw[hn] at h
      exact hpar E hP hOB id ops (addU st) _ a w _ h (zg1 hR) (fun st' a' w' hk hr=>by
        obtain⟨st2,h1,h2⟩:=zhc hk hr
        exact⟨.normal,st2,rfl,h1,h2⟩) ro 0
  | .seq x y,n,st,K,a,w,E,ro,hP,hOB,hro,hd,h,hR=>by
    simp only[zc3,Bool.and_eq_true] at hd
    refine wpIn_seq (wpIn_mono (zbf hC hpar x n st _ a w E ro hP hOB (hro.imp id fun h=>(Bool.and_eq_true _ _▸h:zaP x=true∧zaP y=true).1) hd.1 h hR) fun e a' w' ⟨⟨xe,st',h1,h2,h3⟩,hag⟩=>?_)
    subst h1
    have hx:∀ {a''},zaU (dsts x) a a''→zaU (dsts (.seq x y)) a a'':=fun h=>h.more fun t ht=>List.mem_append.2 (.inl ht)
    cases xe with
    | normal=>
      simp only[zbz] at h2
      refine wpIn_mono (zbf hC hpar y _ st' K a' w' E ro hP hOB (hro.imp id fun h=>(Bool.and_eq_true _ _▸h:zaP x=true∧zaP y=true).2) hd.2 h2 h3) fun e a'' w'' ⟨g1,g2⟩=>⟨g1,fun hn=>?_⟩
      exact (hx (hag (by intro hc;cases hc))).trans ((g2 hn).more fun t ht=>List.mem_append.2 (.inr ht))
    | exit id=>exact⟨⟨.exit id,st',rfl,h2,h3⟩,fun hn=>hx (hag hn)⟩
    | ret=>exact⟨⟨.ret,st',rfl,h2,h3⟩,fun hn=>hx (hag hn)⟩
  | .cond x y z,n,st,K,a,w,E,ro,hP,hOB,hro,hd,h,hR=>by
    simp only[zc3,Bool.and_eq_true] at hd
    obtain⟨η,g,H⟩:=hR
    simp only[vc,zbz] at h
    split at h
    · rename_i hx
      have hv:a.eval x=.bool true:=zad H hx
      exact wpIn_cond_true hv (wpIn_mono (zbf hC hpar y n st K a w E ro hP hOB (hro.imp id fun h=>(Bool.and_eq_true _ _▸h:zaP y=true∧zaP z=true).1) hd.1 h ⟨η,g,H⟩) fun e a' w' hq=>⟨hq.1,fun hn=>(hq.2 hn).more fun t ht=>List.mem_append.2 (.inl ht)⟩)
    · rename_i hx
      have hv:a.eval x=.bool false:=zad H hx
      exact wpIn_cond_false hv (wpIn_mono (zbf hC hpar z _ st K a w E ro hP hOB (hro.imp id fun h=>(Bool.and_eq_true _ _▸h:zaP y=true∧zaP z=true).2) hd.2 h ⟨η,g,H⟩) fun e a' w' hq=>⟨hq.1,fun hn=>(hq.2 hn).more fun t ht=>List.mem_append.2 (.inr ht)⟩)
    · rename_i b hx
      have hv:a.eval x=.bool b:=zaZ (zad H hx)
      exact wpIn_cond_split hv (fun hb=>wpIn_mono (zbf hC hpar y n st K a w E ro hP hOB (hro.imp id fun h=>(Bool.and_eq_true _ _▸h:zaP y=true∧zaP z=true).1) hd.1 (h.out.1 hb) ⟨η,g,H⟩) fun e a' w' hq=>⟨hq.1,fun hn=>(hq.2 hn).more fun t ht=>List.mem_append.2 (.inl ht)⟩) (fun hb=>wpIn_mono (zbf hC hpar z _ st K a w E ro hP hOB (hro.imp id fun h=>(Bool.and_eq_true _ _▸h:zaP y=true∧zaP z=true).2) hd.2 (h.out.2 hb) ⟨η,g,H⟩) fun e a' w' hq=>⟨hq.1,fun hn=>(hq.2 hn).more fun t ht=>List.mem_append.2 (.inr ht)⟩)
    · exact h.elim
  | .block id b,n,st,K,a,w,E,ro,hP,hOB,hro,hd,h,hR=>by
    refine wpIn_block (wpIn_mono (zbf hC hpar b n st _ a w E ro hP hOB hro hd h hR) fun e a' w' ⟨⟨xe,st',h1,h2,h3⟩,hag⟩=>?_)
    subst h1
    cases xe with
    | normal=>exact⟨⟨.normal,st',rfl,h2,h3⟩,hag⟩
    | exit j=>
      simp only[XE.to,Exit.inBlock]
      simp only at h2
      cases hb:Nat.beq j id with
      | true=>
        rw[hb] at h2
        have:=Nat.eq_of_beq_eq_true hb
        rw[if_pos this]
        exact⟨⟨.normal,st',rfl,h2,h3⟩,fun _=>hag (by intro hc;cases hc)⟩
      | false=>
        rw[hb] at h2
        have:=Nat.ne_of_beq_eq_false hb
        rw[if_neg this]
        exact⟨⟨.exit j,st',rfl,h2,h3⟩,hag⟩
    | ret=>exact⟨⟨.ret,st',rfl,h2,h3⟩,hag⟩
  | .loop b,n,st,K,a,w,E,ro,hP,hOB,hro,hd,h,hR=>by
    simp only[vc,zb6,za8,zjt] at h
    split at h
    case h_2=>
      refine wpIn_loop_rounds c.fuel ?_
      have key:∀(k:Nat) (st:St) (a1:Act) (w:World),zkH (fun st K=>vc c par anns b (n+1) st K) k st K→RelS E c.nt st a1 w→zaU (dsts b) a a1→Code.roundsIn (Fw ro) 0 E.P b (AgX (dsts b) a (zmp E c.nt K)) k a1 w:=by
        intro k
        induction k with
        | zero=>intro st a1 w h _ _;exact h.elim
        | succ k ih=>
          intro st a1 w h hR hag
          rw[roundsIn_succ]
          refine wpIn_mono (zbf hC hpar b (n+1) _ _ a1 w E ro hP hOB hro hd h hR) fun e a' w' ⟨⟨xe,st',g1,g2,g3⟩,hag2⟩=>?_
          subst g1
          cases xe with
          | normal=>exact ih st' a' w' g2 g3 (hag.trans (hag2 (by intro hc;cases hc)))
          | exit id=>exact⟨⟨.exit id,st',rfl,g2,g3⟩,fun hn=>hag.trans (hag2 hn)⟩
          | ret=>exact⟨⟨.ret,st',rfl,g2,g3⟩,fun hn=>hag.trans (hag2 hn)⟩
      exact key c.fuel st a w h hR (zaU.refl _ _)
    case h_1 A0 hA=>
      let A:=A0 st
      obtain⟨hg,h3⟩:=h.out
      obtain⟨s,h1,h2⟩:=hg.out
      refine zdQ (fun m a1 w=>∃s,A.meas s=m∧A.inv s∧RelS E c.nt (zdc (dsts b) st (A.pat s)) a1 w∧zaU (dsts b) a a1) ⟨s,rfl,h2,zcB h1 hR,zaU.refl _ _⟩ fun m a1 w ⟨s,hm,hi,hr,hag⟩=>?_
      refine wpIn_mono (zbf hC hpar b (n+1) _ _ a1 w E ro hP hOB hro hd (h3 s hi) hr) fun e a' w' ⟨⟨xe,st',g1,g2,g3⟩,hag2⟩=>?_
      subst g1
      cases xe with
      | normal=>
        obtain⟨s',e1,e2,e3⟩:=Goal.out g2
        exact⟨A.meas s',hm▸e3,s',rfl,e2,zcB e1 g3,hag.trans (hag2 (by intro hc;cases hc))⟩
      | exit id=>exact⟨⟨.exit id,st',rfl,g2,g3⟩,fun hn=>hag.trans (hag2 hn)⟩
      | ret=>exact⟨⟨.ret,st',rfl,g2,g3⟩,fun hn=>hag.trans (hag2 hn)⟩
  | .exit id,n,st,K,a,w,E,ro,hP,hOB,hro,_,h,hR=>wpIn_exit ⟨⟨.exit id,st,rfl,h,hR⟩,fun _=>zaU.refl _ _⟩
  | .ret,n,st,K,a,w,E,ro,hP,hOB,hro,_,h,hR=>wpIn_ret ⟨⟨.ret,st,rfl,h,hR⟩,fun _=>zaU.refl _ _⟩
  | .rangeFunc f ps assign body,n,st,K,a,w,E,ro,hP,hOB,hro,hd,h,hR=>by
    rcases hro with ⟨rfl,hx0⟩|hro
    case inr=>cases hro
    simp only[zc3,Bool.and_eq_true] at hd
    simp only[vc,zb6,za8,zbz,zjt] at h
    split at h
    case h_2=>exact h.elim
    rename_i p two q A0 sv hps hA hf
    split at h
    case h_2=>exact h.elim
    rename_i g hfn
    split at h
    case h_2=>exact h.elim
    rename_i isp hisp
    split at h
    case h_2=>exact h.elim
    rename_i x hb hx
    simp only[Bool.and_eq_true] at hb
    obtain⟨hflat,⟨hna,hnb⟩,htwo⟩:=hb
    have hne:isp.two=true→p≠q:=fun h2 e=>by
      subst e
      revert htwo;rw[h2];cases two<;>simp
    have htwo:isp.two=two:=by revert htwo;cases isp.two<;>cases two<;>intro h<;>first|rfl|cases h
    subst htwo
    have hpq:=zpp hps hd.2
    obtain⟨hg,h⟩:=h.out
    obtain⟨hpre,h⟩:=h.out
    have hpre:=hpre.out
    obtain⟨hN,h⟩:=h.out
    obtain⟨hk,h⟩:=h.out
    obtain⟨s0,e1,e2,e3⟩:=hg.out
    have hN:=hN.out
    have hk:=hk.out
    obtain⟨q1,q2⟩:=hC.its g isp hisp
    refine zi2 (E:=E) (g:=g) (isp:=isp) (sv:=sv) (x:=x) (σ:=(A0 st).σ) (head:=fun s=>zdc (q::p::(dsts assign++dsts body)) st ((A0 st).pat s)) (inv:=(A0 st).inv) (meas:=(A0 st).meas) (ds:=q::p::(dsts assign++dsts body))
      (B := fun s st1=>vc c par anns body (n+1+zcl assign) st1 fun e st'=>match e with
        | .normal=>Goal (∃s':(A0 st).σ,ent st' (zdc (q::p::(dsts assign++dsts body)) st ((A0 st).pat s'))∧(A0 st).inv s'∧(A0 st).meas s'=(A0 st).meas s+1)
        | e=>K e (zep (q::p::(dsts assign++dsts body)) st'))
      hx0 (hP▸q1) (hP▸q2) hflat hps hpq.1 (List.mem_cons_of_mem _ List.mem_cons_self) hpq.2 List.mem_cons_self (fun t ht=>List.mem_cons_of_mem _ (List.mem_cons_of_mem _ (List.mem_append.2 (.inl ht)))) (fun t ht=>List.mem_cons_of_mem _ (List.mem_cons_of_mem _ (List.mem_append.2 (.inr ht))))
      hpre hne hfn (fun s hs=>(hk s hs).2) (fun s hs t v hm=>?_) s0 e2 e3 (zcB e1 hR) hN (fun s hs hl=>(h s hs).out.1 hl) (fun s hs hl E1 l a1 W hP1 hOB1 hR1=>?_) (fun s st1 hB E1 l a1 W hP1 hOB1 hR1=>?_)
    · rcases List.mem_append.1 hm with hm|hm
      · exact absurd hm (zlz (hk s hs).1 t v)
      · exact zaO hm
    · refine wpIn_mono (zbf hC hpar assign (n+1) _ _ a1 W E1 (some l) (hP1.trans hP) (hOB1.trans hOB) (.inr hna) hd.1.1 ((h s hs).out.2 hl) hR1) fun e a' w' ⟨⟨xe,st',g1,g2,g3⟩,hag⟩=>⟨?_,hag⟩
      cases xe with
      | normal=>exact⟨.normal,st',g1,⟨rfl,g2⟩,g3⟩
      | exit id=>exact g2.elim
      | ret=>exact g2.elim
    · refine wpIn_mono (zbf hC hpar body (n+1+zcl assign) _ _ a1 W E1 (some l) (hP1.trans hP) (hOB1.trans hOB) (.inr hnb) hd.1.2 hB hR1) fun e a' w' ⟨⟨xe,st',g1,g2,g3⟩,hag⟩=>⟨?_,hag⟩
      cases xe with
      | normal=>exact⟨.normal,st',g1,Goal.out g2,g3⟩
      | exit id=>exact⟨.exit id,st',g1,g2,g3⟩
      | ret=>exact⟨.ret,st',g1,g2,g3⟩
  | .scope _,n,st,K,a,w,E,ro,hP,hOB,hro,_,h,hR=>h.elim
  | .goto _,n,st,K,a,w,E,ro,hP,hOB,hro,_,h,hR=>h.elim
  | .refuse _,n,st,K,a,w,E,ro,hP,hOB,hro,_,h,hR=>h.elim
end
end Go.Eng
set_option linter.all false
namespace Go.Eng
def zgv (tmps:Array Value):ResultVar→Sem Value
  | .tmp t=>pure (tmps.getD t undef)
  | .cell p t=>do loadVar t (←asAddr (tmps.getD p undef))
section
variable {E:Env} {a:Act} {w:World} {c:Cfg}
theorem zdx (hT:TblOk E.P c.tt) {η:Eta} {st:St} (H:∀f∈st,Fact.holds E η a w f) {r:ResultVar} {s:SV} (h:svOf c st r=some s) :
    ∃v,(zgv a.tmps r).run E.P w=.ok v w∧zai (vw E η w) η s v:=by
  cases r with
  | tmp t=>exact⟨_,rfl,zad H (x:=.tmp t) h⟩
  | cell p ty=>
    simp only[svOf] at h
    split at h
    case h_2=>cases h
    case h_1 k off hs=>
      obtain⟨b,cc,hk,hv⟩:=zad H (x:=.tmp p) hs
      have hv:a.tmps.getD p undef=.pointer (some ⟨b,off,none⟩):=hv
      split at h
      case h_2=>cases h
      case h_1 i hi=>
        have hI:=hT.rows ty i hi
        cases hag:i.kind.isAgg with
        | true=>
          rw[hag] at h
          simp only[cond_true] at h
          split at h
          · rename_i cs hcs
            simp only[Option.some.injEq] at h
            subst h
            obtain⟨vs,e1,e2,e3,_⟩:=zaT H hk i.size off cs hcs
            refine⟨.agg vs.toArray,?_,⟨vs,rfl,e1⟩⟩
            have:=zbw (w:=w) hI hag (a:=⟨b,off,none⟩) e2 (fun j v hj=>by rw[zaJ];exact e3 j v hj)
            simp[zgv,hv,asAddr,this]
          · cases h
        | false=>
          rw[hag] at h
          simp only[cond_false] at h
          split at h
          · rename_i u hu
            simp only[Option.some.injEq] at h
            subst h
            obtain⟨b',c',cur,el,v,_,q1,q2,q3,q4,q5⟩:=H _ (zaD hu)
            rw[hk] at q1
            simp only[Option.some.injEq,Prod.mk.injEq] at q1
            obtain⟨rfl,rfl⟩:=q1
            have:=zaY (w:=w) hI hag (a:=⟨b,off,none⟩) (v:=v) (by rw[zbE q2];exact q3)
            exact⟨v,by simp[zgv,hv,asAddr,this],q5⟩
          · cases h
theorem zi6 {V:View} {η:Eta} {s:SV} {t:Ty} {p:Prop} {x:t.Den} {v:Value} (h:zn8 s t=some (p,x)) (hp:p) (hs:zai V η s v):RepV V t x v:=by
  unfold zn8 at h
  split at h
  · split at h
    · rename_i ys hys
      simp only[Option.some.injEq,Prod.mk.injEq] at h
      obtain⟨rfl,rfl⟩:=h
      obtain⟨he,rfl⟩:=zaN hys
      injection he with he
      subst he
      obtain⟨l,h1,⟨h2,_⟩|⟨_,h2⟩⟩:=hs
      · cases h2
      · exact⟨l,Rep.sl_osl (by intro hn;rw[hn] at hp;simp at hp) h1,.inr ⟨rfl,h2⟩⟩
    · cases h
  · cases h
theorem zca (hT : TblOk E.P c.tt) {η:Eta} {st:St} {nt:Nat} (g:Good E nt η a w) (H:∀f∈st,Fact.holds E η a w f):∀(rs:List ResultVar) (cs:List RC) (q:Prop) (x:(zac cs).Den),zfI c st rs cs=some (q,x)→q→(zfU cs=true∨∀b,¬E.x.mw b)→
    ∃ (vs:List Value) (gb:Option Nat),(rs.mapM (zgv a.tmps)).run E.P w=.ok vs w∧(∀b,gb=some b→∃k n,η k=some (b,n))∧(zfU cs=true→gb=none)∧
      ∀V',(∀b c,vw E η w b c→V' b c)→zfg w V' E.w0.heap.size cs x vs gb
  | [],[],q,x,h,hq,_=>⟨[],none,by simp,fun _ h=>(by cases h),fun _=>rfl,fun _ _=>⟨rfl,rfl⟩⟩
  | [],_::_,q,x,h,hq,_=>by simp[zfI] at h
  | _::_,[],q,x,h,hq,_=>by simp[zfI] at h
  | r :: rs, rc :: cs, q, x,h,hq,hnw=>by
    cases rc with
    | mk o t =>
      cases o with
      | none =>
        simp only[zfI] at h
        split at h
        case h_2=>cases h
        case h_1 s hs=>
          split at h
          case h_2=>
            split at h
            case h_2=>cases h
            case h_1 p1 y hy=>
              split at h
              case h_2=>cases h
              case h_1 p z hz=>
                simp only[Option.some.injEq,Prod.mk.injEq] at h
                obtain⟨rfl,rfl⟩:=h
                obtain⟨v,e1,e2⟩:=zdx hT H hs
                obtain⟨vs,gb,e3,e4,e5,e6⟩:=zca hT g H rs cs _ z hz hq.2 (hnw.imp (fun h=>by simpa [zfU] using h) id)
                exact⟨v::vs,gb,by simp[List.mapM_cons,e1,e3],e4,fun hn=>e5 (by simpa [zfU] using hn),fun V' hV=>⟨v,vs,rfl,RepV.mono hV (zi6 hy hq.1 e2),e6 V' hV⟩⟩
          case h_1 y hy=>
            split at h
            case h_2=>cases h
            case h_1 p z hz=>
              simp only[Option.some.injEq,Prod.mk.injEq] at h
              obtain⟨rfl,rfl⟩:=h
              obtain⟨v,e1,e2⟩:=zdx hT H hs
              obtain⟨vs,gb,e3,e4,e5,e6⟩:=zca hT g H rs cs _ z hz hq (hnw.imp (fun h=>by simpa [zfU] using h) id)
              exact⟨v::vs,gb,by simp[List.mapM_cons,e1,e3],e4,fun hn=>e5 (by simpa [zfU] using hn),fun V' hV=>⟨v,vs,rfl,RepV.mono hV (SV.den_sound hy e2),e6 V' hV⟩⟩
      | some el =>
        cases t
        case sl e =>
          simp only[zfI] at h
          cases hno:zfU cs with
          | false=>rw[hno] at h;simp at h
          | true =>
            rw[hno] at h
            simp only[cond_true] at h
            split at h
            · rename_i k n hs
              split at h
              case h_2=>cases h
              case h_1 r' hr'=>
                cases hel:Nat.beq r'.el el with
                | false=>rw[hel] at h;simp at h
                | true =>
                  rw[hel] at h
                  simp only[cond_true] at h
                  split at h
                  case h_2=>cases h
                  case h_1 xs hxs=>
                    split at h
                    case h_2=>cases h
                    case h_1 p z hz=>
                      simp only[Option.some.injEq,Prod.mk.injEq] at h
                      obtain⟨rfl,rfl⟩:=h
                      obtain⟨hq1,hq2⟩:=hq
                      obtain⟨v,e1,e2⟩:=zdx hT H hs
                      obtain⟨vs,gb,e3,e4,e5,e6⟩:=zca hT g H rs cs _ z hz hq1 (.inl hno)
                      have hgb:=e5 hno
                      subst hgb
                      have hrow:=H _ (zav hr')
                      obtain⟨hty,hz'⟩:=zaN hxs
                      injection hty with hty
                      obtain⟨rel,re,rxs⟩:=r'
                      simp only at hty hz' hel hrow
                      subst hty
                      simp only at hz'
                      subst hz'
                      have hel':=Nat.eq_of_beq_eq_true hel
                      subst hel'
                      rcases e2 with ⟨k1,k2,rfl⟩|⟨b,cc,k1,rfl,k3⟩
                      · have hnil:xs=[]:=List.eq_nil_of_length_eq_zero (by omega)
                        exact⟨.slice none 0 0::vs,none,by simp[List.mapM_cons,e1,e3],fun _ h=>(by cases h),fun _=>rfl,fun V' hV=>⟨_,vs,rfl,e6 V' hV,.inl ⟨hnil,rfl,rfl⟩⟩⟩
                      · rcases hrow with ⟨g1,_⟩|⟨b',c',cur,q0,q1,q2,q3⟩
                        · rw[k1] at g1;cases g1
                        · rw[k1] at q1
                          simp only[Option.some.injEq,Prod.mk.injEq] at q1
                          obtain⟨rfl,rfl⟩:=q1
                          refine⟨.slice (some ⟨b,0,none⟩) n cc::vs,some b,by simp[List.mapM_cons,e1,e3],fun b' hb'=>⟨k,cc,by simp at hb';rw[←hb'];exact k1⟩,fun hn=>by simp[zfU] at hn,fun V' hV=>⟨_,vs,rfl,e6 V' hV,.inr ⟨b,cc,cur,rfl,by rw[hq2],q0.elim id (fun hw=>absurd hw (hnw.elim (fun h=>by simp[zfU] at h) fun h=>h b)),q2,q3.mono hV⟩⟩⟩
            · rename_i y hs
              cases hy:zah y with
              | false=>rw[hy] at h;simp at h
              | true=>
                rw[hy] at h
                simp only[cond_true] at h
                split at h
                case h_2=>cases h
                case h_1 p z hz=>
                  simp only[Option.some.injEq,Prod.mk.injEq] at h
                  obtain⟨rfl,rfl⟩:=h
                  obtain⟨v,e1,e2⟩:=zdx hT H hs
                  obtain⟨vs,gb,e3,e4,e5,e6⟩:=zca hT g H rs cs _ z hz hq (.inl hno)
                  have hgb:=e5 hno
                  subst hgb
                  have hv:v=.slice none 0 0:=by rw[←zar hy];exact e2
                  subst hv
                  exact⟨.slice none 0 0::vs,none,by simp[List.mapM_cons,e1,e3],fun _ h=>(by cases h),fun _=>rfl,fun V' hV=>⟨_,vs,rfl,e6 V' hV,.inl ⟨rfl,rfl,rfl⟩⟩⟩
            · cases h
        all_goals simp[zfI] at h
theorem zcO {P:Program} {fn:Func} {tmps:Array Value} {vs:List Value} (h:(fn.results.toList.mapM (zgv tmps)).run P w=.ok vs w):(results fn tmps).run P w=.ok (zcw vs) w:=by
  have hr:results fn tmps=(do let vs ←fn.results.mapM (zgv tmps);pure (if h:vs.size=1 then vs[0] else .tuple vs)):=rfl
  rw[hr,Array.mapM_eq_mapM_toList]
  simp only[Sem.run_bind,Sem.run_map,h,Result.andThen_ok,Sem.run_pure]
  match vs with
  | []=>rfl
  | [v]=>rfl
  | v::u::l=>simp[zcw]
def zbj:(ps:List Pat)→List Value→Nat→List (Nat×Nat)
  | .gl _ _::r,vs,i=>zbj r vs i
  | .gw _ _::r,vs,i=>zbj r vs i
  | .ob _::r,.pointer (some ad)::vs,i=>(50000+i,ad.block)::zbj r vs (i+1)
  | _::r,_::vs,i=>zbj r vs (i+1)
  | _,_,_=>[]
def zby:List Pat→Nat
  | []=>0
  | .ob _::r=>zby r+1
  | _::r=>zby r
def zl3:List (Nat×Nat)→Eta
  | [],_=>none
  | p::r,k=>if k=p.1 then some (p.2,0) else zl3 r k
theorem zgj {V:View} {η:Eta} {t:Ty} {x:t.Den} {v:Value} (h:RepV V t x v):zaK V η (zoB t x) v:=by
  unfold zoB
  split
  · obtain ⟨l,⟨ad,c,h1,h2⟩,⟨h3,_⟩|⟨_,h3⟩⟩:=h
    · cases h3
    · rw[h1] at h3
      exact⟨ad,c,by simpa using h3.symm,h2⟩
  · obtain ⟨l,h1,⟨h3,_⟩|⟨_,h3⟩⟩:=h
    · cases h3
    · have h1:l=_:=h1
      rw[h1] at h3
      exact (List.cons.inj h3).1.symm
  · exact h
theorem zb5 {P:Program} {OB:Nat→Obj→Prop} {M:Nat→Prop} (hP:E.P=P) (hOB:E.OB=OB) (hM:∀b,E.Mp b→M b) (hw:E.w0=w) {η:Eta} (hη:∀k b n,η k=some (b,n)→M b) :
    ∀ (ps:List Pat) (x:(zab ps).Den) (vs:List Value) (bs:List Nat) (i:Nat),zcI OB w M ps x vs bs→i+ps.length≤1000000→(∀j v,vs[j]?=some v→a.tmps.getD (i+j) undef=v)→
      (∀k b,(k,b)∈zbj ps vs i→η k=some (b,0))→∀f∈zaQ ps x i,Fact.holds E η a w f
  | [],x,vs,bs,i,_,_,_,_,f,hf=>by simp[zaQ] at hf
  | .gl g t::r,x,vs,bs,i,h,hl,hv,hk,f,hf=>by
    obtain⟨h1,h2⟩:=h
    simp only[zaQ,List.mem_cons] at hf
    rcases hf with rfl|hf
    · simp only[Fact.holds]
      rw[zfy]
      exact zgj (η:=η) (t:=.ptr t) (RepV.mono (fun b c ⟨k1,k2⟩=>⟨fun hm=>k1 (hM b hm),fun k n hk'=>k1 (hη k b n hk'),k2⟩) h1)
    · exact zb5 hP hOB hM hw hη r x.2 vs bs i h2 (by simp only[List.length_cons] at hl;omega) hv (fun k b hb=>hk k b (by simpa [zbj] using hb)) f hf
  | .gw g t::r,x,vs,bs,i,h,hl,hv,hk,f,hf=>by
    obtain⟨⟨c,el,f',e1,e2,e3,e4⟩,h2⟩:=h
    simp only[zaQ,List.mem_cons] at hf
    rcases hf with rfl|hf
    · simp only[Fact.holds]
      rw[zfy]
      exact⟨g,c,rfl,⟨fun hm=>e2 (hM g hm),fun k n hk'=>e2 (hη k g n hk'),el,f',e1⟩,e3,Rep.mono (fun b c ⟨k1,k2⟩=>⟨fun hm=>k1 (hM b hm),fun k n hk'=>k1 (hη k b n hk'),k2⟩) _ _ _ e4⟩
    · exact zb5 hP hOB hM hw hη r x.2 vs bs i h2 (by simp only[List.length_cons] at hl;omega) hv (fun k b hb=>hk k b (by simpa [zbj] using hb)) f hf
  | .dat t::r,x,vs,bs,i,h,hl,hv,hk,f,hf=>by
    obtain⟨v,vs',rfl,h1,h2⟩:=h
    have hl':i+1+r.length≤1000000:=by simp only[List.length_cons] at hl;omega
    simp only[zaQ,List.mem_cons] at hf
    rcases hf with rfl|hf
    · have:=hv 0 v (by simp)
      simp only[Nat.add_zero] at this
      simp only[Fact.holds,zbv (show i<1000000 by omega),this]
      exact zgj (RepV.mono (fun b c ⟨k1,k2⟩=>⟨fun hm=>k1 (hM b hm),fun k n hk'=>k1 (hη k b n hk'),k2⟩) h1)
    · exact zb5 hP hOB hM hw hη r x.2 vs' bs (i+1) h2 hl' (fun j u hu=>by rw[show i+1+j=i+(j+1) from by omega];exact hv (j+1) u (by simpa using hu)) (fun k b hb=>hk k b (by simpa [zbj] using hb)) f hf
  | .lit y::r,x,vs,bs,i,h,hl,hv,hk,f,hf=>by
    obtain⟨vs',rfl,h2⟩:=h
    have hl':i+1+r.length≤1000000:=by simp only[List.length_cons] at hl;omega
    simp only[zaQ,List.mem_cons] at hf
    rcases hf with rfl|hf
    · have:=hv 0 y (by simp)
      simp only[Nat.add_zero] at this
      simp only[Fact.holds,zbv (show i<1000000 by omega)]
      exact this
    · exact zb5 hP hOB hM hw hη r x vs' bs (i+1) h2 hl' (fun j u hu=>by rw[show i+1+j=i+(j+1) from by omega];exact hv (j+1) u (by simpa using hu)) (fun k b hb=>hk k b (by simpa [zbj] using hb)) f hf
  | .ob q::r,x,vs,bs,i,h,hl,hv,hk,f,hf=>by
    obtain⟨b,o,vs',bs',rfl,rfl,h1,h2,h3,h4⟩:=h
    have hl':i+1+r.length≤1000000:=by simp only[List.length_cons] at hl;omega
    have hkey:η (50000+i)=some (b,0):=hk _ _ (by simp[zbj])
    simp only[zaQ,List.mem_cons] at hf
    rcases hf with rfl|rfl|hf
    · have:=hv 0 (.pointer (some ⟨b,0,none⟩)) (by simp)
      simp only[Nat.add_zero] at this
      simp only[Fact.holds,zbv (show i<1000000 by omega)]
      exact⟨b,0,hkey,this⟩
    · exact⟨b,0,o,hkey,h2,by rw[hOB];exact h3⟩
    · exact zb5 hP hOB hM hw hη r x vs' bs' (i+1) h4 hl' (fun j u hu=>by rw[show i+1+j=i+(j+1) from by omega];exact hv (j+1) u (by simpa using hu)) (fun k b hb=>hk k b (by simp[zbj,hb])) f hf
theorem zb3 {OB:Nat→Obj→Prop} {M:Nat→Prop}:∀(ps:List Pat) (x:(zab ps).Den) (vs:List Value) (bs:List Nat) (i:Nat),zcI OB w M ps x vs bs→
    (zbj ps vs i).map (·.2)=bs∧(zbj ps vs i).length=zby ps∧vs.length≤ps.length∧(∀b∈bs,M b∧b<w.heap.size)
  | [],x,vs,bs,i,h=>by obtain⟨rfl,rfl⟩:=h;simp[zbj,zby]
  | .gl g t::r,x,vs,bs,i,h=>by
    obtain⟨h1,h2⟩:=h
    obtain⟨e1,e2,e3,e4⟩:=zb3 r x.2 vs bs i h2
    exact⟨by simpa [zbj] using e1,by simpa [zbj,zby] using e2,by simp only[List.length_cons];omega,e4⟩
  | .gw g t::r,x,vs,bs,i,h=>by
    obtain⟨h1,h2⟩:=h
    obtain⟨e1,e2,e3,e4⟩:=zb3 r x.2 vs bs i h2
    exact⟨by simpa [zbj] using e1,by simpa [zbj,zby] using e2,by simp only[List.length_cons];omega,e4⟩
  | .dat t::r,x,vs,bs,i,h=>by
    obtain⟨v,vs',rfl,h1,h2⟩:=h
    obtain⟨e1,e2,e3,e4⟩:=zb3 r x.2 vs' bs (i+1) h2
    exact⟨by simpa [zbj] using e1,by simpa [zbj,zby] using e2,by simp[e3],e4⟩
  | .lit y::r,x,vs,bs,i,h=>by
    obtain⟨vs',rfl,h2⟩:=h
    obtain⟨e1,e2,e3,e4⟩:=zb3 r x vs' bs (i+1) h2
    exact⟨by simpa [zbj] using e1,by simpa [zbj,zby] using e2,by simp[e3],e4⟩
  | .ob q::r,x,vs,bs,i,h=>by
    obtain⟨b,o,vs',bs',rfl,rfl,h1,h2,h3,h4⟩:=h
    obtain⟨e1,e2,e3,e4⟩:=zb3 r x vs' bs' (i+1) h4
    refine⟨by simp[zbj,e1],by simp[zbj,zby,e2],by simp[e3],fun b' hb'=>?_⟩
    rcases List.mem_cons.1 hb' with rfl|hb'
    · exact⟨h1,zaf h2⟩
    · exact e4 b' hb'
theorem zkN {st:St} {nt:Nat} {η:Eta} (hpn:E.pins=[]) (g:Good E nt η a w) (H:∀f∈st,Fact.holds E η a w f) {D:Nat} {ms:List Nat} (hd:a.defers=mkD D::ms.map mkD) (hn:(D::ms).Nodup)
    (hm:∀D'∈D::ms,E.w0.heap.size≤D'∧w.heap[D']?=some (.deferred (some []))∧∀k c,η k≠some (D',c)) :
    Good E nt η {a with defers:=ms.map mkD} (w.putObj D (.deferred none))∧∀f∈st,Fact.holds E η {a with defers:=ms.map mkD} (w.putObj D (.deferred none)) f:=by
  obtain⟨q1,q2,q3⟩:=hm D List.mem_cons_self
  have hother:∀b o,w.heap[b]?=some o→b≠D→(w.putObj D (.deferred none)).heap[b]?=some o:=fun b o h hb=>(World.putObj_heap_other hb).trans h
  have hsz:(w.putObj D (.deferred none)).heap.size=w.heap.size:=by simp[World.putObj]
  have g':Good E nt η {a with defers:=ms.map mkD} (w.putObj D (.deferred none)):={
    size:=g.size
    lim:=g.lim
    defers:=⟨⟨ms,rfl,(List.nodup_cons.1 hn).2,fun D' hD'=>by
      obtain⟨p1,p2,p3⟩:=hm D' (List.mem_cons_of_mem _ hD')
      exact⟨p1,hother D' _ p2 (fun e=>(List.nodup_cons.1 hn).1 (e▸hD')),p3⟩⟩,fun p hp=>by rw[hpn] at hp;cases hp⟩
    os:=g.os,tape:=g.tape,output:=g.output
    nd:=fun h=>by have:=g.nd h;rw[hd] at this;cases this
    grow:=by rw[hsz];exact g.grow
    dis:=g.dis
    keep:=fun b hb hm' hw=>(World.putObj_heap_other (by omega)).trans (g.keep b hb hm' hw)
    own:=fun k b c h=>by rw[hsz];exact g.own k b c h
    inj:=g.inj,old:=g.old
    obkeep:=fun b i o hb hm' h1 h2=>by
      obtain⟨o',h3,h4⟩:=g.obkeep b i o hb hm' h1 h2
      exact⟨o',hother b o' h3 (by omega),h4⟩}
  have hne:∀k b c,η k=some (b,c)→b≠D:=fun k b c h e=>q3 k c (e▸h)
  have hK:Keeps E η η a {a with defers:=ms.map mkD} w (w.putObj D (.deferred none)) {}:=
    ⟨fun b c ⟨h1,h2,el,f,h3⟩=>⟨h1,h2,el,f,hother b _ h3 (fun e=>by rw[e,q2] at h3;cases h3)⟩,fun _ _=>rfl,fun _ _=>rfl,
      fun k off b c cur el v _ _ _ _ h4 h5 h6=>⟨cur,hother b _ h5 (hne k b c h4),h6⟩,fun k b c cur el _ _ _ _ h4 h5=>hother b _ h5 (hne k b c h4),fun k i b c o _ _ _ h4 h5 h6=>⟨o,hother b _ h5 (hne k b c h4),h6⟩⟩
  refine⟨g',fun f hf=>hK.fact ?_ (H f hf)⟩
  have z1:∀s:S1,s.ment []=false:=zbG
  have zl:∀l:List S1,anyS (S1.ment []) l=false:=zc7
  cases f with
  | slot t s=>cases s<;>simp[Kill.surv,memN,SV.ment,z1,zl]
  | cell k off s=>simp[Kill.surv,memN,memC,z1]
  | row k el e xs=>simp[Kill.surv,memN]
  | ob k i=>simp[Kill.surv,memN]
  | fix k=>simp[Kill.surv,memN]
theorem zjZ {P:Program} {OB:Nat→Obj→Prop} (hC:CfgOk P OB c) {par:Array Oper→St→(St→Prop)→Prop} (hpar:zmq P OB c par) {f:Nat} {fn:Func} {body:Code} {rs:List ResultVar} {sp:Spec}
    (hf:P.funcs[f]?=some fn) (hb:fn.body=some body) (hnt:fn.ntmps=c.nt) (hps:sp.pats.length≤c.nt) (hlim:c.nt≤1000000) (hob:zby sp.pats≤1) (hrs:fn.results.toList=rs) (hd:zc3 c.nt body=true)
    (anns:(zab sp.pats).Den→List (St→LoopAnn)) (h:∀x,sp.pre x→ziJ c par (anns x) rs body sp x):zoJ P OB f sp:=by
  intro w M x vs bs hM hA hpre
  obtain⟨o1,o2,o3,o4⟩:=zb3 sp.pats x vs bs 0 hA
  let E:Env:={P:=P,M:=M,mu:=fun b=>b∈bs,w0:=w,OB:=OB}
  refine callsIn_wide.1 (callsIn_of_wp_marks (F:=Fence.wide) (n:=0) hf hb trivial ?_)
  have hsz:(vs.toArray++Array.replicate (fn.ntmps - vs.toArray.size) undef).size=c.nt:=by
    simp;omega
  have hR : RelS E c.nt (zaQ sp.pats x 0) {tmps:=vs.toArray++Array.replicate (fn.ntmps - vs.toArray.size) undef,defers:=[]} w:=by
    have hη:∀k b n,zl3 (zbj sp.pats vs 0) k=some (b,n)→(k,b)∈zbj sp.pats vs 0∧n=0:=by
      intro k b n
      generalize zbj sp.pats vs 0=l
      induction l with
      | nil=>intro h;cases h
      | cons p r ih=>
        intro h
        simp only[zl3] at h
        split at h
        · rename_i hk
          simp only[Option.some.injEq,Prod.mk.injEq] at h
          obtain⟨rfl,rfl⟩:=h
          subst hk
          exact⟨List.mem_cons_self,rfl⟩
        · obtain⟨h1,h2⟩:=ih h
          exact⟨List.mem_cons_of_mem _ h1,h2⟩
    have hbs:∀k b,(k,b)∈zbj sp.pats vs 0→b∈bs:=fun k b hkb=>by rw[←o1];exact List.mem_map.2 ⟨_,hkb,rfl⟩
    refine⟨zl3 (zbj sp.pats vs 0),?_,?_⟩
    · exact {
        size:=hsz,lim:=hlim,defers:=⟨⟨[],rfl,List.nodup_nil,fun _ h=>by cases h⟩,fun _ h=>by cases h⟩,os:=rfl,tape:=rfl,output:=rfl,grow:=Nat.le_refl _,keep:=fun _ _ _ _=>rfl,
        own:=fun k b n hk=>⟨(o4 b (hbs k b (hη k b n hk).1)).2,.inr (hbs k b (hη k b n hk).1)⟩,
        dis:=fun b hb h=>h.elim (fun h=>absurd (o4 b hb).2 (Nat.not_lt_of_le h)) id,
        inj := fun k k' b n n' hk hk'=>by
          have h1:=(hη k b n hk).1
          have h2:=(hη k' b n' hk').1
          have hl:(zbj sp.pats vs 0).length≤1:=by omega
          match hobs:zbj sp.pats vs 0,hl with
          | [],_=>rw[hobs] at h1;cases h1
          | [p],_=>
            rw[hobs] at h1 h2
            simp only[List.mem_singleton] at h1 h2
            rw[←h2] at h1
            simpa using h1
        old:=fun b hb h=>h.elim (fun h=>absurd (hM b hb) (Nat.not_lt_of_le h)) id,obkeep:=fun b i o _ _ h1 h2=>⟨o,h1,h2⟩}
    · refine zb5 rfl rfl (fun b h=>h.elim id fun⟨_,h⟩=>by cases h) rfl (fun k b n hk=>(o4 b (hbs k b (hη k b n hk).1)).1) sp.pats x vs bs 0 hA (by omega) (fun j v hj=>?_) (fun k b hkb=>?_)
      · simp only[Nat.zero_add]
        have hjl:=(List.getElem?_eq_some_iff.1 hj).1
        simp only[Array.getD_eq_getD_getElem?]
        rw[Array.getElem?_append_left (by simpa using hjl)]
        simp[hj]
      · have hl:(zbj sp.pats vs 0).length≤1:=by omega
        match hobs:zbj sp.pats vs 0,hl with
        | [],_=>rw[hobs] at hkb;cases hkb
        | [p],_=>
          rw[hobs] at hkb
          simp only[List.mem_singleton] at hkb
          subst hkb
          simp[zl3]
  have hCE:CfgOk E.P E.OB c:=hC
  refine wpIn_mono (zbf hC hpar body 0 _ _ _ w E none rfl rfl (.inl ⟨rfl,rfl⟩) hd (h x hpre) hR) fun e a' w' ⟨⟨xe,st',e1,e2,e3⟩,_⟩=>?_
  subst e1
  have leave:∀(R:Ending→World→Prop) (st1:St) (η:Eta) (tmps:Array Value),(∀a1 w1,a1.tmps=tmps→Good E c.nt η a1 w1→(∀f∈st1,Fact.holds E η a1 w1 f)→∃v,(results fn tmps).run P w1=.ok v w1∧R (.returned v) w1)→
      ∀(ms:List Nat) (a1:Act) (w1:World),a1.tmps=tmps→a1.defers=ms.map mkD→ms.Nodup→(∀D∈ms,E.w0.heap.size≤D∧w1.heap[D]?=some (.deferred (some []))∧∀k c,η k≠some (D,c))→
      Good E c.nt η a1 w1→(∀f∈st1,Fact.holds E η a1 w1 f)→LeavesInM Fence.wide 0 P fn tmps R a1.defers .returning w1:=by
    intro R st1 η tmps hfin ms
    induction ms with
    | nil=>
      intro a1 w1 ht hd1 _ _ g H
      rw[hd1]
      exact hfin a1 w1 ht g H
    | cons D ms ih=>
      intro a1 w1 ht hd1 hn hm g H
      have ht2:=zkN rfl g H (by rw[hd1];rfl) hn hm
      rw[hd1]
      refine⟨by simp,.inl ⟨D,_,rfl,run_takeDeferred (hm D List.mem_cons_self).2.1,?_⟩⟩
      refine ih {a1 with defers:=ms.map mkD} _ ht rfl (List.nodup_cons.1 hn).2 (fun D' hD'=>?_) ht2.1 ht2.2
      obtain⟨p1,p2,p3⟩:=hm D' (List.mem_cons_of_mem _ hD')
      have hne:D'≠D:=fun e=>(List.nodup_cons.1 hn).1 (by rw[←e];exact hD')
      exact⟨p1,(World.putObj_heap_other hne).trans p2,p3⟩
  have fin : ∀st',zn1 c rs sp.res (sp.f x) st'→RelS E c.nt st' a' w'→LeavesInM Fence.wide 0 P fn a'.tmps (fun e w'=>∃rs g,e=.returned (zcw rs)∧CPost OB w w' bs∧
      zfg w' (fun b c=>¬M b∧g≠some b∧∃el f,w'.heap[b]?=some (.cells c el f)) w.heap.size sp.res (sp.f x) rs g) a'.defers .returning w':=by
    intro st' hr hR
    unfold zn1 at hr
    split at hr
    case h_2=>exact hr.elim
    case h_1 p st1 hfz=>
      split at hr
      case h_2=>exact hr.elim
      case h_1 q y hq=>
        obtain⟨r1,hr⟩:=OP.andK_out hr
        obtain⟨r2,r3⟩:=hr.out
        have r3:=zem _ _ _ r3
        obtain⟨η,g,H⟩:=zck (rs:=rs) (cs:=sp.res) (zbh hfz r1 hR)
        obtain⟨⟨ms,m1,m2,m3⟩,_⟩:=g.defers
        refine leave _ _ η a'.tmps (fun a1 w1 ht g H=>?_) ms a' w' rfl m1 m2 m3 g H
        obtain⟨vs',gb,k1,k2,k3,k4⟩:=zca hCE.tbl g H rs sp.res q y hq r2 (.inr fun _ h=>h)
        rw[r3] at k4
        rw[←hrs,ht] at k1
        refine⟨_,zcO k1,vs',gb,rfl,?_,k4 _ (fun b c ⟨m1,m2,m3⟩=>⟨fun hm=>m1 (.inl hm),fun hg=>?_,m3⟩)⟩
        · exact {os:=g.os,tape:=g.tape,output:=g.output,size:=g.grow,keep:=fun b hb hn=>g.keep b hb hn (fun h=>h),obk:=fun b hb i o h1 h2=>g.obkeep b i o (o4 b hb).2 hb h1 h2}
        · obtain⟨k,n,hk⟩:=k2 b hg
          exact m2 k n hk
  cases xe with
  | normal=>exact fin st' e2 e3
  | exit id=>exact e2.elim
  | ret=>exact fin st' e2 e3
end
end Go.Eng
set_option linter.all false
namespace Go.Eng
def zhy:List (Nat×Nat)→(List (Nat×Nat)→Prop)→Prop
  | [],K=>K []
  | (a,b)::r,K=>zce a fun a'=>zce b fun b'=>zhy r fun r'=>K ((a',b')::r')
def zdn (k:Kill) (K:Kill→Prop):Prop:=
  zbC k.slots fun a=>zbC k.keys fun b=>zhy k.cells fun c=>zbC k.rows fun d=>zbC k.allof fun e=>zbC k.cont fun f=>
    K {slots:=a,keys:=b,cells:=c,rows:=d,allof:=e,cont:=f}
def zhx:List Kill→(List Kill→Prop)→Prop
  | [],K=>K []
  | k::r,K=>zdn k fun k'=>zhx r fun r'=>K (k'::r')
theorem zeQ:∀(l:List (Nat×Nat)) (K:List (Nat×Nat)→Prop),zhy l K=K l
  | [],K=>rfl
  | (a,b)::r,K=>by simp only[zhy,zbz,zeQ r]
theorem zgN:∀(l:List Kill) (K:List Kill→Prop),zhx l K=K l
  | [],K=>rfl
  | k::r,K=>by simp only[zhx,zdn,zb6,zeQ,zgN r]
structure PF where
  src:Nat
  kill:Nat
  f:Fact
def zcc (f:Fact):Nat→Nat→List Kill→Nat
  | acc,_,[]=>acc
  | acc,b,K::r=>bif K.surv f then zcc f acc (2*b) r else zcc f (Nat.lor acc b) (2*b) r
def zbr (bef naft:Nat):List PF→St
  | []=>[]
  | ⟨src,kill,f⟩::r=>bif Nat.beq (Nat.land src bef) src&&Nat.beq (Nat.land kill naft) 0 then f::zbr bef naft r else zbr bef naft r
def zcm (bi:Nat):Nat→List Nat→Nat
  | _,[]=>0
  | b,m::r=>bif Nat.beq b bi || !Nat.beq (Nat.land m bi) 0 then zcm bi (2*b) r else Nat.lor b (zcm bi (2*b) r)
def zek (bl ml:Nat):Nat→List Nat→Nat
  | _,[]=>0
  | b,_::r=>bif Nat.beq b bl || !Nat.beq (Nat.land ml b) 0 then zek bl ml (2*b) r else Nat.lor b (zek bl ml (2*b) r)
def tagK (ks:List Kill) (src excl:Nat):St→List PF→(List PF→Prop)→Prop
  | [],acc,K=>K acc
  | f::r,acc,K=>zce (zcc f 0 1 ks) fun q=>zce (Nat.land q excl) fun m=>tagK ks src excl r (⟨src,m,f⟩::acc) K
def tag0 (ks:List Kill):St→(List PF→Prop)→Prop
  | [],K=>K []
  | f::r,K=>zce (zcc f 0 1 ks) fun m=>tag0 ks r fun acc=>K (⟨0,m,f⟩::acc)
def subN:List Nat→List Nat→Bool
  | [],_=>true
  | n::r,l=>memN n l&&subN r l
def subC:List (Nat×Nat)→List (Nat×Nat)→Bool
  | [],_=>true
  | n::r,l=>memC n.1 n.2 l&&subC r l
def zfA (K K':Kill):Bool:=
  subN K.slots K'.slots&&subN K.keys K'.keys&&subC K.cells K'.cells&&subN K.rows K'.rows&&subN K.allof K'.allof&&subN K.cont K'.cont
def zf3:List Nat→Res→Option Res
  | [],r=>some r
  | k :: l,r=>bif memN k r.kill.keys then (match zfa k r.add with
      | some (p,add)=>zf3 l {ob:=some (r.ob.hold∧Frz p),add:=add,kill:=r.kill}
      | none=>zf3 l r) else zf3 l r
def zh7 (c:Cfg) (need:List Nat) (Ki:Kill) (o:Oper) (M:St) (K:St→Prop):Prop:=
  match zdS c M o with
  | some r=>match zf3 need r with
    | some r'=>bif zfA r'.kill Ki then r'.ob.andK (zbP r'.add K) else False
    | none=>False
  | none=>False
def zhP (c:Cfg) (Ki:Kill) (d:Option Nat) (K:St→Prop):Prop:=
  match d with
  | none=>K []
  | some d=>bif Nat.blt d c.nt&&memN d Ki.slots then K [.slot d (.one (.v (.tuple #[])))] else False
def zgP (t:Nat):List PF→Option (Nat×Nat×Bool)
  | []=>none
  | p::r=>match p with
    | ⟨src,kill,.slot t' (.one (.d .bool x))⟩=>bif Nat.beq t' t then some (src,kill,x) else zgP t r
    | _=>zgP t r
def zmY:GV→Bool
  | .yes=>true
  | _=>false
def isNo:GV→Bool
  | .no=>true
  | _=>false
def zdM (c : Cfg) (ops:Array Oper) (need:List Nat) (befs:List Nat) (ks:List Kill):List Oper→List Nat→List Kill→Nat→List PF→(List PF→Prop)→Prop
  | [],_,_,_,acc,K=>K acc
  | o :: r, m::ms,Ki::kr,b,acc,K=>
    zce (zcm b 1 befs) fun na=>zce (zek b m 1 befs) fun ex=>
    let cont:=fun acc add=>tagK ks b ex add acc fun acc'=>zce (2*b) fun b'=>zdM c ops need befs ks r ms kr b' acc' K
    match zao c ops (zbr m na acc) o with
    | .yes=>zbP (zbr m na acc) fun M=>zh7 c need Ki o M (cont acc)
    | .no=>zhP c Ki o.dst (cont acc)
    | .open_ t _=>match zgP t acc with
      | some (src,kill,x)=>
        let acc1:=⟨src,kill,.slot t (.one (.lb (zaa o)))⟩::acc
        let acc2:=⟨src,kill,.slot t (.one (.lb (!zaa o)))⟩::acc
        bif zmY (zao c ops (zbr m na acc1) o)&&isNo (zao c ops (zbr m na acc2) o) then
          both (x=zaa o→zbP (zbr m na acc1) fun M=>zh7 c need Ki o M (cont acc1))
            (x=(!zaa o)→zhP c Ki o.dst (cont acc2))
        else False
      | none=>False
    | .bad=>False
  | _,_,_,_,_,_=>False
/-! ### The tables, laid out ahead -/
def zb1 (tbl:List Nat):List Edge→Nat
  | []=>0
  | e::r=>bif Region.binds .any e then Nat.lor (Nat.lor (Nat.pow 2 e.on) (match nth tbl e.on with|some m=>m|none=>0)) (zb1 tbl r) else zb1 tbl r
def zmO:List Oper→List Nat→(List Nat→Prop)→Prop
  | [],tbl,K=>K tbl
  | o::r,tbl,K=>zce (zb1 tbl o.after.toList) fun m=>zbC (tbl++[m]) fun tbl'=>zmO r tbl' K
def zhG (i:Nat):List Edge→Bool
  | []=>true
  | e::r=>(bif Region.binds .any e then Nat.blt e.on i else true)&&zhG i r
def zfd (all:List Nat):List Oper→List Nat→Nat→Bool
  | [],[],_=>true
  | o::r,m::ms,i=>Nat.beq m (zb1 all o.after.toList)&&zhG i o.after.toList&&zfd all r ms (i+1)
  | _,_,_=>false
def zf2 (c:Cfg) (ops:Array Oper):List Oper→St→List Kill→List Nat→(List Kill→List Nat→Prop)→Prop
  | [],_,ks,need,K=>zhx ks.reverse fun ks'=>K ks' need
  | o :: r,st,ks,need,K=>
    let run:=fun (st:St)=>
      match zcv (zee c st o) st with
      | some (_,st1)=>match zdS c st1 o with
        | some q=>zbP (after st1 q) fun st'=>zdn q.kill fun k=>zbC (zee c st o++need) fun need'=>zf2 c ops r st' (k::ks) need' K
        | none=>False
      | none=>False
    match zao c ops st o with
    | .yes=>run st
    | .no=>zbP (zfu o.dst st) fun st'=>zf2 c ops r st' ((match o.dst with|some d=>{slots:=[d]} | none=>{})::ks) need K
    | .open_ _ _=>run st
    | .bad=>False
def ziu:List PF→St
  | []=>[]
  | ⟨_,kill,f⟩::r=>bif Nat.beq kill 0 then f::ziu r else ziu r
def par (c:Cfg) (ops:Array Oper) (st:St) (K:St→Prop):Prop:=
  zmO ops.toList [] fun befs=>
    bif zfd befs ops.toList befs 0 then
      zf2 c ops ops.toList st [] [] fun ks need=>
        match zcv need st with
        | some (p,st1)=>p.andK (zbP st1 fun st2=>tag0 ks st2 fun acc=>zdM c ops need befs ks ops.toList befs ks 1 acc fun acc'=>zbP (ziu acc') K)
        | none=>False
    else False
end Go.Eng
set_option linter.all false
namespace Go.Eng
/-! ### Bits -/
theorem zig {m i:Nat} (h:m.testBit i=false):Nat.land m (2 ^ i)=0:=by
  apply Nat.eq_of_testBit_eq
  intro j
  have:=Nat.testBit_and m (2 ^ i) j
  change (Nat.land m (2 ^ i)).testBit j=_ at this
  rw[this,Nat.testBit_two_pow]
  by_cases hj:i=j
  · subst hj;simp[h]
  · simp[hj]
theorem zhs {s m l:Nat} (hs:s=2 ^ l) (h:Nat.beq (Nat.land s m) s=true):m.testBit l=true:=by
  have h:=Nat.eq_of_beq_eq_true h
  have h1:=Nat.testBit_and s m l
  change (Nat.land s m).testBit l=_ at h1
  rw[h,hs,Nat.testBit_two_pow_self] at h1
  simpa using h1.symm
theorem zhr {s m k:Nat} (h:Nat.beq (Nat.land s m) 0=true) (hm:m.testBit k=true):s.testBit k=false:=by
  have h:=Nat.eq_of_beq_eq_true h
  have h1:=Nat.testBit_and s m k
  change (Nat.land s m).testBit k=_ at h1
  rw[h,hm,Nat.zero_testBit] at h1
  simpa using h1.symm
theorem zdY (a b k:Nat):(Nat.lor a b).testBit k=(a.testBit k || b.testBit k):=Nat.testBit_or a b k
theorem zmV (a b k:Nat):(Nat.land a b).testBit k=(a.testBit k&&b.testBit k):=Nat.testBit_and a b k
theorem zcJ (j:Nat):2*2 ^ j=2 ^ (j+1):=by rw[Nat.pow_succ,Nat.mul_comm]
theorem zhh {a b:Nat} (h:2 ^ a=2 ^ b):a=b:=by
  have h1:(2 ^ b).testBit a=true:=by rw[←h];exact Nat.testBit_two_pow_self
  rw[Nat.testBit_two_pow] at h1
  exact (of_decide_eq_true h1).symm
theorem zmh {a b:Nat} (h:a≠b):Nat.beq (2 ^ a) (2 ^ b)=false:=by
  cases hb:Nat.beq (2 ^ a) (2 ^ b) with
  | false=>rfl
  | true=>exact absurd (zhh (Nat.eq_of_beq_eq_true hb)) h
theorem zgB {i:Nat}:∀(l:List Nat) (j t m:Nat),l[t]?=some m→j+t≠i→m.testBit i=false→(zcm (2 ^ i) (2 ^ j) l).testBit (j+t)=true
  | [],j,t,m,h,_,_=>by simp at h
  | q::r,j,0,m,h,h1,h2=>by
    simp only[List.getElem?_cons_zero,Option.some.injEq] at h
    subst h
    simp only[zcm,zmh (show j≠i by omega),zig h2,Nat.beq,Bool.not_true,Bool.or_false,cond_false,zdY,Nat.add_zero,Nat.testBit_two_pow_self,Bool.true_or]
  | q::r,j,t+1,m,h,h1,h2=>by
    have ih:=zgB (i:=i) r (j+1) t m (by simpa using h) (by omega) h2
    rw[show j+1+t=j+(t+1) from by omega] at ih
    simp only[zcm,zcJ]
    cases (Nat.beq (2 ^ j) (2 ^ i) || !Nat.beq (Nat.land q (2 ^ i)) 0) with
    | true=>exact ih
    | false=>simp only[cond_false,zdY,ih,Bool.or_true]
theorem zgS {l ml:Nat}:∀(bs:List Nat) (j t:Nat),t<bs.length→j+t≠l→ml.testBit (j+t)=false→(zek (2 ^ l) ml (2 ^ j) bs).testBit (j+t)=true
  | [],j,t,h,_,_=>by simp at h
  | q::r,j,0,h,h1,h2=>by
    simp only[Nat.add_zero] at h2
    simp only[zek,zmh (show j≠l by omega),zig h2,Nat.beq,Bool.not_true,Bool.or_false,cond_false,zdY,Nat.add_zero,Nat.testBit_two_pow_self,Bool.true_or]
  | q::r,j,t+1,h,h1,h2=>by
    have ih:=zgS (l:=l) (ml:=ml) r (j+1) t (by simpa using h) (by omega) (by rw[show j+1+t=j+(t+1) from by omega];exact h2)
    rw[show j+1+t=j+(t+1) from by omega] at ih
    simp only[zek,zcJ]
    cases (Nat.beq (2 ^ j) (2 ^ l) || !Nat.beq (Nat.land ml (2 ^ j)) 0) with
    | true=>exact ih
    | false=>simp only[cond_false,zdY,ih,Bool.or_true]
theorem zdZ {f:Fact}:∀(ks:List Kill) (acc b k:Nat),acc.testBit k=true→(zcc f acc b ks).testBit k=true
  | [],acc,b,k,h=>h
  | q::r,acc,b,k,h=>by
    simp only[zcc]
    cases q.surv f with
    | true=>exact zdZ r acc _ k h
    | false=>exact zdZ r _ _ k (by rw[zdY,h];rfl)
theorem zcW {f:Fact}:∀(ks:List Kill) (acc j t:Nat) (K:Kill),ks[t]?=some K→K.surv f=false→(zcc f acc (2 ^ j) ks).testBit (j+t)=true
  | [],acc,j,t,K,h,_=>by simp at h
  | q::r,acc,j,0,K,h,h1=>by
    simp only[List.getElem?_cons_zero,Option.some.injEq] at h
    subst h
    simp only[zcc,h1,cond_false,Nat.add_zero]
    exact zdZ r _ _ j (by rw[zdY,Nat.testBit_two_pow_self,Bool.or_true])
  | q :: r,acc,j,t+1,K,h,h1=>by
    simp only[zcc,zcJ]
    cases q.surv f with
    | true=>
      have ih:=zcW r acc (j+1) t K (by simpa using h) h1
      rw[show j+1+t=j+(t+1) from by omega] at ih
      exact ih
    | false=>
      have ih:=zcW r (Nat.lor acc (2 ^ j)) (j+1) t K (by simpa using h) h1
      rw[show j+1+t=j+(t+1) from by omega] at ih
      exact ih
/-! ### The state behind a set of operations -/
section
variable {E:Env} {c:Cfg} {ops:Array Oper} {befs:List Nat} {ks:List Kill}
def FD (acc:List PF) (D:Nat→Prop) (f:Fact):Prop:=
  ∃p∈acc,p.f=f∧(p.src=0∨∃l,p.src=2 ^ l∧D l)∧∀k,D k→p.kill.testBit k=false
def Adds (acc:List PF) (l:Nat) (f:Fact):Prop:=∃p∈acc,p.f=f∧p.src=2 ^ l
def zdf (n:Nat) (befs:List Nat) (ks:List Kill) (acc:List PF):Prop:=
  ∀ p∈acc,(p.src=0∧∀k K,ks[k]?=some K→K.surv p.f=false→p.kill.testBit k=true)∨
    (∃l ml,l<n∧p.src=2 ^ l∧befs[l]?=some ml∧∀k K,ks[k]?=some K→k≠l→ml.testBit k=false→k<befs.length→K.surv p.f=false→p.kill.testBit k=true)
def zqA (E:Env) (nt:Nat) (ops:Array Oper) (i:Nat) (F F':Fact→Prop):Prop:=
  ∀(a:Act) (w:World) (Q:Exit→Act→World→Prop) (K:Act→World→Prop),Rel E nt F a w→(∀a' w',Rel E nt F' a' w'→K a' w')→∀(ro:Option Nat) (q:Nat),wpOpIn (Fw ro) q E.P ops Q i K a w
def zch (E:Env) (nt:Nat) (ops:Array Oper) (befs:List Nat) (ks:List Kill) (acc:List PF) (i:Nat):Prop:=
  ∃ (m:Nat) (Ki:Kill) (M:Fact→Prop),befs[i]?=some m∧ks[i]?=some Ki∧(∀f,M f→f∈zbr m (zcm (2 ^ i) 1 befs) acc)∧
    ∀F:Fact→Prop,(∀f,M f→F f)→zqA E nt ops i F (fun f=>Adds acc i f∨(F f∧Ki.surv f=true))
theorem zcx {bef naft:Nat} {f:Fact}:∀ {acc:List PF},f∈zbr bef naft acc↔∃p∈acc,p.f=f∧Nat.beq (Nat.land p.src bef) p.src=true∧Nat.beq (Nat.land p.kill naft) 0=true
  | []=>by simp[zbr]
  | ⟨src, kill,f0⟩::r=>by
    have hp:∃p:PF,p=⟨src,kill,f0⟩:=⟨_,rfl⟩
    obtain⟨p,hp⟩:=hp
    have e1:src=p.src:=by rw[hp]
    have e2:kill=p.kill:=by rw[hp]
    have e3:f0=p.f:=by rw[hp]
    simp only[zbr]
    rw[←hp,e1,e2,e3]
    cases hb:(Nat.beq (Nat.land p.src bef) p.src&&Nat.beq (Nat.land p.kill naft) 0) with
    | true=>
      rw[Bool.and_eq_true] at hb
      simp only[cond_true,List.mem_cons,zcx (acc:=r)]
      constructor
      · rintro (rfl|⟨q,h1,h2⟩)
        · exact⟨p,.inl rfl,rfl,hb.1,hb.2⟩
        · exact⟨q,.inr h1,h2⟩
      · rintro⟨q,rfl|h1,h2,h3⟩
        · exact .inl h2.symm
        · exact .inr ⟨q,h1,h2,h3⟩
    | false=>
      simp only[cond_false,List.mem_cons,zcx (acc:=r)]
      constructor
      · rintro⟨q,h1,h2⟩
        exact⟨q,.inr h1,h2⟩
      · rintro⟨q,rfl|h1,h2,h3,h4⟩
        · rw[h3,h4] at hb;cases hb
        · exact⟨q,h1,h2,h3,h4⟩
theorem zcU {bef naft:Nat} {acc acc':List PF} (h:∀p∈acc,p∈acc') {f:Fact} (hf:f∈zbr bef naft acc):f∈zbr bef naft acc':=by
  obtain⟨p,h1,h2⟩:=zcx.1 hf
  exact zcx.2 ⟨p,h p h1,h2⟩
/-! ### Every order -/
def zp1 (befs:List Nat) (D:Nat→Prop):Prop:=∀i m,D i→befs[i]?=some m→∀l,m.testBit l=true→D l
theorem zdv {tbl:List Nat} {l:Nat}:∀ {es:List Edge},(zb1 tbl es).testBit l=true→∃e∈es,Region.binds .any e=true∧(l=e.on∨∃m,tbl[e.on]?=some m∧m.testBit l=true)
  | [],h=>by simp[zb1] at h
  | e :: r,h=>by
    simp only[zb1] at h
    cases hb:Region.binds .any e with
    | false=>
      rw[hb] at h
      obtain⟨e',h1,h2⟩:=zdv (es:=r) h
      exact⟨e',List.mem_cons_of_mem _ h1,h2⟩
    | true=>
      rw[hb] at h
      simp only[cond_true,zdY,Bool.or_eq_true] at h
      rcases h with (h|h)|h
      · refine⟨e,List.mem_cons_self,hb,.inl ?_⟩
        change (2 ^ e.on).testBit l=true at h
        rw[Nat.testBit_two_pow] at h
        simpa using (of_decide_eq_true h).symm
      · rw[zib] at h
        cases ht:tbl[e.on]? with
        | none=>rw[ht] at h;simp at h
        | some m=>rw[ht] at h;exact⟨e,List.mem_cons_self,hb,.inr ⟨m,ht,h⟩⟩
      · obtain⟨e',h1,h2⟩:=zdv (es:=r) h
        exact⟨e',List.mem_cons_of_mem _ h1,h2⟩
theorem zgb {i:Nat}:∀ {es:List Edge},zhG i es=true→∀e∈es,Region.binds .any e=true→e.on<i
  | e :: r,h,e',he=>by
    simp only[zhG,Bool.and_eq_true] at h
    rcases List.mem_cons.1 he with rfl|he
    · intro hb
      have:=h.1
      rw[hb] at this
      simpa using this
    · exact zgb h.2 e' he
theorem zgf {all:List Nat}:∀ {os:List Oper} {ms:List Nat} {i:Nat},zfd all os ms i=true→ms.length=os.length∧
    ∀(t:Nat) (o:Oper),os[t]?=some o→ms[t]?=some (zb1 all o.after.toList)∧∀e∈o.after.toList,Region.binds .any e=true→e.on<i+t
  | [],[],i,_=>⟨rfl,by simp⟩
  | [],_::_,i,h=>by simp[zfd] at h
  | _::_,[],i,h=>by simp[zfd] at h
  | o :: r,m::ms,i,h=>by
    simp only[zfd,Bool.and_eq_true] at h
    obtain⟨⟨h1,h2⟩,h3⟩:=h
    obtain⟨h4,h5⟩:=zgf h3
    refine⟨by simp[h4],fun t o' ho=>?_⟩
    cases t with
    | zero=>
      simp only[List.getElem?_cons_zero,Option.some.injEq] at ho
      subst ho
      exact⟨by simpa using Nat.eq_of_beq_eq_true h1,zgb h2⟩
    | succ t=>
      obtain⟨h6,h7⟩:=h5 t o' (by simpa using ho)
      exact⟨by simpa using h6,fun e he hb=>by have:=h7 e he hb;omega⟩
def un (L:Array Bool):Nat→Nat
  | 0=>0
  | n+1=>un L n+(if L.getD n true=true then 0 else 1)
theorem zni {L:Array Bool} {i:Nat} (hi:i<L.size) (hu:L.getD i true=false):∀n,un (L.setIfInBounds i true) n+(if i<n then 1 else 0)=un L n
  | 0=>by simp[un]
  | n + 1=>by
    have ih:=zni hi hu n
    simp only[un]
    by_cases hn:i=n
    · subst hn
      have:(L.setIfInBounds i true).getD i true=true:=by simp[hi]
      rw[if_neg (Nat.lt_irrefl i)] at ih
      rw[this,hu]
      simp
      omega
    · have:(L.setIfInBounds i true).getD n true=L.getD n true:=getD_set_ne true hn
      rw[this]
      by_cases hlt:i<n
      · rw[if_pos hlt] at ih
        have h2:i<n+1:=by omega
        rw[if_pos h2]
        omega
      · rw[if_neg hlt] at ih
        have h2:¬i<n+1:=by omega
        rw[if_neg h2]
        omega
theorem zkI {L:Array Bool}:∀ {n:Nat},un L n=0→∀i,i<n→L.getD i true=true
  | n + 1,h,i,hi=>by
    simp only[un] at h
    by_cases hn:i=n
    · subst hn
      cases hL:L.getD i true with
      | true=>rfl
      | false=>rw[hL] at h;simp at h
    · exact zkI (n:=n) (by omega) i (by omega)
theorem zoD {ro : Option Nat} {q:Nat} {nt:Nat} (hchk:zfd befs ops.toList befs 0=true) {acc:List PF} (hkill:zdf ops.size befs ks acc) (hstep:∀i,i<ops.size→zch E nt ops befs ks acc i)
    {Q : Exit→Act→World→Prop} (hQ:∀a w,Rel E nt (FD acc (fun i=>i<ops.size)) a w→Q .normal a w):∀(fuel:Nat) (L:Array Bool) (a:Act) (w:World),L.size=ops.size→un L ops.size≤fuel→
      zp1 befs (fun i=>L.getD i false=true)→Rel E nt (FD acc (fun i=>L.getD i false=true)) a w→wpAnyIn (Fw ro) q E.P .any ops Q fuel L a w:=by
  obtain⟨hlen,hbef⟩:=zgf hchk
  have hlen':befs.length=ops.size:=by simpa using hlen
  have getDf:∀ {L:Array Bool} {i:Nat},L.size=ops.size→i<ops.size→L.getD i false=L.getD i true:=by
    intro L i hL hi
    have:i<L.size:=by omega
    simp[this]
  have notReady:∀(L:Array Bool),L.size=ops.size→Region.ready .any ops L=[]→∀i,i<ops.size→L.getD i true=true:=by
    intro L hL hr i
    induction i using Nat.strongRecOn with
    | _ i ih=>
      intro hi
      cases hu:L.getD i true with
      | true=>rfl
      | false=>
        exfalso
        have:i∈Region.ready .any ops L:=by
          rw[mem_ready]
          refine⟨hu,ops[i],by simp[hi],fun e he hb=>?_⟩
          have hlt:=(hbef i ops[i] (by simp[hi])).2 e (by simpa using he) hb
          have:=ih e.on (by omega) (by omega)
          rw[getDf hL (by omega)]
          exact this
        rw[hr] at this
        cases this
  have fin:∀(L:Array Bool) (a:Act) (w:World),L.size=ops.size→(∀i,i<ops.size→L.getD i true=true)→Rel E nt (FD acc (fun i=>L.getD i false=true)) a w→Q .normal a w:=by
    intro L a w hL hall hR
    refine hQ a w (hR.weaken fun f ⟨p,h1,h2,h3,h4⟩=>⟨p,h1,h2,?_,fun k hk=>?_⟩)
    · rcases h3 with h3|⟨l,h3,h5⟩
      · exact .inl h3
      · exact .inr ⟨l,h3,by simp only[];rw[getDf hL h5];exact hall l h5⟩
    · refine h4 k ?_
      have:k<L.size:=by
        rcases Nat.lt_or_ge k L.size with h|h
        · exact h
        · simp[Array.getD,Nat.not_lt.2 h] at hk
      omega
  intro fuel
  induction fuel with
  | zero=>
    intro L a w hL hu hc hR
    have hall:=zkI (Nat.le_zero.1 hu)
    refine⟨?_,fin L a w hL hall hR⟩
    cases hr:Region.ready .any ops L with
    | nil=>rfl
    | cons i r=>
      have hi:i∈Region.ready .any ops L:=by rw[hr];exact List.mem_cons_self
      obtain⟨h1,o,h2,_⟩:=mem_ready.1 hi
      have:=hall i (Array.getElem?_eq_some_iff.1 h2).1
      rw[h1] at this
      cases this
  | succ fuel ih =>
    intro L a w hL hu hc hR
    refine⟨fun hr=>fin L a w hL (notReady L hL hr) hR,fun i hi=>?_⟩
    obtain⟨h1,o,h2,h3⟩:=mem_ready.1 hi
    have hin:i<ops.size:=(Array.getElem?_eq_some_iff.1 h2).1
    obtain⟨m,Ki,M,e1,e2,e3,e4⟩:=hstep i hin
    have hbi:=(hbef i o (by simpa using h2)).1
    have hm:m=zb1 befs o.after.toList:=by rw[e1] at hbi;exact Option.some.inj hbi
    have hpre:∀l,m.testBit l=true→L.getD l false=true:=by
      intro l hl
      rw[hm] at hl
      obtain⟨e,f1,f2,f3⟩:=zdv hl
      have he:=h3 e (by simpa using f1) f2
      rcases f3 with rfl|⟨m',f4,f5⟩
      · exact he
      · exact hc e.on m' he f4 l f5
    have hnot:¬(L.getD i false=true):=by rw[getDf hL hin,h1];simp
    have hafter:∀k mk,L.getD k false=true→befs[k]?=some mk→mk.testBit i=false:=by
      intro k mk hk hmk
      cases hb:mk.testBit i with
      | false=>rfl
      | true=>exact absurd (hc k mk hk hmk i hb) hnot
    have hlt:∀k,L.getD k false=true→k<ops.size:=by
      intro k hk
      rcases Nat.lt_or_ge k L.size with h|h
      · omega
      · simp[Array.getD,Nat.not_lt.2 h] at hk
    have hsub:∀f,M f→FD acc (fun i=>L.getD i false=true) f:=by
      intro f hf
      obtain⟨p,p1,p2,p3,p4⟩:=zcx.1 (e3 f hf)
      refine⟨p,p1,p2,?_,fun k hk=>?_⟩
      · rcases hkill p p1 with ⟨q1,_⟩|⟨l,ml,q0,q1,_⟩
        · exact .inl q1
        · exact .inr ⟨l,q1,hpre l (zhs q1 p3)⟩
      · have hkn:=hlt k hk
        have hkb:befs[k]?=some (befs[k]'(by omega)):=by simp[hlen',hkn]
        have:=zgB (i:=i) befs 0 k _ hkb (by rintro h;rw[Nat.zero_add] at h;subst h;exact hnot hk) (hafter k _ hk hkb)
        rw[Nat.zero_add,Nat.pow_zero] at this
        exact zhr p4 this
    have hset:∀k,(L.setIfInBounds i true).getD k false=true↔k=i∨L.getD k false=true:=by
      intro k
      by_cases hki:i=k
      · subst hki
        have:i<L.size:=by omega
        simp[this]
      · rw [getD_set_ne false hki]
        constructor
        · exact .inr
        · rintro (h|h)
          · exact absurd h.symm hki
          · exact h
    refine e4 _ hsub a w Q _ hR (fun a' w' hR'=>ih _ a' w' (by simpa using hL) ?_ ?_ (hR'.weaken fun f ⟨p,p1,p2,p3,p4⟩=>?_)) ro q
    · have:=zni (by omega) h1 ops.size
      rw[if_pos hin] at this
      omega
    · intro k mk hk hmk l hl
      rcases (hset k).1 hk with rfl|hk
      · rw[e1] at hmk
        cases hmk
        exact (hset l).2 (.inr (hpre l hl))
      · exact (hset l).2 (.inr (hc k mk hk hmk l hl))
    · by_cases hsrc:p.src=2 ^ i
      · exact .inl ⟨p,p1,p2,hsrc⟩
      · refine .inr ⟨⟨p,p1,p2,?_,fun k hk=>p4 k ((hset k).2 (.inr hk))⟩,?_⟩
        · rcases p3 with p3|⟨l,p3,p5⟩
          · exact .inl p3
          · rcases (hset l).1 p5 with rfl|p5
            · exact absurd p3 hsrc
            · exact .inr ⟨l,p3,p5⟩
        · have hki := p4 i ((hset i).2 (.inl rfl))
          cases hs:Ki.surv f with
          | true=>rfl
          | false =>
            exfalso
            rw[←p2] at hs
            rcases hkill p p1 with ⟨_,q2⟩|⟨l,ml,q0,q1,q2,q3⟩
            · rw[q2 i Ki e2 hs] at hki;cases hki
            · have hl:L.getD l false=true:=by
                rcases p3 with p3|⟨l',p3,p5⟩
                · rw[q1] at p3
                  have:=Nat.two_pow_pos l
                  omega
                · have:l=l':=zhh (by rw[←q1,←p3])
                  subst this
                  rcases (hset l).1 p5 with rfl|p5
                  · exact absurd q1 hsrc
                  · exact p5
              have hil:i≠l:=by rintro rfl;exact hnot hl
              rw[q3 i Ki e2 hil (hafter l ml hl q2) (by omega) hs] at hki
              cases hki
end
end Go.Eng
set_option linter.all false
namespace Go.Eng
section
variable {E:Env} {c:Cfg} {ops:Array Oper} {befs:List Nat} {ks:List Kill}
theorem zd7 {l l':List Nat} (h:subN l l'=true):∀n∈l,n∈l':=by
  induction l with
  | nil=>intro n hn;cases hn
  | cons m r ih=>
    simp only[subN,Bool.and_eq_true] at h
    intro n hn
    rcases List.mem_cons.1 hn with rfl|hn
    · exact zan.1 h.1
    · exact ih h.2 n hn
theorem zmy {l l':List (Nat×Nat)} (h:subC l l'=true):∀n∈l,n∈l':=by
  induction l with
  | nil=>intro n hn;cases hn
  | cons m r ih=>
    simp only[subC,Bool.and_eq_true] at h
    intro n hn
    rcases List.mem_cons.1 hn with rfl|hn
    · exact zeg.1 h.1
    · exact ih h.2 n hn
theorem za7 {l l':List Nat} (h:∀n∈l,n∈l') {n:Nat} (hn:memN n l'=false):memN n l=false:=by
  cases hb:memN n l with
  | false=>rfl
  | true=>rw[zan.2 (h n (zan.1 hb))] at hn;cases hn
theorem zmR {l l':List (Nat×Nat)} (h:∀n∈l,n∈l') {k o:Nat} (hn:memC k o l'=false):memC k o l=false:=by
  cases hb:memC k o l with
  | false=>rfl
  | true=>rw[zeg.2 (h _ (zeg.1 hb))] at hn;cases hn
theorem zhK {l l':List Nat} (h:∀n∈l,n∈l'):∀ {ps:List (Nat×Nat)},anyK l' ps=false→anyK l ps=false
  | [],_=>rfl
  | p::r,hs=>by
    simp only[anyK,Bool.or_eq_false_iff] at hs ⊢
    exact⟨za7 h hs.1,zhK h hs.2⟩
theorem zfW {l l':List Nat} (h:∀n∈l,n∈l') {s:S1} (hs:s.ment l'=false):s.ment l=false:=by
  cases s
  case fn g fs cs=>
    simp only[S1.ment,Bool.or_eq_false_iff] at hs ⊢
    exact⟨zhK h hs.1,zhK h hs.2⟩
  all_goals first|rfl|exact za7 h hs
theorem zhJ {l l':List Nat} (h:∀n∈l,n∈l'):∀ {cs:List S1},anyS (S1.ment l') cs=false→anyS (S1.ment l) cs=false
  | [],_=>rfl
  | s::r,hs=>by
    simp only[anyS,Bool.or_eq_false_iff] at hs ⊢
    exact⟨zfW h hs.1,zhJ h hs.2⟩
theorem zlG {l l':List Nat} (h:∀n∈l,n∈l') {s:SV} (hs:s.ment l'=false):s.ment l=false:=by
  cases s with
  | one s=>exact zfW h hs
  | agg cs=>exact zhJ h hs
  | tup cs=>exact zhJ h hs
theorem ze2 {K K':Kill} (h:zfA K K'=true) {f:Fact} (hf:K'.surv f=true):K.surv f=true:=by
  simp only[zfA,Bool.and_eq_true] at h
  obtain⟨⟨⟨⟨⟨h1,h2⟩,h3⟩,h4⟩,h5⟩,h6⟩:=h
  have h1:=zd7 h1
  have h2:=zd7 h2
  have h3:=zmy h3
  have h4:=zd7 h4
  have h5:=zd7 h5
  have h6:=zd7 h6
  cases f with
  | slot t s=>
    simp only[Kill.surv,Bool.and_eq_true,Bool.not_eq_true'] at hf ⊢
    exact⟨za7 h1 hf.1,zlG h2 hf.2⟩
  | cell k off s=>
    simp only[Kill.surv,Bool.and_eq_true,Bool.not_eq_true'] at hf ⊢
    exact⟨⟨⟨⟨za7 h2 hf.1.1.1.1,zmR h3 hf.1.1.1.2⟩,za7 h5 hf.1.1.2⟩,za7 h6 hf.1.2⟩,zfW h2 hf.2⟩
  | row k el e xs=>
    simp only[Kill.surv,Bool.and_eq_true,Bool.not_eq_true'] at hf ⊢
    exact⟨⟨⟨za7 h2 hf.1.1.1,za7 h4 hf.1.1.2⟩,za7 h5 hf.1.2⟩,za7 h6 hf.2⟩
  | ob k i=>
    simp only[Kill.surv,Bool.and_eq_true,Bool.not_eq_true'] at hf ⊢
    exact⟨⟨za7 h2 hf.1.1,za7 h4 hf.1.2⟩,za7 h5 hf.2⟩
  | fix k=>
    simp only[Kill.surv,Bool.not_eq_true'] at hf ⊢
    exact za7 h2 hf
theorem zpG {nt k:Nat} {F:Fact→Prop} {K:Kill} {add add':St} {p:Prop} {a:Act} {w:World} (hk:k∈K.keys) (h:zfa k add=some (p,add')) (hp:p)
    (hR:Rel E nt (upd F add K) a w):Rel E nt (upd F add' K) a w:=by
  unfold zfa at h
  split at h
  case h_2=>cases h
  case h_1 r hr=>
    simp only[Option.some.injEq,Prod.mk.injEq] at h
    obtain⟨h1,h2⟩:=h
    rw[←h1] at hp
    subst h2
    obtain⟨η,g,H⟩:=hR
    have hrow:=H _ (.inl (zav hr))
    refine⟨zax η k,(zaR g k).1,fun f hf=>?_⟩
    rcases hf with hf|⟨hf,hs⟩
    · obtain⟨q,q1,rfl,q3⟩:=zef hf
      exact frzF_holds g hrow (H q (.inl q1)) (fun hm=>zdG hp q q1 hm) q3
    · have hm:=zfz hs
      refine Fact.keep (ks:=K.keys) (zaR g k).2 (fun j hj=>zaj ?_) hm (H f (.inr ⟨hf,hs⟩))
      intro hjk
      simp only[List.mem_singleton] at hjk
      subst hjk
      exact hj hk
theorem zbO {nt:Nat} {F:Fact→Prop} {a:Act} {w:World}:∀ {need:List Nat} {r r':Res},zf3 need r=some r'→r'.ob.hold→r'.kill=r.kill∧r.ob.hold∧
    (Rel E nt (upd F r.add r.kill) a w→Rel E nt (upd F r'.add r'.kill) a w)
  | [],r,r',h,hob=>by simp only[zf3,Option.some.injEq] at h;subst h;exact⟨rfl,hob,id⟩
  | k :: l,r,r',h,hob=>by
    simp only[zf3] at h
    cases hm:memN k r.kill.keys with
    | false=>rw[hm] at h;exact zbO h hob
    | true=>
      rw[hm] at h
      simp only[cond_true] at h
      split at h
      · rename_i p add hf
        obtain⟨h1,h2,h3⟩:=zbO (F:=F) (a:=a) (w:=w) (nt:=nt) h hob
        exact⟨h1,h2.1,fun hR=>h3 (zpG (zan.1 hm) hf h2.2 hR)⟩
      · exact zbO h hob
theorem zh6 (hC : CfgOk E.P E.OB c) {need:List Nat} {Ki:Kill} {o:Oper} {M:St} {K:St→Prop} (h:zh7 c need Ki o M K):∃add,K add∧
    ∀ (F:Fact→Prop),(∀f∈M,F f)→∀(a:Act) (w:World) (Q:Exit→Act→World→Prop) (K':Act→World→Prop),Rel E c.nt F a w→
      (∀a' w',Rel E c.nt (fun f=>f∈add∨(F f∧Ki.surv f=true)) a' w'→K' a' w')→∀(ro:Option Nat) (q:Nat),o.wpIn (Fw ro) q E.P a w K' Q:=by
  unfold zh7 at h
  split at h
  case h_2=>exact h.elim
  case h_1 r hr =>
    split at h
    case h_2=>exact h.elim
    case h_1 r' hr'=>
      cases hsub:zfA r'.kill Ki with
      | false=>rw[hsub] at h;exact h.elim
      | true =>
        rw[hsub] at h
        obtain⟨hob,h⟩:=OP.andK_out h
        rw[za8] at h
        refine⟨r'.add,h,fun F hF a w Q K' hR hK' ro q=>?_⟩
        obtain⟨h1,h2,_⟩:=zbO (F:=F) (a:=a) (w:=w) (E:=E) (nt:=c.nt) hr' hob
        have up:∀a' w',Rel E c.nt (upd F r.add r.kill) a' w'→K' a' w':=fun a' w' hr''=>by
          have:=(zbO (F:=F) (a:=a') (w:=w') (E:=E) (nt:=c.nt) hr' hob).2.2 hr''
          exact hK' a' w' (this.weaken fun f hf=>by
            rcases hf with hf|⟨hf,hs⟩
            · exact .inl hf
            · exact .inr ⟨hf,ze2 hsub hs⟩)
        obtain⟨η,g,H⟩:=hR
        unfold zdS at hr
        split at hr
        case h_2=>cases hr
        case h_1 e he=>
          have hsem:=zf8 hC g (fun f hf=>H f (hF f hf)) he
          split at hr
          · rename_i hd
            exact zcK g H hsem (by rw[hd];exact hr) (fun d hd'=>by rw[hd] at hd';cases hd') h2 (zbZ he) up
          · rename_i d hd
            cases hb:Nat.blt d c.nt with
            | false=>rw[hb] at hr;simp at hr
            | true=>
              rw[hb] at hr
              exact zcK g H hsem (by rw[hd];exact hr) (fun d' hd'=>by
                rw[hd] at hd'
                simp only[Option.some.injEq] at hd'
                subst hd'
                simpa using hb) h2 (zbZ he) up
theorem zhO {Ki:Kill} {d:Option Nat} {K:St→Prop} (h:zhP c Ki d K):∃add,K add∧
    ∀(F:Fact→Prop) (a:Act) (w:World),Rel E c.nt F a w→Rel E c.nt (fun f=>f∈add∨(F f∧Ki.surv f=true)) (a.put d undef) w:=by
  cases d with
  | none=>exact⟨[],h,fun F a w hR=>hR.weaken fun f hf=>by
      rcases hf with hf|hf
      · cases hf
      · exact hf.1⟩
  | some d=>
    simp only[zhP] at h
    cases hb:(Nat.blt d c.nt&&memN d Ki.slots) with
    | false=>rw[hb] at h;exact h.elim
    | true=>
      rw[hb] at h
      rw[Bool.and_eq_true] at hb
      refine⟨_,h,fun F a w ⟨η,g,H⟩=>?_⟩
      refine (zeE g H (d:=d) (by simpa using hb.1) (s:=.one (.v undef)) (v:=undef) rfl).weaken fun f hf=>?_
      rcases hf with hf|⟨hf,hs⟩
      · exact .inl hf
      · refine .inr ⟨hf,ze2 (K:={slots:=[d]}) (K':=Ki) ?_ hs⟩
        simp[zfA,subN,subC,hb.2]
theorem zhR {src ex:Nat}:∀ {add:St} {acc:List PF} {K:List PF→Prop},tagK ks src ex add acc K→∃acc',K acc'∧(∀p∈acc,p∈acc')∧(∀f∈add,∃p∈acc',p.f=f∧p.src=src)∧
    ∀p∈acc',p∈acc∨(p.src=src∧p.f∈add∧p.kill=Nat.land (zcc p.f 0 1 ks) ex)
  | [],acc,K,h=>⟨acc,h,fun _ h=>h,fun f hf=>(by cases hf),fun p hp=>.inl hp⟩
  | f :: r,acc,K,h=>by
    simp only[tagK,zbz] at h
    obtain⟨acc',h1,h2,h3,h4⟩:=zhR h
    refine⟨acc',h1,fun p hp=>h2 p (List.mem_cons_of_mem _ hp),fun f' hf'=>?_,fun p hp=>?_⟩
    · rcases List.mem_cons.1 hf' with rfl|hf'
      · exact⟨_,h2 _ List.mem_cons_self,rfl,rfl⟩
      · exact h3 f' hf'
    · rcases h4 p hp with h|⟨h5,h6,h7⟩
      · rcases List.mem_cons.1 h with rfl|h
        · exact .inr ⟨rfl,List.mem_cons_self,rfl⟩
        · exact .inl h
      · exact .inr ⟨h5,List.mem_cons_of_mem _ h6,h7⟩
theorem zhS:∀ {st:St} {K:List PF→Prop},tag0 ks st K→∃acc,K acc∧∀p∈acc,p.f∈st∧p.src=0∧p.kill=zcc p.f 0 1 ks
  | [],K,h=>⟨[],h,fun p hp=>by cases hp⟩
  | f :: r,K,h=>by
    simp only[tag0,zbz] at h
    obtain⟨acc,h1,h2⟩:=zhS h
    refine⟨_,h1,fun p hp=>?_⟩
    rcases List.mem_cons.1 hp with rfl|hp
    · exact⟨List.mem_cons_self,rfl,rfl⟩
    · obtain⟨h3,h4⟩:=h2 p hp
      exact⟨List.mem_cons_of_mem _ h3,h4⟩
theorem zeS {t src kill:Nat} {x:Bool}:∀ {acc:List PF},zgP t acc=some (src,kill,x)→(⟨src,kill,.slot t (.one (.d .bool x))⟩:PF)∈acc
  | [],h=>by simp[zgP] at h
  | p :: r,h=>by
    unfold zgP at h
    split at h
    · rename_i src' kill' t' y
      cases hb:Nat.beq t' t with
      | true=>
        rw[hb] at h
        simp only[cond_true,Option.some.injEq,Prod.mk.injEq] at h
        obtain⟨rfl,rfl,rfl⟩:=h
        have:=Nat.eq_of_beq_eq_true hb
        subst this
        exact List.mem_cons_self
      | false=>
        rw[hb] at h
        exact List.mem_cons_of_mem _ (zeS (acc:=r) h)
    · exact List.mem_cons_of_mem _ (zeS (acc:=r) h)
def Init (E:Env) (nt:Nat) (st0:St) (acc:List PF):Prop:=∀a w,RelS E nt st0 a w→Rel E nt (fun f=>∃p∈acc,p.f=f∧p.src=0) a w
theorem zch.ext {nt:Nat} {acc acc':List PF} {j:Nat} (h:zch E nt ops befs ks acc j) (hsub:∀p∈acc,p∈acc') (hnew:∀p∈acc',p∈acc∨p.src≠2 ^ j):zch E nt ops befs ks acc' j:=by
  obtain⟨m,Ki,M,h1,h2,h3,h4⟩:=h
  refine⟨m,Ki,M,h1,h2,fun f hf=>zcU hsub (h3 f hf),fun F hF a w Q K hR hK=>h4 F hF a w Q K hR fun a' w' hR'=>hK a' w' (hR'.weaken fun f hf=>?_)⟩
  rcases hf with ⟨p,p1,p2,p3⟩|hf
  · rcases hnew p p1 with h|h
    · exact .inl ⟨p,h,p2,p3⟩
    · exact absurd p3 h
  · exact .inr hf
theorem zqB {η:Eta} {a:Act} {w:World} {t:Nat} {x b:Bool} (hx:x=b) (h:Fact.holds E η a w (.slot t (.one (.d .bool x)))):Fact.holds E η a w (.slot t (.one (.lb b))):=by
  have:=zaZ (h:zai (vw E η w) η (.one (.d .bool x)) _)
  rw[hx] at this
  exact this
theorem znu {nt:Nat} {F F':Fact→Prop} {t:Nat} {x b:Bool} (hx:x=b) {a:Act} {w:World} (hR:Rel E nt F a w) (h:∀f,F' f→F f∨(f=.slot t (.one (.lb b))∧F (.slot t (.one (.d .bool x))))):Rel E nt F' a w:=by
  obtain⟨η,g,H⟩:=hR
  refine⟨η,g,fun f hf=>?_⟩
  rcases h f hf with h|⟨rfl,h⟩
  · exact H f h
  · exact zqB hx (H _ h)
theorem zlI {nt:Nat} {acc:List PF} {q:PF} {t:Nat} {x b:Bool} (hx:x=b) (hq:q∈acc) (hf:q.f=.slot t (.one (.d .bool x))) {j:Nat} (h:zch E nt ops befs ks acc j) :
    zch E nt ops befs ks (⟨q.src,q.kill,.slot t (.one (.lb b))⟩::acc) j:=by
  obtain⟨m,Ki,M,h1,h2,h3,h4⟩:=h
  refine⟨m,Ki,M,h1,h2,fun f hf=>zcU (fun p hp=>List.mem_cons_of_mem _ hp) (h3 f hf),fun F hF a w Q K hR hK=>h4 F hF a w Q K hR fun a' w' hR'=>hK a' w' (znu hx hR' (t:=t) fun f hf'=>?_)⟩
  rcases hf' with ⟨p,p1,p2,p3⟩|hf'
  · rcases List.mem_cons.1 p1 with rfl|p1
    · exact .inr ⟨p2.symm,.inl ⟨q,hq,hf,p3⟩⟩
    · exact .inl (.inl ⟨p,p1,p2,p3⟩)
  · exact .inl (.inr hf')
theorem zlK {nt:Nat} {st0:St} {acc:List PF} {q:PF} {t:Nat} {x b:Bool} (hx:x=b) (hq:q∈acc) (hf:q.f=.slot t (.one (.d .bool x))) (h:Init E nt st0 acc) :
    Init E nt st0 (⟨q.src,q.kill,.slot t (.one (.lb b))⟩::acc):=by
  intro a w hR
  refine znu hx (h a w hR) (t:=t) fun f ⟨p,p1,p2,p3⟩=>?_
  rcases List.mem_cons.1 p1 with rfl|p1
  · exact .inr ⟨p2.symm,q,hq,hf,p3⟩
  · exact .inl ⟨p,p1,p2,p3⟩
theorem zlJ {n:Nat} {acc:List PF} {q:PF} {t:Nat} {x b:Bool} (hq:q∈acc) (hf:q.f=.slot t (.one (.d .bool x))) (h:zdf n befs ks acc):zdf n befs ks (⟨q.src,q.kill,.slot t (.one (.lb b))⟩::acc):=by
  intro p hp
  rcases List.mem_cons.1 hp with rfl|hp
  · have:=h q hq
    rw[hf] at this
    exact this
  · exact h p hp
theorem zmX {g:GV} (h:zmY g=true):g=.yes:=by cases g<;>simp[zmY] at h;rfl
theorem zoi {g:GV} (h:isNo g=true):g=.no:=by cases g<;>simp[isNo] at h;rfl
theorem ze5 (hC:CfgOk E.P E.OB c) {need:List Nat} {st0:St} {K:List PF→Prop}:∀(l:List Oper) (ms:List Nat) (kr:List Kill) (i:Nat) (acc:List PF),
    (∀t,l[t]?=ops[i+t]?)→(∀t,ms[t]?=befs[i+t]?)→(∀t,kr[t]?=ks[i+t]?)→zdM c ops need befs ks l ms kr (2 ^ i) acc K→
    zdf i befs ks acc→(∀j,j<i→zch E c.nt ops befs ks acc j)→Init E c.nt st0 acc→
    ∃acc',zdf (i+l.length) befs ks acc'∧(∀j,j<i+l.length→zch E c.nt ops befs ks acc' j)∧Init E c.nt st0 acc'∧K acc'
  | [],ms,kr,i,acc,_,_,_,h,h1,h2,h3=>⟨acc,h1,h2,h3,by simpa [zdM] using h⟩
  | _::_,[],_,i,acc,_,_,_,h,_,_,_=>by simp[zdM] at h
  | _::_,_::_,[],i,acc,_,_,_,h,_,_,_=>by simp[zdM] at h
  | o :: r, m::ms,Ki::kr,i,acc,hl,hms,hkr,h,h1,h2,h3=>by
    have ho:ops[i]?=some o:=by have:=hl 0;simpa using this.symm
    have hm:befs[i]?=some m:=by have:=hms 0;simpa using this.symm
    have hK:ks[i]?=some Ki:=by have:=hkr 0;simpa using this.symm
    have go:∀(acc1:List PF) (add:St),(tagK ks (2 ^ i) (zek (2 ^ i) m 1 befs) add acc1 fun acc'=>zdM c ops need befs ks r ms kr (2*2 ^ i) acc' K)→zdf i befs ks acc1→
        (∀j,j<i→zch E c.nt ops befs ks acc1 j)→Init E c.nt st0 acc1→(∀acc',(∀p∈acc1,p∈acc')→(∀f,Adds acc' i f→f∈add)→zch E c.nt ops befs ks acc' i)→
        ∃acc',zdf (i+(o::r).length) befs ks acc'∧(∀j,j<i+(o::r).length→zch E c.nt ops befs ks acc' j)∧Init E c.nt st0 acc'∧K acc':=by
      intro acc1 add ht k1 k2 k3 k4
      obtain⟨acc',t1,t2,t3,t4⟩:=zhR ht
      have hsrc:∀p∈acc1,p.src≠2 ^ i:=by
        intro p hp hs
        rcases k1 p hp with ⟨q1,_⟩|⟨l,ml,q0,q1,_⟩
        · have:=Nat.two_pow_pos i;omega
        · have:=zhh (q1.symm.trans hs);omega
      rw[zcJ] at t1
      have hlen:i+(o::r).length=i+1+r.length:=by simp;omega
      rw[hlen]
      refine ze5 hC r ms kr (i+1) acc' (fun t=>?_) (fun t=>?_) (fun t=>?_) t1 ?_ ?_ ?_
      · have:=hl (t+1);simp only[List.getElem?_cons_succ] at this;rw[this];congr 1;omega
      · have:=hms (t+1);simp only[List.getElem?_cons_succ] at this;rw[this];congr 1;omega
      · have:=hkr (t+1);simp only[List.getElem?_cons_succ] at this;rw[this];congr 1;omega
      · intro p hp
        rcases t4 p hp with h|⟨h5,h6,h7⟩
        · rcases k1 p h with q|⟨l,ml,q0,q1,q2,q3⟩
          · exact .inl q
          · exact .inr ⟨l,ml,by omega,q1,q2,q3⟩
        · refine .inr ⟨i,m,by omega,h5,hm,fun k K' hk hki hmk hkb hs=>?_⟩
          have e1:=zcW ks 0 0 k K' hk hs
          have e2:=zgS (l:=i) (ml:=m) befs 0 k hkb (by omega) (by simpa using hmk)
          simp only[Nat.zero_add,Nat.pow_zero] at e1 e2
          rw[h7,zmV,e1,e2]
          rfl
      · intro j hj
        rcases Nat.lt_or_ge j i with hji|hji
        · refine (k2 j hji).ext t2 fun p hp=>?_
          rcases t4 p hp with h|⟨h5,_,_⟩
          · exact .inl h
          · exact .inr (by rw[h5];intro h;have:=zhh h;omega)
        · have:j=i:=by omega
          subst this
          refine k4 acc' t2 fun f ⟨p,p1,p2,p3⟩=>?_
          rcases t4 p p1 with h|⟨_,h6,_⟩
          · exact absurd p3 (hsrc p h)
          · rw[←p2];exact h6
      · intro a w hR
        refine (k3 a w hR).weaken fun f ⟨p,p1,p2,p3⟩=>?_
        rcases t4 p p1 with h|⟨h5,_,_⟩
        · exact⟨p,h,p2,p3⟩
        · exfalso;have:=Nat.two_pow_pos i;omega
    have run:∀(acc1:List PF),zao c ops (zbr m (zcm (2 ^ i) 1 befs) acc1) o=.yes→
        (zbP (zbr m (zcm (2 ^ i) 1 befs) acc1) fun M=>zh7 c need Ki o M fun add=>tagK ks (2 ^ i) (zek (2 ^ i) m 1 befs) add acc1 fun acc'=>zdM c ops need befs ks r ms kr (2*2 ^ i) acc' K)→
        zdf i befs ks acc1→(∀j,j<i→zch E c.nt ops befs ks acc1 j)→Init E c.nt st0 acc1→
        ∃acc',zdf (i+(o::r).length) befs ks acc'∧(∀j,j<i+(o::r).length→zch E c.nt ops befs ks acc' j)∧Init E c.nt st0 acc'∧K acc':=by
      intro acc1 hg h k1 k2 k3
      rw[za8] at h
      obtain⟨add,g1,g2⟩:=zh6 hC h
      refine go acc1 add g1 k1 k2 k3 fun acc' hsub hadd=>⟨m,Ki,fun f=>f∈zbr m (zcm (2 ^ i) 1 befs) acc1,hm,hK,fun f hf=>zcU hsub hf,fun F hF a w Q K' hR hK' ro q=>?_⟩
      unfold wpOpIn
      rw[ho]
      have hgs:=zc0 (c:=c) (ops:=ops) (hR.weaken hF) (o:=o)
      rw[hg] at hgs
      simp only at hgs ⊢
      rw[if_pos hgs]
      exact g2 F hF a w Q K' hR (fun a' w' hr=>hK' a' w' (hr.weaken fun f hf=>hf.imp (hadd f) id)) ro q
    have skip:∀(acc1:List PF),zao c ops (zbr m (zcm (2 ^ i) 1 befs) acc1) o=.no→
        (zhP c Ki o.dst fun add=>tagK ks (2 ^ i) (zek (2 ^ i) m 1 befs) add acc1 fun acc'=>zdM c ops need befs ks r ms kr (2*2 ^ i) acc' K)→
        zdf i befs ks acc1→(∀j,j<i→zch E c.nt ops befs ks acc1 j)→Init E c.nt st0 acc1→
        ∃acc',zdf (i+(o::r).length) befs ks acc'∧(∀j,j<i+(o::r).length→zch E c.nt ops befs ks acc' j)∧Init E c.nt st0 acc'∧K acc':=by
      intro acc1 hg h k1 k2 k3
      obtain⟨add,g1,g2⟩:=zhO (E:=E) h
      refine go acc1 add g1 k1 k2 k3 fun acc' hsub hadd=>⟨m,Ki,fun f=>f∈zbr m (zcm (2 ^ i) 1 befs) acc1,hm,hK,fun f hf=>zcU hsub hf,fun F hF a w Q K' hR hK' ro q=>?_⟩
      unfold wpOpIn
      rw[ho]
      have hgs:=zc0 (c:=c) (ops:=ops) (hR.weaken hF) (o:=o)
      rw[hg] at hgs
      simp only at hgs ⊢
      rw[if_neg (by rw[hgs];simp)]
      refine⟨fun _ _=>trivial,?_⟩
      exact hK' _ _ ((g2 F a w hR).weaken fun f hf=>hf.imp (hadd f) id)
    simp only[zdM,zbz] at h
    split at h
    · rename_i hg
      exact run acc hg h h1 h2 h3
    · rename_i hg
      exact skip acc hg h h1 h2 h3
    · rename_i t g hg
      split at h
      case h_2=>exact h.elim
      case h_1 src kill x hp=>
        have q1:=zeS hp
        have q2:(⟨src,kill,.slot t (.one (.d .bool x))⟩:PF).f=.slot t (.one (.d .bool x)):=rfl
        cases hb:(zmY (zao c ops (zbr m (zcm (2 ^ i) 1 befs) (⟨src,kill,.slot t (.one (.lb (zaa o)))⟩::acc)) o)&&isNo (zao c ops (zbr m (zcm (2 ^ i) 1 befs) (⟨src,kill,.slot t (.one (.lb (!zaa o)))⟩::acc)) o)) with
        | false=>rw[hb] at h;exact h.elim
        | true=>
          rw[hb] at h
          simp only[cond_true] at h
          rw[Bool.and_eq_true] at hb
          by_cases hx:x=zaa o
          · exact run _ (zmX hb.1) (h.out.1 hx) (zlJ q1 q2 h1) (fun j hj=>zlI hx q1 q2 (h2 j hj)) (zlK hx q1 q2 h3)
          · have hx:x = !zaa o:=by cases x<;>cases hh:zaa o<;>simp_all
            exact skip _ (zoi hb.2) (h.out.2 hx) (zlJ q1 q2 h1) (fun j hj=>zlI hx q1 q2 (h2 j hj)) (zlK hx q1 q2 h3)
    · exact h.elim
theorem zgC:∀ {os:List Oper} {tbl:List Nat} {K:List Nat→Prop},zmO os tbl K→∃t,K t
  | [],tbl,K,h=>⟨tbl,h⟩
  | o::r,tbl,K,h=>by
    simp only[zmO,zbz,zb6] at h
    exact zgC h
theorem zd0:∀ {os:List Oper} {st:St} {ks:List Kill} {need:List Nat} {K:List Kill→List Nat→Prop},zf2 c ops os st ks need K→∃ks need,K ks need
  | [],st,ks,need,K,h=>⟨ks.reverse,need,by simpa only [zf2,zgN] using h⟩
  | o :: r, st,ks,need,K,h=>by
    have run:∀st,(match zcv (zee c st o) st with
      | some (_,st1)=>match zdS c st1 o with
        | some q=>zdn q.kill fun k=>zbC (zee c st o++need) fun need'=>zf2 c ops r (after st1 q) (k::ks) need' K
        | none=>False
      | none=>False)→∃ks need,K ks need:=by
      intro st h
      split at h
      · split at h
        · simp only[zdn,zb6,zeQ] at h
          exact zd0 h
        · exact h.elim
      · exact h.elim
    simp only[zf2,za8] at h
    split at h
    · exact run st h
    · exact zd0 h
    · exact run st h
    · exact h.elim
theorem zeL {f:Fact}:∀ {acc:List PF},f∈ziu acc→∃p∈acc,p.f=f∧p.kill=0
  | ⟨src, kill,f0⟩::r,h=>by
    simp only[ziu] at h
    cases hb:Nat.beq kill 0 with
    | true=>
      rw[hb] at h
      rcases List.mem_cons.1 h with rfl|h
      · exact⟨_,List.mem_cons_self,rfl,Nat.eq_of_beq_eq_true hb⟩
      · obtain⟨q,h1,h2⟩:=zeL h
        exact⟨q,List.mem_cons_of_mem _ h1,h2⟩
    | false=>
      rw[hb] at h
      obtain⟨q,h1,h2⟩:=zeL h
      exact⟨q,List.mem_cons_of_mem _ h1,h2⟩
theorem zfQ {P : Program} {OB:Nat→Obj→Prop} (hm:P.follows .mixedOrders=true) (hC:CfgOk P OB c):zmq P OB c (par c):=by
  intro E hP hOB id ops st K a w Q h hR hQ ro q
  subst hP hOB
  obtain⟨befs,h⟩:=zgC h
  cases hchk:zfd befs ops.toList befs 0 with
  | false=>rw[hchk] at h;exact h.elim
  | true =>
    rw[hchk] at h
    obtain⟨ks,need,h⟩:=zd0 h
    split at h
    case h_2=>exact h.elim
    case h_1 p st1 hf=>
      obtain⟨hp,h⟩:=OP.andK_out h
      rw[za8] at h
      obtain⟨acc,h,hacc⟩:=zhS h
      have hR1:=zbh hf hp hR
      have hk0:zdf 0 befs ks acc:=by
        intro p hp
        obtain⟨h1,h2,h3⟩:=hacc p hp
        refine .inl ⟨h2,fun k K hk hs=>?_⟩
        have:=zcW ks 0 0 k K hk hs
        rw[h3]
        simpa using this
      have hi0:Init E c.nt st1 acc:=fun a w hR=>hR.weaken fun f ⟨p,p1,p2,_⟩=>by rw[←p2];exact (hacc p p1).1
      obtain⟨acc',k1,k2,k3,k4⟩:=ze5 (E:=E) (ops:=ops) (st0:=st1) hC ops.toList befs ks 0 acc (by simp) (by simp) (by simp) h hk0 (fun j hj=>by omega) hi0
      simp only[Nat.zero_add,Array.length_toList] at k1 k2
      rw[za8] at k4
      refine wpIn_region_any hm (zeu (fun o ho t ht=>zeJ.2 ⟨o,ho,ht⟩) _ _ _ _ (zaU.refl _ _) ?_)
      have hR2:Rel E c.nt (fun f=>∃p∈acc',p.f=f∧p.src=0) a w:=k3 a w hR1
      refine zoD hchk k1 (fun i hi=>k2 i hi) (Q:=Q) (fun a' w' hR'=>?_) ops.size (Array.replicate ops.size false) a _ (by simp) ?_ ?_ ?_
      · refine hQ _ a' w' k4 (hR'.weaken fun f hf=>?_)
        obtain⟨p,p1,p2,p3⟩:=zeL hf
        refine⟨p,p1,p2,?_,fun k _=>by rw[p3];exact Nat.zero_testBit k⟩
        rcases k1 p p1 with ⟨q1,_⟩|⟨l,ml,q0,q1,_⟩
        · exact .inl q1
        · exact .inr ⟨l,q1,q0⟩
      · have:∀n (L:Array Bool),un L n≤n:=by
          intro n L
          induction n with
          | zero=>exact Nat.le_refl 0
          | succ n ih=>simp only[un];split<;>omega
        exact this _ _
      · intro i m hi
        simp at hi
        have hz:((Array.replicate ops.size false)[i]?.getD false)=false:=by
          by_cases h:i<ops.size<;>simp[h]
        simp_all
      · obtain ⟨η,g,H⟩:=hR2
        refine⟨η,⟨g.size,g.lim,g.defers,g.os,g.tape,g.output,g.grow,g.keep,g.own,g.dis,g.inj,g.old,g.obkeep,g.nd⟩,fun f ⟨p,p1,p2,p3,p4⟩=>?_⟩
        have hs:p.src=0:=by
          rcases p3 with p3|⟨l,_,p5⟩
          · exact p3
          · exfalso
            have hz:(Array.replicate ops.size false).getD l false=false:=by
              by_cases h:l<ops.size<;>simp[Array.getD,h]
            rw[hz] at p5
            cases p5
        exact H f ⟨p,p1,p2,hs⟩
end
end Go.Eng
set_option linter.all false
set_option maxRecDepth 100000
namespace Go.Eng
section
variable {c:Cfg}
end
end Go.Eng
set_option linter.all false
namespace Go.Eng
def SH:Nat:=10000000
def up (k:Nat):Nat:=k+SH
/-! ### Soundness -/
section
variable {V V':View} {η η':Eta} {f:Nat→Nat} {h:Nat→Bool}
end
set_option linter.all false
mutual
def brOf (tt:TT):Nat→Nat→Option Ty
  | 0,_=>none
  | n + 1, t=>match tt.get t with
    | some i=>match i.kind with
      | .int .i64=>some (.int .i64)
      | .bool=>some .bool
      | .str=>some .str
      | .slice e=>match tt.get e with
        | some ei=>bif Nat.ble 1 ei.size then (match brOf tt n e with
          | some a=>bif Nat.beq a.size ei.size then some (.sl a) else none
          | none=>none) else none
        | none=>none
      | .struct fs=>zeY tt n fs
      | .flt k=>some (.flt k)
      | .array k e=>match tt.get e with
        | some ei=>match brOf tt n e with
          | some a=>bif Nat.beq a.size ei.size then some (zbm (List.replicate k a)) else none
          | none=>none
        | none=>none
      | _=>none
    | none=>none
def zeY (tt:TT):Nat→List (Nat×Nat)→Option Ty
  | 0,_=>none
  | _,[]=>some .nil
  | n + 1,f::r=>match brOf tt n f.1 with
    | some a=>match zeY tt n r with
      | some b=>match tt.get f.1 with
        | some i=>bif Nat.beq a.size i.size then some (.cons a b) else none
        | none=>none
      | none=>none
    | none=>none
end
def Ty.fits:(t:Ty)→t.Den→Prop
  | .int _,(x:Int)=>-9223372036854775808≤x∧x≤9223372036854775807
  | .sl e,(xs:List e.Den)=>∀x∈xs,e.fits x
  | .cons a b,x=>a.fits x.1∧b.fits x.2
  | _,_=>True
abbrev zmt (w:World):View:=fun b c=>∃el f,w.heap[b]?=some (.cells c el f)
section
variable {H:Type} {enc:TypeId×Value→H} {P:Program} {w:World} {base:Nat} {spare:Nat→Bool} {held:Bool}
theorem zgX {a:Addr} {n:Nat} (hn:1≤n) {cs:List Value} (h:w.cells? base a n=some cs) :
    a.spot=none∧cs.length=n∧∃c el f,w.heap[a.block]?=some (.cells c el f)∧a.off+n≤c.size∧cs=(c.toList.drop a.off).take n:=by
  unfold World.cells? at h
  split at h
  case isFalse=>cases h
  case isTrue=>
    have hlen:=mapM_some_length h
    simp only[List.length_range] at hlen
    have each:∀i,i<n→w.cell? (a.add i)=cs[i]?:=fun i hi=>mapM_some_get h i i (by simp[hi])
    have h0:=each 0 (by omega)
    have e0:a.add 0=a:=by simp[Addr.add]
    rw[e0,List.getElem?_eq_getElem (by omega)] at h0
    unfold World.cell? at h0
    split at h0
    case h_2=>cases h0
    case h_1 c el f hb=>
      have hsp:a.spot=none:=by
        cases hs:a.spot with
        | none=>rfl
        | some s=>rw[hs] at h0;simp at h0
      have hc:∀i,i<n→c[a.off+i]?=cs[i]?:=by
        intro i hi
        have:=each i hi
        obtain⟨b,off,sp⟩:=a
        simp only at hsp hb
        subst hsp
        rw[zaJ,zbE hb] at this
        exact this
      have hsz:a.off+n≤c.size:=by
        have:=hc (n - 1) (by omega)
        rw[List.getElem?_eq_getElem (by omega)] at this
        have:=(Array.getElem?_eq_some_iff.1 this).1
        omega
      refine⟨hsp,hlen,c,el,f,hb,hsz,?_⟩
      apply List.ext_getElem?
      intro i
      by_cases hi:i<n
      · rw[List.getElem?_take,if_pos hi,List.getElem?_drop,←hc i hi,Array.getElem?_toList]
      · rw[List.getElem?_eq_none (by omega),List.getElem?_eq_none (by simp;omega)]
theorem zcD {tt:TT} (hT:TblOk P tt) {t:Nat} {i:TInfo} (h:tt.get t=some i):P.cellsOf t=i.size:=by
  obtain⟨ti,h1,h2,_⟩:=(hT.rows t i h).info
  simp[Program.cellsOf,h1,h2]
theorem zgZ {tt:TT}:∀(n:Nat) (fs:List (Nat×Nat)) (ty:Ty) (off m:Nat),zeY tt n fs=some ty→zaV tt off fs m=true→off+ty.size=m∧ty.agg=true
  | 0,fs,ty,off,m,h,_=>by simp[zeY] at h
  | n+1,[],ty,off,m,h,hf=>by
    simp only[zeY,Option.some.injEq] at h
    subst h
    simp only[zaV] at hf
    exact⟨Nat.eq_of_beq_eq_true hf,rfl⟩
  | n + 1, f :: r,ty,off,m,h,hf=>by
    simp only[zeY] at h
    cases ha:brOf tt n f.1 with
    | none=>rw[ha] at h;cases h
    | some a =>
      rw[ha] at h
      simp only at h
      cases hb:zeY tt n r with
      | none=>rw[hb] at h;cases h
      | some b=>
        rw[hb] at h
        simp only at h
        cases hg:tt.get f.1 with
        | none=>rw[hg] at h;cases h
        | some i=>
          rw[hg] at h
          simp only at h
          cases hz:Nat.beq a.size i.size with
          | false=>rw[hz] at h;simp at h
          | true=>
            rw[hz] at h
            simp only[cond_true,Option.some.injEq] at h
            subst h
            have hz':=Nat.eq_of_beq_eq_true hz
            simp only[zaV,hg,Bool.and_eq_true] at hf
            have:=(zgZ n r b _ m hb hf.2).1
            exact⟨by simp only[Ty.size];omega,rfl⟩
theorem zfZ {α:Type} {p:Nat→α→Prop}:∀n:Nat,(∀i,i<n→∃x,p i x)→∃xs:List α,xs.length=n∧∀i x,xs[i]?=some x→p i x
  | 0,_=>⟨[],rfl,fun i x h=>by simp at h⟩
  | n + 1,h=>by
    obtain⟨xs,h1,h2⟩:=zfZ n (fun i hi=>h i (by omega))
    obtain⟨x,hx⟩:=h n (by omega)
    refine⟨xs++[x],by simp[h1],fun i y hy=>?_⟩
    by_cases hi:i<n
    · rw[List.getElem?_append_left (by omega)] at hy;exact h2 i y hy
    · rw [List.getElem?_append_right (by omega)] at hy
      have:i - xs.length=0:=by
        have:=(List.getElem?_eq_some_iff.1 hy).1
        simp at this;omega
      rw[this] at hy
      simp at hy
      subst hy
      have:i=n:=by omega
      subst this
      exact hx
theorem zkz (a:Ty):∀n,(zbm (List.replicate n a)).agg=true
  | 0=>rfl
  | _+1=>rfl
theorem zmw {t:TypeId} {fuel:Nat} {cs:List Value} {x:DataW H×List MemPlace} {k:FloatKind} (ht:P.underlying t=some (.float k)) (h:DataW.trod enc P w base spare held fuel t cs=some x):∃n,cs=[.float k n]:=by
  cases fuel with
  | zero=>simp[DataW.trod] at h
  | succ n=>
    unfold DataW.trod at h
    rw[ht] at h
    split at h<;>simp_all
theorem zmv {tt : TT} (hT : TblOk P tt):∀(fuel m t:Nat) (ty:Ty) (cs:List Value) (z:DataW H×List MemPlace),brOf tt m t=some ty→DataW.trod enc P w base spare held fuel t cs=some z→
    ∃x:ty.Den,Rep (zmt w) ty x cs∧ty.fits x:=by
  intro fuel
  induction fuel using Nat.strongRecOn with
  | _ fuel ih =>
    intro m t ty cs z hb hz
    cases m with
    | zero=>simp[brOf] at hb
    | succ m =>
      simp only[brOf] at hb
      cases hg:tt.get t with
      | none=>rw[hg] at hb;cases hb
      | some i =>
        rw[hg] at hb
        have hI:=hT.rows t i hg
        have hd:=hI.desc
        simp only at hb
        cases hk:i.kind with
        | int k=>
          rw[hk] at hb hd
          simp only at hd
          cases k<;>simp only[Option.some.injEq] at hb<;>first|(cases hb;done)|subst hb
          obtain⟨n,rfl,_,hw⟩:=DataW.trod_int hd hz
          refine⟨n,rfl,?_⟩
          simp only[Lit.wf,Bool.and_eq_true,decide_eq_true_eq] at hw
          exact hw
        | bool=>
          rw[hk] at hb hd
          simp only[Option.some.injEq] at hb hd
          subst hb
          obtain⟨b,rfl,_⟩:=DataW.trod_bool hd hz
          exact⟨b,rfl,trivial⟩
        | str=>
          rw[hk] at hb hd
          simp only[Option.some.injEq] at hb hd
          subst hb
          obtain⟨s,rfl,_⟩:=DataW.trod_string hd hz
          exact⟨s,rfl,trivial⟩
        | flt k=>
          rw[hk] at hb hd
          simp only[Option.some.injEq] at hb hd
          subst hb
          obtain⟨b,rfl⟩:=zmw hd hz
          exact⟨b,rfl,trivial⟩
        | cpx k=>rw[hk] at hb;cases hb
        | array len e=>
          rw[hk] at hb hd
          simp only at hb hd
          cases hge:tt.get e with
          | none=>rw[hge] at hb;cases hb
          | some ei =>
            rw[hge] at hb
            simp only at hb
            cases ha:brOf tt m e with
            | none=>rw[ha] at hb;cases hb
            | some a =>
              rw[ha] at hb
              simp only at hb
              cases h2:Nat.beq a.size ei.size with
              | false=>rw[h2] at hb;simp at hb
              | true =>
                rw[h2] at hb
                simp only[cond_true,Option.some.injEq] at hb
                subst hb
                have h2:=Nat.eq_of_beq_eq_true h2
                obtain⟨xs,n,hf,_,hl,hxl,each⟩:=DataW.trod_array hd hz
                have hc:=zcD hT hge
                have hci:=zcD hT hg
                have hrow:=hT.row hg
                simp only[zdg,hk,hge] at hrow
                have hrow:=Nat.eq_of_beq_eq_true hrow
                have go:∀(r off:Nat),off+r=len→∃x:(zbm (List.replicate r a)).Den,Rep (zmt w) (zbm (List.replicate r a)) x (cs.drop (off*ei.size))∧(zbm (List.replicate r a)).fits x:=by
                  intro r
                  induction r with
                  | zero=>
                    intro off ho
                    refine⟨(),List.drop_of_length_le ?_,trivial⟩
                    rw[hl,hci,hrow,show off=len by omega]
                    exact Nat.le_refl _
                  | succ r ihr=>
                    intro off ho
                    have hlt:off<xs.length:=by omega
                    have hread:=each off (by omega)
                    rw[hc,List.getElem?_eq_getElem hlt] at hread
                    obtain⟨x,hx,hfx⟩:=ih n (by omega) m e a _ _ ha hread
                    obtain⟨y,hy,hfy⟩:=ihr (off+1) (by omega)
                    refine⟨(x,y),⟨_,_,?_,hx,hy⟩,hfx,hfy⟩
                    rw[Nat.add_mul,Nat.one_mul,←List.drop_drop]
                    exact (List.take_append_drop _ _).symm
                obtain⟨x,hx,hfx⟩:=go len 0 (by omega)
                exact⟨x,by simpa using hx,hfx⟩
        | ptr e=>rw[hk] at hb;cases hb
        | other=>rw[hk] at hb;cases hb
        | iface=>rw[hk] at hb;cases hb
        | slice e =>
          rw[hk] at hb hd
          simp only at hb hd
          cases hge:tt.get e with
          | none=>rw[hge] at hb;cases hb
          | some ei =>
            rw[hge] at hb
            simp only at hb
            cases h1:Nat.ble 1 ei.size with
            | false=>rw[h1] at hb;simp at hb
            | true =>
              rw[h1] at hb
              simp only[cond_true] at hb
              cases ha:brOf tt m e with
              | none=>rw[ha] at hb;cases hb
              | some a =>
                rw[ha] at hb
                simp only at hb
                cases h2:Nat.beq a.size ei.size with
                | false=>rw[h2] at hb;simp at hb
                | true =>
                  rw[h2] at hb
                  simp only[cond_true,Option.some.injEq] at hb
                  subst hb
                  have h1:=Nat.le_of_ble_eq_true h1
                  have h2:=Nat.eq_of_beq_eq_true h2
                  have hc:=zcD hT hge
                  rw[←h2] at hc h1
                  rcases DataW.trod_slice hd hz with ⟨rfl,_⟩|⟨ad,len,cap,zji,rest,n,hf,rfl,_,_,hlc,hcm,hel,each,_,_⟩
                  · exact⟨[],zi0 a,(fun x hx=>by cases hx)⟩
                  · have one:∀j,j<len→∃x:a.Den,(ad.spot=none∧∃c el f,w.heap[ad.block]?=some (.cells c el f)∧ad.off+j*a.size+a.size≤c.size∧
                        Rep (zmt w) a x ((c.toList.drop (ad.off+j*a.size)).take a.size))∧a.fits x:=by
                      intro j hj
                      have h3:=each j hj
                      rw[hc,List.getElem?_eq_getElem (by omega)] at h3
                      obtain⟨cj,h4,h5⟩:=Option.bind_eq_some_iff.1 h3
                      obtain⟨s1,s2,c,el,f,s3,s4,s5⟩:=zgX h1 h4
                      obtain⟨x,hx,hfx⟩:=ih n (by omega) m e a cj _ ha h5
                      obtain⟨b,off,sp⟩:=ad
                      have hsp:sp=none:=by
                        have h6:=each 0 (by omega)
                        rw[hc,List.getElem?_eq_getElem (by omega)] at h6
                        obtain⟨c0,h7,_⟩:=Option.bind_eq_some_iff.1 h6
                        have:=(zgX h1 h7).1
                        simpa [Addr.add] using this
                      subst hsp
                      rw[zaJ] at s3 s4 s5
                      exact⟨x,⟨rfl,c,el,f,s3,s4,by rw[←s5];exact hx⟩,hfx⟩
                    obtain⟨xs,l1,l2⟩:=zfZ len one
                    refine⟨xs,⟨some ad,cap,?_,?_,hcm,(fun h=>by cases h),fun ad' had hne=>?_⟩,fun x hx=>?_⟩
                    · rw[←l1]
                    · exact l1▸hlc
                    · cases had
                      have hpos:0<len:=by
                        rw[←l1]
                        exact List.length_pos_iff.2 hne
                      have hlast:=l2 (len - 1) _ (List.getElem?_eq_getElem (by omega))
                      obtain⟨⟨s1,c,el,f,s3,s4,s5⟩,_⟩:=hlast
                      refine⟨s1,c,⟨el,f,s3⟩,?_,fun j x hx=>?_⟩
                      · change ad.off+xs.length*a.size≤c.size
                        rw[l1]
                        have:len*a.size=(len - 1)*a.size+a.size:=by
                          rw[←Nat.succ_mul];congr 1;omega
                        omega
                      · obtain⟨⟨_,c',el',f',s6,_,s7⟩,_⟩:=l2 j x hx
                        rw[s3] at s6
                        simp only[Option.some.injEq,Obj.cells.injEq] at s6
                        obtain⟨rfl,_,_⟩:=s6
                        exact s7
                    · obtain⟨j,hj,rfl⟩:=List.mem_iff_getElem.1 hx
                      exact (l2 j _ (List.getElem?_eq_getElem hj)).2
        | struct fs =>
          rw[hk] at hb hd
          simp only at hb hd
          obtain⟨fa,hd,hfs⟩:=hd
          obtain⟨xs,n,hf,_,hl,hxl,each⟩:=DataW.trod_struct hd hz
          have hrow:=hT.row hg
          simp only[zdg,hk] at hrow
          have hci:=zcD hT hg
          -- the fields, from a place on
          have go : ∀ (gs : List (Nat×Nat)) (k off m':Nat) (ty:Ty),fs.drop k=gs→zeY tt m' gs=some ty→zaV tt off gs i.size=true→
              ∃x:ty.Den,Rep (zmt w) ty x (cs.drop off)∧ty.fits x:=by
            intro gs
            induction gs with
            | nil=>
              intro k off m' ty _ h1 h2
              cases m' with
              | zero=>simp[zeY] at h1
              | succ m'=>
                simp only[zeY,Option.some.injEq] at h1
                subst h1
                simp only[zaV] at h2
                have h2:=Nat.eq_of_beq_eq_true h2
                exact⟨(),List.drop_of_length_le (by omega),trivial⟩
            | cons g r ihg =>
              intro k off m' ty hgs h1 h2
              cases m' with
              | zero=>simp[zeY] at h1
              | succ m' =>
                simp only[zeY] at h1
                cases ha:brOf tt m' g.1 with
                | none=>rw[ha] at h1;cases h1
                | some a =>
                  rw[ha] at h1
                  simp only at h1
                  cases hb2:zeY tt m' r with
                  | none=>rw[hb2] at h1;cases h1
                  | some b =>
                    rw[hb2] at h1
                    simp only at h1
                    cases hgg:tt.get g.1 with
                    | none=>rw[hgg] at h1;cases h1
                    | some gi=>
                      rw[hgg] at h1
                      simp only at h1
                      cases hz2:Nat.beq a.size gi.size with
                      | false=>rw[hz2] at h1;simp at h1
                      | true=>
                        rw[hz2] at h1
                        simp only[cond_true,Option.some.injEq] at h1
                        subst h1
                        have hz2:=Nat.eq_of_beq_eq_true hz2
                        simp only[zaV,hgg,Bool.and_eq_true] at h2
                        obtain⟨h3,h4⟩:=h2
                        have h3:=Nat.eq_of_beq_eq_true h3
                        have hget:fs[k]?=some g:=by
                          have:=congrArg (fun l:List (Nat×Nat)=>l[0]?) hgs
                          simpa using this
                        rw[←hfs] at hget
                        simp only[List.getElem?_map,Option.map_eq_some_iff,Array.getElem?_toList] at hget
                        obtain⟨fl,hfl,hfg⟩:=hget
                        have e1:fl.type=g.1:=congrArg Prod.fst hfg
                        have e2:fl.offset=g.2:=congrArg Prod.snd hfg
                        have hread:=each k fl hfl
                        have hlt:k<xs.length:=by rw[hxl];exact (Array.getElem?_eq_some_iff.1 hfl).1
                        rw[e1,e2,h3,zcD hT hgg,List.getElem?_eq_getElem hlt] at hread
                        obtain⟨x,hx,hfx⟩:=ih n (by omega) m' g.1 a _ _ ha hread
                        obtain⟨y,hy,hfy⟩:=ihg (k+1) (off+gi.size) m' b (by rw[←List.drop_drop,hgs];rfl) hb2 h4
                        refine⟨(x,y),⟨_,_,?_,hx,hy⟩,hfx,hfy⟩
                        rw[←List.drop_drop]
                        exact (List.take_append_drop _ _).symm
          obtain⟨x,hx,hfx⟩:=go fs 0 0 m ty (by simp) hb hrow
          exact⟨x,by simpa using hx,hfx⟩
end
theorem zn4 {P : Program} {w:World} {tt:TT} (hT:TblOk P tt) {base m t:Nat} {ty:Ty} {v:Value} {r:Reach} {V:View} {x:ty.Den} (hb:brOf tt m t=some ty) (hv:Value.okWide P w r base t v) (hx:Rep V ty x v.cells.toList):RepV V ty x v:=by
  cases m with
  | zero=>simp[brOf] at hb
  | succ m =>
    simp only[brOf] at hb
    cases hg:tt.get t with
    | none=>rw[hg] at hb;cases hb
    | some i =>
      rw[hg] at hb
      have hd:=(hT.rows t i hg).desc
      simp only at hb
      have oneC:ty.agg=false→v.oneCell'=true→RepV V ty x v:=fun h1 h2=>by
        refine RepV.mk1 h1 ?_
        cases v<;>first|(simp[Value.oneCell'] at h2;done)|simpa [Value.cells] using hx
      cases hk:i.kind with
      | int k=>
        rw[hk] at hb hd
        simp only at hd
        cases k<;>simp only[Option.some.injEq] at hb<;>first|(cases hb;done)|subst hb
        refine oneC rfl ?_
        simp only[Value.okWide,hd,Cell.okWide,Cell.ok] at hv
        split at hv<;>first|rfl|exact hv.elim|(cases hv;done)|simp_all [Value.oneCell']
      | bool=>
        rw[hk] at hb hd
        simp only[Option.some.injEq] at hb hd
        subst hb
        refine oneC rfl ?_
        simp only[Value.okWide,hd,Cell.okWide,Cell.ok] at hv
        split at hv<;>first|rfl|exact hv.elim|(cases hv;done)|simp_all [Value.oneCell']
      | str=>
        rw[hk] at hb hd
        simp only[Option.some.injEq] at hb hd
        subst hb
        refine oneC rfl ?_
        simp only[Value.okWide,hd,Cell.okWide,Cell.ok] at hv
        split at hv<;>first|rfl|exact hv.elim|(cases hv;done)|simp_all [Value.oneCell']
      | flt k=>
        rw[hk] at hb hd
        simp only[Option.some.injEq] at hb hd
        subst hb
        refine oneC rfl ?_
        simp only[Value.okWide,hd,Cell.okWide,Cell.ok] at hv
        split at hv<;>first|rfl|exact hv.elim|(cases hv;done)|simp_all [Value.oneCell']
      | cpx k=>rw[hk] at hb;cases hb
      | array len e=>
        rw[hk] at hb hd
        simp only at hb hd
        cases hge:tt.get e with
        | none=>rw[hge] at hb;cases hb
        | some ei=>
          rw[hge] at hb
          simp only at hb
          cases ha:brOf tt m e with
          | none=>rw[ha] at hb;cases hb
          | some a=>
            rw[ha] at hb
            simp only at hb
            cases h2:Nat.beq a.size ei.size with
            | false=>rw[h2] at hb;simp at hb
            | true=>
              rw[h2] at hb
              simp only[cond_true,Option.some.injEq] at hb
              subst hb
              simp only[Value.okWide,hd] at hv
              obtain⟨cs,rfl,_,_⟩:=hv
              exact⟨cs.toList,by simpa [Value.cells] using hx,.inl ⟨zkz _ _,by simp⟩⟩
      | ptr e=>rw[hk] at hb;cases hb
      | other=>rw[hk] at hb;cases hb
      | iface=>rw[hk] at hb;cases hb
      | slice e =>
        rw[hk] at hb hd
        simp only at hb hd
        have hag : ty.agg=false:=by
          cases hge:tt.get e with
          | none=>rw[hge] at hb;cases hb
          | some ei=>
            rw[hge] at hb
            simp only at hb
            cases h1:Nat.ble 1 ei.size with
            | false=>rw[h1] at hb;simp at hb
            | true =>
              rw[h1] at hb
              simp only[cond_true] at hb
              cases ha:brOf tt m e with
              | none=>rw[ha] at hb;cases hb
              | some a=>
                rw[ha] at hb
                simp only at hb
                cases h2:Nat.beq a.size ei.size with
                | false=>rw[h2] at hb;simp at hb
                | true=>
                  rw[h2] at hb
                  simp only[cond_true,Option.some.injEq] at hb
                  subst hb;rfl
        refine oneC hag ?_
        simp only[Value.okWide,hd,Cell.okWide,Cell.ok] at hv
        split at hv<;>first|rfl|exact hv.elim|(cases hv;done)|simp_all [Value.oneCell']
      | struct fs=>
        rw[hk] at hb hd
        simp only at hb hd
        obtain⟨fa,hd,_⟩:=hd
        have hrow:=hT.row hg
        simp only[zdg,hk] at hrow
        have hag:=(zgZ m fs ty 0 i.size hb hrow).2
        simp only[Value.okWide,hd] at hv
        obtain⟨cs,rfl,_,_⟩:=hv
        exact⟨cs.toList,by simpa [Value.cells] using hx,.inl ⟨hag,by simp⟩⟩
def datP:List Ty→List Pat
  | []=>[]
  | t::r=>.dat t::datP r
def zjg:(tys:List Ty)→(zab (datP tys)).Den→Prop
  | [],_=>True
  | t::r,x=>t.fits x.1∧zjg r x.2
def znd (tt:TT):List TypeId→List Ty→Prop
  | [],[]=>True
  | t::r,ty::s=>brOf tt 20 t=some ty∧znd tt r s
  | _,_=>False
theorem zmj {H:Type} {enc:TypeId×Value→H} {P:Program} {W:World} {OB:Nat→Obj→Prop} {tt:TT} (hT:TblOk P tt) {base:Nat}:∀ {ts:List TypeId} {tys:List Ty} {vs:List Value} {ds:List (DataW H)} {ps:List MemPlace},znd tt ts tys→
    DataW.TrodAll enc P W 0 (fun _=>true) true ts vs ds ps→(∀(j:Nat) t v,ts[j]?=some t→vs[j]?=some v→Value.okWide P W .any base t v)→
    ∃x:(zab (datP tys)).Den,zcI OB W (fun _=>False) (datP tys) x vs []∧zjg tys x
  | [],[],[],[],ps,_,_,_=>⟨(),⟨rfl,rfl⟩,trivial⟩
  | t::ts,ty::tys,v::vs,d::ds,ps,hb,h,hv=>by
    obtain⟨p,q,⟨fuel,h1⟩,h2,_⟩:=h
    obtain⟨x,hx,hf⟩:=zmv hT fuel 20 t ty _ _ hb.1 h1
    obtain⟨y,hy,hg⟩:=zmj hT hb.2 h2 (fun j t' v' h3 h4=>hv (j+1) t' v' (by simpa using h3) (by simpa using h4))
    have hr:=zn4 hT hb.1 (hv 0 t v rfl rfl) hx
    exact⟨(x,y),⟨v,vs,rfl,hr.mono (fun b c h=>⟨fun h=>h,h⟩),hy⟩,hf,hg⟩
end Go.Eng
namespace Go.Eng.Pu
open Go.Eng Go.Proofs
def zmn (P:Program):TT→Prop
  | []=>True
  | (t,i)::r=>TIOk P t i∧zmn P r
theorem zgu {P:Program}:∀ {tt:TT} {t:Nat} {i:TInfo},zmn P tt→tt.get t=some i→TIOk P t i
  | [],_,_,_,h=>by simp[TT.get] at h
  | (t',i')::r,t,i,hr,h=>by
    simp only[TT.get] at h
    cases hb:Nat.beq t' t with
    | true=>
      rw[hb] at h
      have:=Nat.eq_of_beq_eq_true hb
      subst this
      simp only[cond_true,Option.some.injEq] at h
      subst h
      exact hr.1
    | false=>rw[hb] at h;exact zgu hr.2 h
def i3:TInfo:={kind:=.int .i64,size:=1,bytes:=8,zero:=.int .i64 0}
theorem row3:TIOk Try.prog 3 i3:=⟨Try.underlying3,⟨Try.t3,by kernel_rfl,by kernel_rfl,by kernel_rfl,by kernel_rfl⟩,rfl⟩
def i4:TInfo:={kind:=.bool,size:=1,bytes:=1,zero:=.bool false}
theorem row4:TIOk Try.prog 4 i4:=⟨Try.underlying4,⟨Try.t4,by kernel_rfl,by kernel_rfl,by kernel_rfl,by kernel_rfl⟩,rfl⟩
def i22:TInfo:={kind:=.slice 53,size:=1,bytes:=24,zero:=.slice none 0 0}
theorem zqx:TIOk Try.prog 22 i22:=⟨Try.underlying22,⟨Try.t22,by kernel_rfl,by kernel_rfl,by kernel_rfl,by kernel_rfl⟩,rfl⟩
def i23:TInfo:={kind:=.slice 3,size:=1,bytes:=24,zero:=.slice none 0 0}
theorem zqw:TIOk Try.prog 23 i23:=⟨Try.underlying23,⟨Try.t23,by kernel_rfl,by kernel_rfl,by kernel_rfl,by kernel_rfl⟩,rfl⟩
def i25:TInfo:={kind:=.struct [(3,0),(23,1)],size:=2,bytes:=32,zero:=.agg #[.int .i64 0,.slice none 0 0]}
theorem zqv:TIOk Try.prog 25 i25:=⟨⟨_,Try.underlying25,rfl⟩,⟨Try.t25,by kernel_rfl,by kernel_rfl,by kernel_rfl,by kernel_rfl⟩,rfl⟩
def i26:TInfo:={kind:=.struct [(25,0),(3,2)],size:=3,bytes:=40,zero:=.agg #[.int .i64 0,.slice none 0 0,.int .i64 0]}
theorem zqu:TIOk Try.prog 26 i26:=⟨⟨_,Try.underlying26,rfl⟩,⟨Try.t26,by kernel_rfl,by kernel_rfl,by kernel_rfl,by kernel_rfl⟩,rfl⟩
def i27:TInfo:={kind:=.struct [(25,0),(3,2)],size:=3,bytes:=40,zero:=.agg #[.int .i64 0,.slice none 0 0,.int .i64 0]}
theorem zqt:TIOk Try.prog 27 i27:=⟨⟨_,Try.underlying27,rfl⟩,⟨Try.t27,by kernel_rfl,by kernel_rfl,by kernel_rfl,by kernel_rfl⟩,rfl⟩
def i31:TInfo:={kind:=.slice 39,size:=1,bytes:=24,zero:=.slice none 0 0}
theorem zqs:TIOk Try.prog 31 i31:=⟨Try.underlying31,⟨Try.t31,by kernel_rfl,by kernel_rfl,by kernel_rfl,by kernel_rfl⟩,rfl⟩
def i34:TInfo:={kind:=.int .i64,size:=1,bytes:=8,zero:=.int .i64 0}
theorem zqr:TIOk Try.prog 34 i34:=⟨Try.underlying34,⟨Try.t34,by kernel_rfl,by kernel_rfl,by kernel_rfl,by kernel_rfl⟩,rfl⟩
def i39:TInfo:={kind:=.cpx .f32,size:=1,bytes:=8,zero:=.complex .f32 0 0}
theorem zqq:TIOk Try.prog 39 i39:=⟨Try.underlying39,⟨Try.t39,by kernel_rfl,by kernel_rfl,by kernel_rfl,by kernel_rfl⟩,rfl⟩
def i41:TInfo:={kind:=.slice 31,size:=1,bytes:=24,zero:=.slice none 0 0}
theorem zqp:TIOk Try.prog 41 i41:=⟨Try.underlying41,⟨Try.t41,by kernel_rfl,by kernel_rfl,by kernel_rfl,by kernel_rfl⟩,rfl⟩
def i43:TInfo:={kind:=.slice 56,size:=1,bytes:=24,zero:=.slice none 0 0}
theorem zqo:TIOk Try.prog 43 i43:=⟨Try.underlying43,⟨Try.t43,by kernel_rfl,by kernel_rfl,by kernel_rfl,by kernel_rfl⟩,rfl⟩
def i45:TInfo:={kind:=.struct [(3,0),(43,1)],size:=2,bytes:=32,zero:=.agg #[.int .i64 0,.slice none 0 0]}
theorem zqn:TIOk Try.prog 45 i45:=⟨⟨_,Try.underlying45,rfl⟩,⟨Try.t45,by kernel_rfl,by kernel_rfl,by kernel_rfl,by kernel_rfl⟩,rfl⟩
def i46:TInfo:={kind:=.array 2 45,size:=4,bytes:=64,zero:=.agg #[.int .i64 0,.slice none 0 0,.int .i64 0,.slice none 0 0]}
theorem zqm:TIOk Try.prog 46 i46:=⟨Try.underlying46,⟨Try.t46,by kernel_rfl,by kernel_rfl,by kernel_rfl,by kernel_rfl⟩,rfl⟩
def i52:TInfo:={kind:=.struct [(3,0),(3,1)],size:=2,bytes:=16,zero:=.agg #[.int .i64 0,.int .i64 0]}
theorem zql:TIOk Try.prog 52 i52:=⟨⟨_,Try.underlying52,rfl⟩,⟨Try.t52,by kernel_rfl,by kernel_rfl,by kernel_rfl,by kernel_rfl⟩,rfl⟩
def i53:TInfo:={kind:=.array 2 3,size:=2,bytes:=16,zero:=.agg #[.int .i64 0,.int .i64 0]}
theorem zqk:TIOk Try.prog 53 i53:=⟨Try.underlying53,⟨Try.t53,by kernel_rfl,by kernel_rfl,by kernel_rfl,by kernel_rfl⟩,rfl⟩
def i56:TInfo:={kind:=.flt .f32,size:=1,bytes:=4,zero:=.float .f32 0}
theorem zqj:TIOk Try.prog 56 i56:=⟨Try.underlying56,⟨Try.t56,by kernel_rfl,by kernel_rfl,by kernel_rfl,by kernel_rfl⟩,rfl⟩
def i57:TInfo:={kind:=.array 2 56,size:=2,bytes:=8,zero:=.agg #[.float .f32 0,.float .f32 0]}
theorem zqi:TIOk Try.prog 57 i57:=⟨Try.underlying57,⟨Try.t57,by kernel_rfl,by kernel_rfl,by kernel_rfl,by kernel_rfl⟩,rfl⟩
def i58:TInfo:={kind:=.slice 57,size:=1,bytes:=24,zero:=.slice none 0 0}
theorem zqh:TIOk Try.prog 58 i58:=⟨Try.underlying58,⟨Try.t58,by kernel_rfl,by kernel_rfl,by kernel_rfl,by kernel_rfl⟩,rfl⟩
def i59:TInfo:={kind:=.slice 57,size:=1,bytes:=24,zero:=.slice none 0 0}
theorem zqg:TIOk Try.prog 59 i59:=⟨Try.underlying59,⟨Try.t59,by kernel_rfl,by kernel_rfl,by kernel_rfl,by kernel_rfl⟩,rfl⟩
def i65:TInfo:={kind:=.slice 78,size:=1,bytes:=24,zero:=.slice none 0 0}
theorem zqf:TIOk Try.prog 65 i65:=⟨Try.underlying65,⟨Try.t65,by kernel_rfl,by kernel_rfl,by kernel_rfl,by kernel_rfl⟩,rfl⟩
def i66:TInfo:={kind:=.slice 78,size:=1,bytes:=24,zero:=.slice none 0 0}
theorem zqe:TIOk Try.prog 66 i66:=⟨Try.underlying66,⟨Try.t66,by kernel_rfl,by kernel_rfl,by kernel_rfl,by kernel_rfl⟩,rfl⟩
def i70:TInfo:={kind:=.struct [(25,0)],size:=2,bytes:=32,zero:=.agg #[.int .i64 0,.slice none 0 0]}
theorem zpb:TIOk Try.prog 70 i70:=⟨⟨_,Try.underlying70,rfl⟩,⟨Try.t70,by kernel_rfl,by kernel_rfl,by kernel_rfl,by kernel_rfl⟩,rfl⟩
def i78:TInfo:={kind:=.struct [(3,0),(3,1)],size:=2,bytes:=16,zero:=.agg #[.int .i64 0,.int .i64 0]}
theorem zqd:TIOk Try.prog 78 i78:=⟨⟨_,Try.underlying78,rfl⟩,⟨Try.t78,by kernel_rfl,by kernel_rfl,by kernel_rfl,by kernel_rfl⟩,rfl⟩
def i84:TInfo:={kind:=.cpx .f64,size:=1,bytes:=16,zero:=.complex .f64 0 0}
theorem zqc:TIOk Try.prog 84 i84:=⟨Try.underlying84,⟨Try.t84,by kernel_rfl,by kernel_rfl,by kernel_rfl,by kernel_rfl⟩,rfl⟩
def i89:TInfo:={kind:=.struct [(3,0),(3,1)],size:=2,bytes:=16,zero:=.agg #[.int .i64 0,.int .i64 0]}
theorem zqb:TIOk Try.prog 89 i89:=⟨⟨_,Try.underlying89,rfl⟩,⟨Try.t89,by kernel_rfl,by kernel_rfl,by kernel_rfl,by kernel_rfl⟩,rfl⟩
def i92:TInfo:={kind:=.struct [(45,0),(3,2),(3,3)],size:=4,bytes:=48,zero:=.agg #[.int .i64 0,.slice none 0 0,.int .i64 0,.int .i64 0]}
theorem zqa:TIOk Try.prog 92 i92:=⟨⟨_,Try.underlying92,rfl⟩,⟨Try.t92,by kernel_rfl,by kernel_rfl,by kernel_rfl,by kernel_rfl⟩,rfl⟩
def i93:TInfo:={kind:=.struct [(45,0),(3,2),(3,3)],size:=4,bytes:=48,zero:=.agg #[.int .i64 0,.slice none 0 0,.int .i64 0,.int .i64 0]}
theorem zp9:TIOk Try.prog 93 i93:=⟨⟨_,Try.underlying93,rfl⟩,⟨Try.t93,by kernel_rfl,by kernel_rfl,by kernel_rfl,by kernel_rfl⟩,rfl⟩
def i101:TInfo:={kind:=.int .u64,size:=1,bytes:=8,zero:=.int .u64 0}
theorem zpm:TIOk Try.prog 101 i101:=⟨Try.underlying101,⟨Try.t101,by kernel_rfl,by kernel_rfl,by kernel_rfl,by kernel_rfl⟩,rfl⟩
def i103:TInfo:={kind:=.flt .f64,size:=1,bytes:=8,zero:=.float .f64 0}
theorem zpl:TIOk Try.prog 103 i103:=⟨Try.underlying103,⟨Try.t103,by kernel_rfl,by kernel_rfl,by kernel_rfl,by kernel_rfl⟩,rfl⟩
def i104:TInfo:={kind:=.slice 34,size:=1,bytes:=24,zero:=.slice none 0 0}
theorem zpk:TIOk Try.prog 104 i104:=⟨Try.underlying104,⟨Try.t104,by kernel_rfl,by kernel_rfl,by kernel_rfl,by kernel_rfl⟩,rfl⟩
def i105:TInfo:={kind:=.ptr 112,size:=1,bytes:=8,zero:=.pointer none}
theorem zpj:TIOk Try.prog 105 i105:=⟨Try.underlying105,⟨Try.t105,by kernel_rfl,by kernel_rfl,by kernel_rfl,by kernel_rfl⟩,rfl⟩
def i110:TInfo:={kind:=.slice 89,size:=1,bytes:=24,zero:=.slice none 0 0}
theorem zpi:TIOk Try.prog 110 i110:=⟨Try.underlying110,⟨Try.t110,by kernel_rfl,by kernel_rfl,by kernel_rfl,by kernel_rfl⟩,rfl⟩
def i111:TInfo:={kind:=.struct [(93,0),(110,4),(110,5)],size:=6,bytes:=96,zero:=.agg #[.int .i64 0,.slice none 0 0,.int .i64 0,.int .i64 0,.slice none 0 0,.slice none 0 0]}
theorem zph:TIOk Try.prog 111 i111:=⟨⟨_,Try.underlying111,rfl⟩,⟨Try.t111,by kernel_rfl,by kernel_rfl,by kernel_rfl,by kernel_rfl⟩,rfl⟩
def i112:TInfo:={kind:=.struct [(93,0),(110,4),(110,5)],size:=6,bytes:=96,zero:=.agg #[.int .i64 0,.slice none 0 0,.int .i64 0,.int .i64 0,.slice none 0 0,.slice none 0 0]}
theorem zpg:TIOk Try.prog 112 i112:=⟨⟨_,Try.underlying112,rfl⟩,⟨Try.t112,by kernel_rfl,by kernel_rfl,by kernel_rfl,by kernel_rfl⟩,rfl⟩
def i114:TInfo:={kind:=.other,size:=1,bytes:=8,zero:=.nilFunc}
theorem zpf:TIOk Try.prog 114 i114:=⟨⟨_,Try.underlying114,trivial⟩,⟨Try.t114,by kernel_rfl,by kernel_rfl,by kernel_rfl,by kernel_rfl⟩,rfl⟩
def i115:TInfo:={kind:=.other,size:=1,bytes:=8,zero:=.nilFunc}
theorem zpe:TIOk Try.prog 115 i115:=⟨⟨_,Try.underlying115,trivial⟩,⟨Try.t115,by kernel_rfl,by kernel_rfl,by kernel_rfl,by kernel_rfl⟩,rfl⟩
def i123:TInfo:={kind:=.int .u64,size:=1,bytes:=8,zero:=.int .u64 0}
theorem zpd:TIOk Try.prog 123 i123:=⟨Try.underlying123,⟨Try.t123,by kernel_rfl,by kernel_rfl,by kernel_rfl,by kernel_rfl⟩,rfl⟩
def i132:TInfo:={kind:=.int .u32,size:=1,bytes:=4,zero:=.int .u32 0}
theorem zpc:TIOk Try.prog 132 i132:=⟨Try.underlying132,⟨Try.t132,by kernel_rfl,by kernel_rfl,by kernel_rfl,by kernel_rfl⟩,rfl⟩
def tt:TT:=[(3,i3),(4,i4),(22,i22),(23,i23),(25,i25),(26,i26),(27,i27),(31,i31),(34,i34),(39,i39),(41,i41),(43,i43),(45,i45),(46,i46),(52,i52),(53,i53),(56,i56),(57,i57),(58,i58),(59,i59),(65,i65),(66,i66),(70,i70),(78,i78),(84,i84),(89,i89),(92,i92),(93,i93),(101,i101),(103,i103),(104,i104),(105,i105),(110,i110),(111,i111),(112,i112),(114,i114),(115,i115),(123,i123),(132,i132)]
theorem rows:zmn Try.prog tt:=⟨row3,row4,zqx,zqw,zqv,zqu,zqt,zqs,zqr,zqq,zqp,zqo,zqn,zqm,zql,zqk,zqj,zqi,zqh,zqg,zqf,zqe,zpb,zqd,zqc,zqb,zqa,zp9,zpm,zpl,zpk,zpj,zpi,zph,zpg,zpf,zpe,zpd,zpc,trivial⟩
theorem tbl:TblOk Try.prog tt:=⟨fun _ _ h=>zgu rows h,by kernel_rfl⟩
end Go.Eng.Pu
namespace Go.Eng.Pu
open Go Go.Eng Ieee
set_option linter.all false
set_option maxRecDepth 100000
set_option maxHeartbeats 8000000
theorem zeq (neg:Bool) (n d:Nat) (h:n % 2 ^ d=0) (hd:d≤n.log2+2):Toward.even.cut neg n d=n / 2 ^ d:=by
  unfold Toward.cut
  simp only[Nat.min_eq_left hd,Nat.one_shiftLeft,h]
  have h0:0<2 ^ d:=Nat.two_pow_pos d
  have e1:decide (2 ^ d<2*0)=false:=by simp
  have e2:(2 ^ d == 2*0)=false:=by simp
  rw[e1,e2]
  simp
theorem zdm (m j:Nat) (hm:m≠0):(m*2 ^ j).log2=m.log2+j:=by
  have h0:0<2 ^ j:=Nat.two_pow_pos j
  have hne:m*2 ^ j≠0:=Nat.mul_ne_zero hm (by omega)
  have a1:=(Nat.log2_lt (k:=m.log2+j+1) hne).2 (by
    have:=Nat.lt_log2_self (n:=m)
    rw[show m.log2+j+1=(m.log2+1)+j by omega,Nat.pow_add]
    exact Nat.mul_lt_mul_of_pos_right this h0)
  have a2:¬(m*2 ^ j).log2<m.log2+j:=fun h=>by
    have h1:=(Nat.log2_lt hne).1 h
    have h2:=Nat.log2_self_le hm
    rw[Nat.pow_add] at h1
    have:=Nat.mul_le_mul_right (2 ^ j) h2
    omega
  omega
theorem zbL (f:Format) (neg:Bool) (m j:Nat) (place:Int) (he:2≤f.exponentBits) (hm:m≠0) (h1:m.log2≤f.fractionBits) (h2:f.leastPlace≤place+j)
    (h3:place+j+m.log2+3≤f.leastPlace+f.fractionBits+2 ^ f.exponentBits):∃(k:Nat) (i:Int),f.read (f.nearest neg (m*2 ^ j) place)=.number neg k i∧f.leastPlace≤i∧i≤place+j∧k=m*2 ^ (place+j - i).toNat:=by
  have hne:m*2 ^ j≠0:=Nat.mul_ne_zero hm (by have:=Nat.two_pow_pos j;omega)
  have hl:=zdm m j hm
  unfold Format.nearest
  rw[if_neg hne,hl]
  simp only[]
  generalize hL:max (place+((m.log2+j:Nat):Int) - f.fractionBits) f.leastPlace=last
  have hL1:f.leastPlace≤last:=by omega
  have hL2:last≤place+j:=by omega
  have hk:Toward.even.cut neg ((m*2 ^ j) <<< (place - last).toNat) (last - place).toNat=m*2 ^ (place+j - last).toNat:=by
    rw[Nat.shiftLeft_eq]
    by_cases hp:last≤place
    · rw[show (last - place).toNat=0 by omega,zeq _ _ _ (by simp[Nat.mod_one]) (by omega),Nat.pow_zero,Nat.div_one,Nat.mul_assoc,←Nat.pow_add]
      congr 2;omega
    · rw[show (place - last).toNat=0 by omega,Nat.pow_zero,Nat.mul_one]
      have hd:(last - place).toNat≤j:=by omega
      have e:m*2 ^ j=m*2 ^ (j - (last - place).toNat)*2 ^ (last - place).toNat:=by rw[Nat.mul_assoc,←Nat.pow_add];congr 2;omega
      rw[zeq _ _ _ (by rw[e];exact Nat.mul_mod_left _ _) (by rw[hl];omega)]
      rw[e,Nat.mul_div_cancel _ (Nat.two_pow_pos _)]
      congr 2;omega
  rw[hk]
  generalize hK:m*2 ^ (place+j - last).toNat=kept
  have hB:f.binade=2 ^ f.fractionBits:=rfl
  have hB0:0<f.binade:=Nat.two_pow_pos _
  have hk0:kept≠0:=by rw[←hK];exact Nat.mul_ne_zero hm (by have:=Nat.two_pow_pos (place+j - last).toNat;omega)
  have hkl:kept.log2=m.log2+(place+j - last).toNat:=by rw[←hK];exact zdm _ _ hm
  have hk2:kept<2*f.binade:=by
    rw[hB,Nat.mul_comm,←Nat.pow_succ]
    exact (Nat.log2_lt hk0).1 (by rw[hkl];omega)
  have hrung:(last - f.leastPlace).toNat*f.binade+kept<f.infRung:=by
    unfold Format.infRung
    have h2e:=Nat.two_pow_pos f.exponentBits
    have hc:(((2:Nat) ^ f.exponentBits:Nat):Int)=2 ^ f.exponentBits:=by simp
    have : (last - f.leastPlace).toNat+2≤2 ^ f.exponentBits - 1:=by
      by_cases hq:last=f.leastPlace
      · have:2 ^ 2≤2 ^ f.exponentBits:=Nat.pow_le_pow_right (by omega) he
        omega
      · omega
    have:=Nat.mul_le_mul_right f.binade this
    rw[Nat.add_mul] at this
    omega
  rw[Nat.min_eq_left (by omega)]
  have hw:∀r,r<f.signWeight→f.word neg r % f.signWeight=r∧(f.word neg r / f.signWeight % 2 == 1)=neg:=by
    intro r hr
    unfold Format.word
    cases neg with
    | false=>exact⟨Nat.mod_eq_of_lt hr,by rw[if_neg (by simp),Nat.div_eq_of_lt hr];rfl⟩
    | true=>
      rw[if_pos rfl,Nat.add_mod_left,Nat.mod_eq_of_lt hr,Nat.add_div_left _ (by omega),Nat.div_eq_of_lt hr]
      exact⟨rfl,rfl⟩
  have hsw:f.infRung<f.signWeight:=f.infRung_lt
  obtain⟨w1,w2⟩:=hw _ (show (last - f.leastPlace).toNat*f.binade+kept<f.signWeight by omega)
  unfold Format.read
  simp only[w1,w2]
  by_cases hq:last=f.leastPlace
  · have e0:(last - f.leastPlace).toNat=0:=by omega
    rw[e0,Nat.zero_mul,Nat.zero_add]
    by_cases hb:kept<f.binade
    · rw[if_pos hb]
      exact⟨kept,f.leastPlace,rfl,Int.le_refl _,h2,by rw[←hK,hq]⟩
    · rw[if_neg hb,if_pos (by rw[e0,Nat.zero_mul,Nat.zero_add] at hrung;exact hrung)]
      have d1:kept / f.binade=1:=Nat.div_eq_of_lt_le (by omega) (by omega)
      have d2:kept % f.binade=kept - f.binade:=by rw[Nat.mod_eq_sub_mod (by omega),Nat.mod_eq_of_lt (by omega)]
      refine⟨f.binade+kept % f.binade,f.leastPlace+(kept / f.binade - 1:Nat),rfl,by omega,by rw[d1];simpa using h2,?_⟩
      rw[d1,d2,show f.binade+(kept - f.binade)=kept by omega,←hK,hq]
      simp
  · have hlast:last=place+((m.log2+j:Nat):Int) - f.fractionBits:=by omega
    have hbk:f.binade≤kept:=by
      rw[hB]
      have:=Nat.log2_self_le hk0
      rwa [hkl,show m.log2+(place+j - last).toNat=f.fractionBits by omega] at this
    have hpos:1≤(last - f.leastPlace).toNat:=by omega
    have hmul:=Nat.mul_le_mul_right f.binade hpos
    rw[if_neg (by omega),if_pos hrung]
    have d1:((last - f.leastPlace).toNat*f.binade+kept) / f.binade=(last - f.leastPlace).toNat+1:=by
      rw[Nat.mul_comm,Nat.mul_add_div hB0,Nat.div_eq_of_lt_le (m:=kept) (k:=1) (by omega) (by omega)]
    have d2:((last - f.leastPlace).toNat*f.binade+kept) % f.binade=kept - f.binade:=by
      rw[Nat.mul_comm,Nat.mul_add_mod,Nat.mod_eq_sub_mod (by omega),Nat.mod_eq_of_lt (by omega)]
    refine⟨_,_,rfl,by omega,?_,?_⟩
    · rw[d1];omega
    · rw[d1,d2,show f.binade+(kept - f.binade)=kept by omega,←hK]
      congr 2;omega
/-! ### Numbers, scaled -/
theorem zeC (s:Bool) (m a b:Nat):signed s m (a+b)=signed s m a*2 ^ b:=by
  unfold signed
  have e:((m <<< (a+b):Nat):Int)=((m <<< a:Nat):Int)*2 ^ b:=by
    rw[Nat.shiftLeft_eq,Nat.shiftLeft_eq,Nat.pow_add,←Nat.mul_assoc,Int.natCast_mul,Int.natCast_pow];rfl
  cases s
  · simp only[Bool.false_eq_true,if_false];exact e
  · simp only[if_true];rw[e,Int.neg_mul]
def dv (f:Format):Datum→Int
  | .number s m i=>signed s m (i - f.leastPlace).toNat
  | _=>0
def isN:Datum→Bool
  | .number ..=>true
  | _=>false
theorem zpD {d:Datum} (h:isN d=true):∃s m i,d=.number s m i:=by
  cases d with
  | number s m i=>exact⟨s,m,i,rfl⟩
  | _=>cases h
theorem zn6 (f:Format) (x:Nat) {s:Bool} {m:Nat} {i:Int} (h:f.read x=.number s m i):m<2*f.binade∧f.leastPlace≤i∧i+3≤f.leastPlace+2 ^ f.exponentBits∨m<f.binade∧i=f.leastPlace:=by
  unfold Format.read at h
  simp only[] at h
  have hB0:0<f.binade:=Nat.two_pow_pos _
  split at h
  · rename_i h1
    cases h
    exact .inr ⟨h1,rfl⟩
  · rename_i h1
    split at h
    · rename_i h2
      cases h
      left
      have hm:=Nat.mod_lt (x % f.signWeight) hB0
      have hd:x % f.signWeight / f.binade<2 ^ f.exponentBits - 1:=by
        rw[Nat.div_lt_iff_lt_mul hB0];exact h2
      have hc:(((2:Nat) ^ f.exponentBits:Nat):Int)=2 ^ f.exponentBits:=by simp
      have hd1:1≤x % f.signWeight / f.binade:=(Nat.one_le_div_iff hB0).2 (by omega)
      refine⟨by omega,by omega,by omega⟩
    · split at h<;>cases h
theorem zdz (f:Format) (x:Nat) {s:Bool} {m:Nat} {i:Int} (he:2≤f.exponentBits) (h:f.read x=.number s m i):f.leastPlace≤i∧m<2*f.binade∧(m≠0→m.log2≤f.fractionBits∧i+m.log2+3≤f.leastPlace+f.fractionBits+2 ^ f.exponentBits):=by
  have hB:f.binade=2 ^ f.fractionBits:=rfl
  have key:m<2*f.binade→m≠0→m.log2≤f.fractionBits:=fun h1 h2=>by
    have:m.log2<f.fractionBits+1:=(Nat.log2_lt h2).2 (by rw[Nat.pow_succ,Nat.mul_comm,←hB];exact h1)
    omega
  have hp:2 ^ 2≤2 ^ f.exponentBits:=Nat.pow_le_pow_right (by omega) he
  have hc:(((2:Nat) ^ f.exponentBits:Nat):Int)=2 ^ f.exponentBits:=by simp
  rcases zn6 f x h with ⟨h1,h2,h3⟩|⟨h1,h2⟩
  · refine⟨h2,h1,fun h0=>?_⟩
    have:=key h1 h0
    omega
  · refine⟨by omega,by omega,fun h0=>?_⟩
    have:=key (by omega) h0
    omega
theorem zjk (a b c:Int) (h:0<c):compare (a*c) (b*c)=compare a b:=by
  simp only[compare,compareOfLessAndEq]
  by_cases h1:a<b
  · rw[if_pos h1,if_pos (Int.mul_lt_mul_of_pos_right h1 h)]
  · rw[if_neg h1,if_neg (fun hh=>h1 (Int.lt_of_mul_lt_mul_right hh (by omega)))]
    by_cases h2:a=b
    · rw[if_pos h2,if_pos (by rw[h2])]
    · rw[if_neg h2,if_neg (fun hh=>h2 (Int.eq_of_mul_eq_mul_right (by omega) hh))]
theorem zlw (f:Format) {x y:Nat} {s t:Bool} {m n:Nat} {i j:Int} (hx:f.read x=.number s m i) (hy:f.read y=.number t n j) (he:2≤f.exponentBits) :
    f.order x y=some (compare (dv f (f.read x)) (dv f (f.read y))):=by
  have h1:=(zdz f x he hx).1
  have h2:=(zdz f y he hy).1
  unfold Format.order
  rw[hx,hy]
  simp only[Datum.order,dv]
  rw[show (i - f.leastPlace).toNat=(i - min i j).toNat+(min i j - f.leastPlace).toNat by omega,show (j - f.leastPlace).toNat=(j - min i j).toNat+(min i j - f.leastPlace).toNat by omega,zeC,zeC,zjk _ _ _ (Int.pow_pos (by omega))]
/-! ### Numbers made whole -/
theorem zm8 (neg:Bool) (n d:Nat):Toward.zero.cut neg n d=n / 2 ^ d:=by
  unfold Toward.cut
  simp only[Nat.one_shiftLeft,Bool.toNat_false,Nat.add_zero]
  by_cases hd:d≤n.log2+2
  · rw[Nat.min_eq_left hd]
  · rw[Nat.min_eq_right (by omega)]
    have h1:n<2 ^ (n.log2+2):=Nat.lt_of_lt_of_le (Nat.lt_log2_self) (Nat.pow_le_pow_right (by omega) (by omega))
    have h2:n<2 ^ d:=Nat.lt_of_lt_of_le h1 (Nat.pow_le_pow_right (by omega) (by omega))
    rw[Nat.div_eq_of_lt h1,Nat.div_eq_of_lt h2]
def scF (f:Format):Nat:=(-f.leastPlace).toNat
def sg (s:Bool) (n:Nat):Int:=if s then -(n:Int) else n
theorem zbI (s:Bool) (m a:Nat):signed s m a=sg s (m*2 ^ a):=by
  unfold signed sg
  rw[Nat.shiftLeft_eq]
theorem znW (s:Bool) (a b:Nat):(sg s a).tdiv (b:Int)=sg s (a / b):=by
  unfold sg
  cases s
  · simp only[Bool.false_eq_true,if_false];rw[Int.tdiv_eq_ediv_of_nonneg (by omega)];rfl
  · simp only[if_true];rw[Int.neg_tdiv,Int.tdiv_eq_ediv_of_nonneg (by omega)];rfl
def tru (f:Format) (m:Nat) (i:Int):Nat:=m*2 ^ i.toNat / 2 ^ (-i).toNat
theorem zkL (f:Format) (s:Bool) (m:Nat) (i:Int):(Datum.number s m i).toInt .zero=some (sg s (tru f m i)):=by
  unfold Datum.toInt Datum.integral
  simp only[zm8,zbI,Nat.shiftLeft_eq,Nat.pow_zero,Nat.mul_one,tru]
theorem znl (f:Format) {s:Bool} {m:Nat} {i:Int} (h0:f.leastPlace≤0) (hi:f.leastPlace≤i):sg s (tru f m i)=(dv f (.number s m i)).tdiv ((2 ^ scF f:Nat):Int):=by
  show sg s (tru f m i)=(signed s m (i - f.leastPlace).toNat).tdiv ((2 ^ scF f:Nat):Int)
  rw[zbI,znW]
  congr 1
  unfold tru scF
  by_cases hp:0≤i
  · rw[show (-i).toNat=0 by omega,Nat.pow_zero,Nat.div_one,show (i - f.leastPlace).toNat=i.toNat+(-f.leastPlace).toNat by omega,Nat.pow_add,←Nat.mul_assoc,Nat.mul_div_cancel _ (Nat.two_pow_pos _)]
  · rw[show i.toNat=0 by omega,Nat.pow_zero,Nat.mul_one,show (-f.leastPlace).toNat=(-i).toNat+(i - f.leastPlace).toNat by omega,Nat.pow_add,Nat.mul_div_mul_right _ _ (Nat.two_pow_pos _)]
theorem ziO (f:Format) {x:Nat} {s:Bool} {m:Nat} {i:Int} (he:2≤f.exponentBits) (h0:f.leastPlace≤0) (h00:3≤f.leastPlace+2 ^ f.exponentBits) (hx:f.read x=.number s m i) (neg:Bool) :
    ∃(k:Nat) (l:Int),f.read (f.nearest neg (tru f m i) 0)=.number neg k l∧f.leastPlace≤l∧k*2 ^ (l - f.leastPlace).toNat=tru f m i*2 ^ scF f:=by
  obtain⟨h1,h2,h3⟩:=zdz f x he hx
  by_cases ht:tru f m i=0
  · rw[ht]
    refine⟨0,f.leastPlace,?_,Int.le_refl _,by simp⟩
    unfold Format.nearest
    rw[if_pos rfl]
    have hsw:0<f.signWeight:=Nat.two_pow_pos _
    have hB:0<f.binade:=Nat.two_pow_pos _
    unfold Format.read Format.word
    cases neg with
    | false=>simp[hB,Nat.div_eq_of_lt hsw]
    | true=>simp[hB,Nat.div_self hsw]
  · by_cases hp:0≤i
    · have hm:m≠0:=fun hc=>ht (by unfold tru;rw[hc];simp)
      obtain⟨h4,h5⟩:=h3 hm
      have e:tru f m i=m*2 ^ i.toNat:=by unfold tru;rw[show (-i).toNat=0 by omega,Nat.pow_zero,Nat.div_one]
      obtain⟨k,l,g1,g2,g3,g4⟩:=zbL f neg m i.toNat 0 he hm h4 (by omega) (by omega)
      rw[e]
      refine⟨k,l,g1,g2,?_⟩
      rw[g4,Nat.mul_assoc,Nat.mul_assoc,←Nat.pow_add,←Nat.pow_add]
      unfold scF
      congr 2;omega
    · have e:tru f m i=m / 2 ^ (-i).toNat:=by unfold tru;rw[show i.toNat=0 by omega,Nat.pow_zero,Nat.mul_one]
      have hm:m≠0:=fun hc=>ht (by rw[e,hc];simp)
      obtain⟨h4,h5⟩:=h3 hm
      have hle:tru f m i≤m:=by rw[e];exact Nat.div_le_self _ _
      have hlog:(tru f m i).log2≤m.log2:=by
        by_cases hc:(tru f m i).log2<m.log2+1
        · omega
        · have:=(Nat.log2_lt (k:=m.log2+1) ht).2 (Nat.lt_of_le_of_lt hle Nat.lt_log2_self)
          omega
      have hle2:(tru f m i).log2≤f.fractionBits:=by omega
      obtain⟨k,l,g1,g2,g3,g4⟩:=zbL f neg (tru f m i) 0 0 he ht hle2 (by omega) (by omega)
      rw[Nat.pow_zero,Nat.mul_one] at g1
      refine⟨k,l,g1,g2,?_⟩
      rw[g4,Nat.mul_assoc,←Nat.pow_add]
      unfold scF
      congr 2;omega
theorem zdp (k:FloatKind):2≤k.format.exponentBits:=by cases k<;>decide
theorem zlY (k:FloatKind):k.format.leastPlace≤0:=by cases k<;>decide
theorem zom (k:FloatKind):3≤k.format.leastPlace+2 ^ k.format.exponentBits:=by cases k<;>decide
def fN (k:FloatKind) (x:Nat):Bool:=isN (k.format.read x)
def fV (k:FloatKind) (x:Nat):Int:=dv k.format (k.format.read x)
def fS (k:FloatKind):Int:=((2 ^ scF k.format:Nat):Int)
def fT (k:FloatKind) (x:Nat):Int:=(fV k x).tdiv (fS k)
def fWh (k:FloatKind) (x:Nat):Bool:=decide (fT k x*fS k=fV k x)
theorem ziv (k:FloatKind):0<fS k:=by
  have:=Nat.two_pow_pos (scF k.format)
  unfold fS;omega
theorem zks {k:FloatKind} {x:Nat} (h:fN k x=true):∃s m i,k.format.read x=.number s m i:=zpD h
theorem zhj {k:FloatKind} {x y:Nat} (hx:fN k x=true) (hy:fN k y=true):k.format.order x y=some (compare (fV k x) (fV k y)):=by
  obtain⟨s,m,i,e1⟩:=zks hx
  obtain⟨t,n,j,e2⟩:=zks hy
  exact zlw k.format e1 e2 (zdp k)
theorem znF {k:FloatKind} {x y:Nat} (hx:fN k x=true) (hy:fN k y=true):(k.format.order x y == some .lt)=decide (fV k x<fV k y):=by
  rw[zhj hx hy]
  simp only[compare,compareOfLessAndEq]
  by_cases h:fV k x<fV k y
  · simp[h]
  · rw[if_neg h];split<;>simp[h]
theorem ziD {k:FloatKind} {x y:Nat} (hx:fN k x=true) (hy:fN k y=true):(k.format.order x y == some .eq)=decide (fV k x=fV k y):=by
  rw[zhj hx hy]
  simp only[compare,compareOfLessAndEq]
  by_cases h:fV k x<fV k y
  · rw[if_pos h];simp;omega
  · rw[if_neg h];split<;>rename_i h2<;>simp[h2]
theorem znG {k:FloatKind} {x y:Nat} (hx:fN k x=true) (hy:fN k y=true):(k.format.order x y == some .gt)=decide (fV k y<fV k x):=by
  rw[zhj hx hy]
  simp only[compare,compareOfLessAndEq]
  by_cases h:fV k x<fV k y
  · rw[if_pos h];simp;omega
  · rw[if_neg h];split<;>rename_i h2<;>simp<;>omega
theorem zh9 {k:FloatKind} {x:Nat} {s:Bool} {f:Nat} (h:k.format.read x=.nan s f) (y:Nat):k.format.order x y=none∧k.format.order y x=none:=by
  unfold Format.order
  rw[h]
  refine⟨rfl,?_⟩
  cases k.format.read y<;>rfl
theorem zmD {k:FloatKind} {n:Nat} (h:NaNb k n):∃s f,k.format.read n=.nan s f:=by
  cases k
  · obtain⟨h1,h2⟩:=h
    have e1:FloatKind.f32.format.signWeight=2147483648:=by decide
    have e2:FloatKind.f32.format.infRung=2139095040:=by decide
    have e3:FloatKind.f32.format.binade=8388608:=by decide
    unfold Format.read
    simp only[e1,e2,e3]
    rw[if_neg (by omega),if_neg (by omega),if_neg (by omega)]
    exact⟨_,_,rfl⟩
  · obtain⟨h1,h2⟩:=h
    have e1:FloatKind.f64.format.signWeight=9223372036854775808:=by decide
    have e2:FloatKind.f64.format.infRung=9218868437227405312:=by decide
    have e3:FloatKind.f64.format.binade=4503599627370496:=by decide
    unfold Format.read
    simp only[e1,e2,e3]
    rw[if_neg (by omega),if_neg (by omega),if_neg (by omega)]
    exact⟨_,_,rfl⟩
theorem zia {k:FloatKind} {x:Nat} {s:Bool} (h:k.format.read x=.infinity s):k.format.order x x=some .eq∧k.format.sub x x=none:=by
  unfold Format.order Format.sub
  rw[h]
  cases s<;>exact⟨rfl,rfl⟩
theorem zkU {k:FloatKind} {x:Nat} (h:fN k x=true):k.format.sub x x=some 0:=by
  obtain⟨s,m,i,e⟩:=zks h
  unfold Format.sub
  rw[e]
  simp only[Datum.opposite,Datum.sum,Option.map_some]
  have e0:signed s m (i - min i i).toNat+signed (!s) m (i - min i i).toNat=0:=by
    unfold signed
    cases s<;>simp<;>omega
  rw[e0]
  cases s<;>simp[Format.write,Format.nearest,Format.word]
theorem zoS (s:Bool) (a:Nat):(sg s a).natAbs=a:=by
  unfold sg;cases s<;>simp
theorem zoR (s:Bool) (a:Nat) (b:Nat):sg (decide (sg s a<0)) (a*b)=sg s a*b:=by
  unfold sg
  cases s
  · simp only[Bool.false_eq_true,if_false]
    rw[if_neg (by simp),Int.natCast_mul]
  · simp only[if_true]
    by_cases h:a=0
    · subst h;simp
    · rw[if_pos (by simp;omega),Int.natCast_mul,Int.neg_mul]
theorem zpH {k:FloatKind} {x:Nat} (h:fN k x=true):fN k (floatOfInt k (fT k x))=true∧fV k (floatOfInt k (fT k x))=fT k x*fS k:=by
  obtain⟨s,m,i,e⟩:=zks h
  have hi:=(zdz k.format x (zdp k) e).1
  have ht:fT k x=sg s (tru k.format m i):=by
    unfold fT fV fS
    rw[e]
    exact (znl k.format (zlY k) hi).symm
  obtain⟨q,l,g1,g2,g3⟩:=ziO k.format (zdp k) (zlY k) (zom k) e (decide (fT k x<0))
  have hw:floatOfInt k (fT k x)=k.format.nearest (decide (fT k x<0)) (tru k.format m i) 0:=by
    show k.format.nearest (decide (fT k x<0)) (fT k x).natAbs 0=_
    rw[show (fT k x).natAbs=tru k.format m i by rw[ht,zoS]]
  rw[hw]
  unfold fN fV
  rw[g1]
  refine⟨rfl,?_⟩
  show signed _ q (l - k.format.leastPlace).toNat=_
  rw[zbI,g3,ht]
  exact zoR _ _ _
theorem zj3 {k:FloatKind} {x:Nat} (h:fN k x=true) (h1 : -9223372036854775808≤fT k x) (h2:fT k x≤9223372036854775807):floatToIntVal k x .i64=some (fT k x):=by
  obtain⟨s,m,i,e⟩:=zks h
  have hi:=(zdz k.format x (zdp k) e).1
  have ht:fT k x=sg s (tru k.format m i):=by
    unfold fT fV fS
    rw[e]
    exact (znl k.format (zlY k) hi).symm
  unfold floatToIntVal
  show (match (k.format.read x).toInt .zero with|some n=>if IntKind.i64.min≤n∧n≤IntKind.i64.max then some n else none|none=>none)=_
  rw[e,zkL k.format]
  simp only[]
  rw[←ht,if_pos ⟨h1,h2⟩]
/-! ### A float32 as a float64 -/
theorem znN {x:Nat} (h:fN .f32 x=true):∃y,f2f .f32 x .f64=some y∧fN .f64 y=true∧fV .f64 y=fV .f32 x*2 ^ 925:=by
  obtain⟨s,m,i,e⟩:=zks h
  obtain⟨h1,h2,h3⟩:=zdz FloatKind.f32.format x (zdp .f32) e
  have l32:FloatKind.f32.format.leastPlace = -149:=by decide
  have l64:FloatKind.f64.format.leastPlace = -1074:=by decide
  have b32:FloatKind.f32.format.fractionBits=23:=by decide
  have b64:FloatKind.f64.format.fractionBits=52:=by decide
  have e32:FloatKind.f32.format.exponentBits=8:=by decide
  have e64:FloatKind.f64.format.exponentBits=11:=by decide
  have key:∃q l,FloatKind.f64.format.read (FloatKind.f64.format.nearest s m i)=.number s q l∧-1074≤l∧q*2 ^ (l+1074).toNat=m*2 ^ (i+1074).toNat:=by
    by_cases hm:m=0
    · rw[hm]
      refine⟨0,-1074,?_,Int.le_refl _,by simp⟩
      unfold Format.nearest
      rw[if_pos rfl]
      cases s<;>decide
    · obtain⟨h4,h5⟩:=h3 hm
      rw[b32,l32,e32] at h5
      rw[b32] at h4
      obtain⟨q,l,g1,g2,g3,g4⟩:=zbL FloatKind.f64.format s m 0 i (zdp .f64) hm (by rw[b64];omega) (by rw[l64];omega) (by rw[l64,b64,e64];omega)
      rw[Nat.pow_zero,Nat.mul_one] at g1
      rw[l64] at g2
      refine⟨q,l,g1,g2,?_⟩
      rw[g4,Nat.mul_assoc,←Nat.pow_add]
      congr 2;omega
  obtain⟨q,l,g1,g2,g3⟩:=key
  refine⟨FloatKind.f64.format.nearest s m i,?_,?_,?_⟩
  · unfold f2f
    rw[if_neg (by decide)]
    show (match FloatKind.f32.format.read x with
      | .nan _ _=>none
      | .infinity s=>some (FloatKind.f64.encode (.infinity s))
      | .number s m e=>if (FloatKind.f64.decode (FloatKind.f64.encode (.number s m e))).isInfinity then none else some (FloatKind.f64.encode (.number s m e)))=_
    rw[e]
    simp only[]
    have hd:FloatKind.f64.decode (FloatKind.f64.encode (.number s m i))=.number s q l:=g1
    rw[hd]
    rfl
  · unfold fN;rw[g1];rfl
  · unfold fV
    rw[g1,e]
    show signed s q (l - FloatKind.f64.format.leastPlace).toNat=signed s m (i - FloatKind.f32.format.leastPlace).toNat*2 ^ 925
    rw[l64,l32,zbI,show (l - -1074).toNat=(l+1074).toNat by omega,g3,←zbI,←zeC]
    congr 1;omega
end Go.Eng.Pu
namespace Go.Eng.Pu
open Go.Eng Go.Proofs
set_option linter.all false
abbrev I64:Ty:=.int .i64
abbrev F32:Ty:=.flt .f32
abbrev C64:Ty:=.cpx .f32
abbrev C128:Ty:=.cpx .f64
abbrev Reg0:Ty:=.cons I64 (.cons (.sl I64) .nil)
abbrev Reg:Ty:=.cons Reg0 .nil
abbrev zak:Ty:=.cons I64 (.cons I64 .nil)
abbrev RawT:Ty:=.cons F32 (.cons F32 .nil)
abbrev sI (t:Nat) (n:Int):Fact:=.slot t (.one (.d I64 n))
abbrev cI (k off:Nat) (n:Int):Fact:=.cell k off (.d I64 n)
def OB (_:Nat) (_:Obj):Prop:=False
def Ok (f:Nat) (sp:Spec):Prop:=zoJ Try.prog OB f sp∧zdw Try.prog f
def All:List (Nat×Spec)→Prop
  | []=>True
  | p::r=>Ok p.1 p.2∧All r
theorem zjq:∀ {ctr:List (Nat×Spec)} {f:Nat} {sp:Spec},All ctr→zc1 f ctr=some sp→Ok f sp
  | [],_,_,_,h=>by simp[zc1] at h
  | (g, s)::r,f,sp,ha,h=>by
    simp only[zc1] at h
    cases hb:Nat.beq g f with
    | true=>
      rw[hb] at h
      have:=Nat.eq_of_beq_eq_true hb
      subst this
      simp only[cond_true,Option.some.injEq] at h
      subst h
      exact ha.1
    | false=>rw[hb] at h;exact zjq ha.2 h
structure Xt where
  its:List (Nat×ISpec):=[]
  clos:List (Nat×List Ty):=[]
  fuel:Nat:=0
@[reducible] def cfg (X:Xt) (ctr:List (Nat×Spec)) (nt:Nat):Cfg:={tt:=tt,eqs:=[],ctr:=ctr,nt:=nt,extb:=[(51,.f64)],its:=X.its,clos:=X.clos,fuel:=X.fuel}
def zcF (f:Func):Code:=match f.body with|some b=>b|none=>.skip
def Its:List (Nat×ISpec)→Prop
  | []=>True
  | p::r=>(zg2 Try.prog p.1 p.2∧zdw Try.prog p.1)∧Its r
theorem zi9:∀ {l:List (Nat×ISpec)} {g:Nat} {sp:ISpec},Its l→zjc g l=some sp→zg2 Try.prog g sp∧zdw Try.prog g
  | [],_,_,_,h=>by simp[zjc] at h
  | (g, s)::r,f,sp,ha,h=>by
    simp only[zjc] at h
    cases hb:Nat.beq g f with
    | true=>
      rw[hb] at h
      have:=Nat.eq_of_beq_eq_true hb
      subst this
      simp only[cond_true,Option.some.injEq] at h
      subst h
      exact ha.1
    | false=>rw[hb] at h;exact zi9 ha.2 h
theorem zod:Try.prog.follows .mixedOrders=true:=by kernel_rfl
theorem zpM (f:Nat) (k:FloatKind) (h:zlT f [(51,.f64)]=some k):∃fn F,Try.prog.funcs[f]?=some fn∧(fn.name == "runtime.NumGoroutine")=false∧fn.body.isNone=true∧Extern.findNext fn=none∧Extern.find fn=some F∧
    ∀(n:Nat) w,(F #[.float k n]).run Try.prog w=.ok (.int (bitK k) n) w:=by
  simp only[zlT] at h
  cases h1:Nat.beq 51 f with
  | true=>
    rw[h1] at h
    have:=Nat.eq_of_beq_eq_true h1
    subst this
    simp only[cond_true,Option.some.injEq] at h
    subst h
    exact⟨Try.f51,Extern.MathFloatBits.float64bits,Try.func51,by kernel_rfl,by kernel_rfl,by kernel_rfl,by kernel_rfl,fun n w=>rfl⟩
  | false=>rw[h1] at h;simp at h
theorem zme {X:Xt} (hX:Its X.its) {ctr:List (Nat×Spec)} {nt:Nat} (h:All ctr):CfgOk Try.prog OB (cfg X ctr nt) where
  tbl:=tbl
  eqs:=fun t ht=>by cases ht
  ctr:=fun f sp hf=>zjq h hf
  ext:=fun f hf=>by simp[memN] at hf
  extb:=zpM
  obs:=fun t i hi=>by simp[obOf] at hi
  its:=fun g isp h=>zi9 hX h
theorem mkX {X:Xt} (hX:Its X.its) {ctr:List (Nat×Spec)} (hctr:All ctr) {f nt:Nat} {fn:Func} {sp:Spec} (hf:Try.prog.funcs[f]?=some fn) (hb:fn.body=some (zcF fn)) (hnt:fn.ntmps=nt) (hps:(Nat.ble sp.pats.length nt&&Nat.ble nt 1000000)=true)
    (hob:Nat.ble (zby sp.pats) 1=true) (hd:zc3 nt (zcF fn)=true) (hn:(fn.name == "runtime.NumGoroutine")=false) (anns:(zab sp.pats).Den→List (St→LoopAnn))
    (h:∀x,sp.pre x→ziJ (cfg X ctr nt) (par (cfg X ctr nt)) (anns x) fn.results.toList (zcF fn) sp x):Ok f sp:=
  ⟨zjZ (zme hX hctr) (zfQ zod (zme hX hctr)) hf hb hnt (Nat.le_of_ble_eq_true (Bool.and_eq_true _ _▸hps:_∧_).1) (Nat.le_of_ble_eq_true (Bool.and_eq_true _ _▸hps:_∧_).2) (Nat.le_of_ble_eq_true hob) rfl hd anns h,fn,hf,hn,by rw[hb];rfl⟩
theorem mk {ctr:List (Nat×Spec)} (hctr:All ctr) {f nt:Nat} {fn:Func} {sp:Spec} (hf:Try.prog.funcs[f]?=some fn) (hb:fn.body=some (zcF fn)) (hnt:fn.ntmps=nt) (hps:(Nat.ble sp.pats.length nt&&Nat.ble nt 1000000)=true)
    (hob:Nat.ble (zby sp.pats) 1=true) (hd:zc3 nt (zcF fn)=true) (hn:(fn.name == "runtime.NumGoroutine")=false) (anns:(zab sp.pats).Den→List (St→LoopAnn))
    (h:∀x,sp.pre x→ziJ (cfg {} ctr nt) (par (cfg {} ctr nt)) (anns x) fn.results.toList (zcF fn) sp x):Ok f sp:=mkX (X:={}) True.intro hctr hf hb hnt hps hob hd hn anns h
@[reducible] def cfgN (X:Xt) (ctr:List (Nat×Spec)) (nt:Nat) (unr:List Nat:=[]):Cfg:={tt:=tt,eqs:=[],ctr:=ctr,nt:=nt,extb:=[(51,.f64)],its:=X.its,clos:=X.clos,fuel:=X.fuel,nan:=true,unr:=unr}
theorem znH {X:Xt} (hX:Its X.its) {ctr:List (Nat×Spec)} {nt:Nat} {unr:List Nat} (h:All ctr):CfgOk Try.prog OB (cfgN X ctr nt unr) where
  tbl:=tbl
  eqs:=fun t ht=>by cases ht
  ctr:=fun f sp hf=>zjq h hf
  ext:=fun f hf=>by simp[memN] at hf
  extb:=zpM
  obs:=fun t i hi=>by simp[obOf] at hi
  its:=fun g isp h=>zi9 hX h
theorem mkU {X:Xt} {unr:List Nat} (hX:Its X.its) {ctr:List (Nat×Spec)} (hctr:All ctr) {f nt:Nat} {fn:Func} {sp:Spec} (hf:Try.prog.funcs[f]?=some fn) (hb:fn.body=some (zcF fn)) (hnt:fn.ntmps=nt) (hps:(Nat.ble sp.pats.length nt&&Nat.ble nt 1000000)=true)
    (hob:Nat.ble (zby sp.pats) 1=true) (hd:zc3 nt (zcF fn)=true) (hn:(fn.name == "runtime.NumGoroutine")=false) (anns:(zab sp.pats).Den→List (St→LoopAnn))
    (h:∀x,sp.pre x→ziJ (cfgN X ctr nt unr) (par (cfgN X ctr nt unr)) (anns x) fn.results.toList (zcF fn) sp x):Ok f sp:=
  ⟨zjZ (znH hX hctr) (zfQ zod (znH hX hctr)) hf hb hnt (Nat.le_of_ble_eq_true (Bool.and_eq_true _ _▸hps:_∧_).1) (Nat.le_of_ble_eq_true (Bool.and_eq_true _ _▸hps:_∧_).2) (Nat.le_of_ble_eq_true hob) rfl hd anns h,fn,hf,hn,by rw[hb];rfl⟩
theorem mkN {X:Xt} (hX:Its X.its) {ctr:List (Nat×Spec)} (hctr:All ctr) {f nt:Nat} {fn:Func} {sp:Spec} (hf:Try.prog.funcs[f]?=some fn) (hb:fn.body=some (zcF fn)) (hnt:fn.ntmps=nt) (hps:(Nat.ble sp.pats.length nt&&Nat.ble nt 1000000)=true)
    (hob:Nat.ble (zby sp.pats) 1=true) (hd:zc3 nt (zcF fn)=true) (hn:(fn.name == "runtime.NumGoroutine")=false) (anns:(zab sp.pats).Den→List (St→LoopAnn))
    (h:∀x,sp.pre x→ziJ (cfgN X ctr nt) (par (cfgN X ctr nt)) (anns x) fn.results.toList (zcF fn) sp x):Ok f sp:=mkU (unr:=[]) hX hctr hf hb hnt hps hob hd hn anns h
@[reducible] def x0:Xt:={}
theorem zkd:Its x0.its:=True.intro
@[reducible] def x4:Xt:={fuel:=4}
theorem zp5:Its x4.its:=True.intro
end Go.Eng.Pu
namespace Go.Eng.Pu
open Go.Eng Go.Proofs Go.ChangeShapes Go.WideShapes Go.ChangeAt Go.RowKit
set_option linter.all false
set_option maxRecDepth 100000
@[reducible] def zi8 (tys:List Ty):Spec:={pats:=datP tys,res:=[{t:=.bool}],pre:=zjg tys,f:=fun _=>(true,())}
theorem own:ownKnob Try.prog.godebug=none:=by kernel_rfl
theorem zoe:laidOutB Try.prog=true:=by kernel_rfl
theorem zlL {H:Type} {enc:TypeId×Value→H} {F:Nat} {tys:List Ty} (h:Ok F (zi8 tys)) {W:World} {args:Array Value} {ds:List (DataW H)} {ps:List MemPlace} {ts:List TypeId} {base:Nat} (hbr:znd tt ts tys)
    (hA:DataW.TrodAll enc Try.prog W 0 (fun _=>true) true ts args.toList ds ps) (hval:∀(j:Nat) t v,ts[j]?=some t→args.toList[j]?=some v→Value.okWide Try.prog W .any base t v) :
    Calls Try.prog F args W fun e W'=>e=.returned (.bool true)∧Below W.heap.size W W':=by
  obtain⟨x,hx,hf⟩:=zmj tbl (OB:=OB) hbr hA hval
  have:=h.1 W (fun _=>False) x args.toList [] (fun _ h=>h.elim) hx hf
  refine this.mono fun e W' ⟨rs,g,h1,h2,h3⟩=>?_
  subst h1
  obtain⟨v,vs',rfl,⟨l,r1,⟨r2,_⟩|⟨_,r2⟩⟩,rfl,rfl⟩:=h3
  · cases r2
  · have r1:l=[.bool true]:=r1
    rw[r1] at r2
    simp at r2
    subst r2
    exact⟨rfl,h2.os,h2.tape,h2.output,h2.size,fun k hk=>h2.keep k hk (by simp)⟩
theorem zoh {W W':World} (h:Below W.heap.size W W') (may:MemPlace→Prop):W.keptBut W' may:=by
  refine⟨h.os,h.output,fun i hi=>?_⟩
  rw[h.block i hi]
  split
  · rename_i h1 h2
    rw[h1] at h2
    simp only[Option.some.injEq,Obj.cells.injEq] at h2
    obtain⟨rfl,rfl,rfl⟩:=h2
    exact⟨rfl,rfl,rfl,fun _ _=>rfl⟩
  · rename_i h1 h2
    rw[h1] at h2
    simp only[Option.some.injEq,Obj.map.injEq] at h2
    obtain⟨rfl,rfl⟩:=h2
    exact .inr ⟨rfl,rfl⟩
  · rfl
def zfJ (P:Program):List TypeId→Bool
  | []=>true
  | t::r=>P.readableRec t&&decide (t<P.types.size)&&zfJ P r
theorem zd4 {P:Program} (hl:laidOutB P=true) {H:Type} {enc:TypeId×Value→H} {W W':World} (hb:Below W.heap.size W W'):∀ {ts:List TypeId} {vs:List Value} {ds:List (DataW H)} {ps:List MemPlace},zfJ P ts=true→
    DataW.TrodAll enc P W 0 (fun _=>true) true ts vs ds ps→DataW.TrodAll enc P W' 0 (fun b=>decide (b<W.heap.size)) true ts vs ds ps
  | [],[],[],_,_,h=>h
  | t::ts,v::vs,d::ds,ps,hr,⟨p,q,h1,h2,h3⟩=>by
    simp only[zfJ,Bool.and_eq_true,decide_eq_true_eq] at hr
    have hlt:=DataW.TrodAll.lt (show DataW.TrodAll enc P W 0 (fun _=>true) true (t::ts) (v::vs) (d::ds) ps from ⟨p,q,h1,h2,h3⟩)
    subst h3
    exact⟨p,q,Below.trod hl hr.1.1 hr.1.2 h1 hb (fun x hx=>hlt x (List.mem_append.2 (.inl hx))),zd4 hl hb hr.2 h2,rfl⟩
theorem zmU {H:Type} {enc:TypeId×Value→H} {f:Func} {s:ChangeSpec} {W W':World} {args:Array Value} {ds gs:List (DataW H)} {before:List MemPlace}
    (hW:DataW.Whole enc Try.prog f.params.toList s.vars false W args.toList ds gs before) (hv:s.vars=[]) (hr:f.resultTypes.toList=[4]) (hs:f.resultTypes.size=1) (hfn:s.fn H (ds++gs) = {results:=[.lit (.bool true)],args:=ds}) (hread:zfJ Try.prog f.params.toList=true)
    (hb:Below W.heap.size W W'):s.post enc Try.prog f false true false false W args (.bool true) W':=by
  have hW0:=hW
  obtain⟨p,q,hA,hV,rfl,_,_⟩:=hW
  rw[hv] at hV
  obtain⟨rfl,rfl⟩:=trodVars_none hV
  refine⟨ds,[],p++[],[],p,[],hW0,?_,?_,?_,zoh hb _,fun h=>by cases h⟩
  · rw[hfn,hr,hs]
    exact trodAll_cons_mk (shut_bool Try.underlying4 true) trodAll_mk0
  · rw[hfn]
    exact zd4 zoe hb hread hA
  · rw[hfn,hv]
    rfl
theorem zkm {F:Nat} {fn:Func} {s:ChangeSpec} {tys:List Ty} (h:Ok F (zi8 tys)) (hf:Try.prog.funcs[F]?=some fn) (hinit:Try.prog.inits.idxOf? F=none) (hbr:znd tt fn.params.toList tys) (hv:s.vars=[]) (hr:fn.resultTypes.toList=[4]) (hs:fn.resultTypes.size=1)
    (hread:zfJ Try.prog fn.params.toList=true) (hfn:∀(H:Type) (ds:List (DataW H)),ds.length=fn.params.size→s.fn H (ds++[]) = {results:=[.lit (.bool true)],args:=ds})
    (os:Os) (started:os.Started) (H:Type) (enc:TypeId×Value→H)
    (wit:∃(w:World) (tape:Tape) (i:Input),w.os=os∧(w.forCall tape i).Shaped Try.checked.prog∧i.vars=[]∧Input.okWide Try.checked.prog (w.forCall tape i) .any w.heap.size F i∧
      s.pre6 enc Try.checked.prog fn [] false (w.forCall tape i).memory i.args∧({modest:=false}:Assume).holds Try.checked.prog (lone (Frame.enter Try.checked.prog F i.args .normal) [] (w.forCall tape i))) :
    ReturnsInHanded {} Try.checked os F .any (s.pre6 enc Try.prog fn [] false) (s.post enc Try.prog fn false true false false):=by
  refine returnsInHanded_of_change (C:=Try.checked) own started hinit hf wit ?_
  intro W base args ds gs before hval hW _ _
  have hW0:=hW
  obtain⟨p,q,hA,hV,rfl,_,_⟩:=hW
  have hV':DataW.TrodVars enc Try.prog W (fun _=>true) [] gs q:=by rw[←hv];exact hV
  obtain⟨rfl,rfl⟩:=trodVars_none hV'
  have hlen:ds.length=fn.params.size:=by
    have:=(Go.trodAll_length hA).2
    simpa using this
  refine (zlL h hbr hA (fun j t v h1 h2=>hval j t v (by simpa using h1) (by simpa using h2))).mono fun e W' ⟨he,hb⟩=>?_
  subst he
  exact⟨_,rfl,zmU hW0 hv hr hs (hfn H ds hlen) hread hb⟩
end Go.Eng.Pu
