/- Texts EC ED B1 L0 L1 P1 L2 B2, as far as they are used. Conditions: each lemma's own. -/
import Derived.Test.YtimkbccpbjabiaaKN2
import Derived.RowKit
import Derived.RowKit3
import Derived.OpenShut
import Derived.Carry
import Derived.ChangeOld
import Derived.KernelRfl
import Derived.Test.YtimkbccpbjabiaaProg
import GoSem.Core.Float
import Derived.Laws.FloatArith
import Derived.Test.YtimkbccpbjabiaaRows
import Derived.WalkKit
import Derived.ChangeCalls
import Derived.ProofKit
set_option linter.all false
namespace Go.Eng
section
variable {E:Env} {a:Act} {w:World} {c:Cfg}
theorem zi8 (hC:CfgOk E.P E.OB c) {st:St} (hR:RelS E c.nt st a w) {o:Oper} {r:Res} (h:ze0 c st o=some r) (hob:r.ob.hold) {K:Act→World→Prop} {Q:Exit→Act→World→Prop}
    (hK:∀a' w',RelS E c.nt (after st r) a' w'→K a' w') {ro:Option Nat} {q:Nat}:o.wpIn (Fw ro) q E.P a w K Q:=by
  obtain⟨η,g,H⟩:=hR
  unfold ze0 at h
  split at h
  case h_2=>cases h
  case h_1 e he=>
    have hsem:=zhP hC g H he
    have up:∀a' w',Rel E c.nt (upd (fun f=>f∈st) r.add r.kill) a' w'→K a' w':=fun a' w' hr=>hK a' w' (hr.weaken fun f hf=>by
      rcases List.mem_append.1 hf with h|h
      · exact .inl h
      · exact .inr (zdK.1 h))
    split at h
    · rename_i hd
      exact zdA g H hsem (by rw[hd];exact h) (fun d hd'=>by rw[hd] at hd';cases hd') hob (zcF he) up
    · rename_i d hd
      cases hb:Nat.blt d c.nt with
      | false=>rw[hb] at h;simp at h
      | true=>
        rw[hb] at h
        exact zdA g H hsem (by rw[hd];exact h) (fun d' hd'=>by
          rw[hd] at hd'
          simp only[Option.some.injEq] at hd'
          subst hd'
          simpa using hb) hob (zcF he) up
theorem zmo {ks:List Nat} {f:Fact}:∀ {l:St},f∈demL ks l→∃g∈l,f=g.dem ks
  | [],h=>by cases h
  | x :: r,h=>by
    simp only[demL,List.mem_cons] at h
    rcases h with rfl|h
    · exact⟨x,List.mem_cons_self,rfl⟩
    · obtain⟨g,h1,h2⟩:=zmo h
      exact⟨g,List.mem_cons_of_mem _ h1,h2⟩
theorem zkP {nt:Nat} {st:St} (ks:List Nat) (hR:RelS E nt st a w):RelS E nt (zmG ks st) a w:=by
  unfold zmG
  split
  · exact hR
  · obtain ⟨η,g,H⟩:=hR
    refine⟨η,g,fun f hf=>?_⟩
    obtain⟨q,hq,rfl⟩:=zmo hf
    have h:=H q hq
    cases q with
    | cell k off s=>
      simp only[Fact.dem]
      cases s.ment ks with
      | false=>exact h
      | true=>
        obtain⟨b,c,cur,el,v,h1,h2,h3,h4,h5,_⟩:=h
        exact⟨b,c,cur,el,v,h1,h2,h3,h4,h5,trivial⟩
    | slot t s=>exact h
    | row k el e xs=>exact h
    | ob k i=>exact h
    | fix k=>exact h
theorem zf8 {k:Nat} {t:Ty} {x:t.Den} {f:Fact}:∀ {st:St},f∈ziL k t x st→∃q∈st,f=q.frzC k t x∧f.ment [k]=false
  | [],h=>by simp[ziL] at h
  | q :: r,h=>by
    simp only[ziL] at h
    cases hm:(q.frzC k t x).ment [k] with
    | true=>
      rw[hm] at h
      obtain⟨q',h1,h2⟩:=zf8 (st:=r) h
      exact⟨q',List.mem_cons_of_mem _ h1,h2⟩
    | false=>
      rw[hm] at h
      rcases List.mem_cons.1 h with rfl|h
      · exact⟨q,List.mem_cons_self,rfl,hm⟩
      · obtain⟨q',h1,h2⟩:=zf8 (st:=r) h
        exact⟨q',List.mem_cons_of_mem _ h1,h2⟩
theorem zjD {nt k:Nat} {t:Ty} {st st':St} (h:zlH k t st=some st') (hR:RelS E nt st a w):RelS E nt st' a w:=by
  unfold zlH at h
  split at h
  case h_2=>cases h
  case h_1 cs hcs=>
    split at h
    case h_2=>cases h
    case h_1 x hx=>
      cases hz:Nat.ble 1 t.size with
      | false=>rw[hz] at h;simp at h
      | true =>
        rw[hz] at h
        simp only[cond_true,Option.some.injEq] at h
        subst h
        have hz:=Nat.le_of_ble_eq_true hz
        obtain⟨η,g,H⟩:=hR
        obtain⟨n,hn⟩:∃n,t.size=n+1:=⟨t.size - 1,by omega⟩
        have hk:∃b c,η k=some (b,c):=by
          have hcs':=hcs
          rw[hn] at hcs'
          simp only[zbp] at hcs'
          cases h1:za5 k 0 st with
          | none=>rw[h1] at hcs';cases hcs'
          | some s=>
            obtain⟨b,c,_,_,_,_,q1,_⟩:=H _ (zaW h1)
            exact⟨b,c,q1⟩
        obtain⟨b,c,hk⟩:=hk
        obtain⟨vs,e1,e2,e3,e4⟩:=zbd H hk _ 0 cs hcs
        obtain⟨cur,el,hlow,hb,hsz⟩:=e4 (by omega)
        obtain⟨l1,l2,q1,q2,q3⟩:=zcQ t cs vs x [] hx e1
        have hl2:l2=[]:=by
          cases l2 with
          | nil=>rfl
          | cons _ _=>exact q3.elim
        rw[hl2,List.append_nil] at q1
        subst q1
        have hv:=(zba g k).2
        have hnk:∀k' n,zaO η k k'≠some (b,n):=fun k' n hh=>by
          unfold zaO at hh
          split at hh
          · cases hh
          · rename_i hne
            exact hne (g.inj k' k b n c hh hk)
        have hnM:¬E.Mp b:=fun hm=>by
          rcases hm with hm|⟨o,hm⟩
          · exact g.old b hm hlow
          · exact (g.defers.2 _ hm).2.2 k c hk
        have hV:vw E (zaO η k) w b cur:=⟨hnM,hnk,el,(0,0),hb⟩
        have hl:(cur.toList.drop 0).take t.size=vs:=by
          apply List.ext_getElem?
          intro j
          rw[List.drop_zero,List.getElem?_take]
          split
          · rename_i hj
            have hj':j<vs.length:=by omega
            have:=e3 j _ (List.getElem?_eq_getElem hj')
            rw[zbe hb,Nat.zero_add] at this
            rw[List.getElem?_eq_getElem hj',←this]
            simp
          · rw[List.getElem?_eq_none (by omega)]
        have hrep:za0 (vw E (zaO η k) w) (zaO η k) (.pd t x) (.pointer (some ⟨b,0,none⟩)):=
          ⟨⟨b,0,none⟩,cur,rfl,rfl,hV,by simpa using hsz,by
            show Rep _ t x ((cur.toList.drop 0).take t.size)
            rw[hl]
            exact Rep.mono hv t x vs q2⟩
        refine⟨zaO η k,(zba g k).1,fun f hf=>?_⟩
        obtain⟨q,q1,rfl,q3⟩:=zf8 hf
        have keep:∀ {f:Fact},f∈st→f.ment [k]=false→f.holds E (zaO η k) a w:=fun hf hm=>Fact.keep (ks:=[k]) hv (fun j hj=>zaq hj) hm (H _ hf)
        cases q with
        | slot j s=>
          cases s with
          | one s=>
            simp only[Fact.frzC] at q3 ⊢
            cases s with
            | p k' off=>
              simp only[S1.frzC] at q3 ⊢
              cases hb:(Nat.beq k' k&&Nat.beq off 0) with
              | true=>
                rw[Bool.and_eq_true] at hb
                have e5:=Nat.eq_of_beq_eq_true hb.1
                have e6:=Nat.eq_of_beq_eq_true hb.2
                subst e5 e6
                obtain⟨b',c',r1,r2⟩:=H _ q1
                rw[hk] at r1
                simp only[Option.some.injEq,Prod.mk.injEq] at r1
                obtain⟨rfl,rfl⟩:=r1
                simp only[Fact.holds,cond_true,zao]
                rw[r2]
                exact hrep
              | false=>
                rw[hb] at q3
                exact keep q1 q3
            | _=>exact keep q1 q3
          | _=>exact keep q1 q3
        | _=>exact keep q1 q3
theorem zcl {nt:Nat}:∀ {os:List Operand} {ts:List Ty} {st:St},RelS E nt st a w→RelS E nt (zc8 os ts st) a w
  | [],_,st,hR=>by simpa only [zc8] using hR
  | _::_,[],st,hR=>by simpa only [zc8] using hR
  | o :: r,t::l,st,hR=>by
    simp only[zc8]
    split
    · split
      · rename_i hf;exact zcl (zjD hf hR)
      · exact zcl hR
    · exact zcl hR
theorem zkT {nt:Nat} {o:Oper} {st:St} (hR:RelS E nt st a w):RelS E nt (zmN c o st) a w:=by
  unfold zmN
  split
  · split
    · exact zcl hR
    · exact hR
  · exact hR
theorem fo_holds {k:FloatKind} {n d:Nat} {x:Option Nat} {η:Eta} (h:Fact.holds E η a w (.slot d (.one (.fo k x)))):∃n,fok k x n∧Fact.holds E η a w (.slot d (.one (.d (.flt k) n))):=by
  obtain⟨n,hv,hn⟩:=h
  exact⟨n,hn,⟨[.float k n],rfl,.inr ⟨rfl,by rw[hv]⟩⟩⟩
theorem zki {nt:Nat} {st:St} {r:Res} {K:Res→Prop} (h:zn3 r K) (hR:RelS E nt (after st r) a w):∃r',K r'∧RelS E nt (after st r') a w:=by
  unfold zn3 at h
  split at h
  · rename_i d k x l he
    obtain⟨η,g,H⟩:=hR
    obtain⟨n,hn,hv⟩:=fo_holds (n:=0) (H (.slot d (.one (.fo k x))) (by unfold after;rw[he];simp))
    refine⟨_,h n hn,η,g,fun f hf=>?_⟩
    unfold after at hf
    rcases List.mem_append.1 hf with hf|hf
    · rcases List.mem_cons.1 hf with rfl|hf
      · exact hv
      · exact H f (by unfold after;rw[he];exact List.mem_append_left _ (List.mem_cons_of_mem _ hf))
    · exact H f (by unfold after;exact List.mem_append_right _ hf)
  · exact⟨r,h,hR⟩
theorem zf1 {η:Eta}:∀ {st:St} {K:St→Prop} (_:ze5 st K) (_:∀f∈st,Fact.holds E η a w f),∃st',K st'∧∀f∈st',Fact.holds E η a w f
  | [],K,h,H=>⟨[],h,H⟩
  | f :: l,K,h,H=>by
    unfold ze5 at h
    split at h
    · rename_i heq;cases heq
    · rename_i d k x l' heq
      cases heq
      obtain⟨n,hn,hv⟩:=fo_holds (n:=0) (H _ List.mem_cons_self)
      obtain⟨s2,h1,h2⟩:=zf1 (h n hn) fun f hf=>H f (List.mem_cons_of_mem _ hf)
      exact ⟨_,h1,fun f hf=>by
        rcases List.mem_cons.1 hf with rfl|hf
        · exact hv
        · exact h2 f hf⟩
    · rename_i f' l' _ heq
      cases heq
      obtain⟨s2,h1,h2⟩:=zf1 h fun f hf=>H f (List.mem_cons_of_mem _ hf)
      exact ⟨_,h1,fun f hf=>by
        rcases List.mem_cons.1 hf with rfl|hf
        · exact H _ List.mem_cons_self
        · exact h2 f hf⟩
theorem zjq {nt:Nat} {st:St} {K:St→Prop} (h:ze5 st K) (hR:RelS E nt st a w):∃st',K st'∧RelS E nt st' a w:=by
  obtain⟨η,g,H⟩:=hR
  obtain⟨s2,h1,h2⟩:=zf1 h H
  exact⟨s2,h1,η,g,h2⟩
theorem zgz (hC:CfgOk E.P E.OB c) {st:St} (hR:RelS E c.nt st a w) {o:Oper} {K:St→Prop} (h:zma c o st K) {K':Act→World→Prop} {Q:Exit→Act→World→Prop}
    (hK:∀st' a' w',K st'→RelS E c.nt st' a' w'→K' a' w') {ro:Option Nat} {q:Nat}:o.wpIn (Fw ro) q E.P a w K' Q:=by
  unfold zma at h
  split at h
  case h_1 F hF=>exact hC.hk c.nt E rfl rfl o st F a w K K' Q ro q hF h hR hK
  case h_2 _=>
  split at h
  case h_2=>exact h.elim
  case h_1 p st1 hf=>
    split at h
    case h_2=>exact h.elim
    case h_1 r hr=>
      obtain⟨h1,h⟩:=OP.andK_out h
      obtain⟨h2,h3⟩:=OP.andK_out h
      exact zi8 hC (zkT (zkP _ (zaT hf h1 hR))) hr h2 (fun a' w' h=>by
        obtain⟨r',h4,h5⟩:=zki h3 h
        rw[zbw] at h4
        exact hK _ a' w' h4 h5)
theorem zfi {st:St} {nt:Nat} (hR:RelS E nt st a w) (d:Option Nat) (hd:∀t,d=some t→t<nt):RelS E nt (zg5 d st) (a.put d undef) w:=by
  obtain⟨η,g,H⟩:=hR
  cases d with
  | none=>exact⟨η,g,H⟩
  | some t=>
    refine (zf2 g (F:=fun f=>f∈st) H (hd t rfl) (s:=.one (.v undef)) (v:=undef) rfl).weaken fun f hf=>?_
    simp only[zg5,List.mem_cons] at hf
    rcases hf with rfl|hf
    · exact .inl List.mem_cons_self
    · exact .inr (zdK.1 hf)
theorem zps {a:Act} {t:Nat} (h:t<a.tmps.size):a.put (some t) (a.tmps.getD t undef)=a:=by
  cases a with
  | mk tmps defers=>
    simp only[Act.put]
    congr 1
    apply Array.ext
    · simp
    · intro i h1 h2
      by_cases hi:t=i
      · subst hi
        simp at h1
        simp[h1]
      · rw[Array.getElem_setIfInBounds_ne (by simpa using h1) hi]
theorem zhh {st:St} {nt t:Nat} {b:Bool} (ht:t<nt) (hR:RelS E nt st a w) (hv:a.tmps.getD t undef=.bool b):RelS E nt (zpn t b st) a w:=by
  obtain⟨η,g,H⟩:=hR
  have:=(zf2 g (F:=fun f=>f∈st) H ht (s:=.one (.lb b)) (v:=.bool b) rfl)
  rw[←hv,zps (by rw[g.size];exact ht)] at this
  refine this.weaken fun f hf=>?_
  simp only[zpn,List.mem_cons] at hf
  rcases hf with rfl|hf
  · exact .inl List.mem_cons_self
  · exact .inr (zdK.1 hf)
theorem zdS {ops : Array Oper} {st:St} (hR:RelS E c.nt st a w) {o:Oper} :
    match zaA c ops st o with
    | .yes=>Region.wanted o (yielded ops a.tmps)=true
    | .no=>Region.wanted o (yielded ops a.tmps)=false
    | .open_ t b=>t<c.nt∧a.tmps.getD t undef=.bool b∧Region.wanted o (yielded ops a.tmps)=(b == zaa o)
    | .bad=>True:=by
  obtain⟨η,g,H⟩:=hR
  cases hg:o.guard with
  | none=>simp[zaA,hg,Region.wanted]
  | some p =>
    obtain⟨j,want⟩:=p
    cases hgd:ops[j]? with
    | none=>simp only[zaA,hg,hgd]
    | some gd =>
      cases ht:gd.dst with
      | none=>simp only[zaA,hg,hgd,ht]
      | some t =>
        cases hb:Nat.blt t c.nt with
        | false=>simp only[zaA,hg,hgd,ht,hb,cond_false]
        | true =>
          have hlt:t<c.nt:=by simpa using hb
          have hlt':t<a.tmps.size:=by rw[g.size];exact hlt
          have hget:a.tmps[t]?=some (a.tmps.getD t undef):=by simp[Array.getD,hlt']
          have hy:yielded ops a.tmps j=match a.tmps.getD t undef with | .bool b=>some b | _=>none:=by
            simp only[yielded,hgd,Option.bind_some,ht,hget]
            split<;>rename_i heq<;>simp_all
          have hwant:Region.wanted o (yielded ops a.tmps)=(yielded ops a.tmps j == some want):=by simp[Region.wanted,hg]
          have hwo:zaa o=want:=by simp[zaa,hg]
          cases hs:zaU t st with
          | none=>simp only[zaA,hg,hgd,ht,hb,cond_true,hs]
          | some s =>
            have hold:=H _ (zaV hs)
            simp only[Fact.holds] at hold
            rw[zdC (Nat.lt_of_lt_of_le hlt g.lim)] at hold
            cases s with
            | agg cs=>simp only[zaA,hg,hgd,ht,hb,cond_true,hs]
            | tup cs=>simp only[zaA,hg,hgd,ht,hb,cond_true,hs]
            | one u=>
              cases u with
              | u=>simp only[zaA,hg,hgd,ht,hb,cond_true,hs]
              | pw t' x'=>simp only[zaA,hg,hgd,ht,hb,cond_true,hs]
              | dfl e' ys=>simp only[zaA,hg,hgd,ht,hb,cond_true,hs]
              | fn g fs cs=>simp only[zaA,hg,hgd,ht,hb,cond_true,hs]
              | lb b=>
                have hv:a.tmps.getD t undef=.bool b:=hold
                rw[hy,hv] at hwant
                simp only[zaA,hg,hgd,ht,hb,cond_true,hs]
                cases b<;>cases want<;>simpa using hwant
              | d ty x=>
                cases ty with
                | bool=>
                  have hv:a.tmps.getD t undef=.bool x:=zbr hold
                  rw[hy,hv] at hwant
                  simp only[zaA,hg,hgd,ht,hb,cond_true,hs]
                  refine⟨hlt,hv,?_⟩
                  rw[hwant,hwo]
                  cases x<;>cases want<;>rfl
                | int k=>simp only[zaA,hg,hgd,ht,hb,cond_true,hs]
                | str=>simp only[zaA,hg,hgd,ht,hb,cond_true,hs]
                | flt k=>simp only[zaA,hg,hgd,ht,hb,cond_true,hs]
                | cpx k=>simp only[zaA,hg,hgd,ht,hb,cond_true,hs]
                | sl e=>simp only[zaA,hg,hgd,ht,hb,cond_true,hs]
                | nil=>simp only[zaA,hg,hgd,ht,hb,cond_true,hs]
                | cons p q=>simp only[zaA,hg,hgd,ht,hb,cond_true,hs]
                | _=>simp only[zaA,hg,hgd,ht,hb,cond_true,hs]
              | v x=>
                have hv:a.tmps.getD t undef=x:=hold
                rw[hy,hv] at hwant
                cases x<;>simp only[zaA,hg,hgd,ht,hb,cond_true,hs]
                simpa using hwant
              | p k off=>simp only[zaA,hg,hgd,ht,hb,cond_true,hs]
              | pd ty x=>simp only[zaA,hg,hgd,ht,hb,cond_true,hs]
              | po off ty x=>simp only[zaA,hg,hgd,ht,hb,cond_true,hs]
              | pr k i sz=>simp only[zaA,hg,hgd,ht,hb,cond_true,hs]
              | pq k i sz off=>simp only[zaA,hg,hgd,ht,hb,cond_true,hs]
              | fo q r=>simp only[zaA,hg,hgd,ht,hb,cond_true,hs]
              | o k n=>simp only[zaA,hg,hgd,ht,hb,cond_true,hs]
theorem zgl (p:Nat→Prop) (h:∃n,p n):∃n,p n∧∀m,p m→n≤m:=by
  obtain⟨n,hn⟩:=h
  induction n using Nat.strongRecOn with
  | _ n ih=>
    by_cases hm:∃m,m<n∧p m
    · obtain⟨m,h1,h2⟩:=hm
      exact ih m h1 h2
    · exact ⟨n,hn,fun m hm'=>by
        rcases Nat.lt_or_ge m n with h|h
        · exact absurd ⟨m,h,hm'⟩ hm
        · exact h⟩
open Classical in
theorem zb5 {F:Fence} {q:Nat} {P:Program} {b:Code} {Q:Exit→Act→World→Prop} (I:Nat→Act→World→Prop) {n:Nat} {a:Act} {w:World} (h0:I n a w)
    (round:∀n a w,I n a w→b.wpIn F q P (Exit.then (fun a' w'=>∃n',n'<n∧I n' a' w') Q) a w):(Code.loop b).wpIn F q P Q a w:=by
  let μ:Act→World→Nat:=fun a w=>if h:∃n,I n a w then Classical.choose (zgl (fun n=>I n a w) h) else 0
  have hμ:∀n a w,I n a w→I (μ a w) a w∧μ a w≤n:=by
    intro n a w h
    have hex:∃n,I n a w:=⟨n,h⟩
    have hc:=Classical.choose_spec (zgl (fun n=>I n a w) hex)
    have he:μ a w=Classical.choose (zgl (fun n=>I n a w) hex):=dif_pos hex
    rw[he]
    exact⟨hc.1,hc.2 n h⟩
  refine wpIn_loop (fun a w=>∃n,I n a w) μ ⟨n,h0⟩ fun a w ⟨m,hm⟩=>?_
  refine wpIn_mono (round (μ a w) a w (hμ m a w hm).1) fun e a' w' hq=>?_
  cases e with
  | normal=>
    obtain⟨n',h1,h2⟩:=hq
    exact⟨⟨n',h2⟩,Nat.lt_of_le_of_lt (hμ n' a' w' h2).2 h1⟩
  | exit id=>exact hq
  | goto l=>exact hq
  | ret=>exact hq
  | panic ch=>exact hq
  | outgrown=>exact hq
theorem zeg {ro:Option Nat} {q:Nat} (hC:CfgOk E.P E.OB c) {ops:Array Oper} {Q:Exit→Act→World→Prop} (hdst:∀o∈ops.toList,∀t,o.dst=some t→t<c.nt):∀(l:List Oper) (_:∀o∈l,o∈ops.toList) (st:St) (K:St→Prop) (a:Act) (w:World),
    zdm c ops l st K→RelS E c.nt st a w→(∀st' a' w',K st'→RelS E c.nt st' a' w'→Q .normal a' w')→wpListIn (Fw ro) q E.P ops Q l a w
  | [],_,st,K,a,w,h,hR,hQ=>hQ st a w h hR
  | o :: r,hl,st,K,a,w,h,hR,hQ=>by
    have ih:=zeg (ro:=ro) (q:=q) hC (Q:=Q) hdst r (fun o ho=>hl o (List.mem_cons_of_mem _ ho))
    have hg:=zdS (ops:=ops) hR (o:=o)
    have hd:=hdst o (hl o List.mem_cons_self)
    simp only[zdm,zbw] at h
    unfold wpListIn
    split at h
    · rename_i heq
      rw[heq] at hg
      simp only at hg
      rw[if_pos hg]
      exact (zgz hC hR h fun st' a' w' hk hr=>ih st' K a' w' hk hr hQ)
    · rename_i heq
      rw[heq] at hg
      simp only at hg
      rw[if_neg (by rw[hg];simp)]
      exact⟨fun _ _=>trivial,ih _ K _ w h (zfi hR _ hd) hQ⟩
    · rename_i t b heq
      rw[heq] at hg
      simp only at hg
      obtain⟨ht,hv,hw⟩:=hg
      by_cases hbw:b=zaa o
      · rw[if_pos (by rw[hw,hbw];simp)]
        have hv':a.tmps.getD t undef=.bool (zaa o):=by rw[hv,hbw]
        exact (zgz hC (zhh ht hR hv') (h.out.1 hbw) fun st' a' w' hk hr=>ih st' K a' w' hk hr hQ)
      · have hbn:b = !zaa o:=by cases b<;>cases hh:zaa o<;>simp_all
        rw[if_neg (by rw[hw];simpa using hbw)]
        have hv':a.tmps.getD t undef=.bool (!zaa o):=by rw[hv,hbn]
        exact⟨fun _ _=>trivial,ih _ K _ w (h.out.2 hbn) (zfi (zhh ht hR hv') _ hd) hQ⟩
    · exact h.elim
def XE.to:XE→Exit
  | .normal=>.normal
  | .exit id=>.exit id
  | .ret=>.ret
/-! ### Slots that a body does not write -/
def zbt (ds:List Nat) (a a':Act):Prop:=∀t,t ∉ ds→a'.tmps.getD t undef=a.tmps.getD t undef
theorem zbt.refl (ds:List Nat) (a:Act):zbt ds a a:=fun _ _=>rfl
theorem zbt.trans {ds:List Nat} {a b d:Act} (h:zbt ds a b) (k:zbt ds b d):zbt ds a d:=fun t ht=>(k t ht).trans (h t ht)
theorem zbt.more {ds ds':List Nat} {a b:Act} (h:zbt ds a b) (hs:∀t,t∈ds→t∈ds'):zbt ds' a b:=fun t ht=>h t fun hc=>ht (hs t hc)
theorem zh5 (a:Act) (d:Option Nat) (v:Value) {ds:List Nat} (h:∀t,d=some t→t∈ds):zbt ds a (a.put d v):=fun t ht=>by
  cases d with
  | none=>rfl
  | some d=>exact zab fun e=>ht (by rw[e];exact h d rfl)
def AgX (ds:List Nat) (a0:Act) (Q:Exit→Act→World→Prop):Exit→Act→World→Prop:=fun e a w=>Q e a w∧(e≠.outgrown→zbt ds a0 a)
theorem zmm {F:Fence} {q:Nat} {P:Program} {o:Oper} {ds:List Nat} {a0 a:Act} {w:World} {K:Act→World→Prop} {Q:Exit→Act→World→Prop} (hd:∀t,o.dst=some t→t∈ds) (h0:zbt ds a0 a)
    (h:o.wpIn F q P a w K Q):o.wpIn F q P a w (fun a' w'=>K a' w'∧zbt ds a0 a') (AgX ds a0 Q):=by
  have hp:∀v,zbt ds a0 (a.put o.dst v):=fun v=>h0.trans (zh5 a o.dst v hd)
  have hp':∀d v,zbt ds a0 (({a with defers:=d::a.defers}:Act).put o.dst v):=fun d v t ht=>by
    have:=hp v t ht
    cases hd:o.dst<;>simpa [Act.put,hd] using this
  have hout:LetsOut Q→LetsOut (AgX ds a0 Q):=fun⟨x,y,hq⟩=>⟨x,y,hq,fun hc=>absurd rfl hc⟩
  unfold Oper.wpIn at *
  refine⟨h.1,?_⟩
  have h:=h.2
  generalize (o.semAt F.round a.eval).run P w=r at *
  cases r with
  | ok x w'=>
    cases x<;>simp only[Oper.uponIn] at h ⊢ <;>
      first
        | exact⟨h,hp _⟩
        | exact⟨h.1,CallsIn.mono h.2 (fun e w'' he=>by cases e<;>first|exact⟨he,hp _⟩|exact⟨he,fun _=>h0⟩|exact hout he)⟩
        | exact⟨h.1,RowsIn.mono h.2 (fun _ _ he=>⟨he,hp _⟩)⟩
        | exact⟨h.1,RoundIn.mono h.2 (fun e w'' he=>by cases e<;>first|exact⟨he,hp _⟩|exact⟨he,fun _=>h0⟩|exact hout he)⟩
        | exact⟨h,hp' _ _⟩
  | halt x w'=>cases x<;>simp only[Oper.uponIn] at h ⊢<;>first|exact⟨h,fun _=>h0⟩|exact h
theorem zf7 {t:Nat}:∀ {l:List Oper},t∈zgB l↔∃o∈l,o.dst=some t
  | []=>by simp[zgB]
  | o::r=>by
    have ih:=zf7 (t:=t) (l:=r)
    cases hd:o.dst with
    | none=>simp[zgB,hd,ih]
    | some d=>simp[zgB,hd,ih,eq_comm]
theorem zgb {F:Fence} {q:Nat} {P:Program} {ops:Array Oper} {Q:Exit→Act→World→Prop} {ds:List Nat} {a0:Act}:∀(l:List Oper) (a:Act) (w:World),(∀o∈l,∀t,o.dst=some t→t∈ds)→zbt ds a0 a→
    wpListIn F q P ops Q l a w→wpListIn F q P ops (AgX ds a0 Q) l a w
  | [],a,w,_,h0,h=>⟨h,fun _=>h0⟩
  | o :: r,a,w,hd,h0,h=>by
    have hd':∀o∈r,∀t,o.dst=some t→t∈ds:=fun o ho=>hd o (List.mem_cons_of_mem _ ho)
    unfold wpListIn at h ⊢
    split
    · rename_i hw
      rw[if_pos hw] at h
      exact Oper.wpIn_mono (fun a w hk=>zgb r a w hd' hk.2 hk.1) (zmm (hd o List.mem_cons_self) h0 h)
    · rename_i hw
      rw[if_neg hw] at h
      exact⟨h.1,zgb r _ _ hd' (h0.trans (zh5 a o.dst undef (hd o List.mem_cons_self))) h.2⟩
theorem zfQ {F:Fence} {q:Nat} {P:Program} {md:Region.Mode} {ops:Array Oper} {Q:Exit→Act→World→Prop} {ds:List Nat} {a0:Act} (hd:∀o∈ops.toList,∀t,o.dst=some t→t∈ds):∀(fuel:Nat) (L:Array Bool) (a:Act) (w:World),zbt ds a0 a→
    wpAnyIn F q P md ops Q fuel L a w→wpAnyIn F q P md ops (AgX ds a0 Q) fuel L a w
  | 0,L,a,w,h0,h=>⟨h.1,h.2,fun _=>h0⟩
  | fuel + 1,L,a,w,h0,h=>by
    refine⟨fun hr=>⟨h.1 hr,fun _=>h0⟩,fun i hi=>?_⟩
    have h1:=h.2 i hi
    unfold wpOpIn at *
    cases ho:ops[i]? with
    | none=>rw[ho] at h1;exact zfQ hd fuel _ a w h0 h1
    | some o=>
      rw[ho] at h1
      simp only at h1 ⊢
      have hm:o∈ops.toList:=by
        obtain⟨hlt,he⟩:=Array.getElem?_eq_some_iff.1 ho
        rw[←he];simp
      split
      · rename_i hw
        rw[if_pos hw] at h1
        exact Oper.wpIn_mono (fun a w hk=>zfQ hd fuel _ a w hk.2 hk.1) (zmm (hd o hm) h0 h1)
      · rename_i hw
        rw[if_neg hw] at h1
        exact⟨h1.1,zfQ hd fuel _ _ _ (h0.trans (zh5 a o.dst undef (hd o hm))) h1.2⟩
def ztn (E:Env) (c:Cfg) (par:Array Oper→St→(St→Prop)→Prop):Prop:=
  ∀ (id:Nat) (ops:Array Oper) (st:St) (K:St→Prop) (a:Act) (w:World) (Q:Exit→Act→World→Prop),par ops st K→RelS E c.nt st a w→
    (∀st' a' w',K st'→RelS E c.nt st' a' w'→Q .normal a' w')→∀(ro:Option Nat) (q:Nat),(Code.region id ops true).wpIn (Fw ro) q E.P (AgX (zgB ops.toList) a Q) a w
def zeb (nt:Nat):Code→Bool
  | .region _ ops _=>ops.toList.all fun o=>match o.dst with|some d=>Nat.blt d nt|none=>true
  | .seq a b=>zeb nt a&&zeb nt b
  | .cond _ a b=>zeb nt a&&zeb nt b
  | .block _ b=>zeb nt b
  | .loop b=>zeb nt b
  | .rangeFunc _ ps a b=>(zeb nt a&&zeb nt b)&&ps.toList.all fun p=>Nat.blt p nt
  | _=>true
def zii (E:Env) (nt:Nat) (K:XE→St→Prop):Exit→Act→World→Prop:=fun e a w=>∃x st,XE.to x=e∧K x st∧RelS E nt st a w
theorem za8 {ds ps ks:List Nat}:∀ {st:St} {t:Nat} {s:SV},Fact.slot t s∈zco ds ps ks st→t ∉ ds
  | [],t,s,h=>by cases h
  | f :: r, t,s,h=>by
    cases f with
    | slot t' s'=>
      simp only[zco] at h
      cases hb:(memN t' ds || memN t' ps || s'.ment ds) with
      | true=>rw[hb] at h;exact za8 h
      | false=>
        rw[hb] at h
        rcases List.mem_cons.1 h with h|h
        · injection h with h1 h2
          subst h1
          intro hc
          rw[zaD.2 hc] at hb
          cases hb
        · exact za8 h
    | cell k off s'=>
      simp only[zco] at h
      cases hb:(memN k ks || memN k ds || s'.ment ds) with
      | true=>rw[hb] at h;exact za8 h
      | false=>
        rw[hb] at h
        rcases List.mem_cons.1 h with h|h
        · cases h
        · exact za8 h
    | row k el e xs=>
      simp only[zco] at h
      cases hb:(memN k ks || memN k ds) with
      | true=>rw[hb] at h;exact za8 h
      | false=>
        rw[hb] at h
        rcases List.mem_cons.1 h with h|h
        · cases h
        · exact za8 h
    | ob k i=>
      simp only[zco] at h
      cases hb:memN k ds with
      | true=>rw[hb] at h;exact za8 h
      | false=>
        rw[hb] at h
        rcases List.mem_cons.1 h with h|h
        · cases h
        · exact za8 h
    | fix k=>
      simp only[zco] at h
      cases hb:memN k ds with
      | true=>rw[hb] at h;exact za8 h
      | false=>
        rw[hb] at h
        rcases List.mem_cons.1 h with h|h
        · cases h
        · exact za8 h
theorem zn8:∀ {st:St},zfY st=[]→∀t s,Fact.slot t s ∉ st
  | [],_,t,s,h=>by cases h
  | f :: r,hs,t,s,h=>by
    cases f with
    | slot t' s'=>cases hs
    | _=>
      rcases List.mem_cons.1 h with h|h
      · cases h
      · exact zn8 (by simpa only [zfY] using hs) t s h
theorem zjJ {V:View}:∀(t:Ty) (x:t.Den),t.flat=true→Rep V t x (encL t x)
  | .int k,x,_=>rfl
  | .bool,x,_=>rfl
  | .str,x,_=>rfl
  | .flt k,x,_=>rfl
  | .cpx k,x,_=>rfl
  | .sl _,_,h=>by cases h
  | .ptr _,_,h=>by cases h
  | .clo _ _,_,h=>by cases h
  | .fnl _,_,h=>by cases h
  | .osl _,_,h=>by cases h
  | .err,_,h=>by cases h
  | .nil,_,_=>rfl
  | .cons a b,x,h=>by
    simp only[Ty.flat,Bool.and_eq_true] at h
    exact⟨_,_,rfl,zjJ a x.1 h.1,zjJ b x.2 h.2⟩
theorem zpQ {V:View} {t:Ty} {x:t.Den} (h:t.flat=true):RepV V t x (encV t x):=by
  have hr:=zjJ (V:=V) t x h
  cases hag:t.agg with
  | true=>exact⟨_,hr,.inl (by simp[encV,hag])⟩
  | false=>
    have hl:(encL t x).length=t.size:=Rep.length t x _ hr
    have h1:t.size=1:=by cases t<;>simp_all [Ty.agg,Ty.size]
    match hv:encL t x,hl with
    | [v],_=>exact⟨[v],by rw[←hv];exact hr,.inr ⟨hag,by simp[encV,hag,hv]⟩⟩
    | [],hl=>rw[h1] at hl;simp at hl
    | _::_::_,hl=>rw[h1] at hl;simp at hl
section
variable {E:Env} {nt:Nat} {η:Eta} {st:St} {a:Act} {w:World}
theorem zmi {η:Eta}:∀ {ps:List (Nat×Nat)} {vs:List Value} {i:Nat} {p:Nat×Nat},ptrL η ps vs→nth ps i=some p→∃b c,η p.1=some (b,c)∧vs[i]?=some (.pointer (some ⟨b,p.2,none⟩))
  | [],[],i,p,_,h=>by simp[nth] at h
  | [],_::_,_,_,h,_=>h.elim
  | _::_,[],_,_,h,_=>h.elim
  | q::r,v::l,0,p,⟨⟨b,c,h1,h2⟩,_⟩,h=>by
    have h:q=p:=Option.some.inj h
    subst h
    exact⟨b,c,h1,by rw[h2];rfl⟩
  | q::r,v::l,i+1,p,⟨_,h2⟩,h=>by
    obtain⟨b,c,h3,h4⟩:=zmi h2 (show nth r i=some p from h)
    exact⟨b,c,h3,by simpa using h4⟩
theorem ze7 {η:Eta}:∀ {ps:List (Nat×Nat)} {vs:List Value},ptrL η ps vs→ps.length=vs.length
  | [],[],_=>rfl
  | [],_::_,h=>h.elim
  | _::_,[],h=>h.elim
  | _::_,_::_,h=>by simp[ze7 h.2]
theorem zht {η:Eta}:∀ {ps qs:List (Nat×Nat)} {vs us:List Value},ptrL η ps vs→ptrL η qs us→ptrL η (ps++qs) (vs++us)
  | [],_,[],_,_,h=>h
  | [],_,_::_,_,h,_=>h.elim
  | _::_,_,[],_,h,_=>h.elim
  | _::_,_,_::_,_,⟨h1,h2⟩,h=>⟨h1,zht h2 h⟩
theorem ziu (H : ∀f∈st,Fact.holds E η a w f) {ps:List (Nat×Nat)} {vs:List Value} (hp:ptrL η ps vs):∀(rd:List (Nat×Nat×Ty)) (x:(rdTy rd).Den),rdOf st ps rd=some x→zjW (vw E η w) w vs rd x
  | [],_,_=>trivial
  | r :: l, x, h=>by
    unfold rdOf at h
    split at h
    case h_2=>cases h
    case h_1 p hnp=>
      split at h
      case h_2=>cases h
      case h_1 cs hcs=>
        split at h
        case h_2=>cases h
        case h_1 y hy=>
          split at h
          case h_2=>cases h
          case h_1 z hz=>
            have h:=Option.some.inj h
            subst h
            obtain⟨b,c,h1,h2⟩:=zmi hp hnp
            obtain⟨us,e1,e2,e3,_⟩:=zbd H h1 _ _ _ hcs
            obtain⟨l1,l2,q1,q2,q3⟩:=zcQ r.2.2 cs us y [] hy e1
            refine⟨⟨b,p.2,h2,us,?_,e2,fun j v hj=>e3 j v hj⟩,ziu H hp l z hz⟩
            have:l2=[]:=by
              cases l2 with
              | nil=>rfl
              | cons _ _=>exact q3.elim
            rw[q1,this,List.append_nil]
            exact q2
theorem zlu (g:Good E nt η a w) (H:∀f∈st,Fact.holds E η a w f) {ps:List (Nat×Nat)} {vs:List Value} (hp:ptrL η ps vs) {rd:List (Nat×Nat×Ty)} {x:(rdTy rd).Den} (h:rdOf st ps rd=some x):zjX rd w vs x:=
  ⟨vw E η w,fun b c ⟨_,_,h⟩=>h,ziu H hp rd x h⟩
theorem zm8 {w':World} (hsame:∀(b:Nat) (o:Obj),w.heap[b]?=some o→w'.heap[b]?=some o):Keeps E η η a a w w' {}:=
  ⟨fun b c ⟨h1,h2,el,f,h3⟩=>⟨h1,h2,el,f,hsame _ _ h3⟩,fun _ _=>rfl,fun _ _=>rfl,
    fun k off b c cur el v _ _ _ _ _ h5 h6=>⟨cur,hsame _ _ h5,h6⟩,fun k b c cur el _ _ _ _ _ h5=>hsame _ _ h5,fun k i b c o _ _ _ _ h5 h6=>⟨o,hsame _ _ h5,h6⟩⟩
theorem znA (f:Fact):Kill.surv {} f=true:=by
  have zl:∀l:List S1,anyS (S1.ment []) l=false:=zd2
  cases f with
  | slot t s=>cases s<;>simp[Kill.surv,memN,SV.ment,zci,zl]
  | cell k off s=>simp[Kill.surv,memN,memC,zci]
  | row k el e xs=>simp[Kill.surv,memN]
  | ob k i=>simp[Kill.surv,memN]
  | fix k=>simp[Kill.surv,memN]
theorem Env.low_eq {E E':Env} (hw0:E'.w0=E.w0) (hx:E'.x=E.x):E'.low=E.low:=by
  funext b
  simp only[Env.low,hw0,hx]
theorem zn5 {E':Env} (hP:E'.P=E.P) (hM:E'.M=E.M) (hmu:E'.mu=E.mu) (hw0:E'.w0=E.w0) (hOB:E'.OB=E.OB) (hx:E'.x=E.x) (g:Good E nt η a w) (H:∀f∈st,Fact.holds E η a w f) {l:Nat} {o o':Obj} {a':Act}
    (hl:(l,o)∈E.pins) (hsub:∀p∈E'.pins,∃o,(p.1,o)∈E.pins) (hlow:E.w0.heap.size≤l) (hfree:∀k c,η k≠some (l,c)) (ht:a'.tmps=a.tmps) (hmk:zij E' η a' (w.putObj l o')) (hnd:E'.x.nd=true→a'.defers=[]) :
    Good E' nt η a' (w.putObj l o')∧∀f∈st,Fact.holds E' η a' (w.putObj l o') f:=by
  have hother:∀(b:Nat) (x:Obj),w.heap[b]?=some x→b≠l→(w.putObj l o').heap[b]?=some x:=fun b x h hb=>(World.putObj_heap_other hb).trans h
  have hsz:(w.putObj l o').heap.size=w.heap.size:=by simp[World.putObj]
  have hne:∀k b c,η k=some (b,c)→b≠l:=fun k b c h e=>hfree k c (e▸h)
  have hview:∀b c,vw E η w b c→vw E' η (w.putObj l o') b c:=fun b c ⟨h1,h2,el,f,h3⟩=>⟨fun hm=>h1 (hm.imp (fun h=>by rw[hM] at h;exact h) fun⟨o,h⟩=>hsub _ h),h2,el,f,hother b _ h3 (fun e=>h1 (.inr ⟨o,e▸hl⟩))⟩
  refine ⟨{
    size:=by rw[ht];exact g.size
    nd:=hnd
    lim:=g.lim
    defers:=hmk
    os:=by rw[hw0];exact g.os
    tape:=by rw[hw0];exact g.tape
    output:=by rw[hw0];exact g.output
    grow:=by rw[hsz,hw0];exact g.grow
    keep:=fun b hb hm hw=>by
      rw[hw0] at hb ⊢
      exact (World.putObj_heap_other (by omega)).trans (g.keep b hb (by rw[←hmu];exact hm) (by rw[←hx];exact hw))
    own:=fun k b c h=>by rw[hsz,Env.low_eq hw0 hx,hmu];exact g.own k b c h
    dis:=fun b hb=>by rw[Env.low_eq hw0 hx];exact g.dis b (by rw[←hmu];exact hb)
    inj:=g.inj
    old:=fun b hb=>by rw[Env.low_eq hw0 hx];exact g.old b (by rw[←hM];exact hb)
    obkeep:=fun b i o1 hb hm h1 h2=>by
      rw[hw0] at hb h1
      rw[hOB] at h2 ⊢
      obtain⟨o2,h3,h4⟩:=g.obkeep b i o1 hb (by rw[←hmu];exact hm) h1 h2
      exact⟨o2,hother b o2 h3 (by omega),h4⟩},fun f hf=>?_⟩
  have h:=H f hf
  cases f with
  | slot t s=>
    simp only[Fact.holds] at h ⊢
    rw[zfV (a':=a') (a:=a) (t:=t) (by rw[ht])]
    exact zcV (ks:=[]) hview (fun _ _=>rfl) (by cases s<;>simp[SV.ment,zci,zd2]) h
  | cell k off s=>
    obtain⟨b,c,cur,el,v,h1,h2,h3,h4,h5,h6⟩:=h
    exact⟨b,c,cur,el,v,by rw[Env.low_eq hw0 hx];exact h1,h2,hother b _ h3 (hne k b c h2),h4,h5,zaF (ks:=[]) hview (fun _ _=>rfl) (zci s) h6⟩
  | row k el e xs=>
    rcases h with h|⟨b,c,cur,h1,h2,h3,h4⟩
    · exact .inl h
    · exact .inr ⟨b,c,cur,by rw[Env.low_eq hw0 hx];exact h1,h2,hother b _ h3 (hne k b c h2),h4.mono hview⟩
  | ob k i=>
    obtain⟨b,c,o1,h1,h2,h3⟩:=h
    exact⟨b,c,o1,h1,hother b _ h2 (hne k b c h1),by rw[hOB];exact h3⟩
  | fix k=>
    show η k=_
    rw[hx];exact h
theorem zmh {E':Env} (hP:E'.P=E.P) (hM:E'.M=E.M) (hmu:E'.mu=E.mu) (hw0:E'.w0=E.w0) (hOB:E'.OB=E.OB) (hx:E'.x=E.x) (g:Good E nt η a w) (H:∀f∈st,Fact.holds E η a w f) {a':Act} {ds:List Nat}
    (hview:∀b c,vw E η w b c→vw E' η w b c) (hsz:a'.tmps.size=nt) (hag:zbt ds a' a) (hds:∀t s,Fact.slot t s∈st→t ∉ ds) (hmk:zij E' η a' w) (hnd:E'.x.nd=true→a'.defers=[]):Good E' nt η a' w∧∀f∈st,Fact.holds E' η a' w f:=by
  refine ⟨{
    size:=hsz
    nd:=hnd
    lim:=g.lim
    defers:=hmk
    os:=by rw[hw0];exact g.os
    tape:=by rw[hw0];exact g.tape
    output:=by rw[hw0];exact g.output
    grow:=by rw[hw0];exact g.grow
    keep:=fun b hb hm hw=>by rw[hw0] at hb ⊢;exact g.keep b hb (by rw[←hmu];exact hm) (by rw[←hx];exact hw)
    own:=fun k b c h=>by rw[Env.low_eq hw0 hx,hmu];exact g.own k b c h
    dis:=fun b hb=>by rw[Env.low_eq hw0 hx];exact g.dis b (by rw[←hmu];exact hb)
    inj:=g.inj
    old:=fun b hb=>by rw[Env.low_eq hw0 hx];exact g.old b (by rw[←hM];exact hb)
    obkeep:=fun b i o1 hb hm h1 h2=>by
      rw[hw0] at hb h1
      rw[hOB] at h2 ⊢
      exact g.obkeep b i o1 hb (by rw[←hmu];exact hm) h1 h2},fun f hf=>?_⟩
  have h:=H f hf
  cases f with
  | slot t s=>
    simp only[Fact.holds] at h ⊢
    rw[zfV (hag t (hds t s hf))] at h
    exact zcV (ks:=[]) hview (fun _ _=>rfl) (by cases s<;>simp[SV.ment,zci,zd2]) h
  | cell k off s=>
    obtain⟨b,c,cur,el,v,h1,h2,h3,h4,h5,h6⟩:=h
    exact⟨b,c,cur,el,v,by rw[Env.low_eq hw0 hx];exact h1,h2,h3,h4,h5,zaF (ks:=[]) hview (fun _ _=>rfl) (zci s) h6⟩
  | row k el e xs=>
    rcases h with h|⟨b,c,cur,h1,h2,h3,h4⟩
    · exact .inl h
    · exact .inr ⟨b,c,cur,by rw[Env.low_eq hw0 hx];exact h1,h2,h3,h4.mono hview⟩
  | ob k i=>
    obtain⟨b,c,o1,h1,h2,h3⟩:=h
    exact⟨b,c,o1,h1,h2,by rw[hOB];exact h3⟩
  | fix k=>
    show η k=_
    rw[hx];exact h
end
theorem zsc (w:World) (o:Obj) (b:Nat) (h:b<w.heap.size):(w.alloc o).heap[b]?=w.heap[b]?:=(World.grownBy_alloc w o none).block b h (by simp)
theorem zew {ds:List Nat}:∀ {st:St} {f:Fact},f∈zfM ds st→f∈st
  | [],f,h=>h
  | g :: r,f,h=>by
    cases g with
    | slot t s=>
      simp only[zfM] at h
      cases hb:memN t ds with
      | true=>rw[hb] at h;exact List.mem_cons_of_mem _ (zew h)
      | false=>
        rw[hb] at h
        rcases List.mem_cons.1 h with h|h
        · rw[h];exact List.mem_cons_self
        · exact List.mem_cons_of_mem _ (zew h)
    | _=>
      simp only[zfM] at h
      rcases List.mem_cons.1 h with h|h
      · rw[h];exact List.mem_cons_self
      · exact List.mem_cons_of_mem _ (zew h)
theorem zdu {ds:List Nat}:∀ {st:St} {t:Nat} {s:SV},Fact.slot t s∈zfM ds st→t ∉ ds
  | [],t,s,h=>by cases h
  | g :: r, t,s,h=>by
    cases g with
    | slot t' s'=>
      simp only[zfM] at h
      cases hb:memN t' ds with
      | true=>rw[hb] at h;exact zdu h
      | false=>
        rw[hb] at h
        rcases List.mem_cons.1 h with h|h
        · injection h with h1 h2
          subst h1
          intro hc
          rw[zaD.2 hc] at hb
          cases hb
        · exact zdu h
    | _=>
      simp only[zfM] at h
      rcases List.mem_cons.1 h with h|h
      · cases h
      · exact zdu h
section
variable {E:Env} {nt:Nat} {η:Eta} {st:St} {a:Act} {w:World}
theorem zna {w':World} (g:Good E nt η a w) (H:∀f∈st,Fact.holds E η a w f) (hg:w.grownBy w' none):Good E nt η a w'∧∀f∈st,Fact.holds E η a w' f:=by
  have hsame:∀b o,w.heap[b]?=some o→w'.heap[b]?=some o:=fun b o h=>(hg.block b (zag h) (by simp)).trans h
  have hk:=zm8 (E:=E) (η:=η) (a:=a) hsame
  refine⟨?_,fun f hf=>hk.fact (znA f) (H f hf)⟩
  exact {
    size:=g.size
    lim:=g.lim
    defers:=g.defers.mono rfl (fun D o h _=>hsame D o h) (fun k b c h=>.inl ⟨k,c,h⟩)
    os:=hg.os.trans g.os,tape:=hg.tape.trans g.tape,output:=hg.output.trans g.output
    grow:=Nat.le_trans g.grow hg.size
    dis:=g.dis
    keep:=fun b hb hm hw=>(hg.block b (by have:=g.grow;omega) (by simp)).trans (g.keep b hb hm hw)
    own:=fun k b c h=>by have hz:=hg.size;have:=g.own k b c h;exact⟨by omega,this.2⟩
    inj:=g.inj,old:=g.old
    obkeep:=fun b i o hb hm h1 h2=>by
      obtain⟨o',h3,h4⟩:=g.obkeep b i o hb hm h1 h2
      exact⟨o',hsame b o' h3,h4⟩}
theorem zmY {E':Env} {a':Act} {l:Nat} {o o':Obj} (h:zij E η a w) (hl:(l,o)∈E.pins) (hno:o≠.deferred (some [])) (hw0:E'.w0=E.w0)
    (hd:a'.defers=a.defers) (hp:∀p∈E'.pins,(p∈E.pins∧p.1≠l)∨p=(l,o')):zij E' η a' (w.putObj l o'):=by
  obtain⟨⟨ms,h1,h2,h3⟩,h4⟩:=h
  obtain⟨q1,q2,q4⟩:=h4 _ hl
  refine⟨⟨ms,hd.trans h1,h2,fun D hD=>?_⟩,fun p hpm=>?_⟩
  · obtain⟨k1,k2,k3⟩:=h3 D hD
    refine⟨by rw[hw0];exact k1,(World.putObj_heap_other (fun e=>?_)).trans k2,k3⟩
    rw[e] at k2
    exact hno (by rw[q2] at k2;exact Option.some.inj k2)
  · rcases hp p hpm with ⟨k1,k2⟩|rfl
    · obtain⟨r1,r2,r4⟩:=h4 _ k1
      exact⟨by rw[hw0];exact r1,(World.putObj_heap_other k2).trans r2,r4⟩
    · exact⟨by rw[hw0];exact q1,World.putObj_heap_same (zag q2),q4⟩
def zft (E:Env) (ms:List Nat) (D:Nat):List (Nat×Obj):=(D,.deferred (some []))::(ms.map fun D=>(D,Obj.deferred (some [])))++E.pins
def zaX (E:Env) (ms:List Nat) (D l:Nat) (o:Obj):Env:={E with pins:=(l,o)::zft E ms D}
theorem zkr {a':Act} (h:zij E η a w) (hd:a'.defers=[]):zij E η a' w:=⟨⟨[],hd,List.nodup_nil,fun _ h=>by cases h⟩,h.2⟩
theorem zei {st':St} (hR:RelS E nt st a w) (h:∀f∈st',f∈st):RelS E nt st' a w:=
  let ⟨η,g,H⟩:=hR
  ⟨η,g,fun f hf=>H f (h f hf)⟩
theorem turn {ms:List Nat} {D l:Nat} {o o':Obj} {a':Act} {ds:List Nat} (hR:RelS (zaX E ms D l o) nt st a w) (hno:o≠.deferred (some []))
    (hrest:∀p∈zft E ms D,p.1≠l) (hlow:E.w0.heap.size≤l)
    (hsz:a'.tmps.size=nt) (hag:zbt ds a' a) (hds:∀t s,Fact.slot t s∈st→t ∉ ds) (hd:a'.defers=[]∨a'.defers=a.defers):RelS (zaX E ms D l o') nt st a' (w.putObj l o'):=by
  obtain⟨η,g,H⟩:=hR
  have hm:(l,o)∈(zaX E ms D l o).pins:=List.mem_cons_self
  obtain⟨q1,q2,q4⟩:=g.defers.2 _ hm
  obtain⟨g1,H1⟩:=zmh (E:=zaX E ms D l o) (E':=zaX E ms D l o) rfl rfl rfl rfl rfl rfl g H (fun _ _ h=>h) hsz hag hds (hd.elim (zkr g.defers) fun hd=>⟨let ⟨ms,h1,h2⟩:=g.defers.1;⟨ms,hd.trans h1,h2⟩,g.defers.2⟩) (fun h=>hd.elim id fun hd=>hd.trans (g.nd h))
  obtain ⟨g2,H2⟩:=zn5 (E:=zaX E ms D l o) (E':=zaX E ms D l o') (a':=a') (o':=o') rfl rfl rfl rfl rfl rfl g1 H1 hm (fun p hp=>by
      rcases List.mem_cons.1 hp with rfl|h
      · exact⟨o,hm⟩
      · exact⟨p.2,List.mem_cons_of_mem _ h⟩) hlow q4 rfl
    (zmY g1.defers hm hno rfl rfl fun p hp=>by
      rcases List.mem_cons.1 hp with h|h
      · exact .inr h
      · exact .inl ⟨List.mem_cons_of_mem _ h,hrest p h⟩) g1.nd
  exact⟨η,g2,H2⟩
theorem zkj {ms:List Nat} {D l:Nat} {o:Obj} (hR:RelS (zaX E ms D l o) nt st a w):w.heap[l]?=some o:=
  let ⟨_,g,_⟩:=hR
  (g.defers.2 (l,o) List.mem_cons_self).2.1
theorem zpq {o:Obj} (hR:RelS E nt st a w) (ho:o.isCells=false) :
    ∃ ms,a.defers=ms.map mkD∧ms.Nodup∧(∀D∈ms,D<w.heap.size)∧(∀p∈zft E ms w.heap.size,p.1≠w.heap.size+1)∧E.w0.heap.size≤w.heap.size∧
      RelS (zaX E ms w.heap.size (w.heap.size+1) o) nt st {tmps:=a.tmps,defers:=[]} ((w.alloc (.deferred (some []))).alloc o):=by
  obtain⟨η,g,H⟩:=hR
  obtain⟨⟨ms,h1,h2,h3⟩,h4⟩:=g.defers
  have hg:w.grownBy ((w.alloc (.deferred (some []))).alloc o) none:=(World.grownBy_alloc w _ none).trans (World.grownBy_alloc _ o none)
  obtain⟨g1,H1⟩:=zna g H hg
  have hsame:∀b o',w.heap[b]?=some o'→((w.alloc (.deferred (some []))).alloc o).heap[b]?=some o':=fun b o' h=>(hg.block b (zag h) (by simp)).trans h
  have hrest:∀p∈zft E ms w.heap.size,p=(w.heap.size,.deferred (some []))∨(E.w0.heap.size≤p.1∧w.heap[p.1]?=some p.2∧(p∈E.pins∨p.2=.deferred (some []))∧∀k c,η k≠some (p.1,c)):=by
    intro p hp
    rcases List.mem_cons.1 hp with h|h
    · exact .inl h
    · rcases List.mem_append.1 h with h|h
      · obtain⟨D,hD,rfl⟩:=List.mem_map.1 h
        obtain⟨k1,k2,k3⟩:=h3 D hD
        exact .inr ⟨k1,k2,.inr rfl,k3⟩
      · exact .inr ⟨(h4 p h).1,(h4 p h).2.1,.inl h,(h4 p h).2.2⟩
  have hfree:∀b,w.heap.size≤b→∀k c,η k≠some (b,c):=fun b hb k c h=>by have:=(g.own k b c h).1;omega
  refine⟨ms,h1,h2,fun D hD=>zag (h3 D hD).2.1,fun p hp=>?_,g.grow,η,?_⟩
  · rcases hrest p hp with rfl|⟨_,h,_⟩
    · simp
    · have:=zag h;omega
  · have hpins:∀p∈(zaX E ms w.heap.size (w.heap.size+1) o).pins,E.w0.heap.size≤p.1∧((w.alloc (.deferred (some []))).alloc o).heap[p.1]?=some p.2∧(p∈E.pins∨p.2.isCells=false)∧∀k c,η k≠some (p.1,c):=fun p hp=>by
      rcases List.mem_cons.1 hp with rfl|hp
      · refine⟨Nat.le_succ_of_le g.grow,?_,.inr ho,hfree _ (Nat.le_succ _)⟩
        have:=World.alloc_heap_new (w.alloc (.deferred (some []))) o
        rwa [World.size_alloc] at this
      · rcases hrest p hp with rfl|⟨k1,k2,k3,k4⟩
        · refine⟨g.grow,?_,.inr rfl,hfree _ (Nat.le_refl _)⟩
          exact (zsc _ _ _ (by simp)).trans (World.alloc_heap_new w _)
        · exact⟨k1,hsame _ _ k2,k3.imp id (fun h=>by rw[h];rfl),k4⟩
    refine zmh (E:=E) (E':=zaX E ms w.heap.size (w.heap.size+1) o) (ds:=[]) rfl rfl rfl rfl rfl rfl g1 H1 (fun b c ⟨v1,v2,el,fz,v3⟩=>⟨fun hm=>?_,v2,el,fz,v3⟩) g.size (zbt.refl _ _) (fun _ _ _ h=>by cases h) ⟨⟨[],rfl,List.nodup_nil,fun _ h=>by cases h⟩,fun p hp=>⟨(hpins p hp).1,(hpins p hp).2.1,(hpins p hp).2.2.2⟩⟩ (fun _=>rfl)
    rcases hm with hm|⟨o1,hm⟩
    · exact v1 (.inl hm)
    · obtain ⟨_,u1,u2,_⟩:=hpins _ hm
      rcases u2 with u2|u2
      · exact v1 (.inr ⟨o1,u2⟩)
      · rw[v3] at u1
        have u1:=Option.some.inj u1
        rw[←u1] at u2
        cases u2
theorem zhr {ms:List Nat} {D l:Nat} {o o':Obj} {a0:Act} (hR:RelS (zaX E ms D l o) nt st a0 w) (hno:o≠.deferred (some [])) (hrest:∀p∈zft E ms D,p.1≠l) (hlow:E.w0.heap.size≤l)
    (ht:a.tmps=a0.tmps) (hd:a.defers=ms.map mkD) (hnd:ms.Nodup) (hlt:∀D'∈ms,D'<D) (hx0:E.x.nd=false) :
    RelS E nt st {a with defers:=mkD D::a.defers} (w.putObj l o'):=by
  obtain⟨η,g,H⟩:=hR
  have hm:(l,o)∈(zaX E ms D l o).pins:=List.mem_cons_self
  obtain⟨q1,q2,q4⟩:=g.defers.2 _ hm
  have hpin:∀p∈zft E ms D,E.w0.heap.size≤p.1∧(w.putObj l o').heap[p.1]?=some p.2∧∀k c,η k≠some (p.1,c):=fun p hp=>by
    obtain⟨r1,r2,r4⟩:=g.defers.2 p (List.mem_cons_of_mem _ hp)
    exact⟨r1,(World.putObj_heap_other (hrest p hp)).trans r2,r4⟩
  refine⟨η,zn5 (E:=zaX E ms D l o) (E':=E) rfl rfl rfl rfl rfl rfl g H hm (fun p hp=>⟨p.2,List.mem_cons_of_mem _ (List.mem_cons_of_mem _ (List.mem_append.2 (.inr hp)))⟩) hlow q4 ht ⟨⟨D::ms,by simp[hd],?_,fun D' hD'=>?_⟩,fun p hp=>?_⟩ (fun h=>by rw[hx0] at h;cases h)⟩
  · exact List.nodup_cons.2 ⟨fun h=>Nat.lt_irrefl _ (hlt D h),hnd⟩
  · obtain ⟨r1,r2,r4⟩:=hpin (D',.deferred (some [])) (by
      rcases List.mem_cons.1 hD' with rfl|h
      · exact List.mem_cons_self
      · exact List.mem_cons_of_mem _ (List.mem_append.2 (.inl (List.mem_map.2 ⟨D',h,rfl⟩))))
    exact⟨r1,r2,r4⟩
  · exact hpin p (List.mem_cons_of_mem _ (List.mem_append.2 (.inr hp)))
theorem zhw {ds:List Nat} {p:Nat} {t:Ty} {x:t.Den} (hR:RelS E nt st a w) (ha:a.defers=[]) (hp:p<nt) (hpd:p∈ds) (hf:t.flat=true) (hds:∀u s,Fact.slot u s∈st→u ∉ ds) :
    RelS E nt (.slot p (.one (.d t x))::st) {tmps:=a.tmps.setIfInBounds p (encV t x),defers:=[]} w:=by
  obtain⟨η,g,H⟩:=hR
  have hag:zbt ds {tmps:=a.tmps.setIfInBounds p (encV t x),defers:=[]} a:=fun u hu=>by
    have hne:p≠u:=fun e=>hu (e▸hpd)
    simp[Array.getD_eq_getD_getElem?,Array.getElem?_setIfInBounds_ne hne]
  obtain⟨g1,H1⟩:=zmh (E:=E) (E':=E) (a':={tmps:=a.tmps.setIfInBounds p (encV t x),defers:=[]}) rfl rfl rfl rfl rfl rfl g H (fun _ _ h=>h) (by simpa using g.size) hag hds (zkr g.defers rfl) (fun _=>rfl)
  refine⟨η,g1,fun f hf'=>?_⟩
  rcases List.mem_cons.1 hf' with rfl|h
  · simp only [Fact.holds,zao,za0]
    have:(a.tmps.setIfInBounds p (encV t x)).getD p undef=encV t x:=by
      simp only[Array.getD_eq_getD_getElem?]
      rw[Array.getElem?_setIfInBounds_self_of_lt (by rw[g.size];exact hp)]
      rfl
    rw[zdC (Nat.lt_of_lt_of_le hp g.lim),this]
    exact zpQ hf
  · exact H1 f h
theorem zpu {E':Env} {w':World} (hP:E'.P=E.P) (hM:E'.M=E.M) (hmu:E'.mu=E.mu) (hw0:E'.w0=E.w0) (hOB:E'.OB=E.OB) (hx:E'.x=E.x) (hR:RelS E nt st a w) (hd:a.defers=[])
    (hos:w'.os=w.os) (htape:w'.tape=w.tape) (hout:w'.output=w.output) (hsize:w.heap.size≤w'.heap.size)
    (hstay:∀b,b<w.heap.size→(∀o,(b,o) ∉ E.pins)→w'.heap[b]?=w.heap[b]?)
    (hpins:∀p∈E'.pins,w'.heap[p.1]?=some p.2∧((∃o,(p.1,o)∈E.pins)∨w.heap.size≤p.1)):RelS E' nt st a w':=by
  obtain⟨η,g,H⟩:=hR
  have hlowp:∀b o,(b,o)∈E.pins→E.w0.heap.size≤b:=fun b o h=>(g.defers.2 _ h).1
  have hview:∀b c,vw E η w b c→vw E' η w' b c:=fun b c ⟨h1,h2,el,f,h3⟩=>by
    refine⟨fun hm=>?_,h2,el,f,(hstay b (zag h3) fun o ho=>h1 (.inr ⟨o,ho⟩)).trans h3⟩
    rcases hm with hm|⟨o,hm⟩
    · rw[hM] at hm;exact h1 (.inl hm)
    · rcases (hpins _ hm).2 with ⟨o',h⟩|h
      · exact h1 (.inr ⟨o',h⟩)
      · have:=zag h3;simp only at h;omega
  have hkey:∀k b c o,η k=some (b,c)→w.heap[b]?=some o→w'.heap[b]?=some o:=fun k b c o hk h=>(hstay b (zag h) fun o' ho=>(g.defers.2 _ ho).2.2 k c hk).trans h
  refine ⟨η,{
    size:=g.size
    lim:=g.lim
    defers:=⟨⟨[],hd,List.nodup_nil,fun _ h=>by cases h⟩,fun p hp=>?_⟩
    nd:=fun _=>hd
    os:=by rw[hw0];exact hos.trans g.os
    tape:=by rw[hw0];exact htape.trans g.tape
    output:=by rw[hw0];exact hout.trans g.output
    grow:=by rw[hw0];exact Nat.le_trans g.grow hsize
    keep:=fun b hb hm hw=>by
      rw[hw0] at hb ⊢
      have:=g.grow
      exact (hstay b (by omega) fun o ho=>by have:=hlowp b o ho;omega).trans (g.keep b hb (by rw[←hmu];exact hm) (by rw[←hx];exact hw))
    own:=fun k b c h=>by rw[Env.low_eq hw0 hx,hmu];have:=g.own k b c h;exact⟨by omega,this.2⟩
    dis:=fun b hb=>by rw[Env.low_eq hw0 hx];exact g.dis b (by rw[←hmu];exact hb)
    inj:=g.inj
    old:=fun b hb=>by rw[Env.low_eq hw0 hx];exact g.old b (by rw[←hM];exact hb)
    obkeep:=fun b i o hb hm h1 h2=>by
      rw[hw0] at hb h1
      rw[hOB] at h2 ⊢
      obtain⟨o',h3,h4⟩:=g.obkeep b i o hb (by rw[←hmu];exact hm) h1 h2
      exact⟨o',(hstay b (zag h3) fun o ho=>by have:=hlowp b o ho;omega).trans h3,h4⟩},fun f hf=>?_⟩
  · obtain⟨h1,h2⟩:=hpins p hp
    rw[hw0]
    rcases h2 with ⟨o,h2⟩|h2
    · exact⟨hlowp _ _ h2,h1,(g.defers.2 _ h2).2.2⟩
    · exact⟨Nat.le_trans g.grow h2,h1,fun k c hk=>by have:=(g.own k _ c hk).1;omega⟩
  · have h:=H f hf
    cases f with
    | slot t s=>
      simp only[Fact.holds] at h ⊢
      exact zcV (ks:=[]) hview (fun _ _=>rfl) (by cases s<;>simp[SV.ment,zci,zd2]) h
    | cell k off s=>
      obtain⟨b,c,cur,el,v,h1,h2,h3,h4,h5,h6⟩:=h
      exact⟨b,c,cur,el,v,by rw[Env.low_eq hw0 hx];exact h1,h2,hkey k b c _ h2 h3,h4,h5,zaF (ks:=[]) hview (fun _ _=>rfl) (zci s) h6⟩
    | row k el e xs=>
      rcases h with h|⟨b,c,cur,h1,h2,h3,h4⟩
      · exact .inl h
      · exact .inr ⟨b,c,cur,by rw[Env.low_eq hw0 hx];exact h1,h2,hkey k b c _ h2 h3,h4.mono hview⟩
    | ob k i=>
      obtain⟨b,c,o1,h1,h2,h3⟩:=h
      exact⟨b,c,o1,h1,hkey k b c _ h1 h2,by rw[hOB];exact h3⟩
    | fix k=>
      show η k=_
      rw[hx];exact h
def zdc (E:Env) (ps:List (Nat×Obj)):Env:={E with pins:=ps++E.pins}
def Dis (E:Env) (ms:List Nat) (D l:Nat) (ps:List (Nat×Obj)):Prop:=∀p∈ps,p.1≠l∧∀q∈zft E ms D,p.1≠q.1
theorem zho {ms:List Nat} {D:Nat} {ps:List (Nat×Obj)} {p:Nat×Obj} (h:p∈zft (zdc E ps) ms D):p∈ps∨p∈zft E ms D:=by
  simp only[zft,zdc,List.mem_cons,List.mem_append,List.cons_append] at h ⊢
  rcases h with h|h|h|h<;>simp[h]
theorem zhS {ps:List (Nat×Obj)} (hR:RelS (zdc E ps) nt st a w):RelS E nt st a w:=by
  obtain⟨η,g,H⟩:=hR
  exact ⟨η,zmh (E:=zdc E ps) (E':=E) (ds:=[]) rfl rfl rfl rfl rfl rfl g H (fun b c ⟨h1,h2⟩=>⟨fun hm=>h1 (hm.imp id fun⟨o,h⟩=>⟨o,List.mem_append.2 (.inr h)⟩),h2⟩) g.size (zbt.refl _ _) (fun _ _ _ h=>by cases h)
    ⟨g.defers.1,fun p hp=>g.defers.2 p (List.mem_append.2 (.inr hp))⟩ g.nd⟩
theorem ziv {ms:List Nat} {D l:Nat} {o:Obj} {ps ps':List (Nat×Obj)} {w':World} (hR:RelS (zaX (zdc E ps) ms D l o) nt st a w) (hd:a.defers=[])
    (hdis0:Dis E ms D l ps) (h:OwnStep w w' ps ps') :
    Dis E ms D l ps'∧RelS (zaX (zdc E ps') ms D l o) nt st a w':=by
  have hdis:∀p∈ps,∀q∈(zaX E ms D l o).pins,p.1≠q.1:=fun p hp q hq=>by
    rcases List.mem_cons.1 hq with rfl|hq
    · exact (hdis0 p hp).1
    · exact (hdis0 p hp).2 q hq
  have hin:∀ps p,p∈(zaX (zdc E ps) ms D l o).pins↔p∈ps∨p∈(zaX E ms D l o).pins:=fun ps p=>by
    simp only[zaX,zft,zdc,List.mem_cons,List.mem_append]
    constructor
    · rintro (h|(h|h)|h|h)<;>simp[h]
    · rintro (h|h|(h|h)|h)<;>simp[h]
  have hpin:∀q∈(zaX E ms D l o).pins,w.heap[q.1]?=some q.2:=fun q hq=>by
    obtain⟨η,g,H⟩:=hR
    exact (g.defers.2 q ((hin ps q).2 (.inr hq))).2.1
  have hdis':∀p∈ps',∀q∈(zaX E ms D l o).pins,p.1≠q.1:=fun p hp q hq=>by
    rcases (h.pins p hp).2 with ⟨o',h2⟩|h2
    · exact hdis _ h2 q hq
    · have:=zag (hpin q hq);omega
  refine⟨fun p hp=>⟨hdis' p hp (l,o) List.mem_cons_self,fun q hq=>hdis' p hp q (List.mem_cons_of_mem _ hq)⟩,zpu (E:=zaX (zdc E ps) ms D l o) (E':=zaX (zdc E ps') ms D l o) rfl rfl rfl rfl rfl rfl hR hd h.os h.tape h.output h.size (fun b hb hn=>h.block b hb fun o' ho'=>hn o' ((hin ps _).2 (.inl ho'))) fun p hp=>?_⟩
  rcases (hin ps' p).1 hp with hp|hp
  · obtain⟨h1,h2⟩:=h.pins p hp
    exact⟨h1,h2.imp (fun⟨o',h⟩=>⟨o',(hin ps _).2 (.inl h)⟩) id⟩
  · refine⟨(h.block p.1 (zag (hpin p hp)) fun o' ho'=>hdis _ ho' p hp rfl).trans (hpin p hp),.inl ⟨p.2,(hin ps _).2 (.inr hp)⟩⟩
theorem zpL {V:View} {η:Eta} {sv:SV} {g:Nat} {v:Value} (h:fnOf sv=some g) (hv:zao V η sv v):∃fv cv:List Value,v=.func (.func g) fv.toArray cv.toArray:=by
  unfold fnOf at h
  split at h
  · simp only[Option.some.injEq] at h
    subst h
    obtain⟨fv,cv,h,_⟩:=hv
    exact⟨fv,cv,h⟩
  · simp only [Option.some.injEq] at h
    subst h
    obtain⟨l,⟨cv,hl,hcv⟩,⟨h2,_⟩|⟨_,h2⟩⟩:=hv
    · cases h2
    · rw[hl] at h2
      exact⟨[],cv,by simpa using h2.symm⟩
  · cases h
theorem zhX {V : View} (hV:∀b c,V b c→∃el f,w.heap[b]?=some (.cells c el f)):∀(i:Nat) (rd:List (Nat×Nat×Ty)) (a:Ty) (y:a.Den) (x:(rdTy rd).Den) (vs us:List Value),zng i rd a y=some x→Rep V a y vs→us.length=i→
    zjW V w (us++vs) rd x
  | _,[],_,_,_,_,_,_,_,_=>trivial
  | i, r :: l, a,y,x,vs,us,h,hr,hl=>by
    cases a with
    | cons a1 b=>cases a1 with
     | ptr t =>
      unfold zng at h
      cases hb:(Nat.beq r.1 i&&Nat.beq r.2.1 0) with
      | false=>rw[hb] at h;simp at h
      | true =>
        rw[hb] at h
        simp only[cond_true] at h
        rw[Bool.and_eq_true] at hb
        have q1:=Nat.eq_of_beq_eq_true hb.1
        have q2:=Nat.eq_of_beq_eq_true hb.2
        split at h
        case h_2=>cases h
        case h_1 z hz=>
          split at h
          case h_2=>cases h
          case h_1 u hu=>
            have h:=Option.some.inj h
            subst h
            obtain⟨l1,l2,rfl,⟨ad,c,e1,e2,e3,e4,e5⟩,e6⟩:=hr
            subst e1
            obtain⟨he,hz⟩:=za6 hz
            obtain⟨n,off,ty⟩:=r
            have q1:n=i:=q1
            have q2:off=0:=q2
            have he:t=ty:=he
            subst he q1 q2
            have hz:z=y.1:=hz
            subst hz
            obtain⟨el,f,hbk⟩:=hV _ _ e3
            have hlen:=Rep.length _ _ _ e5
            have hat:=zn4 e5 rfl
            obtain⟨ab,ao,asp⟩:=ad
            simp only at e2 e3 e4 e5 hlen hat hbk
            subst e2
            refine⟨⟨ab,ao,by rw[←hl];simp,_,e5,hlen,fun j v hj=>?_⟩,?_⟩
            · rw[zbe hbk,Nat.add_zero]
              simpa using hat j v hj
            · have:=zhX hV (n+1) l b y.2 u l2 (us++[.pointer (some ⟨ab,ao,none⟩)]) hu e6 (by simp[hl])
              simpa using this
     | _=>simp[zng] at h
    | _=>simp[zng] at h
theorem zoB (g:Good E nt η a w) (H:∀f∈st,Fact.holds E η a w f) {sv:SV} {v:Value} (hv:zao (vw E η w) η sv v) {f:Nat} {fv cv:List Value} (he:v=.func (.func f) fv.toArray cv.toArray)
    {nb:Nat} {rd:List (Nat×Nat×Ty)} {x:(rdTy rd).Den} (h:rdAt st nb sv rd=some x):zjX rd w (fv++cv) x∧fv.length=nb∧cv.length≤16:=by
  unfold rdAt at h
  split at h
  · rename_i g' fs cs
    cases hb:(Nat.beq fs.length nb&&Nat.ble cs.length 16) with
    | false=>rw[hb] at h;simp at h
    | true=>
    rw[hb] at h
    simp only[cond_true] at h
    rw[Bool.and_eq_true] at hb
    have hc:=Nat.le_of_ble_eq_true hb.2
    have hb:=Nat.eq_of_beq_eq_true hb.1
    obtain⟨fv',cv',q1,q2,q3⟩:=hv
    rw[he] at q1
    simp only[Value.func.injEq] at q1
    obtain⟨_,u1,u2⟩:=q1
    have u1:fv=fv':=by simpa using congrArg Array.toList u1
    have u2:cv=cv':=by simpa using congrArg Array.toList u2
    subst u1 u2
    exact⟨zlu g H (zht q2 q3) h,(ze7 q2).symm.trans hb,(ze7 q3).symm▸hc⟩
  · rename_i g' b y
    cases hb:(Nat.beq 0 nb&&Nat.ble b.size 16) with
    | false=>rw[hb] at h;simp at h
    | true=>
    rw[hb] at h
    simp only[cond_true] at h
    rw[Bool.and_eq_true] at hb
    have hc:=Nat.le_of_ble_eq_true hb.2
    have hb:=Nat.eq_of_beq_eq_true hb.1
    obtain⟨l,⟨cv',hl,hcv⟩,⟨h2,_⟩|⟨_,h2⟩⟩:=hv
    · cases h2
    · rw[hl,he] at h2
      simp only[List.cons.injEq,Value.func.injEq,and_true] at h2
      obtain⟨_,u1,u2⟩:=h2
      have u1:fv=[]:=by simpa using (congrArg Array.toList u1).symm
      have u2:cv=cv':=by simpa using (congrArg Array.toList u2).symm
      subst u1 u2
      exact⟨⟨vw E η w,fun b c ⟨_,_,h⟩=>h,zhX (fun b c ⟨_,_,h⟩=>h) 0 rd b y x cv [] h hcv rfl⟩,hb,(Rep.length _ _ _ hcv).symm▸hc⟩
  · cases h
theorem zmW {isp:ISpec} {ds:List Nat} {ps:Array Nat} {p q:Nat} {x:(rdTy isp.rd).Den} {i:Nat} (hps:parP ps.toList=some (p,isp.two,q)) (hR:RelS E nt st a w) (ha:a.defers=[]) (hp:p<nt) (hpd:p∈ds) (hq:q<nt) (hqd:q∈ds)
    (hf:isp.e.flat=true) (hds:∀u s,Fact.slot u s∈st→u ∉ ds) :
    ∃ tm,(ps.zip (isp.args x i (encV isp.e (isp.seq x i)))).foldl (fun tmps (t,a)=>tmps.setIfInBounds t a) a.tmps=tm∧
      RelS E nt (.slot p (.one (.d isp.e (isp.seq x i)))::st) {tmps:=tm,defers:=[]} w∧zbt ds a {tmps:=tm,defers:=[]}:=by
  have hset:∀(tm:Array Value) (dd:List Deferred) (p:Nat) (v:Value),p∈ds→zbt ds {tmps:=tm,defers:=dd} {tmps:=tm.setIfInBounds p v,defers:=[]}:=fun tm dd p v hpd u hu=>by
    have hne:p≠u:=fun e=>hu (e▸hpd)
    simp[Array.getD_eq_getD_getElem?,Array.getElem?_setIfInBounds_ne hne]
  rcases ps with ⟨l⟩
  simp only at hps
  match l,hps with
  | [p'],hps=>
    simp only[parP,Option.some.injEq,Prod.mk.injEq] at hps
    obtain⟨rfl,h2,rfl⟩:=hps
    have e:isp.args x i (encV isp.e (isp.seq x i)) = #[encV isp.e (isp.seq x i)]:=by simp only[ISpec.args];rw[←h2]
    rw[e]
    exact⟨_,by simp,zhw (x:=isp.seq x i) hR ha hp hpd hf hds,hset a.tmps a.defers _ _ hpd⟩
  | [q',p'],hps=>
    simp only[parP,Option.some.injEq,Prod.mk.injEq] at hps
    obtain⟨rfl,h2,rfl⟩:=hps
    have e:isp.args x i (encV isp.e (isp.seq x i)) = #[.int .i64 i,encV isp.e (isp.seq x i)]:=by simp only[ISpec.args];rw[←h2]
    rw[e]
    have R1:=zhw (t:=.int .i64) (x:=(i:Int)) hR ha hq hqd rfl hds
    have R2:=zhw (x:=isp.seq x i) (zei R1 fun f hf=>List.mem_cons_of_mem _ hf) rfl hp hpd hf hds
    refine⟨_,?_,R2,(hset a.tmps a.defers _ _ hqd).trans (hset _ [] _ _ hpd)⟩
    have e1:encV (.int .i64) (i:Int)=.int .i64 i:=rfl
    rw[e1]
    simp
  | [],hps=>cases hps
  | _::_::_::_,hps=>cases hps
theorem zlw {isp:ISpec} {ps:Array Nat} {p q:Nat} {x:(rdTy isp.rd).Den} {i:Nat} {v:Value} (hps:parP ps.toList=some (p,isp.two,q)):ps.size=(isp.args x i v).size:=by
  rcases ps with ⟨l⟩
  simp only at hps
  match l,hps with
  | [p'],hps=>
    simp only[parP,Option.some.injEq,Prod.mk.injEq] at hps
    simp only[ISpec.args];rw[←hps.2.1];rfl
  | [q',p'],hps=>
    simp only[parP,Option.some.injEq,Prod.mk.injEq] at hps
    simp only[ISpec.args];rw[←hps.2.1];rfl
  | [],hps=>cases hps
  | _::_::_::_,hps=>cases hps
theorem zr3 {ps:Array Nat} {p q nt:Nat} {t:Bool} (h:parP ps.toList=some (p,t,q)) (hd:(ps.toList.all fun p=>Nat.blt p nt)=true):p<nt∧q<nt:=by
  rcases ps with ⟨l⟩
  simp only at h hd
  match l,h with
  | [p'],h=>
    simp only[parP,Option.some.injEq,Prod.mk.injEq] at h
    obtain⟨rfl,_,rfl⟩:=h
    have:p'<nt:=by simpa using hd
    exact⟨this,this⟩
  | [q',p'],h=>
    simp only[parP,Option.some.injEq,Prod.mk.injEq] at h
    obtain⟨rfl,_,rfl⟩:=h
    have:q'<nt∧p'<nt:=by simpa using hd
    exact⟨this.2,this.1⟩
  | [],h=>cases h
  | _::_::_::_,h=>cases h
theorem zlv {g:Nat} {isp:ISpec} {sv:SV} {ps:Array Nat} {p q:Nat} {x:(rdTy isp.rd).Den} {σ:Type} {head:σ→St} {inv:σ→Prop} {meas:σ→Nat} {B:σ→St→Prop} {ds:List Nat} {K:XE→St→Prop} {f:Operand} {assign body:Code}
    (hx0:E.x.nd=false) (hI:zmR E.P g isp) (hE:zc0 E.P g) (hflat:isp.e.flat=true) (hps:parP ps.toList=some (p,isp.two,q)) (hp:p<nt) (hpd:p∈ds) (hq:q<nt) (hqd:q∈ds) (hda:∀t∈dsts assign,t∈ds) (hdb:∀t∈dsts body,t∈ds)
    (hpre:isp.pre x) (hfn:fnOf sv=some g) (hhead:∀s,inv s→eval (head s) f=some sv∧rdAt (head s) isp.nb sv isp.rd=some x)
    (hslot:∀s,inv s→∀t v,Fact.slot t v∈head s→t ∉ ds) (s0:σ) (h0:inv s0) (hm0:meas s0=0) (hR:RelS E nt (head s0) a w)
    (hN:isp.len x=none→∃N,∀s,inv s→meas s<N) (hfin:∀s,inv s→isp.len x=some (meas s)→K .normal (head s))
    (hassign:∀s,inv s→(∀L,isp.len x=some L→meas s<L)→∀(E1:Env) (l:Nat) (a1:Act) (W:World),E1.P=E.P→E1.OB=E.OB→RelS E1 nt (.slot p (.one (.d isp.e (isp.seq x (meas s))))::head s) a1 W→
      assign.wpIn (Fw (some l)) 0 E1.P (AgX (dsts assign) a1 (zii E1 nt fun e st1=>e=.normal∧B s st1)) a1 W)
    (hbody:∀s st1,B s st1→∀(E1:Env) (l:Nat) (a1:Act) (W:World),E1.P=E.P→E1.OB=E.OB→RelS E1 nt st1 a1 W→
      body.wpIn (Fw (some l)) 0 E1.P (AgX (dsts body) a1 (zii E1 nt fun e st'=>match e with | .normal=>∃s',ent st' (head s')∧inv s'∧meas s'=meas s+1|e=>K e (zfM ds st'))) a1 W) :
    (Code.rangeFunc f ps assign body).wpIn (Fw none) 0 E.P (AgX [] a (zii E nt K)) a w:=by
  have hfe:∃fv cv:List Value,a.eval f=.func (.func g) fv.toArray cv.toArray:=by
    obtain⟨η,gd,H⟩:=hR
    exact zpL hfn (zae H (hhead s0 h0).1)
  obtain⟨fv,cv,hfe⟩:=hfe
  have hsz:a.tmps.size=nt:=by obtain⟨η,gd,H⟩:=hR;exact gd.size
  obtain ⟨N,hN⟩:∃N,isp.len x=none→∀s,inv s→meas s<N:=by
    cases hl:isp.len x with
    | none=>obtain⟨N,h⟩:=hN hl;exact⟨N,fun _=>h⟩
    | some L=>exact⟨0,fun h=>by cases h⟩
  refine wpIn_rangeFunc fun fn hfn=>?_
  obtain⟨rc,hrc⟩:∃rc:LoopState→Option Code→Loop,rc=fun st pe=>{state:=st,pending:=pe,fn,tmps:=a.tmps,params:=ps,assign,body,defers:=w.heap.size}:=⟨_,rfl⟩
  obtain⟨ms,d1,d2,d3,d4,d5,R0⟩:=zpq (o:=.loop (rc .ready none)) hR rfl
  obtain⟨D,hD⟩:∃D,D=w.heap.size:=⟨_,rfl⟩
  obtain⟨a0,ha0⟩:∃a0:Act,a0 = {tmps:=a.tmps,defers:=[]}:=⟨_,rfl⟩
  obtain⟨W1,hW1⟩:∃W1,W1=(w.alloc (.deferred (some []))).alloc (.loop (rc .ready none)):=⟨_,rfl⟩
  rw[←ha0,←hW1,←hD] at R0
  rw[←hD] at d3 d4 d5
  have hfe0:a0.eval f=.func (.func g) fv.toArray cv.toArray:=by rw[ha0];exact hfe
  have hlow:E.w0.heap.size≤D+1:=Nat.le_succ_of_le d5
  have hnb:fv.length=isp.nb∧cv.length≤16:=by obtain⟨η,gd,H⟩:=hR;exact (zoB gd H (zae H (hhead s0 h0).1) hfe (hhead s0 h0).2).2
  have hloop:∀r:Loop,Obj.loop r≠.deferred (some []):=fun r h=>by cases h
  refine⟨D+1,[mkD D],W1,{target:=.fn (.func g) cv.toArray,args:=fv.toArray ++ #[.func (.yield (D+1)) #[] #[]]},W1,g,fv.toArray ++ #[.func (.yield (D+1)) #[] #[]]++cv.toArray,W1,?_,?_,?_,?_,fun h=>(by cases h),?_⟩
  · rw[hW1,hrc,hD];exact run_enterLoop_outer _ _ _ _ _
  · simp only[resolve,hfe]
    simp[go_sem,Deferred.ofValue]
  · intro f' _;trivial
  · obtain⟨fn',e1,e2,e3⟩:=hE
    have e2':¬fn'.name = "runtime.NumGoroutine" := by simpa using e2
    have e3':¬fn'.body=none:=by intro hn;rw[hn] at e3;cases e3
    simp[invoke,callFunc,e1,e2',e3']
  · refine (hI fv cv x (D+1) N
      (fun i ps W=>∃s,inv s∧meas s=i∧(∀L,isp.len x=some L→i≤L)∧Dis E ms D (D+1) ps∧RelS (zaX (zdc E ps) ms D (D+1) (.loop (rc .ready none))) nt (head s) a0 W)
      (fun i ps W=>∃e st' c,((e=XE.ret∧c=Code.ret)∨∃id,e=XE.exit id∧c=Code.exit id)∧K e st'∧Dis E ms D (D+1) ps∧RelS (zaX (zdc E ps) ms D (D+1) (.loop (rc .done (some c)))) nt st' a0 W)
      W1 hnb.1 hnb.2 hpre ?_ ?_ ?_ ?_ ?_ ?_).mono ?_
    · rintro i ps W ⟨s,k1,k2,k3,kd,η,gd,H⟩
      exact⟨(zoB gd H (zae H (hhead s k1).1) hfe0 (hhead s k1).2).1,fun q hq=>(gd.defers.2 q (List.mem_cons_of_mem _ (List.mem_append.2 (.inr (List.mem_append.2 (.inl hq)))))).2.1⟩
    · rintro i ps ps' W W' ⟨s,k1,k2,k3,kd,k4⟩ hg
      exact⟨s,k1,k2,k3,ziv k4 (by rw[ha0]) kd hg⟩
    · rintro i ps ps' W W' ⟨e,st',c,k1,k2,kd,k3⟩ hg
      exact⟨e,st',c,k1,k2,ziv k3 (by rw[ha0]) kd hg⟩
    · rintro i ps W ⟨s,k1,k2,k3,k4⟩
      split
      · rename_i L hL;exact k3 L hL
      · rename_i hL;rw[←k2];exact hN hL s k1
    · rintro i ps W ⟨s,k1,k2,k3,kd,k4⟩ hlt
      subst k2
      have d4:∀q∈zft (zdc E ps) ms D,q.1≠D+1:=fun q hq=>(zho hq).elim (fun h=>(kd q h).1) (d4 q)
      have hlow:(zdc E ps).w0.heap.size≤D+1:=hlow
      have hl:=zkj k4
      have hdf0:a0.defers=[]:=by rw[ha0]
      obtain⟨tm,htm,R1,hag1⟩:=zmW (x:=x) (i:=meas s) hps k4 hdf0 hp hpd hq hqd hflat (hslot s k1)
      have hsz1:(rc .ready none).params.size=(isp.args x (meas s) (encV isp.e (isp.seq x (meas s)))).size:=by
        rw[hrc];exact zlw hps
      have hy:=run_yield (P:=E.P) (args:=isp.args x (meas s) (encV isp.e (isp.seq x (meas s)))) hl hsz1.symm
      have htm:((rc .ready none).params.zip (isp.args x (meas s) (encV isp.e (isp.seq x (meas s))))).foldl (fun tmps (t,a)=>tmps.setIfInBounds t a) (rc .ready none).tmps=tm:=by
        rw[←htm,hrc,ha0]
      rw[htm] at hy
      have e1:(rc .ready none).fn=fn:=by rw[hrc]
      have e2:(rc .ready none).assign=assign:=by rw[hrc]
      have e3:(rc .ready none).body=body:=by rw[hrc]
      rw[e1,e2,e3] at hy
      have hsz0:a0.tmps.size=nt:=by rw[ha0];exact hsz
      refine⟨fn,_,assign,body,hy,roundIn_of_wpIn hfn (wpIn_mono (hassign s k1 hlt (zaX (zdc E ps) ms D (D+1) (.loop (rc .ready none))) (D+1) _ W rfl rfl R1) ?_)⟩
      rintro e a2 W2 ⟨⟨xe,st1,g1,⟨g2,hB⟩,R2⟩,hag⟩
      subst g1 g2
      have hag:=hag (by intro h;cases h)
      have hl2:=zkj R2
      refine⟨_,run_beginRound hl2 (by rw[hrc]),?_⟩
      have R3:=turn (o':=.loop {rc .ready none with state:=.busy}) (a':=a2) (ds:=[]) R2 (hloop _) d4 hlow (by obtain⟨η,gd,_⟩:=R2;exact gd.size) (zbt.refl _ _) (fun _ _ _ h=>by cases h) (.inr rfl)
      refine wpIn_mono (hbody s st1 hB (zaX (zdc E ps) ms D (D+1) (.loop {rc .ready none with state:=.busy})) (D+1) a2 _ rfl rfl R3) ?_
      rintro e a3 W3 ⟨⟨xe,st',g1,g2,R4⟩,hag3⟩
      subst g1
      have hl4:=zkj R4
      have hagA:=(hag1.trans (hag.more hda))
      cases xe with
      | normal=>
        obtain⟨s',q1,q2,q3⟩:=g2
        have hag4:=hagA.trans ((hag3 (by intro h;cases h)).more hdb)
        have R6:=turn (o':=.loop (rc .ready none)) (a':=a0) (ds:=ds) (zds q1 R4) (hloop _) d4 hlow hsz0 hag4 (hslot s' q2) (.inl hdf0)
        refine⟨_,_,run_endRound none hl4,.inl ⟨rfl,s',q2,q3,fun L hL=>hlt L hL,kd,?_⟩⟩
        subst hrc
        exact R6
      | exit id=>
        have hag4:=hagA.trans ((hag3 (by intro h;cases h)).more hdb)
        have R6:=turn (o':=.loop (rc .done (some (.exit id)))) (a':=a0) (ds:=ds) (zei R4 (fun f hf=>zew hf)) (hloop _) d4 hlow hsz0 hag4 (fun t s h=>zdu (ds:=ds) h) (.inl hdf0)
        refine⟨_,_,run_endRound (some (.exit id)) hl4,.inr ⟨rfl,.exit id,zfM ds st',.exit id,.inr ⟨id,rfl,rfl⟩,g2,kd,?_⟩⟩
        subst hrc
        exact R6
      | ret=>
        have hag4:=hagA.trans ((hag3 (by intro h;cases h)).more hdb)
        have R6:=turn (o':=.loop (rc .done (some .ret))) (a':=a0) (ds:=ds) (zei R4 (fun f hf=>zew hf)) (hloop _) d4 hlow hsz0 hag4 (fun t s h=>zdu (ds:=ds) h) (.inl hdf0)
        refine⟨_,_,run_endRound (some .ret) hl4,.inr ⟨rfl,.ret,zfM ds st',.ret,.inl ⟨rfl,rfl⟩,g2,kd,?_⟩⟩
        subst hrc
        exact R6
    · refine⟨s0,h0,hm0,fun _ _=>Nat.zero_le _,(fun _ h=>by cases h),R0⟩
    · rintro e W2 ⟨⟨v,rfl⟩,(⟨L,ps,hL,s,k1,k2,k3,kd,k4⟩|⟨i,ps,e,st',c,k1,k2,kd,k3⟩)⟩
      · have d4:∀q∈zft (zdc E ps) ms D,q.1≠D+1:=fun q hq=>(zho hq).elim (fun h=>(kd q h).1) (d4 q)
        have hl:=zkj k4
        refine⟨_,_,run_endLoop hl (by rw[hrc];simp),?_⟩
        have hpd:(rc .ready none).pending=none:=by rw[hrc]
        rw[hpd]
        exact⟨⟨.normal,head s,rfl,hfin s k1 (by rw[k2];exact hL),zhS (zhr (E:=zdc E ps) k4 (hloop _) d4 hlow (by rw[ha0]) d1 d2 d3 hx0)⟩,fun _=>fun _ _=>rfl⟩
      · have d4:∀q∈zft (zdc E ps) ms D,q.1≠D+1:=fun q hq=>(zho hq).elim (fun h=>(kd q h).1) (d4 q)
        have hl:=zkj k3
        refine⟨_,_,run_endLoop hl (by rw[hrc];simp),?_⟩
        have hpd:(rc .done (some c)).pending=some c:=by rw[hrc]
        rw[hpd]
        rcases k1 with ⟨rfl,rfl⟩|⟨id,rfl,rfl⟩
        · exact wpIn_ret ⟨⟨.ret,st',rfl,k2,zhS (zhr (E:=zdc E ps) k3 (hloop _) d4 hlow (by rw[ha0]) d1 d2 d3 hx0)⟩,fun _=>fun _ _=>rfl⟩
        · exact wpIn_exit ⟨⟨.exit id,st',rfl,k2,zhS (zhr (E:=zdc E ps) k3 (hloop _) d4 hlow (by rw[ha0]) d1 d2 d3 hx0)⟩,fun _=>fun _ _=>rfl⟩
end
def zpa (P:Program) (OB:Nat→Obj→Prop) (c:Cfg) (par:Array Oper→St→(St→Prop)→Prop):Prop:=∀E:Env,E.P=P→E.OB=OB→ztn E c par
theorem zga {f:Fact}:∀ {st:St},f∈zkX st→∃k off j n,f=.cell k off .u∧.cell k off (.o j n)∈st
  | [],h=>by cases h
  | q :: r,h=>by
    unfold zkX at h
    split at h
    · cases h
    · rename_i k off j n _ e
      cases e
      rcases List.mem_cons.1 h with rfl|h
      · exact⟨_,_,_,_,rfl,List.mem_cons_self⟩
      · obtain⟨a,b,c,d,e1,e2⟩:=zga h;exact⟨a,b,c,d,e1,List.mem_cons_of_mem _ e2⟩
    · rename_i e;cases e
      obtain⟨a,b,c,d,e1,e2⟩:=zga h;exact⟨a,b,c,d,e1,List.mem_cons_of_mem _ e2⟩
theorem zi3 {nt:Nat} {st:St} (hR:RelS E nt st a w):RelS E nt (addU st) a w:=by
  obtain⟨η,g,H⟩:=hR
  refine⟨η,g,fun f hf=>?_⟩
  rcases List.mem_append.1 hf with hf|hf
  · exact H f hf
  · obtain⟨k,off,j,n,rfl,h⟩:=zga hf
    obtain⟨b,c,cur,el,v,h1,h2,h3,h4,h5,_⟩:=H _ h
    exact⟨b,c,cur,el,v,h1,h2,h3,h4,h5,trivial⟩
theorem za9 {P:Program} {OB:Nat→Obj→Prop} (hC:CfgOk P OB c) {par:Array Oper→St→(St→Prop)→Prop} (hpar:zpa P OB c par) {anns:List (St→LoopAnn)}:∀(b:Code) (n:Nat) (st:St) (K:XE→St→Prop) (a:Act) (w:World) (E:Env) (ro:Option Nat),
    E.P=P→E.OB=OB→((ro=none∧E.x.nd=false)∨za7 b=true)→zeb c.nt b=true→vc c par anns b n st K→RelS E c.nt st a w→b.wpIn (Fw ro) 0 E.P (AgX (dsts b) a (zii E c.nt K)) a w
  | .skip,n,st,K,a,w,E,ro,hP,hOB,hro,_,h,hR=>wpIn_skip ⟨⟨.normal,st,rfl,h,hR⟩,fun _=>zbt.refl _ _⟩
  | .label _,n,st,K,a,w,E,ro,hP,hOB,hro,_,h,hR=>wpIn_label ⟨⟨.normal,st,rfl,h,hR⟩,fun _=>zbt.refl _ _⟩
  | .region id ops false,n,st,K,a,w,E,ro,hP,hOB,hro,hd,h,hR=>by
    refine wpIn_region_list (zgb _ _ _ (fun o ho t ht=>zf7.2 ⟨o,ho,ht⟩) (zbt.refl _ _) ?_)
    have hdst:∀o∈ops.toList,∀t,o.dst=some t→t<c.nt:=by
      intro o ho t ht
      simp only[zeb,List.all_eq_true] at hd
      have:=hd o ho
      rw[ht] at this
      simpa using this
    exact zeg (E:=E) (hP▸hOB▸hC) hdst ops.toList (fun _ h=>h) st _ a w h hR fun st' a' w' hk hr=>⟨.normal,st',rfl,hk,hr⟩
  | .region id ops true,n,st,K,a,w,E,ro,hP,hOB,hro,_,h,hR=>by
    have h:(bif c.nan then par ops (addU st) (fun st'=>ze5 st' (K .normal)) else par ops (addU st) (K .normal)):=h
    cases hn:c.nan with
    | false=>
      rw[hn] at h
      exact hpar E hP hOB id ops (addU st) _ a w _ h (zi3 hR) (fun st' a' w' hk hr=>⟨.normal,st',rfl,hk,hr⟩) ro 0
    | true=>
      rw[hn] at h
      exact hpar E hP hOB id ops (addU st) _ a w _ h (zi3 hR) (fun st' a' w' hk hr=>by
        obtain⟨st2,h1,h2⟩:=zjq hk hr
        exact⟨.normal,st2,rfl,h1,h2⟩) ro 0
  | .seq x y,n,st,K,a,w,E,ro,hP,hOB,hro,hd,h,hR=>by
    simp only[zeb,Bool.and_eq_true] at hd
    refine wpIn_seq (wpIn_mono (za9 hC hpar x n st _ a w E ro hP hOB (hro.imp id fun h=>(Bool.and_eq_true _ _▸h:za7 x=true∧za7 y=true).1) hd.1 h hR) fun e a' w' ⟨⟨xe,st',h1,h2,h3⟩,hag⟩=>?_)
    subst h1
    have hx:∀ {a''},zbt (dsts x) a a''→zbt (dsts (.seq x y)) a a'':=fun h=>h.more fun t ht=>List.mem_append.2 (.inl ht)
    cases xe with
    | normal=>
      simp only[zbN] at h2
      refine wpIn_mono (za9 hC hpar y _ st' K a' w' E ro hP hOB (hro.imp id fun h=>(Bool.and_eq_true _ _▸h:za7 x=true∧za7 y=true).2) hd.2 h2 h3) fun e a'' w'' ⟨g1,g2⟩=>⟨g1,fun hn=>?_⟩
      exact (hx (hag (by intro hc;cases hc))).trans ((g2 hn).more fun t ht=>List.mem_append.2 (.inr ht))
    | exit id=>exact⟨⟨.exit id,st',rfl,h2,h3⟩,fun hn=>hx (hag hn)⟩
    | ret=>exact⟨⟨.ret,st',rfl,h2,h3⟩,fun hn=>hx (hag hn)⟩
  | .cond x y z,n,st,K,a,w,E,ro,hP,hOB,hro,hd,h,hR=>by
    simp only[zeb,Bool.and_eq_true] at hd
    obtain⟨η,g,H⟩:=hR
    simp only[vc,zbN] at h
    split at h
    · rename_i hx
      have hv:a.eval x=.bool true:=zae H hx
      exact wpIn_cond_true hv (wpIn_mono (za9 hC hpar y n st K a w E ro hP hOB (hro.imp id fun h=>(Bool.and_eq_true _ _▸h:za7 y=true∧za7 z=true).1) hd.1 h ⟨η,g,H⟩) fun e a' w' hq=>⟨hq.1,fun hn=>(hq.2 hn).more fun t ht=>List.mem_append.2 (.inl ht)⟩)
    · rename_i hx
      have hv:a.eval x=.bool false:=zae H hx
      exact wpIn_cond_false hv (wpIn_mono (za9 hC hpar z _ st K a w E ro hP hOB (hro.imp id fun h=>(Bool.and_eq_true _ _▸h:za7 y=true∧za7 z=true).2) hd.2 h ⟨η,g,H⟩) fun e a' w' hq=>⟨hq.1,fun hn=>(hq.2 hn).more fun t ht=>List.mem_append.2 (.inr ht)⟩)
    · rename_i b hx
      have hv:a.eval x=.bool b:=zbr (zae H hx)
      exact wpIn_cond_split hv (fun hb=>wpIn_mono (za9 hC hpar y n st K a w E ro hP hOB (hro.imp id fun h=>(Bool.and_eq_true _ _▸h:za7 y=true∧za7 z=true).1) hd.1 (h.out.1 hb) ⟨η,g,H⟩) fun e a' w' hq=>⟨hq.1,fun hn=>(hq.2 hn).more fun t ht=>List.mem_append.2 (.inl ht)⟩) (fun hb=>wpIn_mono (za9 hC hpar z _ st K a w E ro hP hOB (hro.imp id fun h=>(Bool.and_eq_true _ _▸h:za7 y=true∧za7 z=true).2) hd.2 (h.out.2 hb) ⟨η,g,H⟩) fun e a' w' hq=>⟨hq.1,fun hn=>(hq.2 hn).more fun t ht=>List.mem_append.2 (.inr ht)⟩)
    · exact h.elim
  | .block id b,n,st,K,a,w,E,ro,hP,hOB,hro,hd,h,hR=>by
    refine wpIn_block (wpIn_mono (za9 hC hpar b n st _ a w E ro hP hOB hro hd h hR) fun e a' w' ⟨⟨xe,st',h1,h2,h3⟩,hag⟩=>?_)
    subst h1
    cases xe with
    | normal=>exact⟨⟨.normal,st',rfl,h2,h3⟩,hag⟩
    | exit j=>
      simp only[XE.to,Exit.inBlock]
      simp only at h2
      cases hb:Nat.beq j id with
      | true=>
        rw[hb] at h2
        have:=Nat.eq_of_beq_eq_true hb
        rw[if_pos this]
        exact⟨⟨.normal,st',rfl,h2,h3⟩,fun _=>hag (by intro hc;cases hc)⟩
      | false=>
        rw[hb] at h2
        have:=Nat.ne_of_beq_eq_false hb
        rw[if_neg this]
        exact⟨⟨.exit j,st',rfl,h2,h3⟩,hag⟩
    | ret=>exact⟨⟨.ret,st',rfl,h2,h3⟩,hag⟩
  | .loop b,n,st,K,a,w,E,ro,hP,hOB,hro,hd,h,hR=>by
    simp only[vc,zcK,zbw,zlW] at h
    split at h
    case h_2=>
      refine wpIn_loop_rounds c.fuel ?_
      have key:∀(k:Nat) (st:St) (a1:Act) (w:World),znr (fun st K=>vc c par anns b (n+1) st K) k st K→RelS E c.nt st a1 w→zbt (dsts b) a a1→Code.roundsIn (Fw ro) 0 E.P b (AgX (dsts b) a (zii E c.nt K)) k a1 w:=by
        intro k
        induction k with
        | zero=>intro st a1 w h _ _;exact h.elim
        | succ k ih=>
          intro st a1 w h hR hag
          rw[roundsIn_succ]
          refine wpIn_mono (za9 hC hpar b (n+1) _ _ a1 w E ro hP hOB hro hd h hR) fun e a' w' ⟨⟨xe,st',g1,g2,g3⟩,hag2⟩=>?_
          subst g1
          cases xe with
          | normal=>exact ih st' a' w' g2 g3 (hag.trans (hag2 (by intro hc;cases hc)))
          | exit id=>exact⟨⟨.exit id,st',rfl,g2,g3⟩,fun hn=>hag.trans (hag2 hn)⟩
          | ret=>exact⟨⟨.ret,st',rfl,g2,g3⟩,fun hn=>hag.trans (hag2 hn)⟩
      exact key c.fuel st a w h hR (zbt.refl _ _)
    case h_1 A0 hA=>
      let A:=A0 st
      obtain⟨hg,h3⟩:=h.out
      obtain⟨s,h1,h2⟩:=hg.out
      refine zb5 (fun m a1 w=>∃s,A.meas s=m∧A.inv s∧RelS E c.nt (zd4 (dsts b) st (A.pat s)) a1 w∧zbt (dsts b) a a1) ⟨s,rfl,h2,zds h1 hR,zbt.refl _ _⟩ fun m a1 w ⟨s,hm,hi,hr,hag⟩=>?_
      refine wpIn_mono (za9 hC hpar b (n+1) _ _ a1 w E ro hP hOB hro hd (h3 s hi) hr) fun e a' w' ⟨⟨xe,st',g1,g2,g3⟩,hag2⟩=>?_
      subst g1
      cases xe with
      | normal=>
        obtain⟨s',e1,e2,e3⟩:=Goal.out g2
        exact⟨A.meas s',hm▸e3,s',rfl,e2,zds e1 g3,hag.trans (hag2 (by intro hc;cases hc))⟩
      | exit id=>exact⟨⟨.exit id,st',rfl,g2,g3⟩,fun hn=>hag.trans (hag2 hn)⟩
      | ret=>exact⟨⟨.ret,st',rfl,g2,g3⟩,fun hn=>hag.trans (hag2 hn)⟩
  | .exit id,n,st,K,a,w,E,ro,hP,hOB,hro,_,h,hR=>wpIn_exit ⟨⟨.exit id,st,rfl,h,hR⟩,fun _=>zbt.refl _ _⟩
  | .ret,n,st,K,a,w,E,ro,hP,hOB,hro,_,h,hR=>wpIn_ret ⟨⟨.ret,st,rfl,h,hR⟩,fun _=>zbt.refl _ _⟩
  | .rangeFunc f ps assign body,n,st,K,a,w,E,ro,hP,hOB,hro,hd,h,hR=>by
    rcases hro with ⟨rfl,hx0⟩|hro
    case inr=>cases hro
    simp only[zeb,Bool.and_eq_true] at hd
    simp only[vc,zcK,zbw,zbN,zlW] at h
    split at h
    case h_2=>exact h.elim
    rename_i p two q A0 sv hps hA hf
    split at h
    case h_2=>exact h.elim
    rename_i g hfn
    split at h
    case h_2=>exact h.elim
    rename_i isp hisp
    split at h
    case h_2=>exact h.elim
    rename_i x hb hx
    simp only[Bool.and_eq_true] at hb
    obtain⟨hflat,⟨hna,hnb⟩,htwo⟩:=hb
    have htwo:isp.two=two:=by revert htwo;cases isp.two<;>cases two<;>intro h<;>first|rfl|cases h
    have hps:parP ps.toList=some (p,isp.two,q):=by rw[htwo];exact hps
    have hpq:=zr3 hps hd.2
    obtain⟨hg,h⟩:=h.out
    obtain⟨hpre,h⟩:=h.out
    have hpre:=hpre.out
    obtain⟨hN,h⟩:=h.out
    obtain⟨hk,h⟩:=h.out
    obtain⟨s0,e1,e2,e3⟩:=hg.out
    have hN:=hN.out
    have hk:=hk.out
    obtain⟨q1,q2⟩:=hC.its g isp hisp
    refine zlv (E:=E) (g:=g) (isp:=isp) (sv:=sv) (x:=x) (σ:=(A0 st).σ) (head:=fun s=>zd4 (q::p::(dsts assign++dsts body)) st ((A0 st).pat s)) (inv:=(A0 st).inv) (meas:=(A0 st).meas) (ds:=q::p::(dsts assign++dsts body))
      (B := fun s st1=>vc c par anns body (n+1+zcT assign) st1 fun e st'=>match e with
        | .normal=>Goal (∃s':(A0 st).σ,ent st' (zd4 (q::p::(dsts assign++dsts body)) st ((A0 st).pat s'))∧(A0 st).inv s'∧(A0 st).meas s'=(A0 st).meas s+1)
        | e=>K e (zfM (q::p::(dsts assign++dsts body)) st'))
      hx0 (hP▸q1) (hP▸q2) hflat hps hpq.1 (List.mem_cons_of_mem _ List.mem_cons_self) hpq.2 List.mem_cons_self (fun t ht=>List.mem_cons_of_mem _ (List.mem_cons_of_mem _ (List.mem_append.2 (.inl ht)))) (fun t ht=>List.mem_cons_of_mem _ (List.mem_cons_of_mem _ (List.mem_append.2 (.inr ht))))
      hpre hfn (fun s hs=>(hk s hs).2) (fun s hs t v hm=>?_) s0 e2 e3 (zds e1 hR) hN (fun s hs hl=>(h s hs).out.1 hl) (fun s hs hl E1 l a1 W hP1 hOB1 hR1=>?_) (fun s st1 hB E1 l a1 W hP1 hOB1 hR1=>?_)
    · rcases List.mem_append.1 hm with hm|hm
      · exact absurd hm (zn8 (hk s hs).1 t v)
      · exact za8 hm
    · refine wpIn_mono (za9 hC hpar assign (n+1) _ _ a1 W E1 (some l) (hP1.trans hP) (hOB1.trans hOB) (.inr hna) hd.1.1 ((h s hs).out.2 hl) hR1) fun e a' w' ⟨⟨xe,st',g1,g2,g3⟩,hag⟩=>⟨?_,hag⟩
      cases xe with
      | normal=>exact⟨.normal,st',g1,⟨rfl,g2⟩,g3⟩
      | exit id=>exact g2.elim
      | ret=>exact g2.elim
    · refine wpIn_mono (za9 hC hpar body (n+1+zcT assign) _ _ a1 W E1 (some l) (hP1.trans hP) (hOB1.trans hOB) (.inr hnb) hd.1.2 hB hR1) fun e a' w' ⟨⟨xe,st',g1,g2,g3⟩,hag⟩=>⟨?_,hag⟩
      cases xe with
      | normal=>exact⟨.normal,st',g1,Goal.out g2,g3⟩
      | exit id=>exact⟨.exit id,st',g1,g2,g3⟩
      | ret=>exact⟨.ret,st',g1,g2,g3⟩
  | .scope _,n,st,K,a,w,E,ro,hP,hOB,hro,_,h,hR=>h.elim
  | .goto _,n,st,K,a,w,E,ro,hP,hOB,hro,_,h,hR=>h.elim
  | .refuse _,n,st,K,a,w,E,ro,hP,hOB,hro,_,h,hR=>h.elim
end
end Go.Eng
set_option linter.all false
namespace Go.Eng
def zeh (tmps:Array Value):ResultVar→Sem Value
  | .tmp t=>pure (tmps.getD t undef)
  | .cell p t=>do loadVar t (←asAddr (tmps.getD p undef))
section
variable {E:Env} {a:Act} {w:World} {c:Cfg}
theorem zez (hT:TblOk E.P c.tt) {η:Eta} {st:St} (H:∀f∈st,Fact.holds E η a w f) {r:ResultVar} {s:SV} (h:svOf c st r=some s) :
    ∃v,(zeh a.tmps r).run E.P w=.ok v w∧zao (vw E η w) η s v:=by
  cases r with
  | tmp t=>exact⟨_,rfl,zae H (x:=.tmp t) h⟩
  | cell p ty=>
    simp only[svOf] at h
    split at h
    case h_2=>cases h
    case h_1 k off hs=>
      obtain⟨b,cc,hk,hv⟩:=zae H (x:=.tmp p) hs
      have hv:a.tmps.getD p undef=.pointer (some ⟨b,off,none⟩):=hv
      split at h
      case h_2=>cases h
      case h_1 i hi=>
        have hI:=hT.rows ty i hi
        cases hag:i.kind.isAgg with
        | true=>
          rw[hag] at h
          simp only[cond_true] at h
          split at h
          · rename_i cs hcs
            simp only[Option.some.injEq] at h
            subst h
            obtain⟨vs,e1,e2,e3,_⟩:=zbd H hk i.size off cs hcs
            refine⟨.agg vs.toArray,?_,⟨vs,rfl,e1⟩⟩
            have:=zbk (w:=w) hI hag (a:=⟨b,off,none⟩) e2 (fun j v hj=>by rw[zaC];exact e3 j v hj)
            simp[zeh,hv,asAddr,this]
          · cases h
        | false=>
          rw[hag] at h
          simp only[cond_false] at h
          split at h
          · rename_i u hu
            simp only[Option.some.injEq] at h
            subst h
            obtain⟨b',c',cur,el,v,_,q1,q2,q3,q4,q5⟩:=H _ (zaW hu)
            rw[hk] at q1
            simp only[Option.some.injEq,Prod.mk.injEq] at q1
            obtain⟨rfl,rfl⟩:=q1
            have:=zaZ (w:=w) hI hag (a:=⟨b,off,none⟩) (v:=v) (by rw[zbe q2];exact q3)
            exact⟨v,by simp[zeh,hv,asAddr,this],q5⟩
          · cases h
theorem zly {V:View} {η:Eta} {s:SV} {t:Ty} {p:Prop} {x:t.Den} {v:Value} (h:zqR s t=some (p,x)) (hp:p) (hs:zao V η s v):RepV V t x v:=by
  unfold zqR at h
  split at h
  · split at h
    · rename_i ys hys
      simp only[Option.some.injEq,Prod.mk.injEq] at h
      obtain⟨rfl,rfl⟩:=h
      obtain⟨he,rfl⟩:=za6 hys
      injection he with he
      subst he
      obtain⟨l,h1,⟨h2,_⟩|⟨_,h2⟩⟩:=hs
      · cases h2
      · exact⟨l,Rep.sl_osl (by intro hn;rw[hn] at hp;simp at hp) h1,.inr ⟨rfl,h2⟩⟩
    · cases h
  · cases h
theorem zb6 (hT : TblOk E.P c.tt) {η:Eta} {st:St} {nt:Nat} (g:Good E nt η a w) (H:∀f∈st,Fact.holds E η a w f):∀(rs:List ResultVar) (cs:List RC) (q:Prop) (x:(zad cs).Den),zhp c st rs cs=some (q,x)→q→(zhy cs=true∨∀b,¬E.x.mw b)→
    ∃ (vs:List Value) (gb:Option Nat),(rs.mapM (zeh a.tmps)).run E.P w=.ok vs w∧(∀b,gb=some b→∃k n,η k=some (b,n))∧(zhy cs=true→gb=none)∧
      ∀V',(∀b c,vw E η w b c→V' b c)→zfR w V' E.w0.heap.size cs x vs gb
  | [],[],q,x,h,hq,_=>⟨[],none,by simp,fun _ h=>(by cases h),fun _=>rfl,fun _ _=>⟨rfl,rfl⟩⟩
  | [],_::_,q,x,h,hq,_=>by simp[zhp] at h
  | _::_,[],q,x,h,hq,_=>by simp[zhp] at h
  | r :: rs, rc :: cs, q, x,h,hq,hnw=>by
    cases rc with
    | mk o t =>
      cases o with
      | none =>
        simp only[zhp] at h
        split at h
        case h_2=>cases h
        case h_1 s hs=>
          split at h
          case h_2=>
            split at h
            case h_2=>cases h
            case h_1 p1 y hy=>
              split at h
              case h_2=>cases h
              case h_1 p z hz=>
                simp only[Option.some.injEq,Prod.mk.injEq] at h
                obtain⟨rfl,rfl⟩:=h
                obtain⟨v,e1,e2⟩:=zez hT H hs
                obtain⟨vs,gb,e3,e4,e5,e6⟩:=zb6 hT g H rs cs _ z hz hq.2 (hnw.imp (fun h=>by simpa [zhy] using h) id)
                exact⟨v::vs,gb,by simp[List.mapM_cons,e1,e3],e4,fun hn=>e5 (by simpa [zhy] using hn),fun V' hV=>⟨v,vs,rfl,RepV.mono hV (zly hy hq.1 e2),e6 V' hV⟩⟩
          case h_1 y hy=>
            split at h
            case h_2=>cases h
            case h_1 p z hz=>
              simp only[Option.some.injEq,Prod.mk.injEq] at h
              obtain⟨rfl,rfl⟩:=h
              obtain⟨v,e1,e2⟩:=zez hT H hs
              obtain⟨vs,gb,e3,e4,e5,e6⟩:=zb6 hT g H rs cs _ z hz hq (hnw.imp (fun h=>by simpa [zhy] using h) id)
              exact⟨v::vs,gb,by simp[List.mapM_cons,e1,e3],e4,fun hn=>e5 (by simpa [zhy] using hn),fun V' hV=>⟨v,vs,rfl,RepV.mono hV (SV.den_sound hy e2),e6 V' hV⟩⟩
      | some el =>
        cases t
        case sl e =>
          simp only[zhp] at h
          cases hno:zhy cs with
          | false=>rw[hno] at h;simp at h
          | true =>
            rw[hno] at h
            simp only[cond_true] at h
            split at h
            · rename_i k n hs
              split at h
              case h_2=>cases h
              case h_1 r' hr'=>
                cases hel:Nat.beq r'.el el with
                | false=>rw[hel] at h;simp at h
                | true =>
                  rw[hel] at h
                  simp only[cond_true] at h
                  split at h
                  case h_2=>cases h
                  case h_1 xs hxs=>
                    split at h
                    case h_2=>cases h
                    case h_1 p z hz=>
                      simp only[Option.some.injEq,Prod.mk.injEq] at h
                      obtain⟨rfl,rfl⟩:=h
                      obtain⟨hq1,hq2⟩:=hq
                      obtain⟨v,e1,e2⟩:=zez hT H hs
                      obtain⟨vs,gb,e3,e4,e5,e6⟩:=zb6 hT g H rs cs _ z hz hq1 (.inl hno)
                      have hgb:=e5 hno
                      subst hgb
                      have hrow:=H _ (zaM hr')
                      obtain⟨hty,hz'⟩:=za6 hxs
                      injection hty with hty
                      obtain⟨rel,re,rxs⟩:=r'
                      simp only at hty hz' hel hrow
                      subst hty
                      simp only at hz'
                      subst hz'
                      have hel':=Nat.eq_of_beq_eq_true hel
                      subst hel'
                      rcases e2 with ⟨k1,k2,rfl⟩|⟨b,cc,k1,rfl,k3⟩
                      · have hnil:xs=[]:=List.eq_nil_of_length_eq_zero (by omega)
                        exact⟨.slice none 0 0::vs,none,by simp[List.mapM_cons,e1,e3],fun _ h=>(by cases h),fun _=>rfl,fun V' hV=>⟨_,vs,rfl,e6 V' hV,.inl ⟨hnil,rfl,rfl⟩⟩⟩
                      · rcases hrow with ⟨g1,_⟩|⟨b',c',cur,q0,q1,q2,q3⟩
                        · rw[k1] at g1;cases g1
                        · rw[k1] at q1
                          simp only[Option.some.injEq,Prod.mk.injEq] at q1
                          obtain⟨rfl,rfl⟩:=q1
                          refine⟨.slice (some ⟨b,0,none⟩) n cc::vs,some b,by simp[List.mapM_cons,e1,e3],fun b' hb'=>⟨k,cc,by simp at hb';rw[←hb'];exact k1⟩,fun hn=>by simp[zhy] at hn,fun V' hV=>⟨_,vs,rfl,e6 V' hV,.inr ⟨b,cc,cur,rfl,by rw[hq2],q0.elim id (fun hw=>absurd hw (hnw.elim (fun h=>by simp[zhy] at h) fun h=>h b)),q2,q3.mono hV⟩⟩⟩
            · rename_i y hs
              cases hy:zan y with
              | false=>rw[hy] at h;simp at h
              | true=>
                rw[hy] at h
                simp only[cond_true] at h
                split at h
                case h_2=>cases h
                case h_1 p z hz=>
                  simp only[Option.some.injEq,Prod.mk.injEq] at h
                  obtain⟨rfl,rfl⟩:=h
                  obtain⟨v,e1,e2⟩:=zez hT H hs
                  obtain⟨vs,gb,e3,e4,e5,e6⟩:=zb6 hT g H rs cs _ z hz hq (.inl hno)
                  have hgb:=e5 hno
                  subst hgb
                  have hv:v=.slice none 0 0:=by rw[←zaI hy];exact e2
                  subst hv
                  exact⟨.slice none 0 0::vs,none,by simp[List.mapM_cons,e1,e3],fun _ h=>(by cases h),fun _=>rfl,fun V' hV=>⟨_,vs,rfl,e6 V' hV,.inl ⟨rfl,rfl,rfl⟩⟩⟩
            · cases h
        all_goals simp[zhp] at h
theorem zcP {P:Program} {fn:Func} {tmps:Array Value} {vs:List Value} (h:(fn.results.toList.mapM (zeh tmps)).run P w=.ok vs w):(results fn tmps).run P w=.ok (zcC vs) w:=by
  have hr:results fn tmps=(do let vs ←fn.results.mapM (zeh tmps);pure (if h:vs.size=1 then vs[0] else .tuple vs)):=rfl
  rw[hr,Array.mapM_eq_mapM_toList]
  simp only[Sem.run_bind,Sem.run_map,h,Result.andThen_ok,Sem.run_pure]
  match vs with
  | []=>rfl
  | [v]=>rfl
  | v::u::l=>simp[zcC]
def zbf:(ps:List Pat)→List Value→Nat→List (Nat×Nat)
  | .gl _ _::r,vs,i=>zbf r vs i
  | .gw _ _::r,vs,i=>zbf r vs i
  | .ob _::r,.pointer (some ad)::vs,i=>(50000+i,ad.block)::zbf r vs (i+1)
  | _::r,_::vs,i=>zbf r vs (i+1)
  | _,_,_=>[]
def zb8:List Pat→Nat
  | []=>0
  | .ob _::r=>zb8 r+1
  | _::r=>zb8 r
def zjI:List (Nat×Nat)→Eta
  | [],_=>none
  | p::r,k=>if k=p.1 then some (p.2,0) else zjI r k
theorem zh3 {V:View} {η:Eta} {t:Ty} {x:t.Den} {v:Value} (h:RepV V t x v):za0 V η (zrp t x) v:=by
  unfold zrp
  split
  · obtain ⟨l,⟨ad,c,h1,h2⟩,⟨h3,_⟩|⟨_,h3⟩⟩:=h
    · cases h3
    · rw[h1] at h3
      exact⟨ad,c,by simpa using h3.symm,h2⟩
  · obtain ⟨l,h1,⟨h3,_⟩|⟨_,h3⟩⟩:=h
    · cases h3
    · have h1:l=_:=h1
      rw[h1] at h3
      exact (List.cons.inj h3).1.symm
  · exact h
theorem zca {P:Program} {OB:Nat→Obj→Prop} {M:Nat→Prop} (hP:E.P=P) (hOB:E.OB=OB) (hM:∀b,E.Mp b→M b) (hw:E.w0=w) {η:Eta} (hη:∀k b n,η k=some (b,n)→M b) :
    ∀ (ps:List Pat) (x:(zac ps).Den) (vs:List Value) (bs:List Nat) (i:Nat),zdy OB w M ps x vs bs→i+ps.length≤1000000→(∀j v,vs[j]?=some v→a.tmps.getD (i+j) undef=v)→
      (∀k b,(k,b)∈zbf ps vs i→η k=some (b,0))→∀f∈za3 ps x i,Fact.holds E η a w f
  | [],x,vs,bs,i,_,_,_,_,f,hf=>by simp[za3] at hf
  | .gl g t::r,x,vs,bs,i,h,hl,hv,hk,f,hf=>by
    obtain⟨h1,h2⟩:=h
    simp only[za3,List.mem_cons] at hf
    rcases hf with rfl|hf
    · simp only[Fact.holds]
      rw[zg9]
      exact zh3 (η:=η) (t:=.ptr t) (RepV.mono (fun b c ⟨k1,k2⟩=>⟨fun hm=>k1 (hM b hm),fun k n hk'=>k1 (hη k b n hk'),k2⟩) h1)
    · exact zca hP hOB hM hw hη r x.2 vs bs i h2 (by simp only[List.length_cons] at hl;omega) hv (fun k b hb=>hk k b (by simpa [zbf] using hb)) f hf
  | .gw g t::r,x,vs,bs,i,h,hl,hv,hk,f,hf=>by
    obtain⟨⟨c,el,f',e1,e2,e3,e4⟩,h2⟩:=h
    simp only[za3,List.mem_cons] at hf
    rcases hf with rfl|hf
    · simp only[Fact.holds]
      rw[zg9]
      exact⟨g,c,rfl,⟨fun hm=>e2 (hM g hm),fun k n hk'=>e2 (hη k g n hk'),el,f',e1⟩,e3,Rep.mono (fun b c ⟨k1,k2⟩=>⟨fun hm=>k1 (hM b hm),fun k n hk'=>k1 (hη k b n hk'),k2⟩) _ _ _ e4⟩
    · exact zca hP hOB hM hw hη r x.2 vs bs i h2 (by simp only[List.length_cons] at hl;omega) hv (fun k b hb=>hk k b (by simpa [zbf] using hb)) f hf
  | .dat t::r,x,vs,bs,i,h,hl,hv,hk,f,hf=>by
    obtain⟨v,vs',rfl,h1,h2⟩:=h
    have hl':i+1+r.length≤1000000:=by simp only[List.length_cons] at hl;omega
    simp only[za3,List.mem_cons] at hf
    rcases hf with rfl|hf
    · have:=hv 0 v (by simp)
      simp only[Nat.add_zero] at this
      simp only[Fact.holds,zdC (show i<1000000 by omega),this]
      exact zh3 (RepV.mono (fun b c ⟨k1,k2⟩=>⟨fun hm=>k1 (hM b hm),fun k n hk'=>k1 (hη k b n hk'),k2⟩) h1)
    · exact zca hP hOB hM hw hη r x.2 vs' bs (i+1) h2 hl' (fun j u hu=>by rw[show i+1+j=i+(j+1) from by omega];exact hv (j+1) u (by simpa using hu)) (fun k b hb=>hk k b (by simpa [zbf] using hb)) f hf
  | .lit y::r,x,vs,bs,i,h,hl,hv,hk,f,hf=>by
    obtain⟨vs',rfl,h2⟩:=h
    have hl':i+1+r.length≤1000000:=by simp only[List.length_cons] at hl;omega
    simp only[za3,List.mem_cons] at hf
    rcases hf with rfl|hf
    · have:=hv 0 y (by simp)
      simp only[Nat.add_zero] at this
      simp only[Fact.holds,zdC (show i<1000000 by omega)]
      exact this
    · exact zca hP hOB hM hw hη r x vs' bs (i+1) h2 hl' (fun j u hu=>by rw[show i+1+j=i+(j+1) from by omega];exact hv (j+1) u (by simpa using hu)) (fun k b hb=>hk k b (by simpa [zbf] using hb)) f hf
  | .ob q::r,x,vs,bs,i,h,hl,hv,hk,f,hf=>by
    obtain⟨b,o,vs',bs',rfl,rfl,h1,h2,h3,h4⟩:=h
    have hl':i+1+r.length≤1000000:=by simp only[List.length_cons] at hl;omega
    have hkey:η (50000+i)=some (b,0):=hk _ _ (by simp[zbf])
    simp only[za3,List.mem_cons] at hf
    rcases hf with rfl|rfl|hf
    · have:=hv 0 (.pointer (some ⟨b,0,none⟩)) (by simp)
      simp only[Nat.add_zero] at this
      simp only[Fact.holds,zdC (show i<1000000 by omega)]
      exact⟨b,0,hkey,this⟩
    · exact⟨b,0,o,hkey,h2,by rw[hOB];exact h3⟩
    · exact zca hP hOB hM hw hη r x vs' bs' (i+1) h4 hl' (fun j u hu=>by rw[show i+1+j=i+(j+1) from by omega];exact hv (j+1) u (by simpa using hu)) (fun k b hb=>hk k b (by simp[zbf,hb])) f hf
theorem zb7 {OB:Nat→Obj→Prop} {M:Nat→Prop}:∀(ps:List Pat) (x:(zac ps).Den) (vs:List Value) (bs:List Nat) (i:Nat),zdy OB w M ps x vs bs→
    (zbf ps vs i).map (·.2)=bs∧(zbf ps vs i).length=zb8 ps∧vs.length≤ps.length∧(∀b∈bs,M b∧b<w.heap.size)
  | [],x,vs,bs,i,h=>by obtain⟨rfl,rfl⟩:=h;simp[zbf,zb8]
  | .gl g t::r,x,vs,bs,i,h=>by
    obtain⟨h1,h2⟩:=h
    obtain⟨e1,e2,e3,e4⟩:=zb7 r x.2 vs bs i h2
    exact⟨by simpa [zbf] using e1,by simpa [zbf,zb8] using e2,by simp only[List.length_cons];omega,e4⟩
  | .gw g t::r,x,vs,bs,i,h=>by
    obtain⟨h1,h2⟩:=h
    obtain⟨e1,e2,e3,e4⟩:=zb7 r x.2 vs bs i h2
    exact⟨by simpa [zbf] using e1,by simpa [zbf,zb8] using e2,by simp only[List.length_cons];omega,e4⟩
  | .dat t::r,x,vs,bs,i,h=>by
    obtain⟨v,vs',rfl,h1,h2⟩:=h
    obtain⟨e1,e2,e3,e4⟩:=zb7 r x.2 vs' bs (i+1) h2
    exact⟨by simpa [zbf] using e1,by simpa [zbf,zb8] using e2,by simp[e3],e4⟩
  | .lit y::r,x,vs,bs,i,h=>by
    obtain⟨vs',rfl,h2⟩:=h
    obtain⟨e1,e2,e3,e4⟩:=zb7 r x vs' bs (i+1) h2
    exact⟨by simpa [zbf] using e1,by simpa [zbf,zb8] using e2,by simp[e3],e4⟩
  | .ob q::r,x,vs,bs,i,h=>by
    obtain⟨b,o,vs',bs',rfl,rfl,h1,h2,h3,h4⟩:=h
    obtain⟨e1,e2,e3,e4⟩:=zb7 r x vs' bs' (i+1) h4
    refine⟨by simp[zbf,e1],by simp[zbf,zb8,e2],by simp[e3],fun b' hb'=>?_⟩
    rcases List.mem_cons.1 hb' with rfl|hb'
    · exact⟨h1,zag h2⟩
    · exact e4 b' hb'
theorem zj5 {st:St} {nt:Nat} {η:Eta} (hpn:E.pins=[]) (g:Good E nt η a w) (H:∀f∈st,Fact.holds E η a w f) {D:Nat} {ms:List Nat} (hd:a.defers=mkD D::ms.map mkD) (hn:(D::ms).Nodup)
    (hm:∀D'∈D::ms,E.w0.heap.size≤D'∧w.heap[D']?=some (.deferred (some []))∧∀k c,η k≠some (D',c)) :
    Good E nt η {a with defers:=ms.map mkD} (w.putObj D (.deferred none))∧∀f∈st,Fact.holds E η {a with defers:=ms.map mkD} (w.putObj D (.deferred none)) f:=by
  obtain⟨q1,q2,q3⟩:=hm D List.mem_cons_self
  have hother:∀b o,w.heap[b]?=some o→b≠D→(w.putObj D (.deferred none)).heap[b]?=some o:=fun b o h hb=>(World.putObj_heap_other hb).trans h
  have hsz:(w.putObj D (.deferred none)).heap.size=w.heap.size:=by simp[World.putObj]
  have g':Good E nt η {a with defers:=ms.map mkD} (w.putObj D (.deferred none)):={
    size:=g.size
    lim:=g.lim
    defers:=⟨⟨ms,rfl,(List.nodup_cons.1 hn).2,fun D' hD'=>by
      obtain⟨p1,p2,p3⟩:=hm D' (List.mem_cons_of_mem _ hD')
      exact⟨p1,hother D' _ p2 (fun e=>(List.nodup_cons.1 hn).1 (e▸hD')),p3⟩⟩,fun p hp=>by rw[hpn] at hp;cases hp⟩
    os:=g.os,tape:=g.tape,output:=g.output
    nd:=fun h=>by have:=g.nd h;rw[hd] at this;cases this
    grow:=by rw[hsz];exact g.grow
    dis:=g.dis
    keep:=fun b hb hm' hw=>(World.putObj_heap_other (by omega)).trans (g.keep b hb hm' hw)
    own:=fun k b c h=>by rw[hsz];exact g.own k b c h
    inj:=g.inj,old:=g.old
    obkeep:=fun b i o hb hm' h1 h2=>by
      obtain⟨o',h3,h4⟩:=g.obkeep b i o hb hm' h1 h2
      exact⟨o',hother b o' h3 (by omega),h4⟩}
  have hne:∀k b c,η k=some (b,c)→b≠D:=fun k b c h e=>q3 k c (e▸h)
  have hK:Keeps E η η a {a with defers:=ms.map mkD} w (w.putObj D (.deferred none)) {}:=
    ⟨fun b c ⟨h1,h2,el,f,h3⟩=>⟨h1,h2,el,f,hother b _ h3 (fun e=>by rw[e,q2] at h3;cases h3)⟩,fun _ _=>rfl,fun _ _=>rfl,
      fun k off b c cur el v _ _ _ _ h4 h5 h6=>⟨cur,hother b _ h5 (hne k b c h4),h6⟩,fun k b c cur el _ _ _ _ h4 h5=>hother b _ h5 (hne k b c h4),fun k i b c o _ _ _ h4 h5 h6=>⟨o,hother b _ h5 (hne k b c h4),h6⟩⟩
  refine⟨g',fun f hf=>hK.fact ?_ (H f hf)⟩
  have z1:∀s:S1,s.ment []=false:=zci
  have zl:∀l:List S1,anyS (S1.ment []) l=false:=zd2
  cases f with
  | slot t s=>cases s<;>simp[Kill.surv,memN,SV.ment,z1,zl]
  | cell k off s=>simp[Kill.surv,memN,memC,z1]
  | row k el e xs=>simp[Kill.surv,memN]
  | ob k i=>simp[Kill.surv,memN]
  | fix k=>simp[Kill.surv,memN]
theorem zpM {P:Program} {OB:Nat→Obj→Prop} (hC:CfgOk P OB c) {par:Array Oper→St→(St→Prop)→Prop} (hpar:zpa P OB c par) {f:Nat} {fn:Func} {body:Code} {rs:List ResultVar} {sp:Spec}
    (hf:P.funcs[f]?=some fn) (hb:fn.body=some body) (hnt:fn.ntmps=c.nt) (hps:sp.pats.length≤c.nt) (hlim:c.nt≤1000000) (hob:zb8 sp.pats≤1) (hrs:fn.results.toList=rs) (hd:zeb c.nt body=true)
    (anns:(zac sp.pats).Den→List (St→LoopAnn)) (h:∀x,sp.pre x→zoY c par (anns x) rs body sp x):zp2 P OB f sp:=by
  intro w M x vs bs hM hA hpre
  obtain⟨o1,o2,o3,o4⟩:=zb7 sp.pats x vs bs 0 hA
  let E:Env:={P:=P,M:=M,mu:=fun b=>b∈bs,w0:=w,OB:=OB}
  refine callsIn_wide.1 (callsIn_of_wp_marks (F:=Fence.wide) (n:=0) hf hb trivial ?_)
  have hsz:(vs.toArray++Array.replicate (fn.ntmps - vs.toArray.size) undef).size=c.nt:=by
    simp;omega
  have hR : RelS E c.nt (za3 sp.pats x 0) {tmps:=vs.toArray++Array.replicate (fn.ntmps - vs.toArray.size) undef,defers:=[]} w:=by
    have hη:∀k b n,zjI (zbf sp.pats vs 0) k=some (b,n)→(k,b)∈zbf sp.pats vs 0∧n=0:=by
      intro k b n
      generalize zbf sp.pats vs 0=l
      induction l with
      | nil=>intro h;cases h
      | cons p r ih=>
        intro h
        simp only[zjI] at h
        split at h
        · rename_i hk
          simp only[Option.some.injEq,Prod.mk.injEq] at h
          obtain⟨rfl,rfl⟩:=h
          subst hk
          exact⟨List.mem_cons_self,rfl⟩
        · obtain⟨h1,h2⟩:=ih h
          exact⟨List.mem_cons_of_mem _ h1,h2⟩
    have hbs:∀k b,(k,b)∈zbf sp.pats vs 0→b∈bs:=fun k b hkb=>by rw[←o1];exact List.mem_map.2 ⟨_,hkb,rfl⟩
    refine⟨zjI (zbf sp.pats vs 0),?_,?_⟩
    · exact {
        size:=hsz,lim:=hlim,defers:=⟨⟨[],rfl,List.nodup_nil,fun _ h=>by cases h⟩,fun _ h=>by cases h⟩,os:=rfl,tape:=rfl,output:=rfl,grow:=Nat.le_refl _,keep:=fun _ _ _ _=>rfl,
        own:=fun k b n hk=>⟨(o4 b (hbs k b (hη k b n hk).1)).2,.inr (hbs k b (hη k b n hk).1)⟩,
        dis:=fun b hb h=>h.elim (fun h=>absurd (o4 b hb).2 (Nat.not_lt_of_le h)) id,
        inj := fun k k' b n n' hk hk'=>by
          have h1:=(hη k b n hk).1
          have h2:=(hη k' b n' hk').1
          have hl:(zbf sp.pats vs 0).length≤1:=by omega
          match hobs:zbf sp.pats vs 0,hl with
          | [],_=>rw[hobs] at h1;cases h1
          | [p],_=>
            rw[hobs] at h1 h2
            simp only[List.mem_singleton] at h1 h2
            rw[←h2] at h1
            simpa using h1
        old:=fun b hb h=>h.elim (fun h=>absurd (hM b hb) (Nat.not_lt_of_le h)) id,obkeep:=fun b i o _ _ h1 h2=>⟨o,h1,h2⟩}
    · refine zca rfl rfl (fun b h=>h.elim id fun⟨_,h⟩=>by cases h) rfl (fun k b n hk=>(o4 b (hbs k b (hη k b n hk).1)).1) sp.pats x vs bs 0 hA (by omega) (fun j v hj=>?_) (fun k b hkb=>?_)
      · simp only[Nat.zero_add]
        have hjl:=(List.getElem?_eq_some_iff.1 hj).1
        simp only[Array.getD_eq_getD_getElem?]
        rw[Array.getElem?_append_left (by simpa using hjl)]
        simp[hj]
      · have hl:(zbf sp.pats vs 0).length≤1:=by omega
        match hobs:zbf sp.pats vs 0,hl with
        | [],_=>rw[hobs] at hkb;cases hkb
        | [p],_=>
          rw[hobs] at hkb
          simp only[List.mem_singleton] at hkb
          subst hkb
          simp[zjI]
  have hCE:CfgOk E.P E.OB c:=hC
  refine wpIn_mono (za9 hC hpar body 0 _ _ _ w E none rfl rfl (.inl ⟨rfl,rfl⟩) hd (h x hpre) hR) fun e a' w' ⟨⟨xe,st',e1,e2,e3⟩,_⟩=>?_
  subst e1
  have leave:∀(R:Ending→World→Prop) (st1:St) (η:Eta) (tmps:Array Value),(∀a1 w1,a1.tmps=tmps→Good E c.nt η a1 w1→(∀f∈st1,Fact.holds E η a1 w1 f)→∃v,(results fn tmps).run P w1=.ok v w1∧R (.returned v) w1)→
      ∀(ms:List Nat) (a1:Act) (w1:World),a1.tmps=tmps→a1.defers=ms.map mkD→ms.Nodup→(∀D∈ms,E.w0.heap.size≤D∧w1.heap[D]?=some (.deferred (some []))∧∀k c,η k≠some (D,c))→
      Good E c.nt η a1 w1→(∀f∈st1,Fact.holds E η a1 w1 f)→LeavesInM Fence.wide 0 P fn tmps R a1.defers .returning w1:=by
    intro R st1 η tmps hfin ms
    induction ms with
    | nil=>
      intro a1 w1 ht hd1 _ _ g H
      rw[hd1]
      exact hfin a1 w1 ht g H
    | cons D ms ih=>
      intro a1 w1 ht hd1 hn hm g H
      have ht2:=zj5 rfl g H (by rw[hd1];rfl) hn hm
      rw[hd1]
      refine⟨by simp,.inl ⟨D,_,rfl,run_takeDeferred (hm D List.mem_cons_self).2.1,?_⟩⟩
      refine ih {a1 with defers:=ms.map mkD} _ ht rfl (List.nodup_cons.1 hn).2 (fun D' hD'=>?_) ht2.1 ht2.2
      obtain⟨p1,p2,p3⟩:=hm D' (List.mem_cons_of_mem _ hD')
      have hne:D'≠D:=fun e=>(List.nodup_cons.1 hn).1 (by rw[←e];exact hD')
      exact⟨p1,(World.putObj_heap_other hne).trans p2,p3⟩
  have fin : ∀st',zjr c rs sp.res (sp.f x) st'→RelS E c.nt st' a' w'→LeavesInM Fence.wide 0 P fn a'.tmps (fun e w'=>∃rs g,e=.returned (zcC rs)∧CPost OB w w' bs∧
      zfR w' (fun b c=>¬M b∧g≠some b∧∃el f,w'.heap[b]?=some (.cells c el f)) w.heap.size sp.res (sp.f x) rs g) a'.defers .returning w':=by
    intro st' hr hR
    unfold zjr at hr
    split at hr
    case h_2=>exact hr.elim
    case h_1 p st1 hfz=>
      split at hr
      case h_2=>exact hr.elim
      case h_1 q y hq=>
        obtain⟨r1,hr⟩:=OP.andK_out hr
        obtain⟨r2,r3⟩:=hr.out
        have r3:=zeX _ _ _ r3
        obtain⟨η,g,H⟩:=zaT hfz r1 hR
        obtain⟨⟨ms,m1,m2,m3⟩,_⟩:=g.defers
        refine leave _ st1 η a'.tmps (fun a1 w1 ht g H=>?_) ms a' w' rfl m1 m2 m3 g H
        obtain⟨vs',gb,k1,k2,k3,k4⟩:=zb6 hCE.tbl g H rs sp.res q y hq r2 (.inr fun _ h=>h)
        rw[r3] at k4
        rw[←hrs,ht] at k1
        refine⟨_,zcP k1,vs',gb,rfl,?_,k4 _ (fun b c ⟨m1,m2,m3⟩=>⟨fun hm=>m1 (.inl hm),fun hg=>?_,m3⟩)⟩
        · exact {os:=g.os,tape:=g.tape,output:=g.output,size:=g.grow,keep:=fun b hb hn=>g.keep b hb hn (fun h=>h),obk:=fun b hb i o h1 h2=>g.obkeep b i o (o4 b hb).2 hb h1 h2}
        · obtain⟨k,n,hk⟩:=k2 b hg
          exact m2 k n hk
  cases xe with
  | normal=>exact fin st' e2 e3
  | exit id=>exact e2.elim
  | ret=>exact fin st' e2 e3
end
end Go.Eng
set_option linter.all false
namespace Go.Eng
def zjG:List (Nat×Nat)→(List (Nat×Nat)→Prop)→Prop
  | [],K=>K []
  | (a,b)::r,K=>zcW a fun a'=>zcW b fun b'=>zjG r fun r'=>K ((a',b')::r')
def zep (k:Kill) (K:Kill→Prop):Prop:=
  zcb k.slots fun a=>zcb k.keys fun b=>zjG k.cells fun c=>zcb k.rows fun d=>zcb k.allof fun e=>zcb k.cont fun f=>
    K {slots:=a,keys:=b,cells:=c,rows:=d,allof:=e,cont:=f}
def zjF:List Kill→(List Kill→Prop)→Prop
  | [],K=>K []
  | k::r,K=>zep k fun k'=>zjF r fun r'=>K (k'::r')
theorem zgi:∀(l:List (Nat×Nat)) (K:List (Nat×Nat)→Prop),zjG l K=K l
  | [],K=>rfl
  | (a,b)::r,K=>by simp only[zjG,zbN,zgi r]
theorem ziM:∀(l:List Kill) (K:List Kill→Prop),zjF l K=K l
  | [],K=>rfl
  | k::r,K=>by simp only[zjF,zep,zcK,zgi,ziM r]
structure PF where
  src:Nat
  kill:Nat
  f:Fact
def zcU (f:Fact):Nat→Nat→List Kill→Nat
  | acc,_,[]=>acc
  | acc,b,K::r=>bif K.surv f then zcU f acc (2*b) r else zcU f (Nat.lor acc b) (2*b) r
def zbV (bef naft:Nat):List PF→St
  | []=>[]
  | ⟨src,kill,f⟩::r=>bif Nat.beq (Nat.land src bef) src&&Nat.beq (Nat.land kill naft) 0 then f::zbV bef naft r else zbV bef naft r
def zc4 (bi:Nat):Nat→List Nat→Nat
  | _,[]=>0
  | b,m::r=>bif Nat.beq b bi || !Nat.beq (Nat.land m bi) 0 then zc4 bi (2*b) r else Nat.lor b (zc4 bi (2*b) r)
def zfH (bl ml:Nat):Nat→List Nat→Nat
  | _,[]=>0
  | b,_::r=>bif Nat.beq b bl || !Nat.beq (Nat.land ml b) 0 then zfH bl ml (2*b) r else Nat.lor b (zfH bl ml (2*b) r)
def tagK (ks:List Kill) (src excl:Nat):St→List PF→(List PF→Prop)→Prop
  | [],acc,K=>K acc
  | f::r,acc,K=>zcW (zcU f 0 1 ks) fun q=>zcW (Nat.land q excl) fun m=>tagK ks src excl r (⟨src,m,f⟩::acc) K
def tag0 (ks:List Kill):St→(List PF→Prop)→Prop
  | [],K=>K []
  | f::r,K=>zcW (zcU f 0 1 ks) fun m=>tag0 ks r fun acc=>K (⟨0,m,f⟩::acc)
def subN:List Nat→List Nat→Bool
  | [],_=>true
  | n::r,l=>memN n l&&subN r l
def subC:List (Nat×Nat)→List (Nat×Nat)→Bool
  | [],_=>true
  | n::r,l=>memC n.1 n.2 l&&subC r l
def zhb (K K':Kill):Bool:=
  subN K.slots K'.slots&&subN K.keys K'.keys&&subC K.cells K'.cells&&subN K.rows K'.rows&&subN K.allof K'.allof&&subN K.cont K'.cont
def zhI:List Nat→Res→Option Res
  | [],r=>some r
  | k :: l,r=>bif memN k r.kill.keys then (match zgF k r.add with
      | some (p,add)=>zhI l {ob:=some (r.ob.hold∧Frz p),add:=add,kill:=r.kill}
      | none=>zhI l r) else zhI l r
def zkl (c:Cfg) (need:List Nat) (Ki:Kill) (o:Oper) (M:St) (K:St→Prop):Prop:=
  match ze0 c M o with
  | some r=>match zhI need r with
    | some r'=>bif zhb r'.kill Ki then r'.ob.andK (zcr r'.add K) else False
    | none=>False
  | none=>False
def zj0 (c:Cfg) (Ki:Kill) (d:Option Nat) (K:St→Prop):Prop:=
  match d with
  | none=>K []
  | some d=>bif Nat.blt d c.nt&&memN d Ki.slots then K [.slot d (.one (.v (.tuple #[])))] else False
def ziO (t:Nat):List PF→Option (Nat×Nat×Bool)
  | []=>none
  | p::r=>match p with
    | ⟨src,kill,.slot t' (.one (.d .bool x))⟩=>bif Nat.beq t' t then some (src,kill,x) else ziO t r
    | _=>ziO t r
def zpI:GV→Bool
  | .yes=>true
  | _=>false
def isNo:GV→Bool
  | .no=>true
  | _=>false
def zeP (c : Cfg) (ops:Array Oper) (need:List Nat) (befs:List Nat) (ks:List Kill):List Oper→List Nat→List Kill→Nat→List PF→(List PF→Prop)→Prop
  | [],_,_,_,acc,K=>K acc
  | o :: r, m::ms,Ki::kr,b,acc,K=>
    zcW (zc4 b 1 befs) fun na=>zcW (zfH b m 1 befs) fun ex=>
    let cont:=fun acc add=>tagK ks b ex add acc fun acc'=>zcW (2*b) fun b'=>zeP c ops need befs ks r ms kr b' acc' K
    match zaA c ops (zbV m na acc) o with
    | .yes=>zcr (zbV m na acc) fun M=>zkl c need Ki o M (cont acc)
    | .no=>zj0 c Ki o.dst (cont acc)
    | .open_ t _=>match ziO t acc with
      | some (src,kill,x)=>
        let acc1:=⟨src,kill,.slot t (.one (.lb (zaa o)))⟩::acc
        let acc2:=⟨src,kill,.slot t (.one (.lb (!zaa o)))⟩::acc
        bif zpI (zaA c ops (zbV m na acc1) o)&&isNo (zaA c ops (zbV m na acc2) o) then
          both (x=zaa o→zcr (zbV m na acc1) fun M=>zkl c need Ki o M (cont acc1))
            (x=(!zaa o)→zj0 c Ki o.dst (cont acc2))
        else False
      | none=>False
    | .bad=>False
  | _,_,_,_,_,_=>False
/-! ### The tables, laid out ahead -/
def zcH (tbl:List Nat):List Edge→Nat
  | []=>0
  | e::r=>bif Region.binds .any e then Nat.lor (Nat.lor (Nat.pow 2 e.on) (match nth tbl e.on with|some m=>m|none=>0)) (zcH tbl r) else zcH tbl r
def zpy:List Oper→List Nat→(List Nat→Prop)→Prop
  | [],tbl,K=>K tbl
  | o::r,tbl,K=>zcW (zcH tbl o.after.toList) fun m=>zcb (tbl++[m]) fun tbl'=>zpy r tbl' K
def zgm (i:Nat):List Edge→Bool
  | []=>true
  | e::r=>(bif Region.binds .any e then Nat.blt e.on i else true)&&zgm i r
def zgJ (all:List Nat):List Oper→List Nat→Nat→Bool
  | [],[],_=>true
  | o::r,m::ms,i=>Nat.beq m (zcH all o.after.toList)&&zgm i o.after.toList&&zgJ all r ms (i+1)
  | _,_,_=>false
def zhH (c:Cfg) (ops:Array Oper):List Oper→St→List Kill→List Nat→(List Kill→List Nat→Prop)→Prop
  | [],_,ks,need,K=>zjF ks.reverse fun ks'=>K ks' need
  | o :: r,st,ks,need,K=>
    let run:=fun (st:St)=>
      match zb2 (zfw c st o) st with
      | some (_,st1)=>match ze0 c st1 o with
        | some q=>zcr (after st1 q) fun st'=>zep q.kill fun k=>zcb (zfw c st o++need) fun need'=>zhH c ops r st' (k::ks) need' K
        | none=>False
      | none=>False
    match zaA c ops st o with
    | .yes=>run st
    | .no=>zcr (zg5 o.dst st) fun st'=>zhH c ops r st' ((match o.dst with|some d=>{slots:=[d]} | none=>{})::ks) need K
    | .open_ _ _=>run st
    | .bad=>False
def zkG:List PF→St
  | []=>[]
  | ⟨_,kill,f⟩::r=>bif Nat.beq kill 0 then f::zkG r else zkG r
def par (c:Cfg) (ops:Array Oper) (st:St) (K:St→Prop):Prop:=
  zpy ops.toList [] fun befs=>
    bif zgJ befs ops.toList befs 0 then
      zhH c ops ops.toList st [] [] fun ks need=>
        match zb2 need st with
        | some (p,st1)=>p.andK (zcr st1 fun st2=>tag0 ks st2 fun acc=>zeP c ops need befs ks ops.toList befs ks 1 acc fun acc'=>zcr (zkG acc') K)
        | none=>False
    else False
end Go.Eng
set_option linter.all false
namespace Go.Eng
/-! ### Bits -/
theorem zkx {m i:Nat} (h:m.testBit i=false):Nat.land m (2 ^ i)=0:=by
  apply Nat.eq_of_testBit_eq
  intro j
  have:=Nat.testBit_and m (2 ^ i) j
  change (Nat.land m (2 ^ i)).testBit j=_ at this
  rw[this,Nat.testBit_two_pow]
  by_cases hj:i=j
  · subst hj;simp[h]
  · simp[hj]
theorem zjB {s m l:Nat} (hs:s=2 ^ l) (h:Nat.beq (Nat.land s m) s=true):m.testBit l=true:=by
  have h:=Nat.eq_of_beq_eq_true h
  have h1:=Nat.testBit_and s m l
  change (Nat.land s m).testBit l=_ at h1
  rw[h,hs,Nat.testBit_two_pow_self] at h1
  simpa using h1.symm
theorem zjA {s m k:Nat} (h:Nat.beq (Nat.land s m) 0=true) (hm:m.testBit k=true):s.testBit k=false:=by
  have h:=Nat.eq_of_beq_eq_true h
  have h1:=Nat.testBit_and s m k
  change (Nat.land s m).testBit k=_ at h1
  rw[h,hm,Nat.zero_testBit] at h1
  simpa using h1.symm
theorem ze8 (a b k:Nat):(Nat.lor a b).testBit k=(a.testBit k || b.testBit k):=Nat.testBit_or a b k
theorem zpG (a b k:Nat):(Nat.land a b).testBit k=(a.testBit k&&b.testBit k):=Nat.testBit_and a b k
theorem zdz (j:Nat):2*2 ^ j=2 ^ (j+1):=by rw[Nat.pow_succ,Nat.mul_comm]
theorem zjt {a b:Nat} (h:2 ^ a=2 ^ b):a=b:=by
  have h1:(2 ^ b).testBit a=true:=by rw[←h];exact Nat.testBit_two_pow_self
  rw[Nat.testBit_two_pow] at h1
  exact (of_decide_eq_true h1).symm
theorem zo0 {a b:Nat} (h:a≠b):Nat.beq (2 ^ a) (2 ^ b)=false:=by
  cases hb:Nat.beq (2 ^ a) (2 ^ b) with
  | false=>rfl
  | true=>exact absurd (zjt (Nat.eq_of_beq_eq_true hb)) h
theorem ziB {i:Nat}:∀(l:List Nat) (j t m:Nat),l[t]?=some m→j+t≠i→m.testBit i=false→(zc4 (2 ^ i) (2 ^ j) l).testBit (j+t)=true
  | [],j,t,m,h,_,_=>by simp at h
  | q::r,j,0,m,h,h1,h2=>by
    simp only[List.getElem?_cons_zero,Option.some.injEq] at h
    subst h
    simp only[zc4,zo0 (show j≠i by omega),zkx h2,Nat.beq,Bool.not_true,Bool.or_false,cond_false,ze8,Nat.add_zero,Nat.testBit_two_pow_self,Bool.true_or]
  | q::r,j,t+1,m,h,h1,h2=>by
    have ih:=ziB (i:=i) r (j+1) t m (by simpa using h) (by omega) h2
    rw[show j+1+t=j+(t+1) from by omega] at ih
    simp only[zc4,zdz]
    cases (Nat.beq (2 ^ j) (2 ^ i) || !Nat.beq (Nat.land q (2 ^ i)) 0) with
    | true=>exact ih
    | false=>simp only[cond_false,ze8,ih,Bool.or_true]
theorem ziS {l ml:Nat}:∀(bs:List Nat) (j t:Nat),t<bs.length→j+t≠l→ml.testBit (j+t)=false→(zfH (2 ^ l) ml (2 ^ j) bs).testBit (j+t)=true
  | [],j,t,h,_,_=>by simp at h
  | q::r,j,0,h,h1,h2=>by
    simp only[Nat.add_zero] at h2
    simp only[zfH,zo0 (show j≠l by omega),zkx h2,Nat.beq,Bool.not_true,Bool.or_false,cond_false,ze8,Nat.add_zero,Nat.testBit_two_pow_self,Bool.true_or]
  | q::r,j,t+1,h,h1,h2=>by
    have ih:=ziS (l:=l) (ml:=ml) r (j+1) t (by simpa using h) (by omega) (by rw[show j+1+t=j+(t+1) from by omega];exact h2)
    rw[show j+1+t=j+(t+1) from by omega] at ih
    simp only[zfH,zdz]
    cases (Nat.beq (2 ^ j) (2 ^ l) || !Nat.beq (Nat.land ml (2 ^ j)) 0) with
    | true=>exact ih
    | false=>simp only[cond_false,ze8,ih,Bool.or_true]
theorem zfa {f:Fact}:∀(ks:List Kill) (acc b k:Nat),acc.testBit k=true→(zcU f acc b ks).testBit k=true
  | [],acc,b,k,h=>h
  | q::r,acc,b,k,h=>by
    simp only[zcU]
    cases q.surv f with
    | true=>exact zfa r acc _ k h
    | false=>exact zfa r _ _ k (by rw[ze8,h];rfl)
theorem zdO {f:Fact}:∀(ks:List Kill) (acc j t:Nat) (K:Kill),ks[t]?=some K→K.surv f=false→(zcU f acc (2 ^ j) ks).testBit (j+t)=true
  | [],acc,j,t,K,h,_=>by simp at h
  | q::r,acc,j,0,K,h,h1=>by
    simp only[List.getElem?_cons_zero,Option.some.injEq] at h
    subst h
    simp only[zcU,h1,cond_false,Nat.add_zero]
    exact zfa r _ _ j (by rw[ze8,Nat.testBit_two_pow_self,Bool.or_true])
  | q :: r,acc,j,t+1,K,h,h1=>by
    simp only[zcU,zdz]
    cases q.surv f with
    | true=>
      have ih:=zdO r acc (j+1) t K (by simpa using h) h1
      rw[show j+1+t=j+(t+1) from by omega] at ih
      exact ih
    | false=>
      have ih:=zdO r (Nat.lor acc (2 ^ j)) (j+1) t K (by simpa using h) h1
      rw[show j+1+t=j+(t+1) from by omega] at ih
      exact ih
/-! ### The state behind a set of operations -/
section
variable {E:Env} {c:Cfg} {ops:Array Oper} {befs:List Nat} {ks:List Kill}
def FD (acc:List PF) (D:Nat→Prop) (f:Fact):Prop:=
  ∃p∈acc,p.f=f∧(p.src=0∨∃l,p.src=2 ^ l∧D l)∧∀k,D k→p.kill.testBit k=false
def Adds (acc:List PF) (l:Nat) (f:Fact):Prop:=∃p∈acc,p.f=f∧p.src=2 ^ l
def zd8 (n:Nat) (befs:List Nat) (ks:List Kill) (acc:List PF):Prop:=
  ∀ p∈acc,(p.src=0∧∀k K,ks[k]?=some K→K.surv p.f=false→p.kill.testBit k=true)∨
    (∃l ml,l<n∧p.src=2 ^ l∧befs[l]?=some ml∧∀k K,ks[k]?=some K→k≠l→ml.testBit k=false→k<befs.length→K.surv p.f=false→p.kill.testBit k=true)
def zs5 (E:Env) (nt:Nat) (ops:Array Oper) (i:Nat) (F F':Fact→Prop):Prop:=
  ∀(a:Act) (w:World) (Q:Exit→Act→World→Prop) (K:Act→World→Prop),Rel E nt F a w→(∀a' w',Rel E nt F' a' w'→K a' w')→∀(ro:Option Nat) (q:Nat),wpOpIn (Fw ro) q E.P ops Q i K a w
def zcZ (E:Env) (nt:Nat) (ops:Array Oper) (befs:List Nat) (ks:List Kill) (acc:List PF) (i:Nat):Prop:=
  ∃ (m:Nat) (Ki:Kill) (M:Fact→Prop),befs[i]?=some m∧ks[i]?=some Ki∧(∀f,M f→f∈zbV m (zc4 (2 ^ i) 1 befs) acc)∧
    ∀F:Fact→Prop,(∀f,M f→F f)→zs5 E nt ops i F (fun f=>Adds acc i f∨(F f∧Ki.surv f=true))
theorem zdo {bef naft:Nat} {f:Fact}:∀ {acc:List PF},f∈zbV bef naft acc↔∃p∈acc,p.f=f∧Nat.beq (Nat.land p.src bef) p.src=true∧Nat.beq (Nat.land p.kill naft) 0=true
  | []=>by simp[zbV]
  | ⟨src, kill,f0⟩::r=>by
    have hp:∃p:PF,p=⟨src,kill,f0⟩:=⟨_,rfl⟩
    obtain⟨p,hp⟩:=hp
    have e1:src=p.src:=by rw[hp]
    have e2:kill=p.kill:=by rw[hp]
    have e3:f0=p.f:=by rw[hp]
    simp only[zbV]
    rw[←hp,e1,e2,e3]
    cases hb:(Nat.beq (Nat.land p.src bef) p.src&&Nat.beq (Nat.land p.kill naft) 0) with
    | true=>
      rw[Bool.and_eq_true] at hb
      simp only[cond_true,List.mem_cons,zdo (acc:=r)]
      constructor
      · rintro (rfl|⟨q,h1,h2⟩)
        · exact⟨p,.inl rfl,rfl,hb.1,hb.2⟩
        · exact⟨q,.inr h1,h2⟩
      · rintro⟨q,rfl|h1,h2,h3⟩
        · exact .inl h2.symm
        · exact .inr ⟨q,h1,h2,h3⟩
    | false=>
      simp only[cond_false,List.mem_cons,zdo (acc:=r)]
      constructor
      · rintro⟨q,h1,h2⟩
        exact⟨q,.inr h1,h2⟩
      · rintro⟨q,rfl|h1,h2,h3,h4⟩
        · rw[h3,h4] at hb;cases hb
        · exact⟨q,h1,h2,h3,h4⟩
theorem zdL {bef naft:Nat} {acc acc':List PF} (h:∀p∈acc,p∈acc') {f:Fact} (hf:f∈zbV bef naft acc):f∈zbV bef naft acc':=by
  obtain⟨p,h1,h2⟩:=zdo.1 hf
  exact zdo.2 ⟨p,h p h1,h2⟩
/-! ### Every order -/
def zsv (befs:List Nat) (D:Nat→Prop):Prop:=∀i m,D i→befs[i]?=some m→∀l,m.testBit l=true→D l
theorem zey {tbl:List Nat} {l:Nat}:∀ {es:List Edge},(zcH tbl es).testBit l=true→∃e∈es,Region.binds .any e=true∧(l=e.on∨∃m,tbl[e.on]?=some m∧m.testBit l=true)
  | [],h=>by simp[zcH] at h
  | e :: r,h=>by
    simp only[zcH] at h
    cases hb:Region.binds .any e with
    | false=>
      rw[hb] at h
      obtain⟨e',h1,h2⟩:=zey (es:=r) h
      exact⟨e',List.mem_cons_of_mem _ h1,h2⟩
    | true=>
      rw[hb] at h
      simp only[cond_true,ze8,Bool.or_eq_true] at h
      rcases h with (h|h)|h
      · refine⟨e,List.mem_cons_self,hb,.inl ?_⟩
        change (2 ^ e.on).testBit l=true at h
        rw[Nat.testBit_two_pow] at h
        simpa using (of_decide_eq_true h).symm
      · rw[zkm] at h
        cases ht:tbl[e.on]? with
        | none=>rw[ht] at h;simp at h
        | some m=>rw[ht] at h;exact⟨e,List.mem_cons_self,hb,.inr ⟨m,ht,h⟩⟩
      · obtain⟨e',h1,h2⟩:=zey (es:=r) h
        exact⟨e',List.mem_cons_of_mem _ h1,h2⟩
theorem zfd {i:Nat}:∀ {es:List Edge},zgm i es=true→∀e∈es,Region.binds .any e=true→e.on<i
  | e :: r,h,e',he=>by
    simp only[zgm,Bool.and_eq_true] at h
    rcases List.mem_cons.1 he with rfl|he
    · intro hb
      have:=h.1
      rw[hb] at this
      simpa using this
    · exact zfd h.2 e' he
theorem zhZ {all:List Nat}:∀ {os:List Oper} {ms:List Nat} {i:Nat},zgJ all os ms i=true→ms.length=os.length∧
    ∀(t:Nat) (o:Oper),os[t]?=some o→ms[t]?=some (zcH all o.after.toList)∧∀e∈o.after.toList,Region.binds .any e=true→e.on<i+t
  | [],[],i,_=>⟨rfl,by simp⟩
  | [],_::_,i,h=>by simp[zgJ] at h
  | _::_,[],i,h=>by simp[zgJ] at h
  | o :: r,m::ms,i,h=>by
    simp only[zgJ,Bool.and_eq_true] at h
    obtain⟨⟨h1,h2⟩,h3⟩:=h
    obtain⟨h4,h5⟩:=zhZ h3
    refine⟨by simp[h4],fun t o' ho=>?_⟩
    cases t with
    | zero=>
      simp only[List.getElem?_cons_zero,Option.some.injEq] at ho
      subst ho
      exact⟨by simpa using Nat.eq_of_beq_eq_true h1,zfd h2⟩
    | succ t=>
      obtain⟨h6,h7⟩:=h5 t o' (by simpa using ho)
      exact⟨by simpa using h6,fun e he hb=>by have:=h7 e he hb;omega⟩
def un (L:Array Bool):Nat→Nat
  | 0=>0
  | n+1=>un L n+(if L.getD n true=true then 0 else 1)
theorem zns {L:Array Bool} {i:Nat} (hi:i<L.size) (hu:L.getD i true=false):∀n,un (L.setIfInBounds i true) n+(if i<n then 1 else 0)=un L n
  | 0=>by simp[un]
  | n + 1=>by
    have ih:=zns hi hu n
    simp only[un]
    by_cases hn:i=n
    · subst hn
      have:(L.setIfInBounds i true).getD i true=true:=by simp[hi]
      rw[if_neg (Nat.lt_irrefl i)] at ih
      rw[this,hu]
      simp
      omega
    · have:(L.setIfInBounds i true).getD n true=L.getD n true:=getD_set_ne true hn
      rw[this]
      by_cases hlt:i<n
      · rw[if_pos hlt] at ih
        have h2:i<n+1:=by omega
        rw[if_pos h2]
        omega
      · rw[if_neg hlt] at ih
        have h2:¬i<n+1:=by omega
        rw[if_neg h2]
        omega
theorem zk7 {L:Array Bool}:∀ {n:Nat},un L n=0→∀i,i<n→L.getD i true=true
  | n + 1,h,i,hi=>by
    simp only[un] at h
    by_cases hn:i=n
    · subst hn
      cases hL:L.getD i true with
      | true=>rfl
      | false=>rw[hL] at h;simp at h
    · exact zk7 (n:=n) (by omega) i (by omega)
theorem zrr {ro : Option Nat} {q:Nat} {nt:Nat} (hchk:zgJ befs ops.toList befs 0=true) {acc:List PF} (hkill:zd8 ops.size befs ks acc) (hstep:∀i,i<ops.size→zcZ E nt ops befs ks acc i)
    {Q : Exit→Act→World→Prop} (hQ:∀a w,Rel E nt (FD acc (fun i=>i<ops.size)) a w→Q .normal a w):∀(fuel:Nat) (L:Array Bool) (a:Act) (w:World),L.size=ops.size→un L ops.size≤fuel→
      zsv befs (fun i=>L.getD i false=true)→Rel E nt (FD acc (fun i=>L.getD i false=true)) a w→wpAnyIn (Fw ro) q E.P .any ops Q fuel L a w:=by
  obtain⟨hlen,hbef⟩:=zhZ hchk
  have hlen':befs.length=ops.size:=by simpa using hlen
  have getDf:∀ {L:Array Bool} {i:Nat},L.size=ops.size→i<ops.size→L.getD i false=L.getD i true:=by
    intro L i hL hi
    have:i<L.size:=by omega
    simp[this]
  have notReady:∀(L:Array Bool),L.size=ops.size→Region.ready .any ops L=[]→∀i,i<ops.size→L.getD i true=true:=by
    intro L hL hr i
    induction i using Nat.strongRecOn with
    | _ i ih=>
      intro hi
      cases hu:L.getD i true with
      | true=>rfl
      | false=>
        exfalso
        have:i∈Region.ready .any ops L:=by
          rw[mem_ready]
          refine⟨hu,ops[i],by simp[hi],fun e he hb=>?_⟩
          have hlt:=(hbef i ops[i] (by simp[hi])).2 e (by simpa using he) hb
          have:=ih e.on (by omega) (by omega)
          rw[getDf hL (by omega)]
          exact this
        rw[hr] at this
        cases this
  have fin:∀(L:Array Bool) (a:Act) (w:World),L.size=ops.size→(∀i,i<ops.size→L.getD i true=true)→Rel E nt (FD acc (fun i=>L.getD i false=true)) a w→Q .normal a w:=by
    intro L a w hL hall hR
    refine hQ a w (hR.weaken fun f ⟨p,h1,h2,h3,h4⟩=>⟨p,h1,h2,?_,fun k hk=>?_⟩)
    · rcases h3 with h3|⟨l,h3,h5⟩
      · exact .inl h3
      · exact .inr ⟨l,h3,by simp only[];rw[getDf hL h5];exact hall l h5⟩
    · refine h4 k ?_
      have:k<L.size:=by
        rcases Nat.lt_or_ge k L.size with h|h
        · exact h
        · simp[Array.getD,Nat.not_lt.2 h] at hk
      omega
  intro fuel
  induction fuel with
  | zero=>
    intro L a w hL hu hc hR
    have hall:=zk7 (Nat.le_zero.1 hu)
    refine⟨?_,fin L a w hL hall hR⟩
    cases hr:Region.ready .any ops L with
    | nil=>rfl
    | cons i r=>
      have hi:i∈Region.ready .any ops L:=by rw[hr];exact List.mem_cons_self
      obtain⟨h1,o,h2,_⟩:=mem_ready.1 hi
      have:=hall i (Array.getElem?_eq_some_iff.1 h2).1
      rw[h1] at this
      cases this
  | succ fuel ih =>
    intro L a w hL hu hc hR
    refine⟨fun hr=>fin L a w hL (notReady L hL hr) hR,fun i hi=>?_⟩
    obtain⟨h1,o,h2,h3⟩:=mem_ready.1 hi
    have hin:i<ops.size:=(Array.getElem?_eq_some_iff.1 h2).1
    obtain⟨m,Ki,M,e1,e2,e3,e4⟩:=hstep i hin
    have hbi:=(hbef i o (by simpa using h2)).1
    have hm:m=zcH befs o.after.toList:=by rw[e1] at hbi;exact Option.some.inj hbi
    have hpre:∀l,m.testBit l=true→L.getD l false=true:=by
      intro l hl
      rw[hm] at hl
      obtain⟨e,f1,f2,f3⟩:=zey hl
      have he:=h3 e (by simpa using f1) f2
      rcases f3 with rfl|⟨m',f4,f5⟩
      · exact he
      · exact hc e.on m' he f4 l f5
    have hnot:¬(L.getD i false=true):=by rw[getDf hL hin,h1];simp
    have hafter:∀k mk,L.getD k false=true→befs[k]?=some mk→mk.testBit i=false:=by
      intro k mk hk hmk
      cases hb:mk.testBit i with
      | false=>rfl
      | true=>exact absurd (hc k mk hk hmk i hb) hnot
    have hlt:∀k,L.getD k false=true→k<ops.size:=by
      intro k hk
      rcases Nat.lt_or_ge k L.size with h|h
      · omega
      · simp[Array.getD,Nat.not_lt.2 h] at hk
    have hsub:∀f,M f→FD acc (fun i=>L.getD i false=true) f:=by
      intro f hf
      obtain⟨p,p1,p2,p3,p4⟩:=zdo.1 (e3 f hf)
      refine⟨p,p1,p2,?_,fun k hk=>?_⟩
      · rcases hkill p p1 with ⟨q1,_⟩|⟨l,ml,q0,q1,_⟩
        · exact .inl q1
        · exact .inr ⟨l,q1,hpre l (zjB q1 p3)⟩
      · have hkn:=hlt k hk
        have hkb:befs[k]?=some (befs[k]'(by omega)):=by simp[hlen',hkn]
        have:=ziB (i:=i) befs 0 k _ hkb (by rintro h;rw[Nat.zero_add] at h;subst h;exact hnot hk) (hafter k _ hk hkb)
        rw[Nat.zero_add,Nat.pow_zero] at this
        exact zjA p4 this
    have hset:∀k,(L.setIfInBounds i true).getD k false=true↔k=i∨L.getD k false=true:=by
      intro k
      by_cases hki:i=k
      · subst hki
        have:i<L.size:=by omega
        simp[this]
      · rw [getD_set_ne false hki]
        constructor
        · exact .inr
        · rintro (h|h)
          · exact absurd h.symm hki
          · exact h
    refine e4 _ hsub a w Q _ hR (fun a' w' hR'=>ih _ a' w' (by simpa using hL) ?_ ?_ (hR'.weaken fun f ⟨p,p1,p2,p3,p4⟩=>?_)) ro q
    · have:=zns (by omega) h1 ops.size
      rw[if_pos hin] at this
      omega
    · intro k mk hk hmk l hl
      rcases (hset k).1 hk with rfl|hk
      · rw[e1] at hmk
        cases hmk
        exact (hset l).2 (.inr (hpre l hl))
      · exact (hset l).2 (.inr (hc k mk hk hmk l hl))
    · by_cases hsrc:p.src=2 ^ i
      · exact .inl ⟨p,p1,p2,hsrc⟩
      · refine .inr ⟨⟨p,p1,p2,?_,fun k hk=>p4 k ((hset k).2 (.inr hk))⟩,?_⟩
        · rcases p3 with p3|⟨l,p3,p5⟩
          · exact .inl p3
          · rcases (hset l).1 p5 with rfl|p5
            · exact absurd p3 hsrc
            · exact .inr ⟨l,p3,p5⟩
        · have hki := p4 i ((hset i).2 (.inl rfl))
          cases hs:Ki.surv f with
          | true=>rfl
          | false =>
            exfalso
            rw[←p2] at hs
            rcases hkill p p1 with ⟨_,q2⟩|⟨l,ml,q0,q1,q2,q3⟩
            · rw[q2 i Ki e2 hs] at hki;cases hki
            · have hl:L.getD l false=true:=by
                rcases p3 with p3|⟨l',p3,p5⟩
                · rw[q1] at p3
                  have:=Nat.two_pow_pos l
                  omega
                · have:l=l':=zjt (by rw[←q1,←p3])
                  subst this
                  rcases (hset l).1 p5 with rfl|p5
                  · exact absurd q1 hsrc
                  · exact p5
              have hil:i≠l:=by rintro rfl;exact hnot hl
              rw[q3 i Ki e2 hil (hafter l ml hl q2) (by omega) hs] at hki
              cases hki
end
end Go.Eng
set_option linter.all false
namespace Go.Eng
section
variable {E:Env} {c:Cfg} {ops:Array Oper} {befs:List Nat} {ks:List Kill}
theorem zfl {l l':List Nat} (h:subN l l'=true):∀n∈l,n∈l':=by
  induction l with
  | nil=>intro n hn;cases hn
  | cons m r ih=>
    simp only[subN,Bool.and_eq_true] at h
    intro n hn
    rcases List.mem_cons.1 hn with rfl|hn
    · exact zaD.1 h.1
    · exact ih h.2 n hn
theorem zpj {l l':List (Nat×Nat)} (h:subC l l'=true):∀n∈l,n∈l':=by
  induction l with
  | nil=>intro n hn;cases hn
  | cons m r ih=>
    simp only[subC,Bool.and_eq_true] at h
    intro n hn
    rcases List.mem_cons.1 hn with rfl|hn
    · exact zfz.1 h.1
    · exact ih h.2 n hn
theorem zbv {l l':List Nat} (h:∀n∈l,n∈l') {n:Nat} (hn:memN n l'=false):memN n l=false:=by
  cases hb:memN n l with
  | false=>rfl
  | true=>rw[zaD.2 (h n (zaD.1 hb))] at hn;cases hn
theorem zpA {l l':List (Nat×Nat)} (h:∀n∈l,n∈l') {k o:Nat} (hn:memC k o l'=false):memC k o l=false:=by
  cases hb:memC k o l with
  | false=>rfl
  | true=>rw[zfz.2 (h _ (zfz.1 hb))] at hn;cases hn
theorem zjU {l l':List Nat} (h:∀n∈l,n∈l'):∀ {ps:List (Nat×Nat)},anyK l' ps=false→anyK l ps=false
  | [],_=>rfl
  | p::r,hs=>by
    simp only[anyK,Bool.or_eq_false_iff] at hs ⊢
    exact⟨zbv h hs.1,zjU h hs.2⟩
theorem zhA {l l':List Nat} (h:∀n∈l,n∈l') {s:S1} (hs:s.ment l'=false):s.ment l=false:=by
  cases s
  case fn g fs cs=>
    simp only[S1.ment,Bool.or_eq_false_iff] at hs ⊢
    exact⟨zjU h hs.1,zjU h hs.2⟩
  all_goals first|rfl|exact zbv h hs
theorem zjT {l l':List Nat} (h:∀n∈l,n∈l'):∀ {cs:List S1},anyS (S1.ment l') cs=false→anyS (S1.ment l) cs=false
  | [],_=>rfl
  | s::r,hs=>by
    simp only[anyS,Bool.or_eq_false_iff] at hs ⊢
    exact⟨zhA h hs.1,zjT h hs.2⟩
theorem zoe {l l':List Nat} (h:∀n∈l,n∈l') {s:SV} (hs:s.ment l'=false):s.ment l=false:=by
  cases s with
  | one s=>exact zhA h hs
  | agg cs=>exact zjT h hs
  | tup cs=>exact zjT h hs
theorem zgu {K K':Kill} (h:zhb K K'=true) {f:Fact} (hf:K'.surv f=true):K.surv f=true:=by
  simp only[zhb,Bool.and_eq_true] at h
  obtain⟨⟨⟨⟨⟨h1,h2⟩,h3⟩,h4⟩,h5⟩,h6⟩:=h
  have h1:=zfl h1
  have h2:=zfl h2
  have h3:=zpj h3
  have h4:=zfl h4
  have h5:=zfl h5
  have h6:=zfl h6
  cases f with
  | slot t s=>
    simp only[Kill.surv,Bool.and_eq_true,Bool.not_eq_true'] at hf ⊢
    exact⟨zbv h1 hf.1,zoe h2 hf.2⟩
  | cell k off s=>
    simp only[Kill.surv,Bool.and_eq_true,Bool.not_eq_true'] at hf ⊢
    exact⟨⟨⟨⟨zbv h2 hf.1.1.1.1,zpA h3 hf.1.1.1.2⟩,zbv h5 hf.1.1.2⟩,zbv h6 hf.1.2⟩,zhA h2 hf.2⟩
  | row k el e xs=>
    simp only[Kill.surv,Bool.and_eq_true,Bool.not_eq_true'] at hf ⊢
    exact⟨⟨⟨zbv h2 hf.1.1.1,zbv h4 hf.1.1.2⟩,zbv h5 hf.1.2⟩,zbv h6 hf.2⟩
  | ob k i=>
    simp only[Kill.surv,Bool.and_eq_true,Bool.not_eq_true'] at hf ⊢
    exact⟨⟨zbv h2 hf.1.1,zbv h4 hf.1.2⟩,zbv h5 hf.2⟩
  | fix k=>
    simp only[Kill.surv,Bool.not_eq_true'] at hf ⊢
    exact zbv h2 hf
theorem zsd {nt k:Nat} {F:Fact→Prop} {K:Kill} {add add':St} {p:Prop} {a:Act} {w:World} (hk:k∈K.keys) (h:zgF k add=some (p,add')) (hp:p)
    (hR:Rel E nt (upd F add K) a w):Rel E nt (upd F add' K) a w:=by
  unfold zgF at h
  split at h
  case h_2=>cases h
  case h_1 r hr=>
    simp only[Option.some.injEq,Prod.mk.injEq] at h
    obtain⟨h1,h2⟩:=h
    rw[←h1] at hp
    subst h2
    obtain⟨η,g,H⟩:=hR
    have hrow:=H _ (.inl (zaM hr))
    refine⟨zaO η k,(zba g k).1,fun f hf=>?_⟩
    rcases hf with hf|⟨hf,hs⟩
    · obtain⟨q,q1,rfl,q3⟩:=zfy hf
      exact frzF_holds g hrow (H q (.inl q1)) (fun hm=>zeG hp q q1 hm) q3
    · have hm:=zha hs
      refine Fact.keep (ks:=K.keys) (zba g k).2 (fun j hj=>zaq ?_) hm (H f (.inr ⟨hf,hs⟩))
      intro hjk
      simp only[List.mem_singleton] at hjk
      subst hjk
      exact hj hk
theorem zcq {nt:Nat} {F:Fact→Prop} {a:Act} {w:World}:∀ {need:List Nat} {r r':Res},zhI need r=some r'→r'.ob.hold→r'.kill=r.kill∧r.ob.hold∧
    (Rel E nt (upd F r.add r.kill) a w→Rel E nt (upd F r'.add r'.kill) a w)
  | [],r,r',h,hob=>by simp only[zhI,Option.some.injEq] at h;subst h;exact⟨rfl,hob,id⟩
  | k :: l,r,r',h,hob=>by
    simp only[zhI] at h
    cases hm:memN k r.kill.keys with
    | false=>rw[hm] at h;exact zcq h hob
    | true=>
      rw[hm] at h
      simp only[cond_true] at h
      split at h
      · rename_i p add hf
        obtain⟨h1,h2,h3⟩:=zcq (F:=F) (a:=a) (w:=w) (nt:=nt) h hob
        exact⟨h1,h2.1,fun hR=>h3 (zsd (zaD.1 hm) hf h2.2 hR)⟩
      · exact zcq h hob
theorem zkk (hC : CfgOk E.P E.OB c) {need:List Nat} {Ki:Kill} {o:Oper} {M:St} {K:St→Prop} (h:zkl c need Ki o M K):∃add,K add∧
    ∀ (F:Fact→Prop),(∀f∈M,F f)→∀(a:Act) (w:World) (Q:Exit→Act→World→Prop) (K':Act→World→Prop),Rel E c.nt F a w→
      (∀a' w',Rel E c.nt (fun f=>f∈add∨(F f∧Ki.surv f=true)) a' w'→K' a' w')→∀(ro:Option Nat) (q:Nat),o.wpIn (Fw ro) q E.P a w K' Q:=by
  unfold zkl at h
  split at h
  case h_2=>exact h.elim
  case h_1 r hr =>
    split at h
    case h_2=>exact h.elim
    case h_1 r' hr'=>
      cases hsub:zhb r'.kill Ki with
      | false=>rw[hsub] at h;exact h.elim
      | true =>
        rw[hsub] at h
        obtain⟨hob,h⟩:=OP.andK_out h
        rw[zbw] at h
        refine⟨r'.add,h,fun F hF a w Q K' hR hK' ro q=>?_⟩
        obtain⟨h1,h2,_⟩:=zcq (F:=F) (a:=a) (w:=w) (E:=E) (nt:=c.nt) hr' hob
        have up:∀a' w',Rel E c.nt (upd F r.add r.kill) a' w'→K' a' w':=fun a' w' hr''=>by
          have:=(zcq (F:=F) (a:=a') (w:=w') (E:=E) (nt:=c.nt) hr' hob).2.2 hr''
          exact hK' a' w' (this.weaken fun f hf=>by
            rcases hf with hf|⟨hf,hs⟩
            · exact .inl hf
            · exact .inr ⟨hf,zgu hsub hs⟩)
        obtain⟨η,g,H⟩:=hR
        unfold ze0 at hr
        split at hr
        case h_2=>cases hr
        case h_1 e he=>
          have hsem:=zhP hC g (fun f hf=>H f (hF f hf)) he
          split at hr
          · rename_i hd
            exact zdA g H hsem (by rw[hd];exact hr) (fun d hd'=>by rw[hd] at hd';cases hd') h2 (zcF he) up
          · rename_i d hd
            cases hb:Nat.blt d c.nt with
            | false=>rw[hb] at hr;simp at hr
            | true=>
              rw[hb] at hr
              exact zdA g H hsem (by rw[hd];exact hr) (fun d' hd'=>by
                rw[hd] at hd'
                simp only[Option.some.injEq] at hd'
                subst hd'
                simpa using hb) h2 (zcF he) up
theorem zjZ {Ki:Kill} {d:Option Nat} {K:St→Prop} (h:zj0 c Ki d K):∃add,K add∧
    ∀(F:Fact→Prop) (a:Act) (w:World),Rel E c.nt F a w→Rel E c.nt (fun f=>f∈add∨(F f∧Ki.surv f=true)) (a.put d undef) w:=by
  cases d with
  | none=>exact⟨[],h,fun F a w hR=>hR.weaken fun f hf=>by
      rcases hf with hf|hf
      · cases hf
      · exact hf.1⟩
  | some d=>
    simp only[zj0] at h
    cases hb:(Nat.blt d c.nt&&memN d Ki.slots) with
    | false=>rw[hb] at h;exact h.elim
    | true=>
      rw[hb] at h
      rw[Bool.and_eq_true] at hb
      refine⟨_,h,fun F a w ⟨η,g,H⟩=>?_⟩
      refine (zf2 g H (d:=d) (by simpa using hb.1) (s:=.one (.v undef)) (v:=undef) rfl).weaken fun f hf=>?_
      rcases hf with hf|⟨hf,hs⟩
      · exact .inl hf
      · refine .inr ⟨hf,zgu (K:={slots:=[d]}) (K':=Ki) ?_ hs⟩
        simp[zhb,subN,subC,hb.2]
theorem zj6 {src ex:Nat}:∀ {add:St} {acc:List PF} {K:List PF→Prop},tagK ks src ex add acc K→∃acc',K acc'∧(∀p∈acc,p∈acc')∧(∀f∈add,∃p∈acc',p.f=f∧p.src=src)∧
    ∀p∈acc',p∈acc∨(p.src=src∧p.f∈add∧p.kill=Nat.land (zcU p.f 0 1 ks) ex)
  | [],acc,K,h=>⟨acc,h,fun _ h=>h,fun f hf=>(by cases hf),fun p hp=>.inl hp⟩
  | f :: r,acc,K,h=>by
    simp only[tagK,zbN] at h
    obtain⟨acc',h1,h2,h3,h4⟩:=zj6 h
    refine⟨acc',h1,fun p hp=>h2 p (List.mem_cons_of_mem _ hp),fun f' hf'=>?_,fun p hp=>?_⟩
    · rcases List.mem_cons.1 hf' with rfl|hf'
      · exact⟨_,h2 _ List.mem_cons_self,rfl,rfl⟩
      · exact h3 f' hf'
    · rcases h4 p hp with h|⟨h5,h6,h7⟩
      · rcases List.mem_cons.1 h with rfl|h
        · exact .inr ⟨rfl,List.mem_cons_self,rfl⟩
        · exact .inl h
      · exact .inr ⟨h5,List.mem_cons_of_mem _ h6,h7⟩
theorem zj7:∀ {st:St} {K:List PF→Prop},tag0 ks st K→∃acc,K acc∧∀p∈acc,p.f∈st∧p.src=0∧p.kill=zcU p.f 0 1 ks
  | [],K,h=>⟨[],h,fun p hp=>by cases hp⟩
  | f :: r,K,h=>by
    simp only[tag0,zbN] at h
    obtain⟨acc,h1,h2⟩:=zj7 h
    refine⟨_,h1,fun p hp=>?_⟩
    rcases List.mem_cons.1 hp with rfl|hp
    · exact⟨List.mem_cons_self,rfl,rfl⟩
    · obtain⟨h3,h4⟩:=h2 p hp
      exact⟨List.mem_cons_of_mem _ h3,h4⟩
theorem zgj {t src kill:Nat} {x:Bool}:∀ {acc:List PF},ziO t acc=some (src,kill,x)→(⟨src,kill,.slot t (.one (.d .bool x))⟩:PF)∈acc
  | [],h=>by simp[ziO] at h
  | p :: r,h=>by
    unfold ziO at h
    split at h
    · rename_i src' kill' t' y
      cases hb:Nat.beq t' t with
      | true=>
        rw[hb] at h
        simp only[cond_true,Option.some.injEq,Prod.mk.injEq] at h
        obtain⟨rfl,rfl,rfl⟩:=h
        have:=Nat.eq_of_beq_eq_true hb
        subst this
        exact List.mem_cons_self
      | false=>
        rw[hb] at h
        exact List.mem_cons_of_mem _ (zgj (acc:=r) h)
    · exact List.mem_cons_of_mem _ (zgj (acc:=r) h)
def Init (E:Env) (nt:Nat) (st0:St) (acc:List PF):Prop:=∀a w,RelS E nt st0 a w→Rel E nt (fun f=>∃p∈acc,p.f=f∧p.src=0) a w
theorem zcZ.ext {nt:Nat} {acc acc':List PF} {j:Nat} (h:zcZ E nt ops befs ks acc j) (hsub:∀p∈acc,p∈acc') (hnew:∀p∈acc',p∈acc∨p.src≠2 ^ j):zcZ E nt ops befs ks acc' j:=by
  obtain⟨m,Ki,M,h1,h2,h3,h4⟩:=h
  refine⟨m,Ki,M,h1,h2,fun f hf=>zdL hsub (h3 f hf),fun F hF a w Q K hR hK=>h4 F hF a w Q K hR fun a' w' hR'=>hK a' w' (hR'.weaken fun f hf=>?_)⟩
  rcases hf with ⟨p,p1,p2,p3⟩|hf
  · rcases hnew p p1 with h|h
    · exact .inl ⟨p,h,p2,p3⟩
    · exact absurd p3 h
  · exact .inr hf
theorem zs8 {η:Eta} {a:Act} {w:World} {t:Nat} {x b:Bool} (hx:x=b) (h:Fact.holds E η a w (.slot t (.one (.d .bool x)))):Fact.holds E η a w (.slot t (.one (.lb b))):=by
  have:=zbr (h:zao (vw E η w) η (.one (.d .bool x)) _)
  rw[hx] at this
  exact this
theorem zqd {nt:Nat} {F F':Fact→Prop} {t:Nat} {x b:Bool} (hx:x=b) {a:Act} {w:World} (hR:Rel E nt F a w) (h:∀f,F' f→F f∨(f=.slot t (.one (.lb b))∧F (.slot t (.one (.d .bool x))))):Rel E nt F' a w:=by
  obtain⟨η,g,H⟩:=hR
  refine⟨η,g,fun f hf=>?_⟩
  rcases h f hf with h|⟨rfl,h⟩
  · exact H f h
  · exact zs8 hx (H _ h)
theorem zon {nt:Nat} {acc:List PF} {q:PF} {t:Nat} {x b:Bool} (hx:x=b) (hq:q∈acc) (hf:q.f=.slot t (.one (.d .bool x))) {j:Nat} (h:zcZ E nt ops befs ks acc j) :
    zcZ E nt ops befs ks (⟨q.src,q.kill,.slot t (.one (.lb b))⟩::acc) j:=by
  obtain⟨m,Ki,M,h1,h2,h3,h4⟩:=h
  refine⟨m,Ki,M,h1,h2,fun f hf=>zdL (fun p hp=>List.mem_cons_of_mem _ hp) (h3 f hf),fun F hF a w Q K hR hK=>h4 F hF a w Q K hR fun a' w' hR'=>hK a' w' (zqd hx hR' (t:=t) fun f hf'=>?_)⟩
  rcases hf' with ⟨p,p1,p2,p3⟩|hf'
  · rcases List.mem_cons.1 p1 with rfl|p1
    · exact .inr ⟨p2.symm,.inl ⟨q,hq,hf,p3⟩⟩
    · exact .inl (.inl ⟨p,p1,p2,p3⟩)
  · exact .inl (.inr hf')
theorem zop {nt:Nat} {st0:St} {acc:List PF} {q:PF} {t:Nat} {x b:Bool} (hx:x=b) (hq:q∈acc) (hf:q.f=.slot t (.one (.d .bool x))) (h:Init E nt st0 acc) :
    Init E nt st0 (⟨q.src,q.kill,.slot t (.one (.lb b))⟩::acc):=by
  intro a w hR
  refine zqd hx (h a w hR) (t:=t) fun f ⟨p,p1,p2,p3⟩=>?_
  rcases List.mem_cons.1 p1 with rfl|p1
  · exact .inr ⟨p2.symm,q,hq,hf,p3⟩
  · exact .inl ⟨p,p1,p2,p3⟩
theorem zoo {n:Nat} {acc:List PF} {q:PF} {t:Nat} {x b:Bool} (hq:q∈acc) (hf:q.f=.slot t (.one (.d .bool x))) (h:zd8 n befs ks acc):zd8 n befs ks (⟨q.src,q.kill,.slot t (.one (.lb b))⟩::acc):=by
  intro p hp
  rcases List.mem_cons.1 hp with rfl|hp
  · have:=h q hq
    rw[hf] at this
    exact this
  · exact h p hp
theorem zpH {g:GV} (h:zpI g=true):g=.yes:=by cases g<;>simp[zpI] at h;rfl
theorem zq5 {g:GV} (h:isNo g=true):g=.no:=by cases g<;>simp[isNo] at h;rfl
theorem zgA (hC:CfgOk E.P E.OB c) {need:List Nat} {st0:St} {K:List PF→Prop}:∀(l:List Oper) (ms:List Nat) (kr:List Kill) (i:Nat) (acc:List PF),
    (∀t,l[t]?=ops[i+t]?)→(∀t,ms[t]?=befs[i+t]?)→(∀t,kr[t]?=ks[i+t]?)→zeP c ops need befs ks l ms kr (2 ^ i) acc K→
    zd8 i befs ks acc→(∀j,j<i→zcZ E c.nt ops befs ks acc j)→Init E c.nt st0 acc→
    ∃acc',zd8 (i+l.length) befs ks acc'∧(∀j,j<i+l.length→zcZ E c.nt ops befs ks acc' j)∧Init E c.nt st0 acc'∧K acc'
  | [],ms,kr,i,acc,_,_,_,h,h1,h2,h3=>⟨acc,h1,h2,h3,by simpa [zeP] using h⟩
  | _::_,[],_,i,acc,_,_,_,h,_,_,_=>by simp[zeP] at h
  | _::_,_::_,[],i,acc,_,_,_,h,_,_,_=>by simp[zeP] at h
  | o :: r, m::ms,Ki::kr,i,acc,hl,hms,hkr,h,h1,h2,h3=>by
    have ho:ops[i]?=some o:=by have:=hl 0;simpa using this.symm
    have hm:befs[i]?=some m:=by have:=hms 0;simpa using this.symm
    have hK:ks[i]?=some Ki:=by have:=hkr 0;simpa using this.symm
    have go:∀(acc1:List PF) (add:St),(tagK ks (2 ^ i) (zfH (2 ^ i) m 1 befs) add acc1 fun acc'=>zeP c ops need befs ks r ms kr (2*2 ^ i) acc' K)→zd8 i befs ks acc1→
        (∀j,j<i→zcZ E c.nt ops befs ks acc1 j)→Init E c.nt st0 acc1→(∀acc',(∀p∈acc1,p∈acc')→(∀f,Adds acc' i f→f∈add)→zcZ E c.nt ops befs ks acc' i)→
        ∃acc',zd8 (i+(o::r).length) befs ks acc'∧(∀j,j<i+(o::r).length→zcZ E c.nt ops befs ks acc' j)∧Init E c.nt st0 acc'∧K acc':=by
      intro acc1 add ht k1 k2 k3 k4
      obtain⟨acc',t1,t2,t3,t4⟩:=zj6 ht
      have hsrc:∀p∈acc1,p.src≠2 ^ i:=by
        intro p hp hs
        rcases k1 p hp with ⟨q1,_⟩|⟨l,ml,q0,q1,_⟩
        · have:=Nat.two_pow_pos i;omega
        · have:=zjt (q1.symm.trans hs);omega
      rw[zdz] at t1
      have hlen:i+(o::r).length=i+1+r.length:=by simp;omega
      rw[hlen]
      refine zgA hC r ms kr (i+1) acc' (fun t=>?_) (fun t=>?_) (fun t=>?_) t1 ?_ ?_ ?_
      · have:=hl (t+1);simp only[List.getElem?_cons_succ] at this;rw[this];congr 1;omega
      · have:=hms (t+1);simp only[List.getElem?_cons_succ] at this;rw[this];congr 1;omega
      · have:=hkr (t+1);simp only[List.getElem?_cons_succ] at this;rw[this];congr 1;omega
      · intro p hp
        rcases t4 p hp with h|⟨h5,h6,h7⟩
        · rcases k1 p h with q|⟨l,ml,q0,q1,q2,q3⟩
          · exact .inl q
          · exact .inr ⟨l,ml,by omega,q1,q2,q3⟩
        · refine .inr ⟨i,m,by omega,h5,hm,fun k K' hk hki hmk hkb hs=>?_⟩
          have e1:=zdO ks 0 0 k K' hk hs
          have e2:=ziS (l:=i) (ml:=m) befs 0 k hkb (by omega) (by simpa using hmk)
          simp only[Nat.zero_add,Nat.pow_zero] at e1 e2
          rw[h7,zpG,e1,e2]
          rfl
      · intro j hj
        rcases Nat.lt_or_ge j i with hji|hji
        · refine (k2 j hji).ext t2 fun p hp=>?_
          rcases t4 p hp with h|⟨h5,_,_⟩
          · exact .inl h
          · exact .inr (by rw[h5];intro h;have:=zjt h;omega)
        · have:j=i:=by omega
          subst this
          refine k4 acc' t2 fun f ⟨p,p1,p2,p3⟩=>?_
          rcases t4 p p1 with h|⟨_,h6,_⟩
          · exact absurd p3 (hsrc p h)
          · rw[←p2];exact h6
      · intro a w hR
        refine (k3 a w hR).weaken fun f ⟨p,p1,p2,p3⟩=>?_
        rcases t4 p p1 with h|⟨h5,_,_⟩
        · exact⟨p,h,p2,p3⟩
        · exfalso;have:=Nat.two_pow_pos i;omega
    have run:∀(acc1:List PF),zaA c ops (zbV m (zc4 (2 ^ i) 1 befs) acc1) o=.yes→
        (zcr (zbV m (zc4 (2 ^ i) 1 befs) acc1) fun M=>zkl c need Ki o M fun add=>tagK ks (2 ^ i) (zfH (2 ^ i) m 1 befs) add acc1 fun acc'=>zeP c ops need befs ks r ms kr (2*2 ^ i) acc' K)→
        zd8 i befs ks acc1→(∀j,j<i→zcZ E c.nt ops befs ks acc1 j)→Init E c.nt st0 acc1→
        ∃acc',zd8 (i+(o::r).length) befs ks acc'∧(∀j,j<i+(o::r).length→zcZ E c.nt ops befs ks acc' j)∧Init E c.nt st0 acc'∧K acc':=by
      intro acc1 hg h k1 k2 k3
      rw[zbw] at h
      obtain⟨add,g1,g2⟩:=zkk hC h
      refine go acc1 add g1 k1 k2 k3 fun acc' hsub hadd=>⟨m,Ki,fun f=>f∈zbV m (zc4 (2 ^ i) 1 befs) acc1,hm,hK,fun f hf=>zdL hsub hf,fun F hF a w Q K' hR hK' ro q=>?_⟩
      unfold wpOpIn
      rw[ho]
      have hgs:=zdS (c:=c) (ops:=ops) (hR.weaken hF) (o:=o)
      rw[hg] at hgs
      simp only at hgs ⊢
      rw[if_pos hgs]
      exact g2 F hF a w Q K' hR (fun a' w' hr=>hK' a' w' (hr.weaken fun f hf=>hf.imp (hadd f) id)) ro q
    have skip:∀(acc1:List PF),zaA c ops (zbV m (zc4 (2 ^ i) 1 befs) acc1) o=.no→
        (zj0 c Ki o.dst fun add=>tagK ks (2 ^ i) (zfH (2 ^ i) m 1 befs) add acc1 fun acc'=>zeP c ops need befs ks r ms kr (2*2 ^ i) acc' K)→
        zd8 i befs ks acc1→(∀j,j<i→zcZ E c.nt ops befs ks acc1 j)→Init E c.nt st0 acc1→
        ∃acc',zd8 (i+(o::r).length) befs ks acc'∧(∀j,j<i+(o::r).length→zcZ E c.nt ops befs ks acc' j)∧Init E c.nt st0 acc'∧K acc':=by
      intro acc1 hg h k1 k2 k3
      obtain⟨add,g1,g2⟩:=zjZ (E:=E) h
      refine go acc1 add g1 k1 k2 k3 fun acc' hsub hadd=>⟨m,Ki,fun f=>f∈zbV m (zc4 (2 ^ i) 1 befs) acc1,hm,hK,fun f hf=>zdL hsub hf,fun F hF a w Q K' hR hK' ro q=>?_⟩
      unfold wpOpIn
      rw[ho]
      have hgs:=zdS (c:=c) (ops:=ops) (hR.weaken hF) (o:=o)
      rw[hg] at hgs
      simp only at hgs ⊢
      rw[if_neg (by rw[hgs];simp)]
      refine⟨fun _ _=>trivial,?_⟩
      exact hK' _ _ ((g2 F a w hR).weaken fun f hf=>hf.imp (hadd f) id)
    simp only[zeP,zbN] at h
    split at h
    · rename_i hg
      exact run acc hg h h1 h2 h3
    · rename_i hg
      exact skip acc hg h h1 h2 h3
    · rename_i t g hg
      split at h
      case h_2=>exact h.elim
      case h_1 src kill x hp=>
        have q1:=zgj hp
        have q2:(⟨src,kill,.slot t (.one (.d .bool x))⟩:PF).f=.slot t (.one (.d .bool x)):=rfl
        cases hb:(zpI (zaA c ops (zbV m (zc4 (2 ^ i) 1 befs) (⟨src,kill,.slot t (.one (.lb (zaa o)))⟩::acc)) o)&&isNo (zaA c ops (zbV m (zc4 (2 ^ i) 1 befs) (⟨src,kill,.slot t (.one (.lb (!zaa o)))⟩::acc)) o)) with
        | false=>rw[hb] at h;exact h.elim
        | true=>
          rw[hb] at h
          simp only[cond_true] at h
          rw[Bool.and_eq_true] at hb
          by_cases hx:x=zaa o
          · exact run _ (zpH hb.1) (h.out.1 hx) (zoo q1 q2 h1) (fun j hj=>zon hx q1 q2 (h2 j hj)) (zop hx q1 q2 h3)
          · have hx:x = !zaa o:=by cases x<;>cases hh:zaa o<;>simp_all
            exact skip _ (zq5 hb.2) (h.out.2 hx) (zoo q1 q2 h1) (fun j hj=>zon hx q1 q2 (h2 j hj)) (zop hx q1 q2 h3)
    · exact h.elim
theorem ziC:∀ {os:List Oper} {tbl:List Nat} {K:List Nat→Prop},zpy os tbl K→∃t,K t
  | [],tbl,K,h=>⟨tbl,h⟩
  | o::r,tbl,K,h=>by
    simp only[zpy,zbN,zcK] at h
    exact ziC h
theorem zfb:∀ {os:List Oper} {st:St} {ks:List Kill} {need:List Nat} {K:List Kill→List Nat→Prop},zhH c ops os st ks need K→∃ks need,K ks need
  | [],st,ks,need,K,h=>⟨ks.reverse,need,by simpa only [zhH,ziM] using h⟩
  | o :: r, st,ks,need,K,h=>by
    have run:∀st,(match zb2 (zfw c st o) st with
      | some (_,st1)=>match ze0 c st1 o with
        | some q=>zep q.kill fun k=>zcb (zfw c st o++need) fun need'=>zhH c ops r (after st1 q) (k::ks) need' K
        | none=>False
      | none=>False)→∃ks need,K ks need:=by
      intro st h
      split at h
      · split at h
        · simp only[zep,zcK,zgi] at h
          exact zfb h
        · exact h.elim
      · exact h.elim
    simp only[zhH,zbw] at h
    split at h
    · exact run st h
    · exact zfb h
    · exact run st h
    · exact h.elim
theorem zf9 {f:Fact}:∀ {acc:List PF},f∈zkG acc→∃p∈acc,p.f=f∧p.kill=0
  | ⟨src, kill,f0⟩::r,h=>by
    simp only[zkG] at h
    cases hb:Nat.beq kill 0 with
    | true=>
      rw[hb] at h
      rcases List.mem_cons.1 h with rfl|h
      · exact⟨_,List.mem_cons_self,rfl,Nat.eq_of_beq_eq_true hb⟩
      · obtain⟨q,h1,h2⟩:=zf9 h
        exact⟨q,List.mem_cons_of_mem _ h1,h2⟩
    | false=>
      rw[hb] at h
      obtain⟨q,h1,h2⟩:=zf9 h
      exact⟨q,List.mem_cons_of_mem _ h1,h2⟩
theorem zcR {P : Program} {OB:Nat→Obj→Prop} (hm:P.follows .mixedOrders=true) (hC:CfgOk P OB c):zpa P OB c (par c):=by
  intro E hP hOB id ops st K a w Q h hR hQ ro q
  subst hP hOB
  obtain⟨befs,h⟩:=ziC h
  cases hchk:zgJ befs ops.toList befs 0 with
  | false=>rw[hchk] at h;exact h.elim
  | true =>
    rw[hchk] at h
    obtain⟨ks,need,h⟩:=zfb h
    split at h
    case h_2=>exact h.elim
    case h_1 p st1 hf=>
      obtain⟨hp,h⟩:=OP.andK_out h
      rw[zbw] at h
      obtain⟨acc,h,hacc⟩:=zj7 h
      have hR1:=zaT hf hp hR
      have hk0:zd8 0 befs ks acc:=by
        intro p hp
        obtain⟨h1,h2,h3⟩:=hacc p hp
        refine .inl ⟨h2,fun k K hk hs=>?_⟩
        have:=zdO ks 0 0 k K hk hs
        rw[h3]
        simpa using this
      have hi0:Init E c.nt st1 acc:=fun a w hR=>hR.weaken fun f ⟨p,p1,p2,_⟩=>by rw[←p2];exact (hacc p p1).1
      obtain⟨acc',k1,k2,k3,k4⟩:=zgA (E:=E) (ops:=ops) (st0:=st1) hC ops.toList befs ks 0 acc (by simp) (by simp) (by simp) h hk0 (fun j hj=>by omega) hi0
      simp only[Nat.zero_add,Array.length_toList] at k1 k2
      rw[zbw] at k4
      refine wpIn_region_any hm (zfQ (fun o ho t ht=>zf7.2 ⟨o,ho,ht⟩) _ _ _ _ (zbt.refl _ _) ?_)
      have hR2:Rel E c.nt (fun f=>∃p∈acc',p.f=f∧p.src=0) a w:=k3 a w hR1
      refine zrr hchk k1 (fun i hi=>k2 i hi) (Q:=Q) (fun a' w' hR'=>?_) ops.size (Array.replicate ops.size false) a _ (by simp) ?_ ?_ ?_
      · refine hQ _ a' w' k4 (hR'.weaken fun f hf=>?_)
        obtain⟨p,p1,p2,p3⟩:=zf9 hf
        refine⟨p,p1,p2,?_,fun k _=>by rw[p3];exact Nat.zero_testBit k⟩
        rcases k1 p p1 with ⟨q1,_⟩|⟨l,ml,q0,q1,_⟩
        · exact .inl q1
        · exact .inr ⟨l,q1,q0⟩
      · have:∀n (L:Array Bool),un L n≤n:=by
          intro n L
          induction n with
          | zero=>exact Nat.le_refl 0
          | succ n ih=>simp only[un];split<;>omega
        exact this _ _
      · intro i m hi
        simp at hi
        have hz:((Array.replicate ops.size false)[i]?.getD false)=false:=by
          by_cases h:i<ops.size<;>simp[h]
        simp_all
      · obtain ⟨η,g,H⟩:=hR2
        refine⟨η,⟨g.size,g.lim,g.defers,g.os,g.tape,g.output,g.grow,g.keep,g.own,g.dis,g.inj,g.old,g.obkeep,g.nd⟩,fun f ⟨p,p1,p2,p3,p4⟩=>?_⟩
        have hs:p.src=0:=by
          rcases p3 with p3|⟨l,_,p5⟩
          · exact p3
          · exfalso
            have hz:(Array.replicate ops.size false).getD l false=false:=by
              by_cases h:l<ops.size<;>simp[Array.getD,h]
            rw[hz] at p5
            cases p5
        exact H f ⟨p,p1,p2,hs⟩
end
end Go.Eng
set_option linter.all false
set_option maxRecDepth 100000
namespace Go.Eng
section
variable {c:Cfg}
end
end Go.Eng
set_option linter.all false
namespace Go.Eng
def SH:Nat:=10000000
def up (k:Nat):Nat:=k+SH
/-! ### Soundness -/
section
variable {V V':View} {η η':Eta} {f:Nat→Nat} {h:Nat→Bool}
end
set_option linter.all false
mutual
def brOf (tt:TT):Nat→Nat→Option Ty
  | 0,_=>none
  | n + 1, t=>match tt.get t with
    | some i=>match i.kind with
      | .int .i64=>some (.int .i64)
      | .bool=>some .bool
      | .str=>some .str
      | .slice e=>match tt.get e with
        | some ei=>bif Nat.ble 1 ei.size then (match brOf tt n e with
          | some a=>bif Nat.beq a.size ei.size then some (.sl a) else none
          | none=>none) else none
        | none=>none
      | .struct fs=>zgr tt n fs
      | .flt k=>some (.flt k)
      | .array k e=>match tt.get e with
        | some ei=>match brOf tt n e with
          | some a=>bif Nat.beq a.size ei.size then some (zbP (List.replicate k a)) else none
          | none=>none
        | none=>none
      | _=>none
    | none=>none
def zgr (tt:TT):Nat→List (Nat×Nat)→Option Ty
  | 0,_=>none
  | _,[]=>some .nil
  | n + 1,f::r=>match brOf tt n f.1 with
    | some a=>match zgr tt n r with
      | some b=>match tt.get f.1 with
        | some i=>bif Nat.beq a.size i.size then some (.cons a b) else none
        | none=>none
      | none=>none
    | none=>none
end
def Ty.fits:(t:Ty)→t.Den→Prop
  | .int _,(x:Int)=>-9223372036854775808≤x∧x≤9223372036854775807
  | .sl e,(xs:List e.Den)=>∀x∈xs,e.fits x
  | .cons a b,x=>a.fits x.1∧b.fits x.2
  | _,_=>True
abbrev zpd (w:World):View:=fun b c=>∃el f,w.heap[b]?=some (.cells c el f)
section
variable {H:Type} {enc:TypeId×Value→H} {P:Program} {w:World} {base:Nat} {spare:Nat→Bool} {held:Bool}
theorem ziX {a:Addr} {n:Nat} (hn:1≤n) {cs:List Value} (h:w.cells? base a n=some cs) :
    a.spot=none∧cs.length=n∧∃c el f,w.heap[a.block]?=some (.cells c el f)∧a.off+n≤c.size∧cs=(c.toList.drop a.off).take n:=by
  unfold World.cells? at h
  split at h
  case isFalse=>cases h
  case isTrue=>
    have hlen:=mapM_some_length h
    simp only[List.length_range] at hlen
    have each:∀i,i<n→w.cell? (a.add i)=cs[i]?:=fun i hi=>mapM_some_get h i i (by simp[hi])
    have h0:=each 0 (by omega)
    have e0:a.add 0=a:=by simp[Addr.add]
    rw[e0,List.getElem?_eq_getElem (by omega)] at h0
    unfold World.cell? at h0
    split at h0
    case h_2=>cases h0
    case h_1 c el f hb=>
      have hsp:a.spot=none:=by
        cases hs:a.spot with
        | none=>rfl
        | some s=>rw[hs] at h0;simp at h0
      have hc:∀i,i<n→c[a.off+i]?=cs[i]?:=by
        intro i hi
        have:=each i hi
        obtain⟨b,off,sp⟩:=a
        simp only at hsp hb
        subst hsp
        rw[zaC,zbe hb] at this
        exact this
      have hsz:a.off+n≤c.size:=by
        have:=hc (n - 1) (by omega)
        rw[List.getElem?_eq_getElem (by omega)] at this
        have:=(Array.getElem?_eq_some_iff.1 this).1
        omega
      refine⟨hsp,hlen,c,el,f,hb,hsz,?_⟩
      apply List.ext_getElem?
      intro i
      by_cases hi:i<n
      · rw[List.getElem?_take,if_pos hi,List.getElem?_drop,←hc i hi,Array.getElem?_toList]
      · rw[List.getElem?_eq_none (by omega),List.getElem?_eq_none (by simp;omega)]
theorem zdv {tt:TT} (hT:TblOk P tt) {t:Nat} {i:TInfo} (h:tt.get t=some i):P.cellsOf t=i.size:=by
  obtain⟨ti,h1,h2,_⟩:=(hT.rows t i h).info
  simp[Program.cellsOf,h1,h2]
theorem ziZ {tt:TT}:∀(n:Nat) (fs:List (Nat×Nat)) (ty:Ty) (off m:Nat),zgr tt n fs=some ty→zbg tt off fs m=true→off+ty.size=m∧ty.agg=true
  | 0,fs,ty,off,m,h,_=>by simp[zgr] at h
  | n+1,[],ty,off,m,h,hf=>by
    simp only[zgr,Option.some.injEq] at h
    subst h
    simp only[zbg] at hf
    exact⟨Nat.eq_of_beq_eq_true hf,rfl⟩
  | n + 1, f :: r,ty,off,m,h,hf=>by
    simp only[zgr] at h
    cases ha:brOf tt n f.1 with
    | none=>rw[ha] at h;cases h
    | some a =>
      rw[ha] at h
      simp only at h
      cases hb:zgr tt n r with
      | none=>rw[hb] at h;cases h
      | some b=>
        rw[hb] at h
        simp only at h
        cases hg:tt.get f.1 with
        | none=>rw[hg] at h;cases h
        | some i=>
          rw[hg] at h
          simp only at h
          cases hz:Nat.beq a.size i.size with
          | false=>rw[hz] at h;simp at h
          | true=>
            rw[hz] at h
            simp only[cond_true,Option.some.injEq] at h
            subst h
            have hz':=Nat.eq_of_beq_eq_true hz
            simp only[zbg,hg,Bool.and_eq_true] at hf
            have:=(ziZ n r b _ m hb hf.2).1
            exact⟨by simp only[Ty.size];omega,rfl⟩
theorem zhE {α:Type} {p:Nat→α→Prop}:∀n:Nat,(∀i,i<n→∃x,p i x)→∃xs:List α,xs.length=n∧∀i x,xs[i]?=some x→p i x
  | 0,_=>⟨[],rfl,fun i x h=>by simp at h⟩
  | n + 1,h=>by
    obtain⟨xs,h1,h2⟩:=zhE n (fun i hi=>h i (by omega))
    obtain⟨x,hx⟩:=h n (by omega)
    refine⟨xs++[x],by simp[h1],fun i y hy=>?_⟩
    by_cases hi:i<n
    · rw[List.getElem?_append_left (by omega)] at hy;exact h2 i y hy
    · rw [List.getElem?_append_right (by omega)] at hy
      have:i - xs.length=0:=by
        have:=(List.getElem?_eq_some_iff.1 hy).1
        simp at this;omega
      rw[this] at hy
      simp at hy
      subst hy
      have:i=n:=by omega
      subst this
      exact hx
theorem zni (a:Ty):∀n,(zbP (List.replicate n a)).agg=true
  | 0=>rfl
  | _+1=>rfl
theorem zph {t:TypeId} {fuel:Nat} {cs:List Value} {x:DataW H×List MemPlace} {k:FloatKind} (ht:P.underlying t=some (.float k)) (h:DataW.trod enc P w base spare held fuel t cs=some x):∃n,cs=[.float k n]:=by
  cases fuel with
  | zero=>simp[DataW.trod] at h
  | succ n=>
    unfold DataW.trod at h
    rw[ht] at h
    split at h<;>simp_all
theorem zpg {tt : TT} (hT : TblOk P tt):∀(fuel m t:Nat) (ty:Ty) (cs:List Value) (z:DataW H×List MemPlace),brOf tt m t=some ty→DataW.trod enc P w base spare held fuel t cs=some z→
    ∃x:ty.Den,Rep (zpd w) ty x cs∧ty.fits x:=by
  intro fuel
  induction fuel using Nat.strongRecOn with
  | _ fuel ih =>
    intro m t ty cs z hb hz
    cases m with
    | zero=>simp[brOf] at hb
    | succ m =>
      simp only[brOf] at hb
      cases hg:tt.get t with
      | none=>rw[hg] at hb;cases hb
      | some i =>
        rw[hg] at hb
        have hI:=hT.rows t i hg
        have hd:=hI.desc
        simp only at hb
        cases hk:i.kind with
        | int k=>
          rw[hk] at hb hd
          simp only at hd
          cases k<;>simp only[Option.some.injEq] at hb<;>first|(cases hb;done)|subst hb
          obtain⟨n,rfl,_,hw⟩:=DataW.trod_int hd hz
          refine⟨n,rfl,?_⟩
          simp only[Lit.wf,Bool.and_eq_true,decide_eq_true_eq] at hw
          exact hw
        | bool=>
          rw[hk] at hb hd
          simp only[Option.some.injEq] at hb hd
          subst hb
          obtain⟨b,rfl,_⟩:=DataW.trod_bool hd hz
          exact⟨b,rfl,trivial⟩
        | str=>
          rw[hk] at hb hd
          simp only[Option.some.injEq] at hb hd
          subst hb
          obtain⟨s,rfl,_⟩:=DataW.trod_string hd hz
          exact⟨s,rfl,trivial⟩
        | flt k=>
          rw[hk] at hb hd
          simp only[Option.some.injEq] at hb hd
          subst hb
          obtain⟨b,rfl⟩:=zph hd hz
          exact⟨b,rfl,trivial⟩
        | cpx k=>rw[hk] at hb;cases hb
        | array len e=>
          rw[hk] at hb hd
          simp only at hb hd
          cases hge:tt.get e with
          | none=>rw[hge] at hb;cases hb
          | some ei =>
            rw[hge] at hb
            simp only at hb
            cases ha:brOf tt m e with
            | none=>rw[ha] at hb;cases hb
            | some a =>
              rw[ha] at hb
              simp only at hb
              cases h2:Nat.beq a.size ei.size with
              | false=>rw[h2] at hb;simp at hb
              | true =>
                rw[h2] at hb
                simp only[cond_true,Option.some.injEq] at hb
                subst hb
                have h2:=Nat.eq_of_beq_eq_true h2
                obtain⟨xs,n,hf,_,hl,hxl,each⟩:=DataW.trod_array hd hz
                have hc:=zdv hT hge
                have hci:=zdv hT hg
                have hrow:=hT.row hg
                simp only[zea,hk,hge] at hrow
                have hrow:=Nat.eq_of_beq_eq_true hrow
                have go:∀(r off:Nat),off+r=len→∃x:(zbP (List.replicate r a)).Den,Rep (zpd w) (zbP (List.replicate r a)) x (cs.drop (off*ei.size))∧(zbP (List.replicate r a)).fits x:=by
                  intro r
                  induction r with
                  | zero=>
                    intro off ho
                    refine⟨(),List.drop_of_length_le ?_,trivial⟩
                    rw[hl,hci,hrow,show off=len by omega]
                    exact Nat.le_refl _
                  | succ r ihr=>
                    intro off ho
                    have hlt:off<xs.length:=by omega
                    have hread:=each off (by omega)
                    rw[hc,List.getElem?_eq_getElem hlt] at hread
                    obtain⟨x,hx,hfx⟩:=ih n (by omega) m e a _ _ ha hread
                    obtain⟨y,hy,hfy⟩:=ihr (off+1) (by omega)
                    refine⟨(x,y),⟨_,_,?_,hx,hy⟩,hfx,hfy⟩
                    rw[Nat.add_mul,Nat.one_mul,←List.drop_drop]
                    exact (List.take_append_drop _ _).symm
                obtain⟨x,hx,hfx⟩:=go len 0 (by omega)
                exact⟨x,by simpa using hx,hfx⟩
        | ptr e=>rw[hk] at hb;cases hb
        | other=>rw[hk] at hb;cases hb
        | iface=>rw[hk] at hb;cases hb
        | slice e =>
          rw[hk] at hb hd
          simp only at hb hd
          cases hge:tt.get e with
          | none=>rw[hge] at hb;cases hb
          | some ei =>
            rw[hge] at hb
            simp only at hb
            cases h1:Nat.ble 1 ei.size with
            | false=>rw[h1] at hb;simp at hb
            | true =>
              rw[h1] at hb
              simp only[cond_true] at hb
              cases ha:brOf tt m e with
              | none=>rw[ha] at hb;cases hb
              | some a =>
                rw[ha] at hb
                simp only at hb
                cases h2:Nat.beq a.size ei.size with
                | false=>rw[h2] at hb;simp at hb
                | true =>
                  rw[h2] at hb
                  simp only[cond_true,Option.some.injEq] at hb
                  subst hb
                  have h1:=Nat.le_of_ble_eq_true h1
                  have h2:=Nat.eq_of_beq_eq_true h2
                  have hc:=zdv hT hge
                  rw[←h2] at hc h1
                  rcases DataW.trod_slice hd hz with ⟨rfl,_⟩|⟨ad,len,cap,zlK,rest,n,hf,rfl,_,_,hlc,hcm,hel,each,_,_⟩
                  · exact⟨[],zlt a,(fun x hx=>by cases hx)⟩
                  · have one:∀j,j<len→∃x:a.Den,(ad.spot=none∧∃c el f,w.heap[ad.block]?=some (.cells c el f)∧ad.off+j*a.size+a.size≤c.size∧
                        Rep (zpd w) a x ((c.toList.drop (ad.off+j*a.size)).take a.size))∧a.fits x:=by
                      intro j hj
                      have h3:=each j hj
                      rw[hc,List.getElem?_eq_getElem (by omega)] at h3
                      obtain⟨cj,h4,h5⟩:=Option.bind_eq_some_iff.1 h3
                      obtain⟨s1,s2,c,el,f,s3,s4,s5⟩:=ziX h1 h4
                      obtain⟨x,hx,hfx⟩:=ih n (by omega) m e a cj _ ha h5
                      obtain⟨b,off,sp⟩:=ad
                      have hsp:sp=none:=by
                        have h6:=each 0 (by omega)
                        rw[hc,List.getElem?_eq_getElem (by omega)] at h6
                        obtain⟨c0,h7,_⟩:=Option.bind_eq_some_iff.1 h6
                        have:=(ziX h1 h7).1
                        simpa [Addr.add] using this
                      subst hsp
                      rw[zaC] at s3 s4 s5
                      exact⟨x,⟨rfl,c,el,f,s3,s4,by rw[←s5];exact hx⟩,hfx⟩
                    obtain⟨xs,l1,l2⟩:=zhE len one
                    refine⟨xs,⟨some ad,cap,?_,?_,hcm,(fun h=>by cases h),fun ad' had hne=>?_⟩,fun x hx=>?_⟩
                    · rw[←l1]
                    · exact l1▸hlc
                    · cases had
                      have hpos:0<len:=by
                        rw[←l1]
                        exact List.length_pos_iff.2 hne
                      have hlast:=l2 (len - 1) _ (List.getElem?_eq_getElem (by omega))
                      obtain⟨⟨s1,c,el,f,s3,s4,s5⟩,_⟩:=hlast
                      refine⟨s1,c,⟨el,f,s3⟩,?_,fun j x hx=>?_⟩
                      · change ad.off+xs.length*a.size≤c.size
                        rw[l1]
                        have:len*a.size=(len - 1)*a.size+a.size:=by
                          rw[←Nat.succ_mul];congr 1;omega
                        omega
                      · obtain⟨⟨_,c',el',f',s6,_,s7⟩,_⟩:=l2 j x hx
                        rw[s3] at s6
                        simp only[Option.some.injEq,Obj.cells.injEq] at s6
                        obtain⟨rfl,_,_⟩:=s6
                        exact s7
                    · obtain⟨j,hj,rfl⟩:=List.mem_iff_getElem.1 hx
                      exact (l2 j _ (List.getElem?_eq_getElem hj)).2
        | struct fs =>
          rw[hk] at hb hd
          simp only at hb hd
          obtain⟨fa,hd,hfs⟩:=hd
          obtain⟨xs,n,hf,_,hl,hxl,each⟩:=DataW.trod_struct hd hz
          have hrow:=hT.row hg
          simp only[zea,hk] at hrow
          have hci:=zdv hT hg
          -- the fields, from a place on
          have go : ∀ (gs : List (Nat×Nat)) (k off m':Nat) (ty:Ty),fs.drop k=gs→zgr tt m' gs=some ty→zbg tt off gs i.size=true→
              ∃x:ty.Den,Rep (zpd w) ty x (cs.drop off)∧ty.fits x:=by
            intro gs
            induction gs with
            | nil=>
              intro k off m' ty _ h1 h2
              cases m' with
              | zero=>simp[zgr] at h1
              | succ m'=>
                simp only[zgr,Option.some.injEq] at h1
                subst h1
                simp only[zbg] at h2
                have h2:=Nat.eq_of_beq_eq_true h2
                exact⟨(),List.drop_of_length_le (by omega),trivial⟩
            | cons g r ihg =>
              intro k off m' ty hgs h1 h2
              cases m' with
              | zero=>simp[zgr] at h1
              | succ m' =>
                simp only[zgr] at h1
                cases ha:brOf tt m' g.1 with
                | none=>rw[ha] at h1;cases h1
                | some a =>
                  rw[ha] at h1
                  simp only at h1
                  cases hb2:zgr tt m' r with
                  | none=>rw[hb2] at h1;cases h1
                  | some b =>
                    rw[hb2] at h1
                    simp only at h1
                    cases hgg:tt.get g.1 with
                    | none=>rw[hgg] at h1;cases h1
                    | some gi=>
                      rw[hgg] at h1
                      simp only at h1
                      cases hz2:Nat.beq a.size gi.size with
                      | false=>rw[hz2] at h1;simp at h1
                      | true=>
                        rw[hz2] at h1
                        simp only[cond_true,Option.some.injEq] at h1
                        subst h1
                        have hz2:=Nat.eq_of_beq_eq_true hz2
                        simp only[zbg,hgg,Bool.and_eq_true] at h2
                        obtain⟨h3,h4⟩:=h2
                        have h3:=Nat.eq_of_beq_eq_true h3
                        have hget:fs[k]?=some g:=by
                          have:=congrArg (fun l:List (Nat×Nat)=>l[0]?) hgs
                          simpa using this
                        rw[←hfs] at hget
                        simp only[List.getElem?_map,Option.map_eq_some_iff,Array.getElem?_toList] at hget
                        obtain⟨fl,hfl,hfg⟩:=hget
                        have e1:fl.type=g.1:=congrArg Prod.fst hfg
                        have e2:fl.offset=g.2:=congrArg Prod.snd hfg
                        have hread:=each k fl hfl
                        have hlt:k<xs.length:=by rw[hxl];exact (Array.getElem?_eq_some_iff.1 hfl).1
                        rw[e1,e2,h3,zdv hT hgg,List.getElem?_eq_getElem hlt] at hread
                        obtain⟨x,hx,hfx⟩:=ih n (by omega) m' g.1 a _ _ ha hread
                        obtain⟨y,hy,hfy⟩:=ihg (k+1) (off+gi.size) m' b (by rw[←List.drop_drop,hgs];rfl) hb2 h4
                        refine⟨(x,y),⟨_,_,?_,hx,hy⟩,hfx,hfy⟩
                        rw[←List.drop_drop]
                        exact (List.take_append_drop _ _).symm
          obtain⟨x,hx,hfx⟩:=go fs 0 0 m ty (by simp) hb hrow
          exact⟨x,by simpa using hx,hfx⟩
end
theorem zqK {P : Program} {w:World} {tt:TT} (hT:TblOk P tt) {base m t:Nat} {ty:Ty} {v:Value} {r:Reach} {V:View} {x:ty.Den} (hb:brOf tt m t=some ty) (hv:Value.okWide P w r base t v) (hx:Rep V ty x v.cells.toList):RepV V ty x v:=by
  cases m with
  | zero=>simp[brOf] at hb
  | succ m =>
    simp only[brOf] at hb
    cases hg:tt.get t with
    | none=>rw[hg] at hb;cases hb
    | some i =>
      rw[hg] at hb
      have hd:=(hT.rows t i hg).desc
      simp only at hb
      have oneC:ty.agg=false→v.oneCell'=true→RepV V ty x v:=fun h1 h2=>by
        refine RepV.mk1 h1 ?_
        cases v<;>first|(simp[Value.oneCell'] at h2;done)|simpa [Value.cells] using hx
      cases hk:i.kind with
      | int k=>
        rw[hk] at hb hd
        simp only at hd
        cases k<;>simp only[Option.some.injEq] at hb<;>first|(cases hb;done)|subst hb
        refine oneC rfl ?_
        simp only[Value.okWide,hd,Cell.okWide,Cell.ok] at hv
        split at hv<;>first|rfl|exact hv.elim|(cases hv;done)|simp_all [Value.oneCell']
      | bool=>
        rw[hk] at hb hd
        simp only[Option.some.injEq] at hb hd
        subst hb
        refine oneC rfl ?_
        simp only[Value.okWide,hd,Cell.okWide,Cell.ok] at hv
        split at hv<;>first|rfl|exact hv.elim|(cases hv;done)|simp_all [Value.oneCell']
      | str=>
        rw[hk] at hb hd
        simp only[Option.some.injEq] at hb hd
        subst hb
        refine oneC rfl ?_
        simp only[Value.okWide,hd,Cell.okWide,Cell.ok] at hv
        split at hv<;>first|rfl|exact hv.elim|(cases hv;done)|simp_all [Value.oneCell']
      | flt k=>
        rw[hk] at hb hd
        simp only[Option.some.injEq] at hb hd
        subst hb
        refine oneC rfl ?_
        simp only[Value.okWide,hd,Cell.okWide,Cell.ok] at hv
        split at hv<;>first|rfl|exact hv.elim|(cases hv;done)|simp_all [Value.oneCell']
      | cpx k=>rw[hk] at hb;cases hb
      | array len e=>
        rw[hk] at hb hd
        simp only at hb hd
        cases hge:tt.get e with
        | none=>rw[hge] at hb;cases hb
        | some ei=>
          rw[hge] at hb
          simp only at hb
          cases ha:brOf tt m e with
          | none=>rw[ha] at hb;cases hb
          | some a=>
            rw[ha] at hb
            simp only at hb
            cases h2:Nat.beq a.size ei.size with
            | false=>rw[h2] at hb;simp at hb
            | true=>
              rw[h2] at hb
              simp only[cond_true,Option.some.injEq] at hb
              subst hb
              simp only[Value.okWide,hd] at hv
              obtain⟨cs,rfl,_,_⟩:=hv
              exact⟨cs.toList,by simpa [Value.cells] using hx,.inl ⟨zni _ _,by simp⟩⟩
      | ptr e=>rw[hk] at hb;cases hb
      | other=>rw[hk] at hb;cases hb
      | iface=>rw[hk] at hb;cases hb
      | slice e =>
        rw[hk] at hb hd
        simp only at hb hd
        have hag : ty.agg=false:=by
          cases hge:tt.get e with
          | none=>rw[hge] at hb;cases hb
          | some ei=>
            rw[hge] at hb
            simp only at hb
            cases h1:Nat.ble 1 ei.size with
            | false=>rw[h1] at hb;simp at hb
            | true =>
              rw[h1] at hb
              simp only[cond_true] at hb
              cases ha:brOf tt m e with
              | none=>rw[ha] at hb;cases hb
              | some a=>
                rw[ha] at hb
                simp only at hb
                cases h2:Nat.beq a.size ei.size with
                | false=>rw[h2] at hb;simp at hb
                | true=>
                  rw[h2] at hb
                  simp only[cond_true,Option.some.injEq] at hb
                  subst hb;rfl
        refine oneC hag ?_
        simp only[Value.okWide,hd,Cell.okWide,Cell.ok] at hv
        split at hv<;>first|rfl|exact hv.elim|(cases hv;done)|simp_all [Value.oneCell']
      | struct fs=>
        rw[hk] at hb hd
        simp only at hb hd
        obtain⟨fa,hd,_⟩:=hd
        have hrow:=hT.row hg
        simp only[zea,hk] at hrow
        have hag:=(ziZ m fs ty 0 i.size hb hrow).2
        simp only[Value.okWide,hd] at hv
        obtain⟨cs,rfl,_,_⟩:=hv
        exact⟨cs.toList,by simpa [Value.cells] using hx,.inl ⟨hag,by simp⟩⟩
def datP:List Ty→List Pat
  | []=>[]
  | t::r=>.dat t::datP r
def zlJ:(tys:List Ty)→(zac (datP tys)).Den→Prop
  | [],_=>True
  | t::r,x=>t.fits x.1∧zlJ r x.2
def zp0 (tt:TT):List TypeId→List Ty→Prop
  | [],[]=>True
  | t::r,ty::s=>brOf tt 20 t=some ty∧zp0 tt r s
  | _,_=>False
theorem zo3 {H:Type} {enc:TypeId×Value→H} {P:Program} {W:World} {OB:Nat→Obj→Prop} {tt:TT} (hT:TblOk P tt) {base:Nat}:∀ {ts:List TypeId} {tys:List Ty} {vs:List Value} {ds:List (DataW H)} {ps:List MemPlace},zp0 tt ts tys→
    DataW.TrodAll enc P W 0 (fun _=>true) true ts vs ds ps→(∀(j:Nat) t v,ts[j]?=some t→vs[j]?=some v→Value.okWide P W .any base t v)→
    ∃x:(zac (datP tys)).Den,zdy OB W (fun _=>False) (datP tys) x vs []∧zlJ tys x
  | [],[],[],[],ps,_,_,_=>⟨(),⟨rfl,rfl⟩,trivial⟩
  | t::ts,ty::tys,v::vs,d::ds,ps,hb,h,hv=>by
    obtain⟨p,q,⟨fuel,h1⟩,h2,_⟩:=h
    obtain⟨x,hx,hf⟩:=zpg hT fuel 20 t ty _ _ hb.1 h1
    obtain⟨y,hy,hg⟩:=zo3 hT hb.2 h2 (fun j t' v' h3 h4=>hv (j+1) t' v' (by simpa using h3) (by simpa using h4))
    have hr:=zqK hT hb.1 (hv 0 t v rfl rfl) hx
    exact⟨(x,y),⟨v,vs,rfl,hr.mono (fun b c h=>⟨fun h=>h,h⟩),hy⟩,hf,hg⟩
end Go.Eng
namespace Go.Eng.Lp
open Go.Eng Go.Proofs
def zo9 (P:Program):TT→Prop
  | []=>True
  | (t,i)::r=>TIOk P t i∧zo9 P r
theorem zit {P:Program}:∀ {tt:TT} {t:Nat} {i:TInfo},zo9 P tt→tt.get t=some i→TIOk P t i
  | [],_,_,_,h=>by simp[TT.get] at h
  | (t',i')::r,t,i,hr,h=>by
    simp only[TT.get] at h
    cases hb:Nat.beq t' t with
    | true=>
      rw[hb] at h
      have:=Nat.eq_of_beq_eq_true hb
      subst this
      simp only[cond_true,Option.some.injEq] at h
      subst h
      exact hr.1
    | false=>rw[hb] at h;exact zit hr.2 h
def i3:TInfo:={kind:=.int .i64,size:=1,bytes:=8,zero:=.int .i64 0}
theorem row3:TIOk Try.prog 3 i3:=⟨Try.underlying3,⟨Try.t3,by kernel_rfl,by kernel_rfl,by kernel_rfl,by kernel_rfl⟩,rfl⟩
def i4:TInfo:={kind:=.bool,size:=1,bytes:=1,zero:=.bool false}
theorem row4:TIOk Try.prog 4 i4:=⟨Try.underlying4,⟨Try.t4,by kernel_rfl,by kernel_rfl,by kernel_rfl,by kernel_rfl⟩,rfl⟩
def i25:TInfo:={kind:=.struct [(3,0),(3,1),(3,2)],size:=3,bytes:=24,zero:=.agg #[.int .i64 0,.int .i64 0,.int .i64 0]}
theorem zlp:TIOk Try.prog 25 i25:=⟨⟨_,Try.underlying25,rfl⟩,⟨Try.t25,by kernel_rfl,by kernel_rfl,by kernel_rfl,by kernel_rfl⟩,rfl⟩
def i28:TInfo:={kind:=.slice 112,size:=1,bytes:=24,zero:=.slice none 0 0}
theorem zsX:TIOk Try.prog 28 i28:=⟨Try.underlying28,⟨Try.t28,by kernel_rfl,by kernel_rfl,by kernel_rfl,by kernel_rfl⟩,rfl⟩
def i31:TInfo:={kind:=.slice 3,size:=1,bytes:=24,zero:=.slice none 0 0}
theorem znZ:TIOk Try.prog 31 i31:=⟨Try.underlying31,⟨Try.t31,by kernel_rfl,by kernel_rfl,by kernel_rfl,by kernel_rfl⟩,rfl⟩
def i33:TInfo:={kind:=.struct [(31,0),(3,1)],size:=2,bytes:=32,zero:=.agg #[.slice none 0 0,.int .i64 0]}
theorem zsW:TIOk Try.prog 33 i33:=⟨⟨_,Try.underlying33,rfl⟩,⟨Try.t33,by kernel_rfl,by kernel_rfl,by kernel_rfl,by kernel_rfl⟩,rfl⟩
def i35:TInfo:={kind:=.struct [(3,0),(3,1)],size:=2,bytes:=16,zero:=.agg #[.int .i64 0,.int .i64 0]}
theorem zsV:TIOk Try.prog 35 i35:=⟨⟨_,Try.underlying35,rfl⟩,⟨Try.t35,by kernel_rfl,by kernel_rfl,by kernel_rfl,by kernel_rfl⟩,rfl⟩
def i37:TInfo:={kind:=.int .i64,size:=1,bytes:=8,zero:=.int .i64 0}
theorem zsU:TIOk Try.prog 37 i37:=⟨Try.underlying37,⟨Try.t37,by kernel_rfl,by kernel_rfl,by kernel_rfl,by kernel_rfl⟩,rfl⟩
def i60:TInfo:={kind:=.slice 31,size:=1,bytes:=24,zero:=.slice none 0 0}
theorem zrS:TIOk Try.prog 60 i60:=⟨Try.underlying60,⟨Try.t60,by kernel_rfl,by kernel_rfl,by kernel_rfl,by kernel_rfl⟩,rfl⟩
def i62:TInfo:={kind:=.struct [(60,0)],size:=1,bytes:=24,zero:=.agg #[.slice none 0 0]}
theorem zkh:TIOk Try.prog 62 i62:=⟨⟨_,Try.underlying62,rfl⟩,⟨Try.t62,by kernel_rfl,by kernel_rfl,by kernel_rfl,by kernel_rfl⟩,rfl⟩
def i75:TInfo:={kind:=.slice 76,size:=1,bytes:=24,zero:=.slice none 0 0}
theorem zsT:TIOk Try.prog 75 i75:=⟨Try.underlying75,⟨Try.t75,by kernel_rfl,by kernel_rfl,by kernel_rfl,by kernel_rfl⟩,rfl⟩
def i76:TInfo:={kind:=.slice 33,size:=1,bytes:=24,zero:=.slice none 0 0}
theorem zsS:TIOk Try.prog 76 i76:=⟨Try.underlying76,⟨Try.t76,by kernel_rfl,by kernel_rfl,by kernel_rfl,by kernel_rfl⟩,rfl⟩
def i91:TInfo:={kind:=.slice 35,size:=1,bytes:=24,zero:=.slice none 0 0}
theorem zsR:TIOk Try.prog 91 i91:=⟨Try.underlying91,⟨Try.t91,by kernel_rfl,by kernel_rfl,by kernel_rfl,by kernel_rfl⟩,rfl⟩
def i99:TInfo:={kind:=.struct [(3,0),(91,1),(35,2)],size:=4,bytes:=48,zero:=.agg #[.int .i64 0,.slice none 0 0,.int .i64 0,.int .i64 0]}
theorem zsQ:TIOk Try.prog 99 i99:=⟨⟨_,Try.underlying99,rfl⟩,⟨Try.t99,by kernel_rfl,by kernel_rfl,by kernel_rfl,by kernel_rfl⟩,rfl⟩
def i110:TInfo:={kind:=.struct [(3,0),(3,1)],size:=2,bytes:=16,zero:=.agg #[.int .i64 0,.int .i64 0]}
theorem zr0:TIOk Try.prog 110 i110:=⟨⟨_,Try.underlying110,rfl⟩,⟨Try.t110,by kernel_rfl,by kernel_rfl,by kernel_rfl,by kernel_rfl⟩,rfl⟩
def i112:TInfo:={kind:=.array 2 3,size:=2,bytes:=16,zero:=.agg #[.int .i64 0,.int .i64 0]}
theorem zrZ:TIOk Try.prog 112 i112:=⟨Try.underlying112,⟨Try.t112,by kernel_rfl,by kernel_rfl,by kernel_rfl,by kernel_rfl⟩,rfl⟩
def i117:TInfo:={kind:=.ptr 121,size:=1,bytes:=8,zero:=.pointer none}
theorem zrY:TIOk Try.prog 117 i117:=⟨Try.underlying117,⟨Try.t117,by kernel_rfl,by kernel_rfl,by kernel_rfl,by kernel_rfl⟩,rfl⟩
def i125:TInfo:={kind:=.slice 31,size:=1,bytes:=24,zero:=.slice none 0 0}
theorem zrX:TIOk Try.prog 125 i125:=⟨Try.underlying125,⟨Try.t125,by kernel_rfl,by kernel_rfl,by kernel_rfl,by kernel_rfl⟩,rfl⟩
def i138:TInfo:={kind:=.struct [(91,0),(91,1)],size:=2,bytes:=48,zero:=.agg #[.slice none 0 0,.slice none 0 0]}
theorem zrW:TIOk Try.prog 138 i138:=⟨⟨_,Try.underlying138,rfl⟩,⟨Try.t138,by kernel_rfl,by kernel_rfl,by kernel_rfl,by kernel_rfl⟩,rfl⟩
def i146:TInfo:={kind:=.slice 37,size:=1,bytes:=24,zero:=.slice none 0 0}
theorem zrV:TIOk Try.prog 146 i146:=⟨Try.underlying146,⟨Try.t146,by kernel_rfl,by kernel_rfl,by kernel_rfl,by kernel_rfl⟩,rfl⟩
def i149:TInfo:={kind:=.ptr 151,size:=1,bytes:=8,zero:=.pointer none}
theorem zrU:TIOk Try.prog 149 i149:=⟨Try.underlying149,⟨Try.t149,by kernel_rfl,by kernel_rfl,by kernel_rfl,by kernel_rfl⟩,rfl⟩
def i155:TInfo:={kind:=.flt .f64,size:=1,bytes:=8,zero:=.float .f64 0}
theorem zrT:TIOk Try.prog 155 i155:=⟨Try.underlying155,⟨Try.t155,by kernel_rfl,by kernel_rfl,by kernel_rfl,by kernel_rfl⟩,rfl⟩
def tt:TT:=[(3,i3),(4,i4),(25,i25),(28,i28),(31,i31),(33,i33),(35,i35),(37,i37),(60,i60),(62,i62),(75,i75),(76,i76),(91,i91),(99,i99),(110,i110),(112,i112),(117,i117),(125,i125),(138,i138),(146,i146),(149,i149),(155,i155)]
theorem rows:zo9 Try.prog tt:=⟨row3,row4,zlp,zsX,znZ,zsW,zsV,zsU,zrS,zkh,zsT,zsS,zsR,zsQ,zr0,zrZ,zrY,zrX,zrW,zrV,zrU,zrT,trivial⟩
theorem tbl:TblOk Try.prog tt:=⟨fun _ _ h=>zit rows h,by kernel_rfl⟩
abbrev I64:Ty:=.int .i64
abbrev Ball:Ty:=.cons I64 (.cons I64 (.cons I64 .nil))
abbrev ArcT:Ty:=.cons I64 (.cons I64 .nil)
theorem zhN (w:World) (d:Nat) (xs ys:Array Value) (nm tag pk:String) (off bo:Nat) (e:Bool) (r:List Field) {x y:Int} (hn:nm ≠ "_") (hx:xs[off]?=some (.int .i64 x)) (hy:ys[off]?=some (.int .i64 y)) :
    (Op.eqFields (d+1) xs ys (⟨nm,3,off,e,tag,pk,bo⟩::r)).run Try.prog w=if x=y then (Op.eqFields (d+1) xs ys r).run Try.prog w else .ok false w:=by
  have p1:(part 3 xs off).run Try.prog w=.ok (.int .i64 x) w:=by rw[zc3 row3,hx];rfl
  have p2:(part 3 ys off).run Try.prog w=.ok (.int .i64 y) w:=by rw[zc3 row3,hy];rfl
  have p3:=run_equalIn_int (P:=Try.prog) w d 3 .i64 .i64 x y Try.underlying3
  simp only[Op.eqFields]
  rw[if_pos hn]
  simp only[Sem.run_bind,p1,p2,p3,Result.andThen_ok]
  by_cases h:x=y
  · simp[h]
  · simp[h]
theorem eqOf {t:Nat} {ty:Ty} (hg:Try.prog.eqGuardType Try.prog.depth t=false)
    (hE:∀(w:World) (V:View) (x y:ty.Den) (l m:List Value),Rep V ty x l→Rep V ty y m→(Op.equalIn 10000 t (.agg l.toArray) (.agg m.toArray)).run Try.prog w=.ok (ty.beq x y) w):EqOk Try.prog t ty:=by
  intro w V x y l m o p hx hy
  refine⟨fun op=>run_eqGuard_agg w op t o p _ _ hg,?_,?_⟩
  · rw[run_eql_struct,hE w V x y l m hx hy];rfl
  · rw[run_neq_struct,hE w V x y l m hx hy];rfl
theorem eq25:EqOk Try.prog 25 Ball:=by
  refine eqOf Try.eqGuardType25 fun w V x y l m hx hy=>?_
  obtain⟨l1,l2,rfl,h1,l3,l4,rfl,h2,l5,l6,rfl,h3,h4⟩:=hx
  obtain⟨m1,m2,rfl,g1,m3,m4,rfl,g2,m5,m6,rfl,g3,g4⟩:=hy
  obtain⟨x1,x2,x3,u⟩:=x
  obtain⟨y1,y2,y3,u'⟩:=y
  subst h1 h2 h3 h4 g1 g2 g3 g4
  have hS:Try.prog.fieldsOf 25 = #[⟨"X", 3,0,false, "", "", 0⟩,⟨"Y", 3,1,false, "", "", 8⟩,⟨"R", 3,2,false, "", "", 16⟩]:=by kernel_rfl
  rw[run_equalIn_struct w 9999 25 _ _ (by rw[Try.underlying25,hS]) Try.stoodInHeld25,hS]
  rw [zhN w 9998 _ _ "X" "" "" 0 0 false _ (by decide) (x:=x1) (y:=y1) rfl rfl,zhN w 9998 _ _ "Y" "" "" 1 8 false _ (by decide) (x:=x2) (y:=y2) rfl rfl,
    zhN w 9998 _ _ "R" "" "" 2 16 false _ (by decide) (x:=x3) (y:=y3) rfl rfl]
  simp only[Ty.beq,Op.eqFields,Sem.run_pure,Bool.and_true]
  by_cases e1:x1=y1<;>by_cases e2:x2=y2<;>by_cases e3:x3=y3<;>simp[e1,e2,e3]
theorem eq35:EqOk Try.prog 35 ArcT:=by
  refine eqOf Try.eqGuardType35 fun w V x y l m hx hy=>?_
  obtain⟨l1,l2,rfl,h1,l3,l4,rfl,h2,h4⟩:=hx
  obtain⟨m1,m2,rfl,g1,m3,m4,rfl,g2,g4⟩:=hy
  obtain⟨x1,x2,u⟩:=x
  obtain⟨y1,y2,u'⟩:=y
  subst h1 h2 h4 g1 g2 g4
  have hS:Try.prog.fieldsOf 35 = #[⟨"From", 3,0,false, "", "", 0⟩,⟨"To", 3,1,false, "", "", 8⟩]:=by kernel_rfl
  rw[run_equalIn_struct w 9999 35 _ _ (by rw[Try.underlying35,hS]) Try.stoodInHeld35,hS]
  rw[zhN w 9998 _ _ "From" "" "" 0 0 false _ (by decide) (x:=x1) (y:=y1) rfl rfl,zhN w 9998 _ _ "To" "" "" 1 8 false _ (by decide) (x:=x2) (y:=y2) rfl rfl]
  simp only[Ty.beq,Op.eqFields,Sem.run_pure,Bool.and_true]
  by_cases e1:x1=y1<;>by_cases e2:x2=y2<;>simp[e1,e2]
theorem zte:∀t∈([25,35]:List Nat),∀ty,tyOf tt 20 t=some ty→EqOk Try.prog t ty:=by
  intro t ht ty h
  have h25:tyOf tt 20 25=some Ball:=by kernel_rfl
  have h35:tyOf tt 20 35=some ArcT:=by kernel_rfl
  simp only[List.mem_cons,List.not_mem_nil,or_false] at ht
  rcases ht with rfl|rfl
  · rw[h25] at h;cases h;exact eq25
  · rw[h35] at h;cases h;exact eq35
theorem zkq:Try.prog.follows .mixedOrders=true:=by kernel_rfl
end Go.Eng.Lp
namespace Go.Eng.Lp
def rtGo:Nat→Nat→Nat→Nat
  | 0,r,_=>r
  | k+1,r,n=>bif Nat.ble ((r+2 ^ k)*(r+2 ^ k)) n then rtGo k (r+2 ^ k) n else rtGo k r n
def rt (n:Nat):Nat:=rtGo 31 0 n
theorem zhl:∀(k r n:Nat),r*r≤n→n<(r+2 ^ k)*(r+2 ^ k)→rtGo k r n*rtGo k r n≤n∧n<(rtGo k r n+1)*(rtGo k r n+1)
  | 0,r,n,h1,h2=>⟨h1,by simpa [rtGo] using h2⟩
  | k + 1,r,n,h1,h2=>by
    simp only[rtGo]
    cases hb:Nat.ble ((r+2 ^ k)*(r+2 ^ k)) n with
    | true=>
      have:=Nat.le_of_ble_eq_true hb
      refine zhl k _ n this ?_
      rw[show r+2 ^ k+2 ^ k=r+2 ^ (k+1) by rw[Nat.pow_succ];omega]
      exact h2
    | false=>
      refine zhl k r n h1 ?_
      rcases Nat.lt_or_ge n ((r+2 ^ k)*(r+2 ^ k)) with h|h
      · exact h
      · rw[Nat.ble_eq_true_of_le h] at hb;cases hb
theorem zqH {n:Nat} (h:n<2 ^ 62):rt n*rt n≤n∧n<(rt n+1)*(rt n+1):=zhl 31 0 n (by omega) (by simpa using h)
def fr (n:Nat):Option Int:=
  match FloatKind.f64.format.sqrt (floatOfInt .f64 n) with
  | some r=>floatToIntVal .f64 r .i64
  | none=>none
def zmn (n:Nat):Bool:=match fr n with
  | some (.ofNat k)=>Nat.beq k (rt n)&&Nat.ble k 1073741824&&Nat.ble 1 k&&Nat.ble n 288230376151711744
  | _=>false
abbrev NN:=Nat×Nat
def mid (a b:NN):NN:=
  let x:=a.1+b.1
  let y:=a.2+b.2
  let r:=rt (x*x+y*y)
  ((2*(x*67108864)+r) / (2*r),(2*(y*67108864)+r) / (2*r))
def zjv (a b:NN):Bool:=Nat.ble a.1 67108864&&Nat.ble a.2 67108864&&Nat.ble b.1 67108864&&Nat.ble b.2 67108864&&zmn ((a.1+b.1)*(a.1+b.1)+(a.2+b.2)*(a.2+b.2))
def cut (lo hi:Nat) (a b:NN):NN:=bif Nat.beq ((lo+hi) / 2) 512 then (47453132,47453132) else mid a b
def zeQ:Nat→Nat→Nat→NN→NN→Bool
  | 0,_,_,a,b=>Nat.ble a.1 67108864&&Nat.ble a.2 67108864&&Nat.ble b.1 67108864&&Nat.ble b.2 67108864
  | n+1,lo,hi,a,b=>zjv a b&&zeQ n lo ((lo+hi) / 2) a (cut lo hi a b)&&zeQ n ((lo+hi) / 2) hi (cut lo hi a b) b
def bis:Nat→Nat→Nat→NN→NN→Nat→NN
  | 0,_,_,a,_,_=>a
  | n+1,lo,hi,a,b,at_=>bif Nat.blt at_ ((lo+hi) / 2) then bis n lo ((lo+hi) / 2) a (cut lo hi a b) at_ else bis n ((lo+hi) / 2) hi (cut lo hi a b) b at_
def wayQ (at_:Nat):NN:=bis 10 0 1024 (67108864,0) (0,67108864) at_
set_option maxRecDepth 100000 in
theorem zk9:zeQ 10 0 1024 (67108864,0) (0,67108864)=true:=by kernel_rfl
theorem zf5:∀(n lo hi:Nat) (a b:NN) (at_:Nat),zeQ n lo hi a b=true→(bis n lo hi a b at_).1≤67108864∧(bis n lo hi a b at_).2≤67108864
  | 0,lo,hi,a,b,at_,h=>by
    simp only[zeQ,Bool.and_eq_true] at h
    obtain⟨⟨⟨h1,h2⟩,h3⟩,h4⟩:=h
    exact⟨Nat.le_of_ble_eq_true h1,Nat.le_of_ble_eq_true h2⟩
  | n+1,lo,hi,a,b,at_,h=>by
    simp only[zeQ,Bool.and_eq_true] at h
    obtain⟨⟨h1,h2⟩,h3⟩:=h
    simp only[bis]
    cases Nat.blt at_ ((lo+hi) / 2) with
    | true=>exact zf5 n _ _ _ _ _ h2
    | false=>exact zf5 n _ _ _ _ _ h3
theorem zk5 (n:Nat):(wayQ n).1≤67108864∧(wayQ n).2≤67108864:=zf5 _ _ _ _ _ _ zk9
def turn:Nat→Int→Int→Int×Int
  | 0,x,y=>(x,y)
  | n+1,x,y=>turn n (-y) x
theorem zk8 (B:Int):∀(n:Nat) (x y:Int),-B≤x→x≤B→-B≤y→y≤B→-B≤(turn n x y).1∧(turn n x y).1≤B∧-B≤(turn n x y).2∧(turn n x y).2≤B
  | 0,x,y,h1,h2,h3,h4=>⟨h1,h2,h3,h4⟩
  | n+1,x,y,h1,h2,h3,h4=>zk8 B n (-y) x (by omega) (by omega) h1 h2
def wayI (m:Int):Int×Int:=turn (m % 4096 / 1024).toNat (wayQ (m % 1024).toNat).1 (wayQ (m % 1024).toNat).2
theorem zk6 (m:Int) : -67108864≤(wayI m).1∧(wayI m).1≤67108864∧-67108864≤(wayI m).2∧(wayI m).2≤67108864:=by
  have:=zk5 (m % 1024).toNat
  exact zk8 67108864 _ _ _ (by omega) (by omega) (by omega) (by omega)
abbrev III:=Int×Int×Int×Unit
def zat (m:Int):III:=((2*(wayI m).1+64) / 128,(2*(wayI m).2+64) / 128,if m % 1024=0 then 0 else 2,())
theorem zgQ (m:Int) : -1048576≤(zat m).1∧(zat m).1≤1048576∧-1048576≤(zat m).2.1∧(zat m).2.1≤1048576∧0≤(zat m).2.2.1∧(zat m).2.2.1≤2:=by
  have:=zk6 m
  simp only[zat]
  refine⟨by omega,by omega,by omega,by omega,?_,?_⟩<;>split<;>omega
theorem zpc (m:Int):wayI (m % 4096)=wayI m:=by
  have h1:m % 4096 % 4096=m % 4096:=by omega
  have h2:m % 4096 % 1024=m % 1024:=by omega
  simp only[wayI,h1,h2]
theorem zg4 (m:Int):zat (m % 4096)=zat m:=by
  have h2:m % 4096 % 1024=m % 1024:=by omega
  simp only[zat,zpc,h2]
end Go.Eng.Lp
namespace Go.Eng.Lp
open Go.Eng Go.Proofs
def circ (cur:Array Value):Prop:=cur.size=16384∧∀a:Nat,a<4096→∃b:Bool,cur[a]?=some (.bool b)∧
  (b=true→cur[4096+3*a]?=some (.int .i64 (zat a).1)∧cur[4096+3*a+1]?=some (.int .i64 (zat a).2.1)∧cur[4096+3*a+2]?=some (.int .i64 (zat a).2.2.1))
def OB (i:Nat) (o:Obj):Prop:=i=0∧∃cur,o=.cells cur 121 (0,0)∧circ cur
def Ok (f:Nat) (sp:Spec):Prop:=zp2 Try.prog OB f sp∧zc0 Try.prog f
def All:List (Nat×Spec)→Prop
  | []=>True
  | p::r=>Ok p.1 p.2∧All r
theorem zo4:∀ {ctr:List (Nat×Spec)} {f:Nat} {sp:Spec},All ctr→zdT f ctr=some sp→Ok f sp
  | [],_,_,_,h=>by simp[zdT] at h
  | (g, s)::r,f,sp,ha,h=>by
    simp only[zdT] at h
    cases hb:Nat.beq g f with
    | true=>
      rw[hb] at h
      have:=Nat.eq_of_beq_eq_true hb
      subst this
      simp only[cond_true,Option.some.injEq] at h
      subst h
      exact ha.1
    | false=>rw[hb] at h;exact zo4 ha.2 h
structure Xt where
  its:List (Nat×ISpec):=[]
  clos:List (Nat×List Ty):=[]
  fuel:Nat:=0
  ios:List (Nat×IoSpec):=[]
  vas:List (Nat×VaSpec):=[]
@[reducible] def cfg (X:Xt) (ctr:List (Nat×Spec)) (nt:Nat):Cfg:={tt:=tt,eqs:=[25,35],ctr:=ctr,nt:=nt,ext:=[129],obs:=[(121,0)],its:=X.its,clos:=X.clos,fuel:=X.fuel,ios:=X.ios,vas:=X.vas}
def Its:List (Nat×ISpec)→Prop
  | []=>True
  | p::r=>(zmR Try.prog p.1 p.2∧zc0 Try.prog p.1)∧Its r
theorem zor:∀ {l:List (Nat×ISpec)} {g:Nat} {sp:ISpec},Its l→zlF g l=some sp→zmR Try.prog g sp∧zc0 Try.prog g
  | [],_,_,_,h=>by simp[zlF] at h
  | (g, s)::r,f,sp,ha,h=>by
    simp only[zlF] at h
    cases hb:Nat.beq g f with
    | true=>
      rw[hb] at h
      have:=Nat.eq_of_beq_eq_true hb
      subst this
      simp only[cond_true,Option.some.injEq] at h
      subst h
      exact ha.1
    | false=>rw[hb] at h;exact zor ha.2 h
def OkIo (f:Nat) (sp:IoSpec):Prop:=zpb Try.prog OB f sp∧zc0 Try.prog f
def OkVa (f:Nat) (sp:VaSpec):Prop:=zo8 Try.prog OB f sp∧zc0 Try.prog f
def Ios:List (Nat×IoSpec)→Prop
  | []=>True
  | p::r=>OkIo p.1 p.2∧Ios r
theorem zou:∀ {l:List (Nat×IoSpec)} {g:Nat} {sp:IoSpec},Ios l→zlG g l=some sp→OkIo g sp
  | [],_,_,_,h=>by simp[zlG] at h
  | (g, s)::r,f,sp,ha,h=>by
    simp only[zlG] at h
    cases hb:Nat.beq g f with
    | true=>
      rw[hb] at h
      have:=Nat.eq_of_beq_eq_true hb
      subst this
      simp only[cond_true,Option.some.injEq] at h
      subst h
      exact ha.1
    | false=>rw[hb] at h;exact zou ha.2 h
def Vas:List (Nat×VaSpec)→Prop
  | []=>True
  | p::r=>OkVa p.1 p.2∧Vas r
theorem znq:∀ {l:List (Nat×VaSpec)} {g:Nat} {sp:VaSpec},Vas l→zic g l=some sp→OkVa g sp
  | [],_,_,_,h=>by simp[zic] at h
  | (g, s)::r,f,sp,ha,h=>by
    simp only[zic] at h
    cases hb:Nat.beq g f with
    | true=>
      rw[hb] at h
      have:=Nat.eq_of_beq_eq_true hb
      subst this
      simp only[cond_true,Option.some.injEq] at h
      subst h
      exact ha.1
    | false=>rw[hb] at h;exact znq ha.2 h
structure XOk (X:Xt):Prop where
  its:Its X.its
  ios:Ios X.ios
  vas:Vas X.vas
theorem x0:XOk {}:=⟨True.intro,True.intro,True.intro⟩
def zda (f:Func):Code:=match f.body with|some b=>b|none=>.skip
theorem zqp:circ Try.zeroCells121:=by
  refine⟨by kernel_rfl,fun a ha=>⟨false,?_,fun h=>by cases h⟩⟩
  have h:(Try.zeroCells121.toList.take 4096).all (fun v=>match v with | .bool false=>true | _=>false)=true:=by kernel_rfl
  have hs:Try.zeroCells121.size=16384:=by kernel_rfl
  rw[List.all_eq_true] at h
  have ha':a<Try.zeroCells121.size:=by omega
  have hm:Try.zeroCells121[a]∈Try.zeroCells121.toList.take 4096:=by
    rw[List.mem_take_iff_getElem]
    exact⟨a,by simp[hs];omega,by simp⟩
  have:=h _ hm
  rw[Array.getElem?_eq_getElem ha']
  split at this
  · rename_i heq;rw[heq]
  · cases this
theorem zsf:∃fn,Try.prog.funcs[129]?=some fn∧(fn.name == "runtime.NumGoroutine")=false∧fn.body.isNone=true∧Extern.findNext fn=none∧Extern.find fn=some Extern.MathSqrt.sqrt:=
  ⟨Try.f129,Try.func129,by kernel_rfl,by kernel_rfl,by kernel_rfl,by kernel_rfl⟩
theorem zrn {X:Xt} (hX:XOk X) {ctr:List (Nat×Spec)} {nt:Nat} (h:All ctr):CfgOk Try.prog OB (cfg X ctr nt) where
  tbl:=tbl
  eqs:=zte
  ctr:=fun f sp hf=>zo4 h hf
  ext:=fun f hf=>by
    have:f=129:=by simpa [zaD] using hf
    subst this
    exact zsf
  obs := fun t i hi=>by
    simp only[obOf] at hi
    cases hb:Nat.beq 121 t with
    | false=>rw[hb] at hi;cases hi
    | true=>
      rw[hb] at hi
      have:=Nat.eq_of_beq_eq_true hb
      subst this
      simp only[cond_true,Option.some.injEq] at hi
      subst hi
      exact⟨_,Try.zeroValue121,rfl,_,rfl,zqp⟩
  its:=fun g isp h=>zor hX.its h
  extb:=fun f k h=>by simp[zpJ] at h
  ios:=fun g isp h=>zou hX.ios h
  vas:=fun g isp h=>znq hX.vas h
theorem mkX {X:Xt} (hX:XOk X) {ctr:List (Nat×Spec)} (hctr:All ctr) {f nt:Nat} {fn:Func} {sp:Spec} (hf:Try.prog.funcs[f]?=some fn) (hb:fn.body=some (zda fn)) (hnt:fn.ntmps=nt) (hps:(Nat.ble sp.pats.length nt&&Nat.ble nt 1000000)=true)
    (hob:Nat.ble (zb8 sp.pats) 1=true) (hd:zeb nt (zda fn)=true) (hn:(fn.name == "runtime.NumGoroutine")=false) (anns:(zac sp.pats).Den→List (St→LoopAnn))
    (h:∀x,sp.pre x→zoY (cfg X ctr nt) (par (cfg X ctr nt)) (anns x) fn.results.toList (zda fn) sp x):Ok f sp:=
  ⟨zpM (zrn hX hctr) (zcR zkq (zrn hX hctr)) hf hb hnt (Nat.le_of_ble_eq_true (Bool.and_eq_true _ _▸hps:_∧_).1) (Nat.le_of_ble_eq_true (Bool.and_eq_true _ _▸hps:_∧_).2) (Nat.le_of_ble_eq_true hob) rfl hd anns h,fn,hf,hn,by rw[hb];rfl⟩
theorem mk {ctr:List (Nat×Spec)} (hctr:All ctr) {f nt:Nat} {fn:Func} {sp:Spec} (hf:Try.prog.funcs[f]?=some fn) (hb:fn.body=some (zda fn)) (hnt:fn.ntmps=nt) (hps:(Nat.ble sp.pats.length nt&&Nat.ble nt 1000000)=true)
    (hob:Nat.ble (zb8 sp.pats) 1=true) (hd:zeb nt (zda fn)=true) (hn:(fn.name == "runtime.NumGoroutine")=false) (anns:(zac sp.pats).Den→List (St→LoopAnn))
    (h:∀x,sp.pre x→zoY (cfg {} ctr nt) (par (cfg {} ctr nt)) (anns x) fn.results.toList (zda fn) sp x):Ok f sp:=mkX x0 hctr hf hb hnt hps hob hd hn anns h
end Go.Eng.Lp
namespace Go.Eng.Lp
open Go.Eng Go.Proofs Go.ChangeShapes Go.WideShapes Go.ChangeAt Go.RowKit
set_option linter.all false
set_option maxRecDepth 100000
@[reducible] def zlC (tys:List Ty):Spec:={pats:=datP tys,res:=[{t:=.bool}],pre:=zlJ tys,f:=fun _=>(true,())}
theorem own:ownKnob Try.prog.godebug=none:=by kernel_rfl
theorem zq1:laidOutB Try.prog=true:=by kernel_rfl
theorem zoq {H:Type} {enc:TypeId×Value→H} {F:Nat} {tys:List Ty} (h:Ok F (zlC tys)) {W:World} {args:Array Value} {ds:List (DataW H)} {ps:List MemPlace} {ts:List TypeId} {base:Nat} (hbr:zp0 tt ts tys)
    (hA:DataW.TrodAll enc Try.prog W 0 (fun _=>true) true ts args.toList ds ps) (hval:∀(j:Nat) t v,ts[j]?=some t→args.toList[j]?=some v→Value.okWide Try.prog W .any base t v) :
    Calls Try.prog F args W fun e W'=>e=.returned (.bool true)∧Below W.heap.size W W':=by
  obtain⟨x,hx,hf⟩:=zo3 tbl (OB:=OB) hbr hA hval
  have:=h.1 W (fun _=>False) x args.toList [] (fun _ h=>h.elim) hx hf
  refine this.mono fun e W' ⟨rs,g,h1,h2,h3⟩=>?_
  subst h1
  obtain⟨v,vs',rfl,⟨l,r1,⟨r2,_⟩|⟨_,r2⟩⟩,rfl,rfl⟩:=h3
  · cases r2
  · have r1:l=[.bool true]:=r1
    rw[r1] at r2
    simp at r2
    subst r2
    exact⟨rfl,h2.os,h2.tape,h2.output,h2.size,fun k hk=>h2.keep k hk (by simp)⟩
theorem zq4 {W W':World} (h:Below W.heap.size W W') (may:MemPlace→Prop):W.keptBut W' may:=by
  refine⟨h.os,h.output,fun i hi=>?_⟩
  rw[h.block i hi]
  split
  · rename_i h1 h2
    rw[h1] at h2
    simp only[Option.some.injEq,Obj.cells.injEq] at h2
    obtain⟨rfl,rfl,rfl⟩:=h2
    exact⟨rfl,rfl,rfl,fun _ _=>rfl⟩
  · rename_i h1 h2
    rw[h1] at h2
    simp only[Option.some.injEq,Obj.map.injEq] at h2
    obtain⟨rfl,rfl⟩:=h2
    exact .inr ⟨rfl,rfl⟩
  · rfl
def zhq (P:Program):List TypeId→Bool
  | []=>true
  | t::r=>P.readableRec t&&decide (t<P.types.size)&&zhq P r
theorem zfj {P:Program} (hl:laidOutB P=true) {H:Type} {enc:TypeId×Value→H} {W W':World} (hb:Below W.heap.size W W'):∀ {ts:List TypeId} {vs:List Value} {ds:List (DataW H)} {ps:List MemPlace},zhq P ts=true→
    DataW.TrodAll enc P W 0 (fun _=>true) true ts vs ds ps→DataW.TrodAll enc P W' 0 (fun b=>decide (b<W.heap.size)) true ts vs ds ps
  | [],[],[],_,_,h=>h
  | t::ts,v::vs,d::ds,ps,hr,⟨p,q,h1,h2,h3⟩=>by
    simp only[zhq,Bool.and_eq_true,decide_eq_true_eq] at hr
    have hlt:=DataW.TrodAll.lt (show DataW.TrodAll enc P W 0 (fun _=>true) true (t::ts) (v::vs) (d::ds) ps from ⟨p,q,h1,h2,h3⟩)
    subst h3
    exact⟨p,q,Below.trod hl hr.1.1 hr.1.2 h1 hb (fun x hx=>hlt x (List.mem_append.2 (.inl hx))),zfj hl hb hr.2 h2,rfl⟩
theorem zpF {H:Type} {enc:TypeId×Value→H} {f:Func} {s:ChangeSpec} {W W':World} {args:Array Value} {ds gs:List (DataW H)} {before:List MemPlace}
    (hW:DataW.Whole enc Try.prog f.params.toList s.vars false W args.toList ds gs before) (hv:s.vars=[]) (hr:f.resultTypes.toList=[4]) (hs:f.resultTypes.size=1) (hfn:s.fn H (ds++gs) = {results:=[.lit (.bool true)],args:=ds}) (hread:zhq Try.prog f.params.toList=true)
    (hb:Below W.heap.size W W'):s.post enc Try.prog f false true false false W args (.bool true) W':=by
  have hW0:=hW
  obtain⟨p,q,hA,hV,rfl,_,_⟩:=hW
  rw[hv] at hV
  obtain⟨rfl,rfl⟩:=trodVars_none hV
  refine⟨ds,[],p++[],[],p,[],hW0,?_,?_,?_,zq4 hb _,fun h=>by cases h⟩
  · rw[hfn,hr,hs]
    exact trodAll_cons_mk (shut_bool Try.underlying4 true) trodAll_mk0
  · rw[hfn]
    exact zfj zq1 hb hread hA
  · rw[hfn,hv]
    rfl
theorem zm6 {F:Nat} {fn:Func} {s:ChangeSpec} {tys:List Ty} (h:Ok F (zlC tys)) (hf:Try.prog.funcs[F]?=some fn) (hinit:Try.prog.inits.idxOf? F=none) (hbr:zp0 tt fn.params.toList tys) (hv:s.vars=[]) (hr:fn.resultTypes.toList=[4]) (hs:fn.resultTypes.size=1)
    (hread:zhq Try.prog fn.params.toList=true) (hfn:∀(H:Type) (ds:List (DataW H)),ds.length=fn.params.size→s.fn H (ds++[]) = {results:=[.lit (.bool true)],args:=ds})
    (os:Os) (started:os.Started) (H:Type) (enc:TypeId×Value→H)
    (wit:∃(w:World) (tape:Tape) (i:Input),w.os=os∧(w.forCall tape i).Shaped Try.checked.prog∧i.vars=[]∧Input.okWide Try.checked.prog (w.forCall tape i) .any w.heap.size F i∧
      s.pre6 enc Try.checked.prog fn [] false (w.forCall tape i).memory i.args∧({modest:=false}:Assume).holds Try.checked.prog (lone (Frame.enter Try.checked.prog F i.args .normal) [] (w.forCall tape i))) :
    ReturnsInHanded {} Try.checked os F .any (s.pre6 enc Try.prog fn [] false) (s.post enc Try.prog fn false true false false):=by
  refine returnsInHanded_of_change (C:=Try.checked) own started hinit hf wit ?_
  intro W base args ds gs before hval hW _ _
  have hW0:=hW
  obtain⟨p,q,hA,hV,rfl,_,_⟩:=hW
  have hV':DataW.TrodVars enc Try.prog W (fun _=>true) [] gs q:=by rw[←hv];exact hV
  obtain⟨rfl,rfl⟩:=trodVars_none hV'
  have hlen:ds.length=fn.params.size:=by
    have:=(Go.trodAll_length hA).2
    simpa using this
  refine (zoq h hbr hA (fun j t v h1 h2=>hval j t v (by simpa using h1) (by simpa using h2))).mono fun e W' ⟨he,hb⟩=>?_
  subst he
  exact⟨_,rfl,zpF hW0 hv hr hs (hfn H ds hlen) hread hb⟩
end Go.Eng.Lp
