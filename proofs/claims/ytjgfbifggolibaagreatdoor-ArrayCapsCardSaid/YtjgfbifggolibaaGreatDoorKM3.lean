/- Texts EC ED B1 L0, as far as they are used. Conditions: each lemma's own. -/
import Derived.Test.YtjgfbifggolibaaGreatDoorKM2
import Derived.RowKit
import Derived.RowKit3
import Derived.OpenShut
import Derived.Carry
import Derived.ChangeOld
import Derived.KernelRfl
import Derived.Test.YtjgfbifggolibaaGreatDoorProg
set_option linter.all false
namespace Go.Eng
section
variable {E:Env} {a:Act} {w:World} {c:Cfg}
theorem zkG (hC:CfgOk E.P E.OB c) {st:St} (hR:RelS E c.nt st a w) {o:Oper} {r:Res} (h:zfF c st o=some r) (hob:r.ob.hold) {K:Act→World→Prop} {Q:Exit→Act→World→Prop}
    (hK:∀a' w',RelS E c.nt (after st r) a' w'→K a' w') {ro:Option Nat} {q:Nat}:o.wpIn (Fw ro) q E.P a w K Q:=by
  obtain⟨η,g,H⟩:=hR
  unfold zfF at h
  split at h
  case h_2=>cases h
  case h_1 e he=>
    have hsem:=zi4 hC g H he
    have up:∀a' w',Rel E c.nt (upd (fun f=>f∈st) r.add r.kill) a' w'→K a' w':=fun a' w' hr=>hK a' w' (hr.weaken fun f hf=>by
      rcases List.mem_append.1 hf with h|h
      · exact .inl h
      · exact .inr (zd5.1 h))
    split at h
    · rename_i hd
      exact zdZ g H hsem (by rw[hd];exact h) (fun d hd'=>by rw[hd] at hd';cases hd') hob (zcY he) up
    · rename_i d hd
      cases hb:Nat.blt d c.nt with
      | false=>rw[hb] at h;simp at h
      | true=>
        rw[hb] at h
        exact zdZ g H hsem (by rw[hd];exact h) (fun d' hd'=>by
          rw[hd] at hd'
          simp only[Option.some.injEq] at hd'
          subst hd'
          simpa using hb) hob (zcY he) up
theorem zpe {ks:List Nat} {f:Fact}:∀ {l:St},f∈demL ks l→∃g∈l,f=g.dem ks
  | [],h=>by cases h
  | x :: r,h=>by
    simp only[demL,List.mem_cons] at h
    rcases h with rfl|h
    · exact⟨x,List.mem_cons_self,rfl⟩
    · obtain⟨g,h1,h2⟩:=zpe h
      exact⟨g,List.mem_cons_of_mem _ h1,h2⟩
theorem zm4 {nt:Nat} {st:St} (ks:List Nat) (hR:RelS E nt st a w):RelS E nt (zpA ks st) a w:=by
  unfold zpA
  split
  · exact hR
  · obtain ⟨η,g,H⟩:=hR
    refine⟨η,g,fun f hf=>?_⟩
    obtain⟨q,hq,rfl⟩:=zpe hf
    have h:=H q hq
    cases q with
    | cell k off s=>
      simp only[Fact.dem]
      cases s.ment ks with
      | false=>exact h
      | true=>
        obtain⟨b,c,cur,el,v,h1,h2,h3,h4,h5,_⟩:=h
        exact⟨b,c,cur,el,v,h1,h2,h3,h4,h5,trivial⟩
    | slot t s=>exact h
    | row k el e xs=>exact h
    | ob k i=>exact h
    | fix k=>exact h
theorem zgU {k:Nat} {t:Ty} {x:t.Den} {f:Fact}:∀ {st:St},f∈zkd k t x st→∃q∈st,f=q.frzC k t x∧f.ment [k]=false
  | [],h=>by simp[zkd] at h
  | q :: r,h=>by
    simp only[zkd] at h
    cases hm:(q.frzC k t x).ment [k] with
    | true=>
      rw[hm] at h
      obtain⟨q',h1,h2⟩:=zgU (st:=r) h
      exact⟨q',List.mem_cons_of_mem _ h1,h2⟩
    | false=>
      rw[hm] at h
      rcases List.mem_cons.1 h with rfl|h
      · exact⟨q,List.mem_cons_self,rfl,hm⟩
      · obtain⟨q',h1,h2⟩:=zgU (st:=r) h
        exact⟨q',List.mem_cons_of_mem _ h1,h2⟩
theorem zle {nt k:Nat} {t:Ty} {st st':St} (h:zn8 k t st=some st') (hR:RelS E nt st a w):RelS E nt st' a w:=by
  unfold zn8 at h
  split at h
  case h_2=>cases h
  case h_1 cs hcs=>
    split at h
    case h_2=>cases h
    case h_1 x hx=>
      cases hz:Nat.ble 1 t.size with
      | false=>rw[hz] at h;simp at h
      | true =>
        rw[hz] at h
        simp only[cond_true,Option.some.injEq] at h
        subst h
        have hz:=Nat.le_of_ble_eq_true hz
        obtain⟨η,g,H⟩:=hR
        obtain⟨n,hn⟩:∃n,t.size=n+1:=⟨t.size - 1,by omega⟩
        have hk:∃b c,η k=some (b,c):=by
          have hcs':=hcs
          rw[hn] at hcs'
          simp only[zbH] at hcs'
          cases h1:zbk k 0 st with
          | none=>rw[h1] at hcs';cases hcs'
          | some s=>
            obtain⟨b,c,_,_,_,_,q1,_⟩:=H _ (zbc h1)
            exact⟨b,c,q1⟩
        obtain⟨b,c,hk⟩:=hk
        obtain⟨vs,e1,e2,e3,e4⟩:=zbq H hk _ 0 cs hcs
        obtain⟨cur,el,hlow,hb,hsz⟩:=e4 (by omega)
        obtain⟨l1,l2,q1,q2,q3⟩:=zda t cs vs x [] hx e1
        have hl2:l2=[]:=by
          cases l2 with
          | nil=>rfl
          | cons _ _=>exact q3.elim
        rw[hl2,List.append_nil] at q1
        subst q1
        have hv:=(zbn g k).2
        have hnk:∀k' n,zaQ η k k'≠some (b,n):=fun k' n hh=>by
          unfold zaQ at hh
          split at hh
          · cases hh
          · rename_i hne
            exact hne (g.inj k' k b n c hh hk)
        have hnM:¬E.Mp b:=fun hm=>by
          rcases hm with hm|⟨o,hm⟩
          · exact g.old b hm hlow
          · exact (g.defers.2 _ hm).2.2 k c hk
        have hV:vw E (zaQ η k) w b cur:=⟨hnM,hnk,el,(0,0),hb⟩
        have hl:(cur.toList.drop 0).take t.size=vs:=by
          apply List.ext_getElem?
          intro j
          rw[List.drop_zero,List.getElem?_take]
          split
          · rename_i hj
            have hj':j<vs.length:=by omega
            have:=e3 j _ (List.getElem?_eq_getElem hj')
            rw[zbz hb,Nat.zero_add] at this
            rw[List.getElem?_eq_getElem hj',←this]
            simp
          · rw[List.getElem?_eq_none (by omega)]
        have hrep:zaN (vw E (zaQ η k) w) (zaQ η k) (.pd t x) (.pointer (some ⟨b,0,none⟩)):=
          ⟨⟨b,0,none⟩,cur,rfl,rfl,hV,by simpa using hsz,by
            show Rep _ t x ((cur.toList.drop 0).take t.size)
            rw[hl]
            exact Rep.mono hv t x vs q2⟩
        refine⟨zaQ η k,(zbn g k).1,fun f hf=>?_⟩
        obtain⟨q,q1,rfl,q3⟩:=zgU hf
        have keep:∀ {f:Fact},f∈st→f.ment [k]=false→f.holds E (zaQ η k) a w:=fun hf hm=>Fact.keep (ks:=[k]) hv (fun j hj=>zas hj) hm (H _ hf)
        cases q with
        | slot j s=>
          cases s with
          | one s=>
            simp only[Fact.frzC] at q3 ⊢
            cases s with
            | p k' off=>
              simp only[S1.frzC] at q3 ⊢
              cases hb:(Nat.beq k' k&&Nat.beq off 0) with
              | true=>
                rw[Bool.and_eq_true] at hb
                have e5:=Nat.eq_of_beq_eq_true hb.1
                have e6:=Nat.eq_of_beq_eq_true hb.2
                subst e5 e6
                obtain⟨b',c',r1,r2⟩:=H _ q1
                rw[hk] at r1
                simp only[Option.some.injEq,Prod.mk.injEq] at r1
                obtain⟨rfl,rfl⟩:=r1
                simp only[Fact.holds,cond_true,zao]
                rw[r2]
                exact hrep
              | false=>
                rw[hb] at q3
                exact keep q1 q3
            | _=>exact keep q1 q3
          | _=>exact keep q1 q3
        | _=>exact keep q1 q3
theorem zcD {nt:Nat}:∀ {os:List Operand} {ts:List Ty} {st:St},RelS E nt st a w→RelS E nt (zdx os ts st) a w
  | [],_,st,hR=>by simpa only [zdx] using hR
  | _::_,[],st,hR=>by simpa only [zdx] using hR
  | o :: r,t::l,st,hR=>by
    simp only[zdx]
    split
    · split
      · rename_i hf;exact zcD (zle hf hR)
      · exact zcD hR
    · exact zcD hR
theorem zm9 {nt:Nat} {o:Oper} {st:St} (hR:RelS E nt st a w):RelS E nt (zpG c o st) a w:=by
  unfold zpG
  split
  · split
    · exact zcD hR
    · exact hR
  · exact hR
theorem fo_holds {k:FloatKind} {n d:Nat} {x:Option Nat} {η:Eta} (h:Fact.holds E η a w (.slot d (.one (.fo k x)))):∃n,fok k x n∧Fact.holds E η a w (.slot d (.one (.d (.flt k) n))):=by
  obtain⟨n,hv,hn⟩:=h
  exact⟨n,hn,⟨[.float k n],rfl,.inr ⟨rfl,by rw[hv]⟩⟩⟩
theorem zmi {nt:Nat} {st:St} {r:Res} {K:Res→Prop} (h:zrq r K) (hR:RelS E nt (after st r) a w):∃r',K r'∧RelS E nt (after st r') a w:=by
  unfold zrq at h
  split at h
  · rename_i d k x l he
    obtain⟨η,g,H⟩:=hR
    obtain⟨n,hn,hv⟩:=fo_holds (n:=0) (H (.slot d (.one (.fo k x))) (by unfold after;rw[he];simp))
    refine⟨_,h n hn,η,g,fun f hf=>?_⟩
    unfold after at hf
    rcases List.mem_append.1 hf with hf|hf
    · rcases List.mem_cons.1 hf with rfl|hf
      · exact hv
      · exact H f (by unfold after;rw[he];exact List.mem_append_left _ (List.mem_cons_of_mem _ hf))
    · exact H f (by unfold after;exact List.mem_append_right _ hf)
  · exact⟨r,h,hR⟩
theorem zgN {η:Eta}:∀ {st:St} {K:St→Prop} (_:zfI st K) (_:∀f∈st,Fact.holds E η a w f),∃st',K st'∧∀f∈st',Fact.holds E η a w f
  | [],K,h,H=>⟨[],h,H⟩
  | f :: l,K,h,H=>by
    unfold zfI at h
    split at h
    · rename_i heq;cases heq
    · rename_i d k x l' heq
      cases heq
      obtain⟨n,hn,hv⟩:=fo_holds (n:=0) (H _ List.mem_cons_self)
      obtain⟨s2,h1,h2⟩:=zgN (h n hn) fun f hf=>H f (List.mem_cons_of_mem _ hf)
      exact ⟨_,h1,fun f hf=>by
        rcases List.mem_cons.1 hf with rfl|hf
        · exact hv
        · exact h2 f hf⟩
    · rename_i f' l' _ heq
      cases heq
      obtain⟨s2,h1,h2⟩:=zgN h fun f hf=>H f (List.mem_cons_of_mem _ hf)
      exact ⟨_,h1,fun f hf=>by
        rcases List.mem_cons.1 hf with rfl|hf
        · exact H _ List.mem_cons_self
        · exact h2 f hf⟩
theorem zkU {nt:Nat} {st:St} {K:St→Prop} (h:zfI st K) (hR:RelS E nt st a w):∃st',K st'∧RelS E nt st' a w:=by
  obtain⟨η,g,H⟩:=hR
  obtain⟨s2,h1,h2⟩:=zgN h H
  exact⟨s2,h1,η,g,h2⟩
theorem zhp (hC:CfgOk E.P E.OB c) {st:St} (hR:RelS E c.nt st a w) {o:Oper} {K:St→Prop} (h:zoS c o st K) {K':Act→World→Prop} {Q:Exit→Act→World→Prop}
    (hK:∀st' a' w',K st'→RelS E c.nt st' a' w'→K' a' w') {ro:Option Nat} {q:Nat}:o.wpIn (Fw ro) q E.P a w K' Q:=by
  unfold zoS at h
  split at h
  case h_1 F hF=>exact hC.hk c.nt E rfl rfl o st F a w K K' Q ro q hF h hR hK
  case h_2 _=>
  split at h
  case h_2=>exact h.elim
  case h_1 p st1 hf=>
    split at h
    case h_2=>exact h.elim
    case h_1 r hr=>
      obtain⟨h1,h⟩:=OP.andK_out h
      obtain⟨h2,h3⟩:=OP.andK_out h
      exact zkG hC (zm9 (zm4 _ (zbE hf h1 hR))) hr h2 (fun a' w' h=>by
        obtain⟨r',h4,h5⟩:=zmi h3 h
        rw[zbu] at h4
        exact hK _ a' w' h4 h5)
theorem zfX {st:St} {nt:Nat} (hR:RelS E nt st a w) (d:Option Nat) (hd:∀t,d=some t→t<nt):RelS E nt (zh3 d st) (a.put d undef) w:=by
  obtain⟨η,g,H⟩:=hR
  cases d with
  | none=>exact⟨η,g,H⟩
  | some t=>
    refine (zgP g (F:=fun f=>f∈st) H (hd t rfl) (s:=.one (.v undef)) (v:=undef) rfl).weaken fun f hf=>?_
    simp only[zh3,List.mem_cons] at hf
    rcases hf with rfl|hf
    · exact .inl List.mem_cons_self
    · exact .inr (zd5.1 hf)
theorem ztR {a:Act} {t:Nat} (h:t<a.tmps.size):a.put (some t) (a.tmps.getD t undef)=a:=by
  cases a with
  | mk tmps defers=>
    simp only[Act.put]
    congr 1
    apply Array.ext
    · simp
    · intro i h1 h2
      by_cases hi:t=i
      · subst hi
        simp at h1
        simp[h1]
      · rw[Array.getElem_setIfInBounds_ne (by simpa using h1) hi]
theorem zik {st:St} {nt t:Nat} {b:Bool} (ht:t<nt) (hR:RelS E nt st a w) (hv:a.tmps.getD t undef=.bool b):RelS E nt (ztG t b st) a w:=by
  obtain⟨η,g,H⟩:=hR
  have:=(zgP g (F:=fun f=>f∈st) H ht (s:=.one (.lb b)) (v:=.bool b) rfl)
  rw[←hv,ztR (by rw[g.size];exact ht)] at this
  refine this.weaken fun f hf=>?_
  simp only[ztG,List.mem_cons] at hf
  rcases hf with rfl|hf
  · exact .inl List.mem_cons_self
  · exact .inr (zd5.1 hf)
theorem zef {ops : Array Oper} {st:St} (hR:RelS E c.nt st a w) {o:Oper} :
    match zax c ops st o with
    | .yes=>Region.wanted o (yielded ops a.tmps)=true
    | .no=>Region.wanted o (yielded ops a.tmps)=false
    | .open_ t b=>t<c.nt∧a.tmps.getD t undef=.bool b∧Region.wanted o (yielded ops a.tmps)=(b == zab o)
    | .bad=>True:=by
  obtain⟨η,g,H⟩:=hR
  cases hg:o.guard with
  | none=>simp[zax,hg,Region.wanted]
  | some p =>
    obtain⟨j,want⟩:=p
    cases hgd:ops[j]? with
    | none=>simp only[zax,hg,hgd]
    | some gd =>
      cases ht:gd.dst with
      | none=>simp only[zax,hg,hgd,ht]
      | some t =>
        cases hb:Nat.blt t c.nt with
        | false=>simp only[zax,hg,hgd,ht,hb,cond_false]
        | true =>
          have hlt:t<c.nt:=by simpa using hb
          have hlt':t<a.tmps.size:=by rw[g.size];exact hlt
          have hget:a.tmps[t]?=some (a.tmps.getD t undef):=by simp[Array.getD,hlt']
          have hy:yielded ops a.tmps j=match a.tmps.getD t undef with | .bool b=>some b | _=>none:=by
            simp only[yielded,hgd,Option.bind_some,ht,hget]
            split<;>rename_i heq<;>simp_all
          have hwant:Region.wanted o (yielded ops a.tmps)=(yielded ops a.tmps j == some want):=by simp[Region.wanted,hg]
          have hwo:zab o=want:=by simp[zab,hg]
          cases hs:zaZ t st with
          | none=>simp only[zax,hg,hgd,ht,hb,cond_true,hs]
          | some s =>
            have hold:=H _ (zaX hs)
            simp only[Fact.holds] at hold
            rw[zbl (Nat.lt_of_lt_of_le hlt g.lim)] at hold
            cases s with
            | agg cs=>simp only[zax,hg,hgd,ht,hb,cond_true,hs]
            | tup cs=>simp only[zax,hg,hgd,ht,hb,cond_true,hs]
            | one u=>
              cases u with
              | u=>simp only[zax,hg,hgd,ht,hb,cond_true,hs]
              | pw t' x'=>simp only[zax,hg,hgd,ht,hb,cond_true,hs]
              | dfl e' ys=>simp only[zax,hg,hgd,ht,hb,cond_true,hs]
              | fn g fs cs=>simp only[zax,hg,hgd,ht,hb,cond_true,hs]
              | lb b=>
                have hv:a.tmps.getD t undef=.bool b:=hold
                rw[hy,hv] at hwant
                simp only[zax,hg,hgd,ht,hb,cond_true,hs]
                cases b<;>cases want<;>simpa using hwant
              | d ty x=>
                cases ty with
                | bool=>
                  have hv:a.tmps.getD t undef=.bool x:=zbJ hold
                  rw[hy,hv] at hwant
                  simp only[zax,hg,hgd,ht,hb,cond_true,hs]
                  refine⟨hlt,hv,?_⟩
                  rw[hwant,hwo]
                  cases x<;>cases want<;>rfl
                | int k=>simp only[zax,hg,hgd,ht,hb,cond_true,hs]
                | str=>simp only[zax,hg,hgd,ht,hb,cond_true,hs]
                | flt k=>simp only[zax,hg,hgd,ht,hb,cond_true,hs]
                | cpx k=>simp only[zax,hg,hgd,ht,hb,cond_true,hs]
                | sl e=>simp only[zax,hg,hgd,ht,hb,cond_true,hs]
                | nil=>simp only[zax,hg,hgd,ht,hb,cond_true,hs]
                | cons p q=>simp only[zax,hg,hgd,ht,hb,cond_true,hs]
                | _=>simp only[zax,hg,hgd,ht,hb,cond_true,hs]
              | v x=>
                have hv:a.tmps.getD t undef=x:=hold
                rw[hy,hv] at hwant
                cases x<;>simp only[zax,hg,hgd,ht,hb,cond_true,hs]
                simpa using hwant
              | p k off=>simp only[zax,hg,hgd,ht,hb,cond_true,hs]
              | pd ty x=>simp only[zax,hg,hgd,ht,hb,cond_true,hs]
              | po off ty x=>simp only[zax,hg,hgd,ht,hb,cond_true,hs]
              | pr k i sz=>simp only[zax,hg,hgd,ht,hb,cond_true,hs]
              | pq k i sz off=>simp only[zax,hg,hgd,ht,hb,cond_true,hs]
              | fo q r=>simp only[zax,hg,hgd,ht,hb,cond_true,hs]
              | o k n=>simp only[zax,hg,hgd,ht,hb,cond_true,hs]
theorem zg4 (p:Nat→Prop) (h:∃n,p n):∃n,p n∧∀m,p m→n≤m:=by
  obtain⟨n,hn⟩:=h
  induction n using Nat.strongRecOn with
  | _ n ih=>
    by_cases hm:∃m,m<n∧p m
    · obtain⟨m,h1,h2⟩:=hm
      exact ih m h1 h2
    · exact ⟨n,hn,fun m hm'=>by
        rcases Nat.lt_or_ge m n with h|h
        · exact absurd ⟨m,h,hm'⟩ hm
        · exact h⟩
open Classical in
theorem zdX {F:Fence} {q:Nat} {P:Program} {b:Code} {Q:Exit→Act→World→Prop} (I:Nat→Act→World→Prop) {n:Nat} {a:Act} {w:World} (h0:I n a w)
    (round:∀n a w,I n a w→b.wpIn F q P (Exit.then (fun a' w'=>∃n',n'<n∧I n' a' w') Q) a w):(Code.loop b).wpIn F q P Q a w:=by
  let μ:Act→World→Nat:=fun a w=>if h:∃n,I n a w then Classical.choose (zg4 (fun n=>I n a w) h) else 0
  have hμ:∀n a w,I n a w→I (μ a w) a w∧μ a w≤n:=by
    intro n a w h
    have hex:∃n,I n a w:=⟨n,h⟩
    have hc:=Classical.choose_spec (zg4 (fun n=>I n a w) hex)
    have he:μ a w=Classical.choose (zg4 (fun n=>I n a w) hex):=dif_pos hex
    rw[he]
    exact⟨hc.1,hc.2 n h⟩
  refine wpIn_loop (fun a w=>∃n,I n a w) μ ⟨n,h0⟩ fun a w ⟨m,hm⟩=>?_
  refine wpIn_mono (round (μ a w) a w (hμ m a w hm).1) fun e a' w' hq=>?_
  cases e with
  | normal=>
    obtain⟨n',h1,h2⟩:=hq
    exact⟨⟨n',h2⟩,Nat.lt_of_le_of_lt (hμ n' a' w' h2).2 h1⟩
  | exit id=>exact hq
  | goto l=>exact hq
  | ret=>exact hq
  | panic ch=>exact hq
  | outgrown=>exact hq
theorem zcE {ro:Option Nat} {q:Nat} (hC:CfgOk E.P E.OB c) {ops:Array Oper} {Q:Exit→Act→World→Prop} (hdst:∀o∈ops.toList,∀t,o.dst=some t→t<c.nt):∀(l:List Oper) (_:∀o∈l,o∈ops.toList) (st:St) (K:St→Prop) (a:Act) (w:World),
    zes c ops l st K→RelS E c.nt st a w→(∀st' a' w',K st'→RelS E c.nt st' a' w'→Q .normal a' w')→wpListIn (Fw ro) q E.P ops Q l a w
  | [],_,st,K,a,w,h,hR,hQ=>hQ st a w h hR
  | o :: r,hl,st,K,a,w,h,hR,hQ=>by
    have ih:=zcE (ro:=ro) (q:=q) hC (Q:=Q) hdst r (fun o ho=>hl o (List.mem_cons_of_mem _ ho))
    have hg:=zef (ops:=ops) hR (o:=o)
    have hd:=hdst o (hl o List.mem_cons_self)
    simp only[zes,zbu] at h
    unfold wpListIn
    split at h
    · rename_i heq
      rw[heq] at hg
      simp only at hg
      rw[if_pos hg]
      exact (zhp hC hR h fun st' a' w' hk hr=>ih st' K a' w' hk hr hQ)
    · rename_i heq
      rw[heq] at hg
      simp only at hg
      rw[if_neg (by rw[hg];simp)]
      exact⟨fun _ _=>trivial,ih _ K _ w h (zfX hR _ hd) hQ⟩
    · rename_i t b heq
      rw[heq] at hg
      simp only at hg
      obtain⟨ht,hv,hw⟩:=hg
      by_cases hbw:b=zab o
      · rw[if_pos (by rw[hw,hbw];simp)]
        have hv':a.tmps.getD t undef=.bool (zab o):=by rw[hv,hbw]
        exact (zhp hC (zik ht hR hv') (h.out.1 hbw) fun st' a' w' hk hr=>ih st' K a' w' hk hr hQ)
      · have hbn:b = !zab o:=by cases b<;>cases hh:zab o<;>simp_all
        rw[if_neg (by rw[hw];simpa using hbw)]
        have hv':a.tmps.getD t undef=.bool (!zab o):=by rw[hv,hbn]
        exact⟨fun _ _=>trivial,ih _ K _ w (h.out.2 hbn) (zfX (zik ht hR hv') _ hd) hQ⟩
    · exact h.elim
def XE.to:XE→Exit
  | .normal=>.normal
  | .exit id=>.exit id
  | .ret=>.ret
/-! ### Slots that a body does not write -/
def zbK (ds:List Nat) (a a':Act):Prop:=∀t,t ∉ ds→a'.tmps.getD t undef=a.tmps.getD t undef
theorem zbK.refl (ds:List Nat) (a:Act):zbK ds a a:=fun _ _=>rfl
theorem zbK.trans {ds:List Nat} {a b d:Act} (h:zbK ds a b) (k:zbK ds b d):zbK ds a d:=fun t ht=>(k t ht).trans (h t ht)
theorem zbK.more {ds ds':List Nat} {a b:Act} (h:zbK ds a b) (hs:∀t,t∈ds→t∈ds'):zbK ds' a b:=fun t ht=>h t fun hc=>ht (hs t hc)
theorem zjs (a:Act) (d:Option Nat) (v:Value) {ds:List Nat} (h:∀t,d=some t→t∈ds):zbK ds a (a.put d v):=fun t ht=>by
  cases d with
  | none=>rfl
  | some d=>exact zaa fun e=>ht (by rw[e];exact h d rfl)
def AgX (ds:List Nat) (a0:Act) (Q:Exit→Act→World→Prop):Exit→Act→World→Prop:=fun e a w=>Q e a w∧(e≠.outgrown→zbK ds a0 a)
theorem zo6 {F:Fence} {q:Nat} {P:Program} {o:Oper} {ds:List Nat} {a0 a:Act} {w:World} {K:Act→World→Prop} {Q:Exit→Act→World→Prop} (hd:∀t,o.dst=some t→t∈ds) (h0:zbK ds a0 a)
    (h:o.wpIn F q P a w K Q):o.wpIn F q P a w (fun a' w'=>K a' w'∧zbK ds a0 a') (AgX ds a0 Q):=by
  have hp:∀v,zbK ds a0 (a.put o.dst v):=fun v=>h0.trans (zjs a o.dst v hd)
  have hp':∀d v,zbK ds a0 (({a with defers:=d::a.defers}:Act).put o.dst v):=fun d v t ht=>by
    have:=hp v t ht
    cases hd:o.dst<;>simpa [Act.put,hd] using this
  have hout:LetsOut Q→LetsOut (AgX ds a0 Q):=fun⟨x,y,hq⟩=>⟨x,y,hq,fun hc=>absurd rfl hc⟩
  unfold Oper.wpIn at *
  refine⟨h.1,?_⟩
  have h:=h.2
  generalize (o.semAt F.round a.eval).run P w=r at *
  cases r with
  | ok x w'=>
    cases x<;>simp only[Oper.uponIn] at h ⊢ <;>
      first
        | exact⟨h,hp _⟩
        | exact⟨h.1,CallsIn.mono h.2 (fun e w'' he=>by cases e<;>first|exact⟨he,hp _⟩|exact⟨he,fun _=>h0⟩|exact hout he)⟩
        | exact⟨h.1,RowsIn.mono h.2 (fun _ _ he=>⟨he,hp _⟩)⟩
        | exact⟨h.1,RoundIn.mono h.2 (fun e w'' he=>by cases e<;>first|exact⟨he,hp _⟩|exact⟨he,fun _=>h0⟩|exact hout he)⟩
        | exact⟨h,hp' _ _⟩
  | halt x w'=>cases x<;>simp only[Oper.uponIn] at h ⊢<;>first|exact⟨h,fun _=>h0⟩|exact h
theorem zgT {t:Nat}:∀ {l:List Oper},t∈zhr l↔∃o∈l,o.dst=some t
  | []=>by simp[zhr]
  | o::r=>by
    have ih:=zgT (t:=t) (l:=r)
    cases hd:o.dst with
    | none=>simp[zhr,hd,ih]
    | some d=>simp[zhr,hd,ih,eq_comm]
theorem zgZ {F:Fence} {q:Nat} {P:Program} {ops:Array Oper} {Q:Exit→Act→World→Prop} {ds:List Nat} {a0:Act}:∀(l:List Oper) (a:Act) (w:World),(∀o∈l,∀t,o.dst=some t→t∈ds)→zbK ds a0 a→
    wpListIn F q P ops Q l a w→wpListIn F q P ops (AgX ds a0 Q) l a w
  | [],a,w,_,h0,h=>⟨h,fun _=>h0⟩
  | o :: r,a,w,hd,h0,h=>by
    have hd':∀o∈r,∀t,o.dst=some t→t∈ds:=fun o ho=>hd o (List.mem_cons_of_mem _ ho)
    unfold wpListIn at h ⊢
    split
    · rename_i hw
      rw[if_pos hw] at h
      exact Oper.wpIn_mono (fun a w hk=>zgZ r a w hd' hk.2 hk.1) (zo6 (hd o List.mem_cons_self) h0 h)
    · rename_i hw
      rw[if_neg hw] at h
      exact⟨h.1,zgZ r _ _ hd' (h0.trans (zjs a o.dst undef (hd o List.mem_cons_self))) h.2⟩
theorem zgC {F:Fence} {q:Nat} {P:Program} {md:Region.Mode} {ops:Array Oper} {Q:Exit→Act→World→Prop} {ds:List Nat} {a0:Act} (hd:∀o∈ops.toList,∀t,o.dst=some t→t∈ds):∀(fuel:Nat) (L:Array Bool) (a:Act) (w:World),zbK ds a0 a→
    wpAnyIn F q P md ops Q fuel L a w→wpAnyIn F q P md ops (AgX ds a0 Q) fuel L a w
  | 0,L,a,w,h0,h=>⟨h.1,h.2,fun _=>h0⟩
  | fuel + 1,L,a,w,h0,h=>by
    refine⟨fun hr=>⟨h.1 hr,fun _=>h0⟩,fun i hi=>?_⟩
    have h1:=h.2 i hi
    unfold wpOpIn at *
    cases ho:ops[i]? with
    | none=>rw[ho] at h1;exact zgC hd fuel _ a w h0 h1
    | some o=>
      rw[ho] at h1
      simp only at h1 ⊢
      have hm:o∈ops.toList:=by
        obtain⟨hlt,he⟩:=Array.getElem?_eq_some_iff.1 ho
        rw[←he];simp
      split
      · rename_i hw
        rw[if_pos hw] at h1
        exact Oper.wpIn_mono (fun a w hk=>zgC hd fuel _ a w hk.2 hk.1) (zo6 (hd o hm) h0 h1)
      · rename_i hw
        rw[if_neg hw] at h1
        exact⟨h1.1,zgC hd fuel _ _ _ (h0.trans (zjs a o.dst undef (hd o hm))) h1.2⟩
def zAT (E:Env) (c:Cfg) (par:Array Oper→St→(St→Prop)→Prop):Prop:=
  ∀ (id:Nat) (ops:Array Oper) (st:St) (K:St→Prop) (a:Act) (w:World) (Q:Exit→Act→World→Prop),par ops st K→RelS E c.nt st a w→
    (∀st' a' w',K st'→RelS E c.nt st' a' w'→Q .normal a' w')→∀(ro:Option Nat) (q:Nat),(Code.region id ops true).wpIn (Fw ro) q E.P (AgX (zhr ops.toList) a Q) a w
def zcZ (nt:Nat):Code→Bool
  | .region _ ops _=>ops.toList.all fun o=>match o.dst with|some d=>Nat.blt d nt|none=>true
  | .seq a b=>zcZ nt a&&zcZ nt b
  | .cond _ a b=>zcZ nt a&&zcZ nt b
  | .block _ b=>zcZ nt b
  | .loop b=>zcZ nt b
  | .rangeFunc _ ps a b=>(zcZ nt a&&zcZ nt b)&&ps.toList.all fun p=>Nat.blt p nt
  | _=>true
def zqz (E:Env) (nt:Nat) (K:XE→St→Prop):Exit→Act→World→Prop:=fun e a w=>∃x st,XE.to x=e∧K x st∧RelS E nt st a w
theorem zbj {ds ps ks:List Nat}:∀ {st:St} {t:Nat} {s:SV},Fact.slot t s∈zcH ds ps ks st→t ∉ ds
  | [],t,s,h=>by cases h
  | f :: r, t,s,h=>by
    cases f with
    | slot t' s'=>
      simp only[zcH] at h
      cases hb:(memN t' ds || memN t' ps || s'.ment ds) with
      | true=>rw[hb] at h;exact zbj h
      | false=>
        rw[hb] at h
        rcases List.mem_cons.1 h with h|h
        · injection h with h1 h2
          subst h1
          intro hc
          rw[zaw.2 hc] at hb
          cases hb
        · exact zbj h
    | cell k off s'=>
      simp only[zcH] at h
      cases hb:(memN k ks || memN k ds || s'.ment ds) with
      | true=>rw[hb] at h;exact zbj h
      | false=>
        rw[hb] at h
        rcases List.mem_cons.1 h with h|h
        · cases h
        · exact zbj h
    | row k el e xs=>
      simp only[zcH] at h
      cases hb:(memN k ks || memN k ds) with
      | true=>rw[hb] at h;exact zbj h
      | false=>
        rw[hb] at h
        rcases List.mem_cons.1 h with h|h
        · cases h
        · exact zbj h
    | ob k i=>
      simp only[zcH] at h
      cases hb:memN k ds with
      | true=>rw[hb] at h;exact zbj h
      | false=>
        rw[hb] at h
        rcases List.mem_cons.1 h with h|h
        · cases h
        · exact zbj h
    | fix k=>
      simp only[zcH] at h
      cases hb:memN k ds with
      | true=>rw[hb] at h;exact zbj h
      | false=>
        rw[hb] at h
        rcases List.mem_cons.1 h with h|h
        · cases h
        · exact zbj h
theorem zrO:∀ {st:St},zgK st=[]→∀t s,Fact.slot t s ∉ st
  | [],_,t,s,h=>by cases h
  | f :: r,hs,t,s,h=>by
    cases f with
    | slot t' s'=>cases hs
    | _=>
      rcases List.mem_cons.1 h with h|h
      · cases h
      · exact zrO (by simpa only [zgK] using hs) t s h
theorem zll {V:View}:∀(t:Ty) (x:t.Den),t.flat=true→Rep V t x (encL t x)
  | .int k,x,_=>rfl
  | .bool,x,_=>rfl
  | .str,x,_=>rfl
  | .flt k,x,_=>rfl
  | .cpx k,x,_=>rfl
  | .sl _,_,h=>by cases h
  | .ptr _,_,h=>by cases h
  | .clo _ _,_,h=>by cases h
  | .fnl _,_,h=>by cases h
  | .osl _,_,h=>by cases h
  | .err,_,h=>by cases h
  | .nil,_,_=>rfl
  | .cons a b,x,h=>by
    simp only[Ty.flat,Bool.and_eq_true] at h
    exact⟨_,_,rfl,zll a x.1 h.1,zll b x.2 h.2⟩
theorem zur {V:View} {t:Ty} {x:t.Den} (h:t.flat=true):RepV V t x (encV t x):=by
  have hr:=zll (V:=V) t x h
  cases hag:t.agg with
  | true=>exact⟨_,hr,.inl (by simp[encV,hag])⟩
  | false=>
    have hl:(encL t x).length=t.size:=Rep.length t x _ hr
    have h1:t.size=1:=by cases t<;>simp_all [Ty.agg,Ty.size]
    match hv:encL t x,hl with
    | [v],_=>exact⟨[v],by rw[←hv];exact hr,.inr ⟨hag,by simp[encV,hag,hv]⟩⟩
    | [],hl=>rw[h1] at hl;simp at hl
    | _::_::_,hl=>rw[h1] at hl;simp at hl
section
variable {E:Env} {nt:Nat} {η:Eta} {st:St} {a:Act} {w:World}
theorem zoY {η:Eta}:∀ {ps:List (Nat×Nat)} {vs:List Value} {i:Nat} {p:Nat×Nat},ptrL η ps vs→nth ps i=some p→∃b c,η p.1=some (b,c)∧vs[i]?=some (.pointer (some ⟨b,p.2,none⟩))
  | [],[],i,p,_,h=>by simp[nth] at h
  | [],_::_,_,_,h,_=>h.elim
  | _::_,[],_,_,h,_=>h.elim
  | q::r,v::l,0,p,⟨⟨b,c,h1,h2⟩,_⟩,h=>by
    have h:q=p:=Option.some.inj h
    subst h
    exact⟨b,c,h1,by rw[h2];rfl⟩
  | q::r,v::l,i+1,p,⟨_,h2⟩,h=>by
    obtain⟨b,c,h3,h4⟩:=zoY h2 (show nth r i=some p from h)
    exact⟨b,c,h3,by simpa using h4⟩
theorem zfL {η:Eta}:∀ {ps:List (Nat×Nat)} {vs:List Value},ptrL η ps vs→ps.length=vs.length
  | [],[],_=>rfl
  | [],_::_,h=>h.elim
  | _::_,[],h=>h.elim
  | _::_,_::_,h=>by simp[zfL h.2]
theorem ziA {η:Eta}:∀ {ps qs:List (Nat×Nat)} {vs us:List Value},ptrL η ps vs→ptrL η qs us→ptrL η (ps++qs) (vs++us)
  | [],_,[],_,_,h=>h
  | [],_,_::_,_,h,_=>h.elim
  | _::_,_,[],_,h,_=>h.elim
  | _::_,_,_::_,_,⟨h1,h2⟩,h=>⟨h1,ziA h2 h⟩
theorem zjT (H : ∀f∈st,Fact.holds E η a w f) {ps:List (Nat×Nat)} {vs:List Value} (hp:ptrL η ps vs):∀(rd:List (Nat×Nat×Ty)) (x:(rdTy rd).Den),rdOf st ps rd=some x→zlK (vw E η w) w vs rd x
  | [],_,_=>trivial
  | r :: l, x, h=>by
    unfold rdOf at h
    split at h
    case h_2=>cases h
    case h_1 p hnp=>
      split at h
      case h_2=>cases h
      case h_1 cs hcs=>
        split at h
        case h_2=>cases h
        case h_1 y hy=>
          split at h
          case h_2=>cases h
          case h_1 z hz=>
            have h:=Option.some.inj h
            subst h
            obtain⟨b,c,h1,h2⟩:=zoY hp hnp
            obtain⟨us,e1,e2,e3,_⟩:=zbq H h1 _ _ _ hcs
            obtain⟨l1,l2,q1,q2,q3⟩:=zda r.2.2 cs us y [] hy e1
            refine⟨⟨b,p.2,h2,us,?_,e2,fun j v hj=>e3 j v hj⟩,zjT H hp l z hz⟩
            have:l2=[]:=by
              cases l2 with
              | nil=>rfl
              | cons _ _=>exact q3.elim
            rw[q1,this,List.append_nil]
            exact q2
theorem znK (g:Good E nt η a w) (H:∀f∈st,Fact.holds E η a w f) {ps:List (Nat×Nat)} {vs:List Value} (hp:ptrL η ps vs) {rd:List (Nat×Nat×Ty)} {x:(rdTy rd).Den} (h:rdOf st ps rd=some x):zlL rd w vs x:=
  ⟨vw E η w,fun b c ⟨_,_,h⟩=>h,zjT H hp rd x h⟩
theorem zqa {w':World} (hsame:∀(b:Nat) (o:Obj),w.heap[b]?=some o→w'.heap[b]?=some o):Keeps E η η a a w w' {}:=
  ⟨fun b c ⟨h1,h2,el,f,h3⟩=>⟨h1,h2,el,f,hsame _ _ h3⟩,fun _ _=>rfl,fun _ _=>rfl,
    fun k off b c cur el v _ _ _ _ _ h5 h6=>⟨cur,hsame _ _ h5,h6⟩,fun k b c cur el _ _ _ _ _ h5=>hsame _ _ h5,fun k i b c o _ _ _ _ h5 h6=>⟨o,hsame _ _ h5,h6⟩⟩
theorem zqO (f:Fact):Kill.surv {} f=true:=by
  have zl:∀l:List S1,anyS (S1.ment []) l=false:=zeo
  cases f with
  | slot t s=>cases s<;>simp[Kill.surv,memN,SV.ment,zcA,zl]
  | cell k off s=>simp[Kill.surv,memN,memC,zcA]
  | row k el e xs=>simp[Kill.surv,memN]
  | ob k i=>simp[Kill.surv,memN]
  | fix k=>simp[Kill.surv,memN]
theorem Env.low_eq {E E':Env} (hw0:E'.w0=E.w0) (hx:E'.x=E.x):E'.low=E.low:=by
  funext b
  simp only[Env.low,hw0,hx]
theorem zrx {E':Env} (hP:E'.P=E.P) (hM:E'.M=E.M) (hmu:E'.mu=E.mu) (hw0:E'.w0=E.w0) (hOB:E'.OB=E.OB) (hx:E'.x=E.x) (g:Good E nt η a w) (H:∀f∈st,Fact.holds E η a w f) {l:Nat} {o o':Obj} {a':Act}
    (hl:(l,o)∈E.pins) (hsub:∀p∈E'.pins,∃o,(p.1,o)∈E.pins) (hlow:E.w0.heap.size≤l) (hfree:∀k c,η k≠some (l,c)) (ht:a'.tmps=a.tmps) (hmk:zjN E' η a' (w.putObj l o')) (hnd:E'.x.nd=true→a'.defers=[]) :
    Good E' nt η a' (w.putObj l o')∧∀f∈st,Fact.holds E' η a' (w.putObj l o') f:=by
  have hother:∀(b:Nat) (x:Obj),w.heap[b]?=some x→b≠l→(w.putObj l o').heap[b]?=some x:=fun b x h hb=>(World.putObj_heap_other hb).trans h
  have hsz:(w.putObj l o').heap.size=w.heap.size:=by simp[World.putObj]
  have hne:∀k b c,η k=some (b,c)→b≠l:=fun k b c h e=>hfree k c (e▸h)
  have hview:∀b c,vw E η w b c→vw E' η (w.putObj l o') b c:=fun b c ⟨h1,h2,el,f,h3⟩=>⟨fun hm=>h1 (hm.imp (fun h=>by rw[hM] at h;exact h) fun⟨o,h⟩=>hsub _ h),h2,el,f,hother b _ h3 (fun e=>h1 (.inr ⟨o,e▸hl⟩))⟩
  refine ⟨{
    size:=by rw[ht];exact g.size
    nd:=hnd
    lim:=g.lim
    defers:=hmk
    os:=by rw[hw0];exact g.os
    tape:=by rw[hw0];exact g.tape
    output:=by rw[hw0];exact g.output
    grow:=by rw[hsz,hw0];exact g.grow
    keep:=fun b hb hm hw=>by
      rw[hw0] at hb ⊢
      exact (World.putObj_heap_other (by omega)).trans (g.keep b hb (by rw[←hmu];exact hm) (by rw[←hx];exact hw))
    own:=fun k b c h=>by rw[hsz,Env.low_eq hw0 hx,hmu];exact g.own k b c h
    dis:=fun b hb=>by rw[Env.low_eq hw0 hx];exact g.dis b (by rw[←hmu];exact hb)
    inj:=g.inj
    old:=fun b hb=>by rw[Env.low_eq hw0 hx];exact g.old b (by rw[←hM];exact hb)
    obkeep:=fun b i o1 hb hm h1 h2=>by
      rw[hw0] at hb h1
      rw[hOB] at h2 ⊢
      obtain⟨o2,h3,h4⟩:=g.obkeep b i o1 hb (by rw[←hmu];exact hm) h1 h2
      exact⟨o2,hother b o2 h3 (by omega),h4⟩},fun f hf=>?_⟩
  have h:=H f hf
  cases f with
  | slot t s=>
    simp only[Fact.holds] at h ⊢
    rw[ze8 (a':=a') (a:=a) (t:=t) (by rw[ht])]
    exact zdh (ks:=[]) hview (fun _ _=>rfl) (by cases s<;>simp[SV.ment,zcA,zeo]) h
  | cell k off s=>
    obtain⟨b,c,cur,el,v,h1,h2,h3,h4,h5,h6⟩:=h
    exact⟨b,c,cur,el,v,by rw[Env.low_eq hw0 hx];exact h1,h2,hother b _ h3 (hne k b c h2),h4,h5,zaF (ks:=[]) hview (fun _ _=>rfl) (zcA s) h6⟩
  | row k el e xs=>
    rcases h with h|⟨b,c,cur,h1,h2,h3,h4⟩
    · exact .inl h
    · exact .inr ⟨b,c,cur,by rw[Env.low_eq hw0 hx];exact h1,h2,hother b _ h3 (hne k b c h2),h4.mono hview⟩
  | ob k i=>
    obtain⟨b,c,o1,h1,h2,h3⟩:=h
    exact⟨b,c,o1,h1,hother b _ h2 (hne k b c h1),by rw[hOB];exact h3⟩
  | fix k=>
    show η k=_
    rw[hx];exact h
theorem zmk {E':Env} (hP:E'.P=E.P) (hM:E'.M=E.M) (hmu:E'.mu=E.mu) (hw0:E'.w0=E.w0) (hOB:E'.OB=E.OB) (hx:E'.x=E.x) (g:Good E nt η a w) (H:∀f∈st,Fact.holds E η a w f) {a':Act} {ds:List Nat}
    (hview:∀b c,vw E η w b c→vw E' η w b c) (hsz:a'.tmps.size=nt) (hag:zbK ds a' a) (hds:∀t s,Fact.slot t s∈st→t ∉ ds) (hmk:zjN E' η a' w) (hnd:E'.x.nd=true→a'.defers=[]):Good E' nt η a' w∧∀f∈st,Fact.holds E' η a' w f:=by
  refine ⟨{
    size:=hsz
    nd:=hnd
    lim:=g.lim
    defers:=hmk
    os:=by rw[hw0];exact g.os
    tape:=by rw[hw0];exact g.tape
    output:=by rw[hw0];exact g.output
    grow:=by rw[hw0];exact g.grow
    keep:=fun b hb hm hw=>by rw[hw0] at hb ⊢;exact g.keep b hb (by rw[←hmu];exact hm) (by rw[←hx];exact hw)
    own:=fun k b c h=>by rw[Env.low_eq hw0 hx,hmu];exact g.own k b c h
    dis:=fun b hb=>by rw[Env.low_eq hw0 hx];exact g.dis b (by rw[←hmu];exact hb)
    inj:=g.inj
    old:=fun b hb=>by rw[Env.low_eq hw0 hx];exact g.old b (by rw[←hM];exact hb)
    obkeep:=fun b i o1 hb hm h1 h2=>by
      rw[hw0] at hb h1
      rw[hOB] at h2 ⊢
      exact g.obkeep b i o1 hb (by rw[←hmu];exact hm) h1 h2},fun f hf=>?_⟩
  have h:=H f hf
  cases f with
  | slot t s=>
    simp only[Fact.holds] at h ⊢
    rw[ze8 (hag t (hds t s hf))] at h
    exact zdh (ks:=[]) hview (fun _ _=>rfl) (by cases s<;>simp[SV.ment,zcA,zeo]) h
  | cell k off s=>
    obtain⟨b,c,cur,el,v,h1,h2,h3,h4,h5,h6⟩:=h
    exact⟨b,c,cur,el,v,by rw[Env.low_eq hw0 hx];exact h1,h2,h3,h4,h5,zaF (ks:=[]) hview (fun _ _=>rfl) (zcA s) h6⟩
  | row k el e xs=>
    rcases h with h|⟨b,c,cur,h1,h2,h3,h4⟩
    · exact .inl h
    · exact .inr ⟨b,c,cur,by rw[Env.low_eq hw0 hx];exact h1,h2,h3,h4.mono hview⟩
  | ob k i=>
    obtain⟨b,c,o1,h1,h2,h3⟩:=h
    exact⟨b,c,o1,h1,h2,by rw[hOB];exact h3⟩
  | fix k=>
    show η k=_
    rw[hx];exact h
end
theorem zy9 (w:World) (o:Obj) (b:Nat) (h:b<w.heap.size):(w.alloc o).heap[b]?=w.heap[b]?:=(World.grownBy_alloc w o none).block b h (by simp)
theorem ze5 {ds:List Nat}:∀ {st:St} {f:Fact},f∈zgv ds st→f∈st
  | [],f,h=>h
  | g :: r,f,h=>by
    cases g with
    | slot t s=>
      simp only[zgv] at h
      cases hb:memN t ds with
      | true=>rw[hb] at h;exact List.mem_cons_of_mem _ (ze5 h)
      | false=>
        rw[hb] at h
        rcases List.mem_cons.1 h with h|h
        · rw[h];exact List.mem_cons_self
        · exact List.mem_cons_of_mem _ (ze5 h)
    | _=>
      simp only[zgv] at h
      rcases List.mem_cons.1 h with h|h
      · rw[h];exact List.mem_cons_self
      · exact List.mem_cons_of_mem _ (ze5 h)
theorem zdQ {ds:List Nat}:∀ {st:St} {t:Nat} {s:SV},Fact.slot t s∈zgv ds st→t ∉ ds
  | [],t,s,h=>by cases h
  | g :: r, t,s,h=>by
    cases g with
    | slot t' s'=>
      simp only[zgv] at h
      cases hb:memN t' ds with
      | true=>rw[hb] at h;exact zdQ h
      | false=>
        rw[hb] at h
        rcases List.mem_cons.1 h with h|h
        · injection h with h1 h2
          subst h1
          intro hc
          rw[zaw.2 hc] at hb
          cases hb
        · exact zdQ h
    | _=>
      simp only[zgv] at h
      rcases List.mem_cons.1 h with h|h
      · cases h
      · exact zdQ h
section
variable {E:Env} {nt:Nat} {η:Eta} {st:St} {a:Act} {w:World}
theorem zqe {w':World} (g:Good E nt η a w) (H:∀f∈st,Fact.holds E η a w f) (hg:w.grownBy w' none):Good E nt η a w'∧∀f∈st,Fact.holds E η a w' f:=by
  have hsame:∀b o,w.heap[b]?=some o→w'.heap[b]?=some o:=fun b o h=>(hg.block b (zag h) (by simp)).trans h
  have hk:=zqa (E:=E) (η:=η) (a:=a) hsame
  refine⟨?_,fun f hf=>hk.fact (zqO f) (H f hf)⟩
  exact {
    size:=g.size
    lim:=g.lim
    defers:=g.defers.mono rfl (fun D o h _=>hsame D o h) (fun k b c h=>.inl ⟨k,c,h⟩)
    os:=hg.os.trans g.os,tape:=hg.tape.trans g.tape,output:=hg.output.trans g.output
    grow:=Nat.le_trans g.grow hg.size
    dis:=g.dis
    keep:=fun b hb hm hw=>(hg.block b (by have:=g.grow;omega) (by simp)).trans (g.keep b hb hm hw)
    own:=fun k b c h=>by have hz:=hg.size;have:=g.own k b c h;exact⟨by omega,this.2⟩
    inj:=g.inj,old:=g.old
    obkeep:=fun b i o hb hm h1 h2=>by
      obtain⟨o',h3,h4⟩:=g.obkeep b i o hb hm h1 h2
      exact⟨o',hsame b o' h3,h4⟩}
theorem zp9 {E':Env} {a':Act} {l:Nat} {o o':Obj} (h:zjN E η a w) (hl:(l,o)∈E.pins) (hno:o≠.deferred (some [])) (hw0:E'.w0=E.w0)
    (hd:a'.defers=a.defers) (hp:∀p∈E'.pins,(p∈E.pins∧p.1≠l)∨p=(l,o')):zjN E' η a' (w.putObj l o'):=by
  obtain⟨⟨ms,h1,h2,h3⟩,h4⟩:=h
  obtain⟨q1,q2,q4⟩:=h4 _ hl
  refine⟨⟨ms,hd.trans h1,h2,fun D hD=>?_⟩,fun p hpm=>?_⟩
  · obtain⟨k1,k2,k3⟩:=h3 D hD
    refine⟨by rw[hw0];exact k1,(World.putObj_heap_other (fun e=>?_)).trans k2,k3⟩
    rw[e] at k2
    exact hno (by rw[q2] at k2;exact Option.some.inj k2)
  · rcases hp p hpm with ⟨k1,k2⟩|rfl
    · obtain⟨r1,r2,r4⟩:=h4 _ k1
      exact⟨by rw[hw0];exact r1,(World.putObj_heap_other k2).trans r2,r4⟩
    · exact⟨by rw[hw0];exact q1,World.putObj_heap_same (zag q2),q4⟩
def zf8 (E:Env) (ms:List Nat) (D:Nat):List (Nat×Obj):=(D,.deferred (some []))::(ms.map fun D=>(D,Obj.deferred (some [])))++E.pins
def zaY (E:Env) (ms:List Nat) (D l:Nat) (o:Obj):Env:={E with pins:=(l,o)::zf8 E ms D}
theorem zmE {a':Act} (h:zjN E η a w) (hd:a'.defers=[]):zjN E η a' w:=⟨⟨[],hd,List.nodup_nil,fun _ h=>by cases h⟩,h.2⟩
theorem zkW {st':St} (hR:RelS E nt st a w) (h:∀f∈st',f∈st):RelS E nt st' a w:=
  let ⟨η,g,H⟩:=hR
  ⟨η,g,fun f hf=>H f (h f hf)⟩
theorem turn {ms:List Nat} {D l:Nat} {o o':Obj} {a':Act} {ds:List Nat} (hR:RelS (zaY E ms D l o) nt st a w) (hno:o≠.deferred (some []))
    (hrest:∀p∈zf8 E ms D,p.1≠l) (hlow:E.w0.heap.size≤l)
    (hsz:a'.tmps.size=nt) (hag:zbK ds a' a) (hds:∀t s,Fact.slot t s∈st→t ∉ ds) (hd:a'.defers=[]∨a'.defers=a.defers):RelS (zaY E ms D l o') nt st a' (w.putObj l o'):=by
  obtain⟨η,g,H⟩:=hR
  have hm:(l,o)∈(zaY E ms D l o).pins:=List.mem_cons_self
  obtain⟨q1,q2,q4⟩:=g.defers.2 _ hm
  obtain⟨g1,H1⟩:=zmk (E:=zaY E ms D l o) (E':=zaY E ms D l o) rfl rfl rfl rfl rfl rfl g H (fun _ _ h=>h) hsz hag hds (hd.elim (zmE g.defers) fun hd=>⟨let ⟨ms,h1,h2⟩:=g.defers.1;⟨ms,hd.trans h1,h2⟩,g.defers.2⟩) (fun h=>hd.elim id fun hd=>hd.trans (g.nd h))
  obtain ⟨g2,H2⟩:=zrx (E:=zaY E ms D l o) (E':=zaY E ms D l o') (a':=a') (o':=o') rfl rfl rfl rfl rfl rfl g1 H1 hm (fun p hp=>by
      rcases List.mem_cons.1 hp with rfl|h
      · exact⟨o,hm⟩
      · exact⟨p.2,List.mem_cons_of_mem _ h⟩) hlow q4 rfl
    (zp9 g1.defers hm hno rfl rfl fun p hp=>by
      rcases List.mem_cons.1 hp with h|h
      · exact .inr h
      · exact .inl ⟨List.mem_cons_of_mem _ h,hrest p h⟩) g1.nd
  exact⟨η,g2,H2⟩
theorem zml {ms:List Nat} {D l:Nat} {o:Obj} (hR:RelS (zaY E ms D l o) nt st a w):w.heap[l]?=some o:=
  let ⟨_,g,_⟩:=hR
  (g.defers.2 (l,o) List.mem_cons_self).2.1
theorem ztQ {o:Obj} (hR:RelS E nt st a w) (ho:o.isCells=false) :
    ∃ ms,a.defers=ms.map mkD∧ms.Nodup∧(∀D∈ms,D<w.heap.size)∧(∀p∈zf8 E ms w.heap.size,p.1≠w.heap.size+1)∧E.w0.heap.size≤w.heap.size∧
      RelS (zaY E ms w.heap.size (w.heap.size+1) o) nt st {tmps:=a.tmps,defers:=[]} ((w.alloc (.deferred (some []))).alloc o):=by
  obtain⟨η,g,H⟩:=hR
  obtain⟨⟨ms,h1,h2,h3⟩,h4⟩:=g.defers
  have hg:w.grownBy ((w.alloc (.deferred (some []))).alloc o) none:=(World.grownBy_alloc w _ none).trans (World.grownBy_alloc _ o none)
  obtain⟨g1,H1⟩:=zqe g H hg
  have hsame:∀b o',w.heap[b]?=some o'→((w.alloc (.deferred (some []))).alloc o).heap[b]?=some o':=fun b o' h=>(hg.block b (zag h) (by simp)).trans h
  have hrest:∀p∈zf8 E ms w.heap.size,p=(w.heap.size,.deferred (some []))∨(E.w0.heap.size≤p.1∧w.heap[p.1]?=some p.2∧(p∈E.pins∨p.2=.deferred (some []))∧∀k c,η k≠some (p.1,c)):=by
    intro p hp
    rcases List.mem_cons.1 hp with h|h
    · exact .inl h
    · rcases List.mem_append.1 h with h|h
      · obtain⟨D,hD,rfl⟩:=List.mem_map.1 h
        obtain⟨k1,k2,k3⟩:=h3 D hD
        exact .inr ⟨k1,k2,.inr rfl,k3⟩
      · exact .inr ⟨(h4 p h).1,(h4 p h).2.1,.inl h,(h4 p h).2.2⟩
  have hfree:∀b,w.heap.size≤b→∀k c,η k≠some (b,c):=fun b hb k c h=>by have:=(g.own k b c h).1;omega
  refine⟨ms,h1,h2,fun D hD=>zag (h3 D hD).2.1,fun p hp=>?_,g.grow,η,?_⟩
  · rcases hrest p hp with rfl|⟨_,h,_⟩
    · simp
    · have:=zag h;omega
  · have hpins:∀p∈(zaY E ms w.heap.size (w.heap.size+1) o).pins,E.w0.heap.size≤p.1∧((w.alloc (.deferred (some []))).alloc o).heap[p.1]?=some p.2∧(p∈E.pins∨p.2.isCells=false)∧∀k c,η k≠some (p.1,c):=fun p hp=>by
      rcases List.mem_cons.1 hp with rfl|hp
      · refine⟨Nat.le_succ_of_le g.grow,?_,.inr ho,hfree _ (Nat.le_succ _)⟩
        have:=World.alloc_heap_new (w.alloc (.deferred (some []))) o
        rwa [World.size_alloc] at this
      · rcases hrest p hp with rfl|⟨k1,k2,k3,k4⟩
        · refine⟨g.grow,?_,.inr rfl,hfree _ (Nat.le_refl _)⟩
          exact (zy9 _ _ _ (by simp)).trans (World.alloc_heap_new w _)
        · exact⟨k1,hsame _ _ k2,k3.imp id (fun h=>by rw[h];rfl),k4⟩
    refine zmk (E:=E) (E':=zaY E ms w.heap.size (w.heap.size+1) o) (ds:=[]) rfl rfl rfl rfl rfl rfl g1 H1 (fun b c ⟨v1,v2,el,fz,v3⟩=>⟨fun hm=>?_,v2,el,fz,v3⟩) g.size (zbK.refl _ _) (fun _ _ _ h=>by cases h) ⟨⟨[],rfl,List.nodup_nil,fun _ h=>by cases h⟩,fun p hp=>⟨(hpins p hp).1,(hpins p hp).2.1,(hpins p hp).2.2.2⟩⟩ (fun _=>rfl)
    rcases hm with hm|⟨o1,hm⟩
    · exact v1 (.inl hm)
    · obtain ⟨_,u1,u2,_⟩:=hpins _ hm
      rcases u2 with u2|u2
      · exact v1 (.inr ⟨o1,u2⟩)
      · rw[v3] at u1
        have u1:=Option.some.inj u1
        rw[←u1] at u2
        cases u2
theorem zix {ms:List Nat} {D l:Nat} {o o':Obj} {a0:Act} (hR:RelS (zaY E ms D l o) nt st a0 w) (hno:o≠.deferred (some [])) (hrest:∀p∈zf8 E ms D,p.1≠l) (hlow:E.w0.heap.size≤l)
    (ht:a.tmps=a0.tmps) (hd:a.defers=ms.map mkD) (hnd:ms.Nodup) (hlt:∀D'∈ms,D'<D) (hx0:E.x.nd=false) :
    RelS E nt st {a with defers:=mkD D::a.defers} (w.putObj l o'):=by
  obtain⟨η,g,H⟩:=hR
  have hm:(l,o)∈(zaY E ms D l o).pins:=List.mem_cons_self
  obtain⟨q1,q2,q4⟩:=g.defers.2 _ hm
  have hpin:∀p∈zf8 E ms D,E.w0.heap.size≤p.1∧(w.putObj l o').heap[p.1]?=some p.2∧∀k c,η k≠some (p.1,c):=fun p hp=>by
    obtain⟨r1,r2,r4⟩:=g.defers.2 p (List.mem_cons_of_mem _ hp)
    exact⟨r1,(World.putObj_heap_other (hrest p hp)).trans r2,r4⟩
  refine⟨η,zrx (E:=zaY E ms D l o) (E':=E) rfl rfl rfl rfl rfl rfl g H hm (fun p hp=>⟨p.2,List.mem_cons_of_mem _ (List.mem_cons_of_mem _ (List.mem_append.2 (.inr hp)))⟩) hlow q4 ht ⟨⟨D::ms,by simp[hd],?_,fun D' hD'=>?_⟩,fun p hp=>?_⟩ (fun h=>by rw[hx0] at h;cases h)⟩
  · exact List.nodup_cons.2 ⟨fun h=>Nat.lt_irrefl _ (hlt D h),hnd⟩
  · obtain ⟨r1,r2,r4⟩:=hpin (D',.deferred (some [])) (by
      rcases List.mem_cons.1 hD' with rfl|h
      · exact List.mem_cons_self
      · exact List.mem_cons_of_mem _ (List.mem_append.2 (.inl (List.mem_map.2 ⟨D',h,rfl⟩))))
    exact⟨r1,r2,r4⟩
  · exact hpin p (List.mem_cons_of_mem _ (List.mem_append.2 (.inr hp)))
theorem ziC {ds:List Nat} {p:Nat} {t:Ty} {x:t.Den} (hR:RelS E nt st a w) (ha:a.defers=[]) (hp:p<nt) (hpd:p∈ds) (hf:t.flat=true) (hds:∀u s,Fact.slot u s∈st→u ∉ ds) :
    RelS E nt (.slot p (.one (.d t x))::st) {tmps:=a.tmps.setIfInBounds p (encV t x),defers:=[]} w:=by
  obtain⟨η,g,H⟩:=hR
  have hag:zbK ds {tmps:=a.tmps.setIfInBounds p (encV t x),defers:=[]} a:=fun u hu=>by
    have hne:p≠u:=fun e=>hu (e▸hpd)
    simp[Array.getD_eq_getD_getElem?,Array.getElem?_setIfInBounds_ne hne]
  obtain⟨g1,H1⟩:=zmk (E:=E) (E':=E) (a':={tmps:=a.tmps.setIfInBounds p (encV t x),defers:=[]}) rfl rfl rfl rfl rfl rfl g H (fun _ _ h=>h) (by simpa using g.size) hag hds (zmE g.defers rfl) (fun _=>rfl)
  refine⟨η,g1,fun f hf'=>?_⟩
  rcases List.mem_cons.1 hf' with rfl|h
  · simp only [Fact.holds,zao,zaN]
    have:(a.tmps.setIfInBounds p (encV t x)).getD p undef=encV t x:=by
      simp only[Array.getD_eq_getD_getElem?]
      rw[Array.getElem?_setIfInBounds_self_of_lt (by rw[g.size];exact hp)]
      rfl
    rw[zbl (Nat.lt_of_lt_of_le hp g.lim),this]
    exact zur hf
  · exact H1 f h
theorem ztV {E':Env} {w':World} (hP:E'.P=E.P) (hM:E'.M=E.M) (hmu:E'.mu=E.mu) (hw0:E'.w0=E.w0) (hOB:E'.OB=E.OB) (hx:E'.x=E.x) (hR:RelS E nt st a w) (hd:a.defers=[])
    (hos:w'.os=w.os) (htape:w'.tape=w.tape) (hout:w'.output=w.output) (hsize:w.heap.size≤w'.heap.size)
    (hstay:∀b,b<w.heap.size→(∀o,(b,o) ∉ E.pins)→w'.heap[b]?=w.heap[b]?)
    (hpins:∀p∈E'.pins,w'.heap[p.1]?=some p.2∧((∃o,(p.1,o)∈E.pins)∨w.heap.size≤p.1)):RelS E' nt st a w':=by
  obtain⟨η,g,H⟩:=hR
  have hlowp:∀b o,(b,o)∈E.pins→E.w0.heap.size≤b:=fun b o h=>(g.defers.2 _ h).1
  have hview:∀b c,vw E η w b c→vw E' η w' b c:=fun b c ⟨h1,h2,el,f,h3⟩=>by
    refine⟨fun hm=>?_,h2,el,f,(hstay b (zag h3) fun o ho=>h1 (.inr ⟨o,ho⟩)).trans h3⟩
    rcases hm with hm|⟨o,hm⟩
    · rw[hM] at hm;exact h1 (.inl hm)
    · rcases (hpins _ hm).2 with ⟨o',h⟩|h
      · exact h1 (.inr ⟨o',h⟩)
      · have:=zag h3;simp only at h;omega
  have hkey:∀k b c o,η k=some (b,c)→w.heap[b]?=some o→w'.heap[b]?=some o:=fun k b c o hk h=>(hstay b (zag h) fun o' ho=>(g.defers.2 _ ho).2.2 k c hk).trans h
  refine ⟨η,{
    size:=g.size
    lim:=g.lim
    defers:=⟨⟨[],hd,List.nodup_nil,fun _ h=>by cases h⟩,fun p hp=>?_⟩
    nd:=fun _=>hd
    os:=by rw[hw0];exact hos.trans g.os
    tape:=by rw[hw0];exact htape.trans g.tape
    output:=by rw[hw0];exact hout.trans g.output
    grow:=by rw[hw0];exact Nat.le_trans g.grow hsize
    keep:=fun b hb hm hw=>by
      rw[hw0] at hb ⊢
      have:=g.grow
      exact (hstay b (by omega) fun o ho=>by have:=hlowp b o ho;omega).trans (g.keep b hb (by rw[←hmu];exact hm) (by rw[←hx];exact hw))
    own:=fun k b c h=>by rw[Env.low_eq hw0 hx,hmu];have:=g.own k b c h;exact⟨by omega,this.2⟩
    dis:=fun b hb=>by rw[Env.low_eq hw0 hx];exact g.dis b (by rw[←hmu];exact hb)
    inj:=g.inj
    old:=fun b hb=>by rw[Env.low_eq hw0 hx];exact g.old b (by rw[←hM];exact hb)
    obkeep:=fun b i o hb hm h1 h2=>by
      rw[hw0] at hb h1
      rw[hOB] at h2 ⊢
      obtain⟨o',h3,h4⟩:=g.obkeep b i o hb (by rw[←hmu];exact hm) h1 h2
      exact⟨o',(hstay b (zag h3) fun o ho=>by have:=hlowp b o ho;omega).trans h3,h4⟩},fun f hf=>?_⟩
  · obtain⟨h1,h2⟩:=hpins p hp
    rw[hw0]
    rcases h2 with ⟨o,h2⟩|h2
    · exact⟨hlowp _ _ h2,h1,(g.defers.2 _ h2).2.2⟩
    · exact⟨Nat.le_trans g.grow h2,h1,fun k c hk=>by have:=(g.own k _ c hk).1;omega⟩
  · have h:=H f hf
    cases f with
    | slot t s=>
      simp only[Fact.holds] at h ⊢
      exact zdh (ks:=[]) hview (fun _ _=>rfl) (by cases s<;>simp[SV.ment,zcA,zeo]) h
    | cell k off s=>
      obtain⟨b,c,cur,el,v,h1,h2,h3,h4,h5,h6⟩:=h
      exact⟨b,c,cur,el,v,by rw[Env.low_eq hw0 hx];exact h1,h2,hkey k b c _ h2 h3,h4,h5,zaF (ks:=[]) hview (fun _ _=>rfl) (zcA s) h6⟩
    | row k el e xs=>
      rcases h with h|⟨b,c,cur,h1,h2,h3,h4⟩
      · exact .inl h
      · exact .inr ⟨b,c,cur,by rw[Env.low_eq hw0 hx];exact h1,h2,hkey k b c _ h2 h3,h4.mono hview⟩
    | ob k i=>
      obtain⟨b,c,o1,h1,h2,h3⟩:=h
      exact⟨b,c,o1,h1,hkey k b c _ h1 h2,by rw[hOB];exact h3⟩
    | fix k=>
      show η k=_
      rw[hx];exact h
def zdB (E:Env) (ps:List (Nat×Obj)):Env:={E with pins:=ps++E.pins}
def Dis (E:Env) (ms:List Nat) (D l:Nat) (ps:List (Nat×Obj)):Prop:=∀p∈ps,p.1≠l∧∀q∈zf8 E ms D,p.1≠q.1
theorem ziu {ms:List Nat} {D:Nat} {ps:List (Nat×Obj)} {p:Nat×Obj} (h:p∈zf8 (zdB E ps) ms D):p∈ps∨p∈zf8 E ms D:=by
  simp only[zf8,zdB,List.mem_cons,List.mem_append,List.cons_append] at h ⊢
  rcases h with h|h|h|h<;>simp[h]
theorem zi8 {ps:List (Nat×Obj)} (hR:RelS (zdB E ps) nt st a w):RelS E nt st a w:=by
  obtain⟨η,g,H⟩:=hR
  exact ⟨η,zmk (E:=zdB E ps) (E':=E) (ds:=[]) rfl rfl rfl rfl rfl rfl g H (fun b c ⟨h1,h2⟩=>⟨fun hm=>h1 (hm.imp id fun⟨o,h⟩=>⟨o,List.mem_append.2 (.inr h)⟩),h2⟩) g.size (zbK.refl _ _) (fun _ _ _ h=>by cases h)
    ⟨g.defers.1,fun p hp=>g.defers.2 p (List.mem_append.2 (.inr hp))⟩ g.nd⟩
theorem zjV {ms:List Nat} {D l:Nat} {o:Obj} {ps ps':List (Nat×Obj)} {w':World} (hR:RelS (zaY (zdB E ps) ms D l o) nt st a w) (hd:a.defers=[])
    (hdis0:Dis E ms D l ps) (h:OwnStep w w' ps ps') :
    Dis E ms D l ps'∧RelS (zaY (zdB E ps') ms D l o) nt st a w':=by
  have hdis:∀p∈ps,∀q∈(zaY E ms D l o).pins,p.1≠q.1:=fun p hp q hq=>by
    rcases List.mem_cons.1 hq with rfl|hq
    · exact (hdis0 p hp).1
    · exact (hdis0 p hp).2 q hq
  have hin:∀ps p,p∈(zaY (zdB E ps) ms D l o).pins↔p∈ps∨p∈(zaY E ms D l o).pins:=fun ps p=>by
    simp only[zaY,zf8,zdB,List.mem_cons,List.mem_append]
    constructor
    · rintro (h|(h|h)|h|h)<;>simp[h]
    · rintro (h|h|(h|h)|h)<;>simp[h]
  have hpin:∀q∈(zaY E ms D l o).pins,w.heap[q.1]?=some q.2:=fun q hq=>by
    obtain⟨η,g,H⟩:=hR
    exact (g.defers.2 q ((hin ps q).2 (.inr hq))).2.1
  have hdis':∀p∈ps',∀q∈(zaY E ms D l o).pins,p.1≠q.1:=fun p hp q hq=>by
    rcases (h.pins p hp).2 with ⟨o',h2⟩|h2
    · exact hdis _ h2 q hq
    · have:=zag (hpin q hq);omega
  refine⟨fun p hp=>⟨hdis' p hp (l,o) List.mem_cons_self,fun q hq=>hdis' p hp q (List.mem_cons_of_mem _ hq)⟩,ztV (E:=zaY (zdB E ps) ms D l o) (E':=zaY (zdB E ps') ms D l o) rfl rfl rfl rfl rfl rfl hR hd h.os h.tape h.output h.size (fun b hb hn=>h.block b hb fun o' ho'=>hn o' ((hin ps _).2 (.inl ho'))) fun p hp=>?_⟩
  rcases (hin ps' p).1 hp with hp|hp
  · obtain⟨h1,h2⟩:=h.pins p hp
    exact⟨h1,h2.imp (fun⟨o',h⟩=>⟨o',(hin ps _).2 (.inl h)⟩) id⟩
  · refine⟨(h.block p.1 (zag (hpin p hp)) fun o' ho'=>hdis _ ho' p hp rfl).trans (hpin p hp),.inl ⟨p.2,(hin ps _).2 (.inr hp)⟩⟩
theorem zup {V:View} {η:Eta} {sv:SV} {g:Nat} {v:Value} (h:fnOf sv=some g) (hv:zao V η sv v):∃fv cv:List Value,v=.func (.func g) fv.toArray cv.toArray:=by
  unfold fnOf at h
  split at h
  · simp only[Option.some.injEq] at h
    subst h
    obtain⟨fv,cv,h,_⟩:=hv
    exact⟨fv,cv,h⟩
  · simp only [Option.some.injEq] at h
    subst h
    obtain⟨l,⟨cv,hl,hcv⟩,⟨h2,_⟩|⟨_,h2⟩⟩:=hv
    · cases h2
    · rw[hl] at h2
      exact⟨[],cv,by simpa using h2.symm⟩
  · cases h
theorem zje {V : View} (hV:∀b c,V b c→∃el f,w.heap[b]?=some (.cells c el f)):∀(i:Nat) (rd:List (Nat×Nat×Ty)) (a:Ty) (y:a.Den) (x:(rdTy rd).Den) (vs us:List Value),zqn i rd a y=some x→Rep V a y vs→us.length=i→
    zlK V w (us++vs) rd x
  | _,[],_,_,_,_,_,_,_,_=>trivial
  | i, r :: l, a,y,x,vs,us,h,hr,hl=>by
    cases a with
    | cons a1 b=>cases a1 with
     | ptr t =>
      unfold zqn at h
      cases hb:(Nat.beq r.1 i&&Nat.beq r.2.1 0) with
      | false=>rw[hb] at h;simp at h
      | true =>
        rw[hb] at h
        simp only[cond_true] at h
        rw[Bool.and_eq_true] at hb
        have q1:=Nat.eq_of_beq_eq_true hb.1
        have q2:=Nat.eq_of_beq_eq_true hb.2
        split at h
        case h_2=>cases h
        case h_1 z hz=>
          split at h
          case h_2=>cases h
          case h_1 u hu=>
            have h:=Option.some.inj h
            subst h
            obtain⟨l1,l2,rfl,⟨ad,c,e1,e2,e3,e4,e5⟩,e6⟩:=hr
            subst e1
            obtain⟨he,hz⟩:=zbh hz
            obtain⟨n,off,ty⟩:=r
            have q1:n=i:=q1
            have q2:off=0:=q2
            have he:t=ty:=he
            subst he q1 q2
            have hz:z=y.1:=hz
            subst hz
            obtain⟨el,f,hbk⟩:=hV _ _ e3
            have hlen:=Rep.length _ _ _ e5
            have hat:=zrr e5 rfl
            obtain⟨ab,ao,asp⟩:=ad
            simp only at e2 e3 e4 e5 hlen hat hbk
            subst e2
            refine⟨⟨ab,ao,by rw[←hl];simp,_,e5,hlen,fun j v hj=>?_⟩,?_⟩
            · rw[zbz hbk,Nat.add_zero]
              simpa using hat j v hj
            · have:=zje hV (n+1) l b y.2 u l2 (us++[.pointer (some ⟨ab,ao,none⟩)]) hu e6 (by simp[hl])
              simpa using this
     | _=>simp[zqn] at h
    | _=>simp[zqn] at h
theorem zsB (g:Good E nt η a w) (H:∀f∈st,Fact.holds E η a w f) {sv:SV} {v:Value} (hv:zao (vw E η w) η sv v) {f:Nat} {fv cv:List Value} (he:v=.func (.func f) fv.toArray cv.toArray)
    {nb:Nat} {rd:List (Nat×Nat×Ty)} {x:(rdTy rd).Den} (h:rdAt st nb sv rd=some x):zlL rd w (fv++cv) x∧fv.length=nb∧cv.length≤16:=by
  unfold rdAt at h
  split at h
  · rename_i g' fs cs
    cases hb:(Nat.beq fs.length nb&&Nat.ble cs.length 16) with
    | false=>rw[hb] at h;simp at h
    | true=>
    rw[hb] at h
    simp only[cond_true] at h
    rw[Bool.and_eq_true] at hb
    have hc:=Nat.le_of_ble_eq_true hb.2
    have hb:=Nat.eq_of_beq_eq_true hb.1
    obtain⟨fv',cv',q1,q2,q3⟩:=hv
    rw[he] at q1
    simp only[Value.func.injEq] at q1
    obtain⟨_,u1,u2⟩:=q1
    have u1:fv=fv':=by simpa using congrArg Array.toList u1
    have u2:cv=cv':=by simpa using congrArg Array.toList u2
    subst u1 u2
    exact⟨znK g H (ziA q2 q3) h,(zfL q2).symm.trans hb,(zfL q3).symm▸hc⟩
  · rename_i g' b y
    cases hb:(Nat.beq 0 nb&&Nat.ble b.size 16) with
    | false=>rw[hb] at h;simp at h
    | true=>
    rw[hb] at h
    simp only[cond_true] at h
    rw[Bool.and_eq_true] at hb
    have hc:=Nat.le_of_ble_eq_true hb.2
    have hb:=Nat.eq_of_beq_eq_true hb.1
    obtain⟨l,⟨cv',hl,hcv⟩,⟨h2,_⟩|⟨_,h2⟩⟩:=hv
    · cases h2
    · rw[hl,he] at h2
      simp only[List.cons.injEq,Value.func.injEq,and_true] at h2
      obtain⟨_,u1,u2⟩:=h2
      have u1:fv=[]:=by simpa using (congrArg Array.toList u1).symm
      have u2:cv=cv':=by simpa using (congrArg Array.toList u2).symm
      subst u1 u2
      exact⟨⟨vw E η w,fun b c ⟨_,_,h⟩=>h,zje (fun b c ⟨_,_,h⟩=>h) 0 rd b y x cv [] h hcv rfl⟩,hb,(Rep.length _ _ _ hcv).symm▸hc⟩
  · cases h
theorem zp4 {isp:ISpec} {ds:List Nat} {ps:Array Nat} {p q:Nat} {x:(rdTy isp.rd).Den} {i:Nat} (hps:parP ps.toList=some (p,isp.two,q)) (hR:RelS E nt st a w) (ha:a.defers=[]) (hp:p<nt) (hpd:p∈ds) (hq:q<nt) (hqd:q∈ds)
    (hf:isp.e.flat=true) (hds:∀u s,Fact.slot u s∈st→u ∉ ds) :
    ∃ tm,(ps.zip (isp.args x i (encV isp.e (isp.seq x i)))).foldl (fun tmps (t,a)=>tmps.setIfInBounds t a) a.tmps=tm∧
      RelS E nt (.slot p (.one (.d isp.e (isp.seq x i)))::st) {tmps:=tm,defers:=[]} w∧zbK ds a {tmps:=tm,defers:=[]}:=by
  have hset:∀(tm:Array Value) (dd:List Deferred) (p:Nat) (v:Value),p∈ds→zbK ds {tmps:=tm,defers:=dd} {tmps:=tm.setIfInBounds p v,defers:=[]}:=fun tm dd p v hpd u hu=>by
    have hne:p≠u:=fun e=>hu (e▸hpd)
    simp[Array.getD_eq_getD_getElem?,Array.getElem?_setIfInBounds_ne hne]
  rcases ps with ⟨l⟩
  simp only at hps
  match l,hps with
  | [p'],hps=>
    simp only[parP,Option.some.injEq,Prod.mk.injEq] at hps
    obtain⟨rfl,h2,rfl⟩:=hps
    have e:isp.args x i (encV isp.e (isp.seq x i)) = #[encV isp.e (isp.seq x i)]:=by simp only[ISpec.args];rw[←h2]
    rw[e]
    exact⟨_,by simp,ziC (x:=isp.seq x i) hR ha hp hpd hf hds,hset a.tmps a.defers _ _ hpd⟩
  | [q',p'],hps=>
    simp only[parP,Option.some.injEq,Prod.mk.injEq] at hps
    obtain⟨rfl,h2,rfl⟩:=hps
    have e:isp.args x i (encV isp.e (isp.seq x i)) = #[.int .i64 i,encV isp.e (isp.seq x i)]:=by simp only[ISpec.args];rw[←h2]
    rw[e]
    have R1:=ziC (t:=.int .i64) (x:=(i:Int)) hR ha hq hqd rfl hds
    have R2:=ziC (x:=isp.seq x i) (zkW R1 fun f hf=>List.mem_cons_of_mem _ hf) rfl hp hpd hf hds
    refine⟨_,?_,R2,(hset a.tmps a.defers _ _ hqd).trans (hset _ [] _ _ hpd)⟩
    have e1:encV (.int .i64) (i:Int)=.int .i64 i:=rfl
    rw[e1]
    simp
  | [],hps=>cases hps
  | _::_::_::_,hps=>cases hps
theorem znN {isp:ISpec} {ps:Array Nat} {p q:Nat} {x:(rdTy isp.rd).Den} {i:Nat} {v:Value} (hps:parP ps.toList=some (p,isp.two,q)):ps.size=(isp.args x i v).size:=by
  rcases ps with ⟨l⟩
  simp only at hps
  match l,hps with
  | [p'],hps=>
    simp only[parP,Option.some.injEq,Prod.mk.injEq] at hps
    simp only[ISpec.args];rw[←hps.2.1];rfl
  | [q',p'],hps=>
    simp only[parP,Option.some.injEq,Prod.mk.injEq] at hps
    simp only[ISpec.args];rw[←hps.2.1];rfl
  | [],hps=>cases hps
  | _::_::_::_,hps=>cases hps
theorem zyG {ps:Array Nat} {p q nt:Nat} {t:Bool} (h:parP ps.toList=some (p,t,q)) (hd:(ps.toList.all fun p=>Nat.blt p nt)=true):p<nt∧q<nt:=by
  rcases ps with ⟨l⟩
  simp only at h hd
  match l,h with
  | [p'],h=>
    simp only[parP,Option.some.injEq,Prod.mk.injEq] at h
    obtain⟨rfl,_,rfl⟩:=h
    have:p'<nt:=by simpa using hd
    exact⟨this,this⟩
  | [q',p'],h=>
    simp only[parP,Option.some.injEq,Prod.mk.injEq] at h
    obtain⟨rfl,_,rfl⟩:=h
    have:q'<nt∧p'<nt:=by simpa using hd
    exact⟨this.2,this.1⟩
  | [],h=>cases h
  | _::_::_::_,h=>cases h
theorem znL {g:Nat} {isp:ISpec} {sv:SV} {ps:Array Nat} {p q:Nat} {x:(rdTy isp.rd).Den} {σ:Type} {head:σ→St} {inv:σ→Prop} {meas:σ→Nat} {B:σ→St→Prop} {ds:List Nat} {K:XE→St→Prop} {f:Operand} {assign body:Code}
    (hx0:E.x.nd=false) (hI:zpQ E.P g isp) (hE:zdA E.P g) (hflat:isp.e.flat=true) (hps:parP ps.toList=some (p,isp.two,q)) (hp:p<nt) (hpd:p∈ds) (hq:q<nt) (hqd:q∈ds) (hda:∀t∈dsts assign,t∈ds) (hdb:∀t∈dsts body,t∈ds)
    (hpre:isp.pre x) (hfn:fnOf sv=some g) (hhead:∀s,inv s→eval (head s) f=some sv∧rdAt (head s) isp.nb sv isp.rd=some x)
    (hslot:∀s,inv s→∀t v,Fact.slot t v∈head s→t ∉ ds) (s0:σ) (h0:inv s0) (hm0:meas s0=0) (hR:RelS E nt (head s0) a w)
    (hN:isp.len x=none→∃N,∀s,inv s→meas s<N) (hfin:∀s,inv s→isp.len x=some (meas s)→K .normal (head s))
    (hassign:∀s,inv s→(∀L,isp.len x=some L→meas s<L)→∀(E1:Env) (l:Nat) (a1:Act) (W:World),E1.P=E.P→E1.OB=E.OB→RelS E1 nt (.slot p (.one (.d isp.e (isp.seq x (meas s))))::head s) a1 W→
      assign.wpIn (Fw (some l)) 0 E1.P (AgX (dsts assign) a1 (zqz E1 nt fun e st1=>e=.normal∧B s st1)) a1 W)
    (hbody:∀s st1,B s st1→∀(E1:Env) (l:Nat) (a1:Act) (W:World),E1.P=E.P→E1.OB=E.OB→RelS E1 nt st1 a1 W→
      body.wpIn (Fw (some l)) 0 E1.P (AgX (dsts body) a1 (zqz E1 nt fun e st'=>match e with | .normal=>∃s',ent st' (head s')∧inv s'∧meas s'=meas s+1|e=>K e (zgv ds st'))) a1 W) :
    (Code.rangeFunc f ps assign body).wpIn (Fw none) 0 E.P (AgX [] a (zqz E nt K)) a w:=by
  have hfe:∃fv cv:List Value,a.eval f=.func (.func g) fv.toArray cv.toArray:=by
    obtain⟨η,gd,H⟩:=hR
    exact zup hfn (zaf H (hhead s0 h0).1)
  obtain⟨fv,cv,hfe⟩:=hfe
  have hsz:a.tmps.size=nt:=by obtain⟨η,gd,H⟩:=hR;exact gd.size
  obtain ⟨N,hN⟩:∃N,isp.len x=none→∀s,inv s→meas s<N:=by
    cases hl:isp.len x with
    | none=>obtain⟨N,h⟩:=hN hl;exact⟨N,fun _=>h⟩
    | some L=>exact⟨0,fun h=>by cases h⟩
  refine wpIn_rangeFunc fun fn hfn=>?_
  obtain⟨rc,hrc⟩:∃rc:LoopState→Option Code→Loop,rc=fun st pe=>{state:=st,pending:=pe,fn,tmps:=a.tmps,params:=ps,assign,body,defers:=w.heap.size}:=⟨_,rfl⟩
  obtain⟨ms,d1,d2,d3,d4,d5,R0⟩:=ztQ (o:=.loop (rc .ready none)) hR rfl
  obtain⟨D,hD⟩:∃D,D=w.heap.size:=⟨_,rfl⟩
  obtain⟨a0,ha0⟩:∃a0:Act,a0 = {tmps:=a.tmps,defers:=[]}:=⟨_,rfl⟩
  obtain⟨W1,hW1⟩:∃W1,W1=(w.alloc (.deferred (some []))).alloc (.loop (rc .ready none)):=⟨_,rfl⟩
  rw[←ha0,←hW1,←hD] at R0
  rw[←hD] at d3 d4 d5
  have hfe0:a0.eval f=.func (.func g) fv.toArray cv.toArray:=by rw[ha0];exact hfe
  have hlow:E.w0.heap.size≤D+1:=Nat.le_succ_of_le d5
  have hnb:fv.length=isp.nb∧cv.length≤16:=by obtain⟨η,gd,H⟩:=hR;exact (zsB gd H (zaf H (hhead s0 h0).1) hfe (hhead s0 h0).2).2
  have hloop:∀r:Loop,Obj.loop r≠.deferred (some []):=fun r h=>by cases h
  refine⟨D+1,[mkD D],W1,{target:=.fn (.func g) cv.toArray,args:=fv.toArray ++ #[.func (.yield (D+1)) #[] #[]]},W1,g,fv.toArray ++ #[.func (.yield (D+1)) #[] #[]]++cv.toArray,W1,?_,?_,?_,?_,fun h=>(by cases h),?_⟩
  · rw[hW1,hrc,hD];exact run_enterLoop_outer _ _ _ _ _
  · simp only[resolve,hfe]
    simp[go_sem,Deferred.ofValue]
  · intro f' _;trivial
  · obtain⟨fn',e1,e2,e3⟩:=hE
    have e2':¬fn'.name = "runtime.NumGoroutine" := by simpa using e2
    have e3':¬fn'.body=none:=by intro hn;rw[hn] at e3;cases e3
    simp[invoke,callFunc,e1,e2',e3']
  · refine (hI fv cv x (D+1) N
      (fun i ps W=>∃s,inv s∧meas s=i∧(∀L,isp.len x=some L→i≤L)∧Dis E ms D (D+1) ps∧RelS (zaY (zdB E ps) ms D (D+1) (.loop (rc .ready none))) nt (head s) a0 W)
      (fun i ps W=>∃e st' c,((e=XE.ret∧c=Code.ret)∨∃id,e=XE.exit id∧c=Code.exit id)∧K e st'∧Dis E ms D (D+1) ps∧RelS (zaY (zdB E ps) ms D (D+1) (.loop (rc .done (some c)))) nt st' a0 W)
      W1 hnb.1 hnb.2 hpre ?_ ?_ ?_ ?_ ?_ ?_).mono ?_
    · rintro i ps W ⟨s,k1,k2,k3,kd,η,gd,H⟩
      exact⟨(zsB gd H (zaf H (hhead s k1).1) hfe0 (hhead s k1).2).1,fun q hq=>(gd.defers.2 q (List.mem_cons_of_mem _ (List.mem_append.2 (.inr (List.mem_append.2 (.inl hq)))))).2.1⟩
    · rintro i ps ps' W W' ⟨s,k1,k2,k3,kd,k4⟩ hg
      exact⟨s,k1,k2,k3,zjV k4 (by rw[ha0]) kd hg⟩
    · rintro i ps ps' W W' ⟨e,st',c,k1,k2,kd,k3⟩ hg
      exact⟨e,st',c,k1,k2,zjV k3 (by rw[ha0]) kd hg⟩
    · rintro i ps W ⟨s,k1,k2,k3,k4⟩
      split
      · rename_i L hL;exact k3 L hL
      · rename_i hL;rw[←k2];exact hN hL s k1
    · rintro i ps W ⟨s,k1,k2,k3,kd,k4⟩ hlt
      subst k2
      have d4:∀q∈zf8 (zdB E ps) ms D,q.1≠D+1:=fun q hq=>(ziu hq).elim (fun h=>(kd q h).1) (d4 q)
      have hlow:(zdB E ps).w0.heap.size≤D+1:=hlow
      have hl:=zml k4
      have hdf0:a0.defers=[]:=by rw[ha0]
      obtain⟨tm,htm,R1,hag1⟩:=zp4 (x:=x) (i:=meas s) hps k4 hdf0 hp hpd hq hqd hflat (hslot s k1)
      have hsz1:(rc .ready none).params.size=(isp.args x (meas s) (encV isp.e (isp.seq x (meas s)))).size:=by
        rw[hrc];exact znN hps
      have hy:=run_yield (P:=E.P) (args:=isp.args x (meas s) (encV isp.e (isp.seq x (meas s)))) hl hsz1.symm
      have htm:((rc .ready none).params.zip (isp.args x (meas s) (encV isp.e (isp.seq x (meas s))))).foldl (fun tmps (t,a)=>tmps.setIfInBounds t a) (rc .ready none).tmps=tm:=by
        rw[←htm,hrc,ha0]
      rw[htm] at hy
      have e1:(rc .ready none).fn=fn:=by rw[hrc]
      have e2:(rc .ready none).assign=assign:=by rw[hrc]
      have e3:(rc .ready none).body=body:=by rw[hrc]
      rw[e1,e2,e3] at hy
      have hsz0:a0.tmps.size=nt:=by rw[ha0];exact hsz
      refine⟨fn,_,assign,body,hy,roundIn_of_wpIn hfn (wpIn_mono (hassign s k1 hlt (zaY (zdB E ps) ms D (D+1) (.loop (rc .ready none))) (D+1) _ W rfl rfl R1) ?_)⟩
      rintro e a2 W2 ⟨⟨xe,st1,g1,⟨g2,hB⟩,R2⟩,hag⟩
      subst g1 g2
      have hag:=hag (by intro h;cases h)
      have hl2:=zml R2
      refine⟨_,run_beginRound hl2 (by rw[hrc]),?_⟩
      have R3:=turn (o':=.loop {rc .ready none with state:=.busy}) (a':=a2) (ds:=[]) R2 (hloop _) d4 hlow (by obtain⟨η,gd,_⟩:=R2;exact gd.size) (zbK.refl _ _) (fun _ _ _ h=>by cases h) (.inr rfl)
      refine wpIn_mono (hbody s st1 hB (zaY (zdB E ps) ms D (D+1) (.loop {rc .ready none with state:=.busy})) (D+1) a2 _ rfl rfl R3) ?_
      rintro e a3 W3 ⟨⟨xe,st',g1,g2,R4⟩,hag3⟩
      subst g1
      have hl4:=zml R4
      have hagA:=(hag1.trans (hag.more hda))
      cases xe with
      | normal=>
        obtain⟨s',q1,q2,q3⟩:=g2
        have hag4:=hagA.trans ((hag3 (by intro h;cases h)).more hdb)
        have R6:=turn (o':=.loop (rc .ready none)) (a':=a0) (ds:=ds) (zbS q1 R4) (hloop _) d4 hlow hsz0 hag4 (hslot s' q2) (.inl hdf0)
        refine⟨_,_,run_endRound none hl4,.inl ⟨rfl,s',q2,q3,fun L hL=>hlt L hL,kd,?_⟩⟩
        subst hrc
        exact R6
      | exit id=>
        have hag4:=hagA.trans ((hag3 (by intro h;cases h)).more hdb)
        have R6:=turn (o':=.loop (rc .done (some (.exit id)))) (a':=a0) (ds:=ds) (zkW R4 (fun f hf=>ze5 hf)) (hloop _) d4 hlow hsz0 hag4 (fun t s h=>zdQ (ds:=ds) h) (.inl hdf0)
        refine⟨_,_,run_endRound (some (.exit id)) hl4,.inr ⟨rfl,.exit id,zgv ds st',.exit id,.inr ⟨id,rfl,rfl⟩,g2,kd,?_⟩⟩
        subst hrc
        exact R6
      | ret=>
        have hag4:=hagA.trans ((hag3 (by intro h;cases h)).more hdb)
        have R6:=turn (o':=.loop (rc .done (some .ret))) (a':=a0) (ds:=ds) (zkW R4 (fun f hf=>ze5 hf)) (hloop _) d4 hlow hsz0 hag4 (fun t s h=>zdQ (ds:=ds) h) (.inl hdf0)
        refine⟨_,_,run_endRound (some .ret) hl4,.inr ⟨rfl,.ret,zgv ds st',.ret,.inl ⟨rfl,rfl⟩,g2,kd,?_⟩⟩
        subst hrc
        exact R6
    · refine⟨s0,h0,hm0,fun _ _=>Nat.zero_le _,(fun _ h=>by cases h),R0⟩
    · rintro e W2 ⟨⟨v,rfl⟩,(⟨L,ps,hL,s,k1,k2,k3,kd,k4⟩|⟨i,ps,e,st',c,k1,k2,kd,k3⟩)⟩
      · have d4:∀q∈zf8 (zdB E ps) ms D,q.1≠D+1:=fun q hq=>(ziu hq).elim (fun h=>(kd q h).1) (d4 q)
        have hl:=zml k4
        refine⟨_,_,run_endLoop hl (by rw[hrc];simp),?_⟩
        have hpd:(rc .ready none).pending=none:=by rw[hrc]
        rw[hpd]
        exact⟨⟨.normal,head s,rfl,hfin s k1 (by rw[k2];exact hL),zi8 (zix (E:=zdB E ps) k4 (hloop _) d4 hlow (by rw[ha0]) d1 d2 d3 hx0)⟩,fun _=>fun _ _=>rfl⟩
      · have d4:∀q∈zf8 (zdB E ps) ms D,q.1≠D+1:=fun q hq=>(ziu hq).elim (fun h=>(kd q h).1) (d4 q)
        have hl:=zml k3
        refine⟨_,_,run_endLoop hl (by rw[hrc];simp),?_⟩
        have hpd:(rc .done (some c)).pending=some c:=by rw[hrc]
        rw[hpd]
        rcases k1 with ⟨rfl,rfl⟩|⟨id,rfl,rfl⟩
        · exact wpIn_ret ⟨⟨.ret,st',rfl,k2,zi8 (zix (E:=zdB E ps) k3 (hloop _) d4 hlow (by rw[ha0]) d1 d2 d3 hx0)⟩,fun _=>fun _ _=>rfl⟩
        · exact wpIn_exit ⟨⟨.exit id,st',rfl,k2,zi8 (zix (E:=zdB E ps) k3 (hloop _) d4 hlow (by rw[ha0]) d1 d2 d3 hx0)⟩,fun _=>fun _ _=>rfl⟩
end
def zpP (P:Program) (OB:Nat→Obj→Prop) (c:Cfg) (par:Array Oper→St→(St→Prop)→Prop):Prop:=∀E:Env,E.P=P→E.OB=OB→zAT E c par
theorem zgW {f:Fact}:∀ {st:St},f∈znc st→∃k off j n,f=.cell k off .u∧.cell k off (.o j n)∈st
  | [],h=>by cases h
  | q :: r,h=>by
    unfold znc at h
    split at h
    · cases h
    · rename_i k off j n _ e
      cases e
      rcases List.mem_cons.1 h with rfl|h
      · exact⟨_,_,_,_,rfl,List.mem_cons_self⟩
      · obtain⟨a,b,c,d,e1,e2⟩:=zgW h;exact⟨a,b,c,d,e1,List.mem_cons_of_mem _ e2⟩
    · rename_i e;cases e
      obtain⟨a,b,c,d,e1,e2⟩:=zgW h;exact⟨a,b,c,d,e1,List.mem_cons_of_mem _ e2⟩
theorem zky {nt:Nat} {st:St} (hR:RelS E nt st a w):RelS E nt (addU st) a w:=by
  obtain⟨η,g,H⟩:=hR
  refine⟨η,g,fun f hf=>?_⟩
  rcases List.mem_append.1 hf with hf|hf
  · exact H f hf
  · obtain⟨k,off,j,n,rfl,h⟩:=zgW hf
    obtain⟨b,c,cur,el,v,h1,h2,h3,h4,h5,_⟩:=H _ h
    exact⟨b,c,cur,el,v,h1,h2,h3,h4,h5,trivial⟩
theorem zbe {P:Program} {OB:Nat→Obj→Prop} (hC:CfgOk P OB c) {par:Array Oper→St→(St→Prop)→Prop} (hpar:zpP P OB c par) {anns:List (St→LoopAnn)}:∀(b:Code) (n:Nat) (st:St) (K:XE→St→Prop) (a:Act) (w:World) (E:Env) (ro:Option Nat),
    E.P=P→E.OB=OB→((ro=none∧E.x.nd=false)∨za6 b=true)→zcZ c.nt b=true→vc c par anns b n st K→RelS E c.nt st a w→b.wpIn (Fw ro) 0 E.P (AgX (dsts b) a (zqz E c.nt K)) a w
  | .skip,n,st,K,a,w,E,ro,hP,hOB,hro,_,h,hR=>wpIn_skip ⟨⟨.normal,st,rfl,h,hR⟩,fun _=>zbK.refl _ _⟩
  | .label _,n,st,K,a,w,E,ro,hP,hOB,hro,_,h,hR=>wpIn_label ⟨⟨.normal,st,rfl,h,hR⟩,fun _=>zbK.refl _ _⟩
  | .region id ops false,n,st,K,a,w,E,ro,hP,hOB,hro,hd,h,hR=>by
    refine wpIn_region_list (zgZ _ _ _ (fun o ho t ht=>zgT.2 ⟨o,ho,ht⟩) (zbK.refl _ _) ?_)
    have hdst:∀o∈ops.toList,∀t,o.dst=some t→t<c.nt:=by
      intro o ho t ht
      simp only[zcZ,List.all_eq_true] at hd
      have:=hd o ho
      rw[ht] at this
      simpa using this
    exact zcE (E:=E) (hP▸hOB▸hC) hdst ops.toList (fun _ h=>h) st _ a w h hR fun st' a' w' hk hr=>⟨.normal,st',rfl,hk,hr⟩
  | .region id ops true,n,st,K,a,w,E,ro,hP,hOB,hro,_,h,hR=>by
    have h:(bif c.nan then par ops (addU st) (fun st'=>zfI st' (K .normal)) else par ops (addU st) (K .normal)):=h
    cases hn:c.nan with
    | false=>
      rw[hn] at h
      exact hpar E hP hOB id ops (addU st) _ a w _ h (zky hR) (fun st' a' w' hk hr=>⟨.normal,st',rfl,hk,hr⟩) ro 0
    | true=>
      rw[hn] at h
      exact hpar E hP hOB id ops (addU st) _ a w _ h (zky hR) (fun st' a' w' hk hr=>by
        obtain⟨st2,h1,h2⟩:=zkU hk hr
        exact⟨.normal,st2,rfl,h1,h2⟩) ro 0
  | .seq x y,n,st,K,a,w,E,ro,hP,hOB,hro,hd,h,hR=>by
    simp only[zcZ,Bool.and_eq_true] at hd
    refine wpIn_seq (wpIn_mono (zbe hC hpar x n st _ a w E ro hP hOB (hro.imp id fun h=>(Bool.and_eq_true _ _▸h:za6 x=true∧za6 y=true).1) hd.1 h hR) fun e a' w' ⟨⟨xe,st',h1,h2,h3⟩,hag⟩=>?_)
    subst h1
    have hx:∀ {a''},zbK (dsts x) a a''→zbK (dsts (.seq x y)) a a'':=fun h=>h.more fun t ht=>List.mem_append.2 (.inl ht)
    cases xe with
    | normal=>
      simp only[zbR] at h2
      refine wpIn_mono (zbe hC hpar y _ st' K a' w' E ro hP hOB (hro.imp id fun h=>(Bool.and_eq_true _ _▸h:za6 x=true∧za6 y=true).2) hd.2 h2 h3) fun e a'' w'' ⟨g1,g2⟩=>⟨g1,fun hn=>?_⟩
      exact (hx (hag (by intro hc;cases hc))).trans ((g2 hn).more fun t ht=>List.mem_append.2 (.inr ht))
    | exit id=>exact⟨⟨.exit id,st',rfl,h2,h3⟩,fun hn=>hx (hag hn)⟩
    | ret=>exact⟨⟨.ret,st',rfl,h2,h3⟩,fun hn=>hx (hag hn)⟩
  | .cond x y z,n,st,K,a,w,E,ro,hP,hOB,hro,hd,h,hR=>by
    simp only[zcZ,Bool.and_eq_true] at hd
    obtain⟨η,g,H⟩:=hR
    simp only[vc,zbR] at h
    split at h
    · rename_i hx
      have hv:a.eval x=.bool true:=zaf H hx
      exact wpIn_cond_true hv (wpIn_mono (zbe hC hpar y n st K a w E ro hP hOB (hro.imp id fun h=>(Bool.and_eq_true _ _▸h:za6 y=true∧za6 z=true).1) hd.1 h ⟨η,g,H⟩) fun e a' w' hq=>⟨hq.1,fun hn=>(hq.2 hn).more fun t ht=>List.mem_append.2 (.inl ht)⟩)
    · rename_i hx
      have hv:a.eval x=.bool false:=zaf H hx
      exact wpIn_cond_false hv (wpIn_mono (zbe hC hpar z _ st K a w E ro hP hOB (hro.imp id fun h=>(Bool.and_eq_true _ _▸h:za6 y=true∧za6 z=true).2) hd.2 h ⟨η,g,H⟩) fun e a' w' hq=>⟨hq.1,fun hn=>(hq.2 hn).more fun t ht=>List.mem_append.2 (.inr ht)⟩)
    · rename_i b hx
      have hv:a.eval x=.bool b:=zbJ (zaf H hx)
      exact wpIn_cond_split hv (fun hb=>wpIn_mono (zbe hC hpar y n st K a w E ro hP hOB (hro.imp id fun h=>(Bool.and_eq_true _ _▸h:za6 y=true∧za6 z=true).1) hd.1 (h.out.1 hb) ⟨η,g,H⟩) fun e a' w' hq=>⟨hq.1,fun hn=>(hq.2 hn).more fun t ht=>List.mem_append.2 (.inl ht)⟩) (fun hb=>wpIn_mono (zbe hC hpar z _ st K a w E ro hP hOB (hro.imp id fun h=>(Bool.and_eq_true _ _▸h:za6 y=true∧za6 z=true).2) hd.2 (h.out.2 hb) ⟨η,g,H⟩) fun e a' w' hq=>⟨hq.1,fun hn=>(hq.2 hn).more fun t ht=>List.mem_append.2 (.inr ht)⟩)
    · exact h.elim
  | .block id b,n,st,K,a,w,E,ro,hP,hOB,hro,hd,h,hR=>by
    refine wpIn_block (wpIn_mono (zbe hC hpar b n st _ a w E ro hP hOB hro hd h hR) fun e a' w' ⟨⟨xe,st',h1,h2,h3⟩,hag⟩=>?_)
    subst h1
    cases xe with
    | normal=>exact⟨⟨.normal,st',rfl,h2,h3⟩,hag⟩
    | exit j=>
      simp only[XE.to,Exit.inBlock]
      simp only at h2
      cases hb:Nat.beq j id with
      | true=>
        rw[hb] at h2
        have:=Nat.eq_of_beq_eq_true hb
        rw[if_pos this]
        exact⟨⟨.normal,st',rfl,h2,h3⟩,fun _=>hag (by intro hc;cases hc)⟩
      | false=>
        rw[hb] at h2
        have:=Nat.ne_of_beq_eq_false hb
        rw[if_neg this]
        exact⟨⟨.exit j,st',rfl,h2,h3⟩,hag⟩
    | ret=>exact⟨⟨.ret,st',rfl,h2,h3⟩,hag⟩
  | .loop b,n,st,K,a,w,E,ro,hP,hOB,hro,hd,h,hR=>by
    simp only[vc,zcu,zbu,zox] at h
    split at h
    case h_2=>
      refine wpIn_loop_rounds c.fuel ?_
      have key:∀(k:Nat) (st:St) (a1:Act) (w:World),zqG (fun st K=>vc c par anns b (n+1) st K) k st K→RelS E c.nt st a1 w→zbK (dsts b) a a1→Code.roundsIn (Fw ro) 0 E.P b (AgX (dsts b) a (zqz E c.nt K)) k a1 w:=by
        intro k
        induction k with
        | zero=>intro st a1 w h _ _;exact h.elim
        | succ k ih=>
          intro st a1 w h hR hag
          rw[roundsIn_succ]
          refine wpIn_mono (zbe hC hpar b (n+1) _ _ a1 w E ro hP hOB hro hd h hR) fun e a' w' ⟨⟨xe,st',g1,g2,g3⟩,hag2⟩=>?_
          subst g1
          cases xe with
          | normal=>exact ih st' a' w' g2 g3 (hag.trans (hag2 (by intro hc;cases hc)))
          | exit id=>exact⟨⟨.exit id,st',rfl,g2,g3⟩,fun hn=>hag.trans (hag2 hn)⟩
          | ret=>exact⟨⟨.ret,st',rfl,g2,g3⟩,fun hn=>hag.trans (hag2 hn)⟩
      exact key c.fuel st a w h hR (zbK.refl _ _)
    case h_1 A0 hA=>
      let A:=A0 st
      obtain⟨hg,h3⟩:=h.out
      obtain⟨s,h1,h2⟩:=hg.out
      refine zdX (fun m a1 w=>∃s,A.meas s=m∧A.inv s∧RelS E c.nt (zeu (dsts b) st (A.pat s)) a1 w∧zbK (dsts b) a a1) ⟨s,rfl,h2,zbS h1 hR,zbK.refl _ _⟩ fun m a1 w ⟨s,hm,hi,hr,hag⟩=>?_
      refine wpIn_mono (zbe hC hpar b (n+1) _ _ a1 w E ro hP hOB hro hd (h3 s hi) hr) fun e a' w' ⟨⟨xe,st',g1,g2,g3⟩,hag2⟩=>?_
      subst g1
      cases xe with
      | normal=>
        obtain⟨s',e1,e2,e3⟩:=Goal.out g2
        exact⟨A.meas s',hm▸e3,s',rfl,e2,zbS e1 g3,hag.trans (hag2 (by intro hc;cases hc))⟩
      | exit id=>exact⟨⟨.exit id,st',rfl,g2,g3⟩,fun hn=>hag.trans (hag2 hn)⟩
      | ret=>exact⟨⟨.ret,st',rfl,g2,g3⟩,fun hn=>hag.trans (hag2 hn)⟩
  | .exit id,n,st,K,a,w,E,ro,hP,hOB,hro,_,h,hR=>wpIn_exit ⟨⟨.exit id,st,rfl,h,hR⟩,fun _=>zbK.refl _ _⟩
  | .ret,n,st,K,a,w,E,ro,hP,hOB,hro,_,h,hR=>wpIn_ret ⟨⟨.ret,st,rfl,h,hR⟩,fun _=>zbK.refl _ _⟩
  | .rangeFunc f ps assign body,n,st,K,a,w,E,ro,hP,hOB,hro,hd,h,hR=>by
    rcases hro with ⟨rfl,hx0⟩|hro
    case inr=>cases hro
    simp only[zcZ,Bool.and_eq_true] at hd
    simp only[vc,zcu,zbu,zbR,zox] at h
    split at h
    case h_2=>exact h.elim
    rename_i p two q A0 sv hps hA hf
    split at h
    case h_2=>exact h.elim
    rename_i g hfn
    split at h
    case h_2=>exact h.elim
    rename_i isp hisp
    split at h
    case h_2=>exact h.elim
    rename_i x hb hx
    simp only[Bool.and_eq_true] at hb
    obtain⟨hflat,⟨hna,hnb⟩,htwo⟩:=hb
    have htwo:isp.two=two:=by revert htwo;cases isp.two<;>cases two<;>intro h<;>first|rfl|cases h
    have hps:parP ps.toList=some (p,isp.two,q):=by rw[htwo];exact hps
    have hpq:=zyG hps hd.2
    obtain⟨hg,h⟩:=h.out
    obtain⟨hpre,h⟩:=h.out
    have hpre:=hpre.out
    obtain⟨hN,h⟩:=h.out
    obtain⟨hk,h⟩:=h.out
    obtain⟨s0,e1,e2,e3⟩:=hg.out
    have hN:=hN.out
    have hk:=hk.out
    obtain⟨q1,q2⟩:=hC.its g isp hisp
    refine znL (E:=E) (g:=g) (isp:=isp) (sv:=sv) (x:=x) (σ:=(A0 st).σ) (head:=fun s=>zeu (q::p::(dsts assign++dsts body)) st ((A0 st).pat s)) (inv:=(A0 st).inv) (meas:=(A0 st).meas) (ds:=q::p::(dsts assign++dsts body))
      (B := fun s st1=>vc c par anns body (n+1+zde assign) st1 fun e st'=>match e with
        | .normal=>Goal (∃s':(A0 st).σ,ent st' (zeu (q::p::(dsts assign++dsts body)) st ((A0 st).pat s'))∧(A0 st).inv s'∧(A0 st).meas s'=(A0 st).meas s+1)
        | e=>K e (zgv (q::p::(dsts assign++dsts body)) st'))
      hx0 (hP▸q1) (hP▸q2) hflat hps hpq.1 (List.mem_cons_of_mem _ List.mem_cons_self) hpq.2 List.mem_cons_self (fun t ht=>List.mem_cons_of_mem _ (List.mem_cons_of_mem _ (List.mem_append.2 (.inl ht)))) (fun t ht=>List.mem_cons_of_mem _ (List.mem_cons_of_mem _ (List.mem_append.2 (.inr ht))))
      hpre hfn (fun s hs=>(hk s hs).2) (fun s hs t v hm=>?_) s0 e2 e3 (zbS e1 hR) hN (fun s hs hl=>(h s hs).out.1 hl) (fun s hs hl E1 l a1 W hP1 hOB1 hR1=>?_) (fun s st1 hB E1 l a1 W hP1 hOB1 hR1=>?_)
    · rcases List.mem_append.1 hm with hm|hm
      · exact absurd hm (zrO (hk s hs).1 t v)
      · exact zbj hm
    · refine wpIn_mono (zbe hC hpar assign (n+1) _ _ a1 W E1 (some l) (hP1.trans hP) (hOB1.trans hOB) (.inr hna) hd.1.1 ((h s hs).out.2 hl) hR1) fun e a' w' ⟨⟨xe,st',g1,g2,g3⟩,hag⟩=>⟨?_,hag⟩
      cases xe with
      | normal=>exact⟨.normal,st',g1,⟨rfl,g2⟩,g3⟩
      | exit id=>exact g2.elim
      | ret=>exact g2.elim
    · refine wpIn_mono (zbe hC hpar body (n+1+zde assign) _ _ a1 W E1 (some l) (hP1.trans hP) (hOB1.trans hOB) (.inr hnb) hd.1.2 hB hR1) fun e a' w' ⟨⟨xe,st',g1,g2,g3⟩,hag⟩=>⟨?_,hag⟩
      cases xe with
      | normal=>exact⟨.normal,st',g1,Goal.out g2,g3⟩
      | exit id=>exact⟨.exit id,st',g1,g2,g3⟩
      | ret=>exact⟨.ret,st',g1,g2,g3⟩
  | .scope _,n,st,K,a,w,E,ro,hP,hOB,hro,_,h,hR=>h.elim
  | .goto _,n,st,K,a,w,E,ro,hP,hOB,hro,_,h,hR=>h.elim
  | .refuse _,n,st,K,a,w,E,ro,hP,hOB,hro,_,h,hR=>h.elim
end
end Go.Eng
set_option linter.all false
namespace Go.Eng
def zft (tmps:Array Value):ResultVar→Sem Value
  | .tmp t=>pure (tmps.getD t undef)
  | .cell p t=>do loadVar t (←asAddr (tmps.getD p undef))
section
variable {E:Env} {a:Act} {w:World} {c:Cfg}
theorem zc4 (hT:TblOk E.P c.tt) {η:Eta} {st:St} (H:∀f∈st,Fact.holds E η a w f) {r:ResultVar} {s:SV} (h:svOf c st r=some s) :
    ∃v,(zft a.tmps r).run E.P w=.ok v w∧zao (vw E η w) η s v:=by
  cases r with
  | tmp t=>exact⟨_,rfl,zaf H (x:=.tmp t) h⟩
  | cell p ty=>
    simp only[svOf] at h
    split at h
    case h_2=>cases h
    case h_1 k off hs=>
      obtain⟨b,cc,hk,hv⟩:=zaf H (x:=.tmp p) hs
      have hv:a.tmps.getD p undef=.pointer (some ⟨b,off,none⟩):=hv
      split at h
      case h_2=>cases h
      case h_1 i hi=>
        have hI:=hT.rows ty i hi
        cases hag:i.kind.isAgg with
        | true=>
          rw[hag] at h
          simp only[cond_true] at h
          split at h
          · rename_i cs hcs
            simp only[Option.some.injEq] at h
            subst h
            obtain⟨vs,e1,e2,e3,_⟩:=zbq H hk i.size off cs hcs
            refine⟨.agg vs.toArray,?_,⟨vs,rfl,e1⟩⟩
            have:=zc8 (w:=w) hI hag (a:=⟨b,off,none⟩) e2 (fun j v hj=>by rw[zaT];exact e3 j v hj)
            simp[zft,hv,asAddr,this]
          · cases h
        | false=>
          rw[hag] at h
          simp only[cond_false] at h
          split at h
          · rename_i u hu
            simp only[Option.some.injEq] at h
            subst h
            obtain⟨b',c',cur,el,v,_,q1,q2,q3,q4,q5⟩:=H _ (zbc hu)
            rw[hk] at q1
            simp only[Option.some.injEq,Prod.mk.injEq] at q1
            obtain⟨rfl,rfl⟩:=q1
            have:=zby (w:=w) hI hag (a:=⟨b,off,none⟩) (v:=v) (by rw[zbz q2];exact q3)
            exact⟨v,by simp[zft,hv,asAddr,this],q5⟩
          · cases h
theorem znO {V:View} {η:Eta} {s:SV} {t:Ty} {p:Prop} {x:t.Den} {v:Value} (h:zwh s t=some (p,x)) (hp:p) (hs:zao V η s v):RepV V t x v:=by
  unfold zwh at h
  split at h
  · split at h
    · rename_i ys hys
      simp only[Option.some.injEq,Prod.mk.injEq] at h
      obtain⟨rfl,rfl⟩:=h
      obtain⟨he,rfl⟩:=zbh hys
      injection he with he
      subst he
      obtain⟨l,h1,⟨h2,_⟩|⟨_,h2⟩⟩:=hs
      · cases h2
      · exact⟨l,Rep.sl_osl (by intro hn;rw[hn] at hp;simp at hp) h1,.inr ⟨rfl,h2⟩⟩
    · cases h
  · cases h
theorem zcq (hT : TblOk E.P c.tt) {η:Eta} {st:St} {nt:Nat} (g:Good E nt η a w) (H:∀f∈st,Fact.holds E η a w f):∀(rs:List ResultVar) (cs:List RC) (q:Prop) (x:(zad cs).Den),ziv c st rs cs=some (q,x)→q→(ziH cs=true∨∀b,¬E.x.mw b)→
    ∃ (vs:List Value) (gb:Option Nat),(rs.mapM (zft a.tmps)).run E.P w=.ok vs w∧(∀b,gb=some b→∃k n,η k=some (b,n))∧(ziH cs=true→gb=none)∧
      ∀V',(∀b c,vw E η w b c→V' b c)→zgE w V' E.w0.heap.size cs x vs gb
  | [],[],q,x,h,hq,_=>⟨[],none,by simp,fun _ h=>(by cases h),fun _=>rfl,fun _ _=>⟨rfl,rfl⟩⟩
  | [],_::_,q,x,h,hq,_=>by simp[ziv] at h
  | _::_,[],q,x,h,hq,_=>by simp[ziv] at h
  | r :: rs, rc :: cs, q, x,h,hq,hnw=>by
    cases rc with
    | mk o t =>
      cases o with
      | none =>
        simp only[ziv] at h
        split at h
        case h_2=>cases h
        case h_1 s hs=>
          split at h
          case h_2=>
            split at h
            case h_2=>cases h
            case h_1 p1 y hy=>
              split at h
              case h_2=>cases h
              case h_1 p z hz=>
                simp only[Option.some.injEq,Prod.mk.injEq] at h
                obtain⟨rfl,rfl⟩:=h
                obtain⟨v,e1,e2⟩:=zc4 hT H hs
                obtain⟨vs,gb,e3,e4,e5,e6⟩:=zcq hT g H rs cs _ z hz hq.2 (hnw.imp (fun h=>by simpa [ziH] using h) id)
                exact⟨v::vs,gb,by simp[List.mapM_cons,e1,e3],e4,fun hn=>e5 (by simpa [ziH] using hn),fun V' hV=>⟨v,vs,rfl,RepV.mono hV (znO hy hq.1 e2),e6 V' hV⟩⟩
          case h_1 y hy=>
            split at h
            case h_2=>cases h
            case h_1 p z hz=>
              simp only[Option.some.injEq,Prod.mk.injEq] at h
              obtain⟨rfl,rfl⟩:=h
              obtain⟨v,e1,e2⟩:=zc4 hT H hs
              obtain⟨vs,gb,e3,e4,e5,e6⟩:=zcq hT g H rs cs _ z hz hq (hnw.imp (fun h=>by simpa [ziH] using h) id)
              exact⟨v::vs,gb,by simp[List.mapM_cons,e1,e3],e4,fun hn=>e5 (by simpa [ziH] using hn),fun V' hV=>⟨v,vs,rfl,RepV.mono hV (SV.den_sound hy e2),e6 V' hV⟩⟩
      | some el =>
        cases t
        case sl e =>
          simp only[ziv] at h
          cases hno:ziH cs with
          | false=>rw[hno] at h;simp at h
          | true =>
            rw[hno] at h
            simp only[cond_true] at h
            split at h
            · rename_i k n hs
              split at h
              case h_2=>cases h
              case h_1 r' hr'=>
                cases hel:Nat.beq r'.el el with
                | false=>rw[hel] at h;simp at h
                | true =>
                  rw[hel] at h
                  simp only[cond_true] at h
                  split at h
                  case h_2=>cases h
                  case h_1 xs hxs=>
                    split at h
                    case h_2=>cases h
                    case h_1 p z hz=>
                      simp only[Option.some.injEq,Prod.mk.injEq] at h
                      obtain⟨rfl,rfl⟩:=h
                      obtain⟨hq1,hq2⟩:=hq
                      obtain⟨v,e1,e2⟩:=zc4 hT H hs
                      obtain⟨vs,gb,e3,e4,e5,e6⟩:=zcq hT g H rs cs _ z hz hq1 (.inl hno)
                      have hgb:=e5 hno
                      subst hgb
                      have hrow:=H _ (zaO hr')
                      obtain⟨hty,hz'⟩:=zbh hxs
                      injection hty with hty
                      obtain⟨rel,re,rxs⟩:=r'
                      simp only at hty hz' hel hrow
                      subst hty
                      simp only at hz'
                      subst hz'
                      have hel':=Nat.eq_of_beq_eq_true hel
                      subst hel'
                      rcases e2 with ⟨k1,k2,rfl⟩|⟨b,cc,k1,rfl,k3⟩
                      · have hnil:xs=[]:=List.eq_nil_of_length_eq_zero (by omega)
                        exact⟨.slice none 0 0::vs,none,by simp[List.mapM_cons,e1,e3],fun _ h=>(by cases h),fun _=>rfl,fun V' hV=>⟨_,vs,rfl,e6 V' hV,.inl ⟨hnil,rfl,rfl⟩⟩⟩
                      · rcases hrow with ⟨g1,_⟩|⟨b',c',cur,q0,q1,q2,q3⟩
                        · rw[k1] at g1;cases g1
                        · rw[k1] at q1
                          simp only[Option.some.injEq,Prod.mk.injEq] at q1
                          obtain⟨rfl,rfl⟩:=q1
                          refine⟨.slice (some ⟨b,0,none⟩) n cc::vs,some b,by simp[List.mapM_cons,e1,e3],fun b' hb'=>⟨k,cc,by simp at hb';rw[←hb'];exact k1⟩,fun hn=>by simp[ziH] at hn,fun V' hV=>⟨_,vs,rfl,e6 V' hV,.inr ⟨b,cc,cur,rfl,by rw[hq2],q0.elim id (fun hw=>absurd hw (hnw.elim (fun h=>by simp[ziH] at h) fun h=>h b)),q2,q3.mono hV⟩⟩⟩
            · rename_i y hs
              cases hy:zar y with
              | false=>rw[hy] at h;simp at h
              | true=>
                rw[hy] at h
                simp only[cond_true] at h
                split at h
                case h_2=>cases h
                case h_1 p z hz=>
                  simp only[Option.some.injEq,Prod.mk.injEq] at h
                  obtain⟨rfl,rfl⟩:=h
                  obtain⟨v,e1,e2⟩:=zc4 hT H hs
                  obtain⟨vs,gb,e3,e4,e5,e6⟩:=zcq hT g H rs cs _ z hz hq (.inl hno)
                  have hgb:=e5 hno
                  subst hgb
                  have hv:v=.slice none 0 0:=by rw[←zaK hy];exact e2
                  subst hv
                  exact⟨.slice none 0 0::vs,none,by simp[List.mapM_cons,e1,e3],fun _ h=>(by cases h),fun _=>rfl,fun V' hV=>⟨_,vs,rfl,e6 V' hV,.inl ⟨rfl,rfl,rfl⟩⟩⟩
            · cases h
        all_goals simp[ziv] at h
theorem zb8 {P:Program} {fn:Func} {tmps:Array Value} {vs:List Value} (h:(fn.results.toList.mapM (zft tmps)).run P w=.ok vs w):(results fn tmps).run P w=.ok (zdq vs) w:=by
  have hr:results fn tmps=(do let vs ←fn.results.mapM (zft tmps);pure (if h:vs.size=1 then vs[0] else .tuple vs)):=rfl
  rw[hr,Array.mapM_eq_mapM_toList]
  simp only[Sem.run_bind,Sem.run_map,h,Result.andThen_ok,Sem.run_pure]
  match vs with
  | []=>rfl
  | [v]=>rfl
  | v::u::l=>simp[zdq]
def zbr:(ps:List Pat)→List Value→Nat→List (Nat×Nat)
  | .gl _ _::r,vs,i=>zbr r vs i
  | .gw _ _::r,vs,i=>zbr r vs i
  | .ob _::r,.pointer (some ad)::vs,i=>(50000+i,ad.block)::zbr r vs (i+1)
  | _::r,_::vs,i=>zbr r vs (i+1)
  | _,_,_=>[]
def zb9:List Pat→Nat
  | []=>0
  | .ob _::r=>zb9 r+1
  | _::r=>zb9 r
def zlk:List (Nat×Nat)→Eta
  | [],_=>none
  | p::r,k=>if k=p.1 then some (p.2,0) else zlk r k
theorem zjq {V:View} {η:Eta} {t:Ty} {x:t.Den} {v:Value} (h:RepV V t x v):zaN V η (zxf t x) v:=by
  unfold zxf
  split
  · obtain ⟨l,⟨ad,c,h1,h2⟩,⟨h3,_⟩|⟨_,h3⟩⟩:=h
    · cases h3
    · rw[h1] at h3
      exact⟨ad,c,by simpa using h3.symm,h2⟩
  · obtain ⟨l,h1,⟨h3,_⟩|⟨_,h3⟩⟩:=h
    · cases h3
    · have h1:l=_:=h1
      rw[h1] at h3
      exact (List.cons.inj h3).1.symm
  · exact h
theorem zcf {P:Program} {OB:Nat→Obj→Prop} {M:Nat→Prop} (hP:E.P=P) (hOB:E.OB=OB) (hM:∀b,E.Mp b→M b) (hw:E.w0=w) {η:Eta} (hη:∀k b n,η k=some (b,n)→M b) :
    ∀ (ps:List Pat) (x:(zac ps).Den) (vs:List Value) (bs:List Nat) (i:Nat),zdo OB w M ps x vs bs→i+ps.length≤1000000→(∀j v,vs[j]?=some v→a.tmps.getD (i+j) undef=v)→
      (∀k b,(k,b)∈zbr ps vs i→η k=some (b,0))→∀f∈zbb ps x i,Fact.holds E η a w f
  | [],x,vs,bs,i,_,_,_,_,f,hf=>by simp[zbb] at hf
  | .gl g t::r,x,vs,bs,i,h,hl,hv,hk,f,hf=>by
    obtain⟨h1,h2⟩:=h
    simp only[zbb,List.mem_cons] at hf
    rcases hf with rfl|hf
    · simp only[Fact.holds]
      rw[zh9]
      exact zjq (η:=η) (t:=.ptr t) (RepV.mono (fun b c ⟨k1,k2⟩=>⟨fun hm=>k1 (hM b hm),fun k n hk'=>k1 (hη k b n hk'),k2⟩) h1)
    · exact zcf hP hOB hM hw hη r x.2 vs bs i h2 (by simp only[List.length_cons] at hl;omega) hv (fun k b hb=>hk k b (by simpa [zbr] using hb)) f hf
  | .gw g t::r,x,vs,bs,i,h,hl,hv,hk,f,hf=>by
    obtain⟨⟨c,el,f',e1,e2,e3,e4⟩,h2⟩:=h
    simp only[zbb,List.mem_cons] at hf
    rcases hf with rfl|hf
    · simp only[Fact.holds]
      rw[zh9]
      exact⟨g,c,rfl,⟨fun hm=>e2 (hM g hm),fun k n hk'=>e2 (hη k g n hk'),el,f',e1⟩,e3,Rep.mono (fun b c ⟨k1,k2⟩=>⟨fun hm=>k1 (hM b hm),fun k n hk'=>k1 (hη k b n hk'),k2⟩) _ _ _ e4⟩
    · exact zcf hP hOB hM hw hη r x.2 vs bs i h2 (by simp only[List.length_cons] at hl;omega) hv (fun k b hb=>hk k b (by simpa [zbr] using hb)) f hf
  | .dat t::r,x,vs,bs,i,h,hl,hv,hk,f,hf=>by
    obtain⟨v,vs',rfl,h1,h2⟩:=h
    have hl':i+1+r.length≤1000000:=by simp only[List.length_cons] at hl;omega
    simp only[zbb,List.mem_cons] at hf
    rcases hf with rfl|hf
    · have:=hv 0 v (by simp)
      simp only[Nat.add_zero] at this
      simp only[Fact.holds,zbl (show i<1000000 by omega),this]
      exact zjq (RepV.mono (fun b c ⟨k1,k2⟩=>⟨fun hm=>k1 (hM b hm),fun k n hk'=>k1 (hη k b n hk'),k2⟩) h1)
    · exact zcf hP hOB hM hw hη r x.2 vs' bs (i+1) h2 hl' (fun j u hu=>by rw[show i+1+j=i+(j+1) from by omega];exact hv (j+1) u (by simpa using hu)) (fun k b hb=>hk k b (by simpa [zbr] using hb)) f hf
  | .lit y::r,x,vs,bs,i,h,hl,hv,hk,f,hf=>by
    obtain⟨vs',rfl,h2⟩:=h
    have hl':i+1+r.length≤1000000:=by simp only[List.length_cons] at hl;omega
    simp only[zbb,List.mem_cons] at hf
    rcases hf with rfl|hf
    · have:=hv 0 y (by simp)
      simp only[Nat.add_zero] at this
      simp only[Fact.holds,zbl (show i<1000000 by omega)]
      exact this
    · exact zcf hP hOB hM hw hη r x vs' bs (i+1) h2 hl' (fun j u hu=>by rw[show i+1+j=i+(j+1) from by omega];exact hv (j+1) u (by simpa using hu)) (fun k b hb=>hk k b (by simpa [zbr] using hb)) f hf
  | .ob q::r,x,vs,bs,i,h,hl,hv,hk,f,hf=>by
    obtain⟨b,o,vs',bs',rfl,rfl,h1,h2,h3,h4⟩:=h
    have hl':i+1+r.length≤1000000:=by simp only[List.length_cons] at hl;omega
    have hkey:η (50000+i)=some (b,0):=hk _ _ (by simp[zbr])
    simp only[zbb,List.mem_cons] at hf
    rcases hf with rfl|rfl|hf
    · have:=hv 0 (.pointer (some ⟨b,0,none⟩)) (by simp)
      simp only[Nat.add_zero] at this
      simp only[Fact.holds,zbl (show i<1000000 by omega)]
      exact⟨b,0,hkey,this⟩
    · exact⟨b,0,o,hkey,h2,by rw[hOB];exact h3⟩
    · exact zcf hP hOB hM hw hη r x vs' bs' (i+1) h4 hl' (fun j u hu=>by rw[show i+1+j=i+(j+1) from by omega];exact hv (j+1) u (by simpa using hu)) (fun k b hb=>hk k b (by simp[zbr,hb])) f hf
theorem zcb {OB:Nat→Obj→Prop} {M:Nat→Prop}:∀(ps:List Pat) (x:(zac ps).Den) (vs:List Value) (bs:List Nat) (i:Nat),zdo OB w M ps x vs bs→
    (zbr ps vs i).map (·.2)=bs∧(zbr ps vs i).length=zb9 ps∧vs.length≤ps.length∧(∀b∈bs,M b∧b<w.heap.size)
  | [],x,vs,bs,i,h=>by obtain⟨rfl,rfl⟩:=h;simp[zbr,zb9]
  | .gl g t::r,x,vs,bs,i,h=>by
    obtain⟨h1,h2⟩:=h
    obtain⟨e1,e2,e3,e4⟩:=zcb r x.2 vs bs i h2
    exact⟨by simpa [zbr] using e1,by simpa [zbr,zb9] using e2,by simp only[List.length_cons];omega,e4⟩
  | .gw g t::r,x,vs,bs,i,h=>by
    obtain⟨h1,h2⟩:=h
    obtain⟨e1,e2,e3,e4⟩:=zcb r x.2 vs bs i h2
    exact⟨by simpa [zbr] using e1,by simpa [zbr,zb9] using e2,by simp only[List.length_cons];omega,e4⟩
  | .dat t::r,x,vs,bs,i,h=>by
    obtain⟨v,vs',rfl,h1,h2⟩:=h
    obtain⟨e1,e2,e3,e4⟩:=zcb r x.2 vs' bs (i+1) h2
    exact⟨by simpa [zbr] using e1,by simpa [zbr,zb9] using e2,by simp[e3],e4⟩
  | .lit y::r,x,vs,bs,i,h=>by
    obtain⟨vs',rfl,h2⟩:=h
    obtain⟨e1,e2,e3,e4⟩:=zcb r x vs' bs (i+1) h2
    exact⟨by simpa [zbr] using e1,by simpa [zbr,zb9] using e2,by simp[e3],e4⟩
  | .ob q::r,x,vs,bs,i,h=>by
    obtain⟨b,o,vs',bs',rfl,rfl,h1,h2,h3,h4⟩:=h
    obtain⟨e1,e2,e3,e4⟩:=zcb r x vs' bs' (i+1) h4
    refine⟨by simp[zbr,e1],by simp[zbr,zb9,e2],by simp[e3],fun b' hb'=>?_⟩
    rcases List.mem_cons.1 hb' with rfl|hb'
    · exact⟨h1,zag h2⟩
    · exact e4 b' hb'
theorem zh7 {st:St} {nt:Nat} {η:Eta} (hpn:E.pins=[]) (g:Good E nt η a w) (H:∀f∈st,Fact.holds E η a w f) {D:Nat} {ms:List Nat} (hd:a.defers=mkD D::ms.map mkD) (hn:(D::ms).Nodup)
    (hm:∀D'∈D::ms,E.w0.heap.size≤D'∧w.heap[D']?=some (.deferred (some []))∧∀k c,η k≠some (D',c)) :
    Good E nt η {a with defers:=ms.map mkD} (w.putObj D (.deferred none))∧∀f∈st,Fact.holds E η {a with defers:=ms.map mkD} (w.putObj D (.deferred none)) f:=by
  obtain⟨q1,q2,q3⟩:=hm D List.mem_cons_self
  have hother:∀b o,w.heap[b]?=some o→b≠D→(w.putObj D (.deferred none)).heap[b]?=some o:=fun b o h hb=>(World.putObj_heap_other hb).trans h
  have hsz:(w.putObj D (.deferred none)).heap.size=w.heap.size:=by simp[World.putObj]
  have g':Good E nt η {a with defers:=ms.map mkD} (w.putObj D (.deferred none)):={
    size:=g.size
    lim:=g.lim
    defers:=⟨⟨ms,rfl,(List.nodup_cons.1 hn).2,fun D' hD'=>by
      obtain⟨p1,p2,p3⟩:=hm D' (List.mem_cons_of_mem _ hD')
      exact⟨p1,hother D' _ p2 (fun e=>(List.nodup_cons.1 hn).1 (e▸hD')),p3⟩⟩,fun p hp=>by rw[hpn] at hp;cases hp⟩
    os:=g.os,tape:=g.tape,output:=g.output
    nd:=fun h=>by have:=g.nd h;rw[hd] at this;cases this
    grow:=by rw[hsz];exact g.grow
    dis:=g.dis
    keep:=fun b hb hm' hw=>(World.putObj_heap_other (by omega)).trans (g.keep b hb hm' hw)
    own:=fun k b c h=>by rw[hsz];exact g.own k b c h
    inj:=g.inj,old:=g.old
    obkeep:=fun b i o hb hm' h1 h2=>by
      obtain⟨o',h3,h4⟩:=g.obkeep b i o hb hm' h1 h2
      exact⟨o',hother b o' h3 (by omega),h4⟩}
  have hne:∀k b c,η k=some (b,c)→b≠D:=fun k b c h e=>q3 k c (e▸h)
  have hK:Keeps E η η a {a with defers:=ms.map mkD} w (w.putObj D (.deferred none)) {}:=
    ⟨fun b c ⟨h1,h2,el,f,h3⟩=>⟨h1,h2,el,f,hother b _ h3 (fun e=>by rw[e,q2] at h3;cases h3)⟩,fun _ _=>rfl,fun _ _=>rfl,
      fun k off b c cur el v _ _ _ _ h4 h5 h6=>⟨cur,hother b _ h5 (hne k b c h4),h6⟩,fun k b c cur el _ _ _ _ h4 h5=>hother b _ h5 (hne k b c h4),fun k i b c o _ _ _ h4 h5 h6=>⟨o,hother b _ h5 (hne k b c h4),h6⟩⟩
  refine⟨g',fun f hf=>hK.fact ?_ (H f hf)⟩
  have z1:∀s:S1,s.ment []=false:=zcA
  have zl:∀l:List S1,anyS (S1.ment []) l=false:=zeo
  cases f with
  | slot t s=>cases s<;>simp[Kill.surv,memN,SV.ment,z1,zl]
  | cell k off s=>simp[Kill.surv,memN,memC,z1]
  | row k el e xs=>simp[Kill.surv,memN]
  | ob k i=>simp[Kill.surv,memN]
  | fix k=>simp[Kill.surv,memN]
theorem zps {P:Program} {OB:Nat→Obj→Prop} (hC:CfgOk P OB c) {par:Array Oper→St→(St→Prop)→Prop} (hpar:zpP P OB c par) {f:Nat} {fn:Func} {body:Code} {rs:List ResultVar} {sp:Spec}
    (hf:P.funcs[f]?=some fn) (hb:fn.body=some body) (hnt:fn.ntmps=c.nt) (hps:sp.pats.length≤c.nt) (hlim:c.nt≤1000000) (hob:zb9 sp.pats≤1) (hrs:fn.results.toList=rs) (hd:zcZ c.nt body=true)
    (anns:(zac sp.pats).Den→List (St→LoopAnn)) (h:∀x,sp.pre x→zpK c par (anns x) rs body sp x):zuJ P OB f sp:=by
  intro w M x vs bs hM hA hpre
  obtain⟨o1,o2,o3,o4⟩:=zcb sp.pats x vs bs 0 hA
  let E:Env:={P:=P,M:=M,mu:=fun b=>b∈bs,w0:=w,OB:=OB}
  refine callsIn_wide.1 (callsIn_of_wp_marks (F:=Fence.wide) (n:=0) hf hb trivial ?_)
  have hsz:(vs.toArray++Array.replicate (fn.ntmps - vs.toArray.size) undef).size=c.nt:=by
    simp;omega
  have hR : RelS E c.nt (zbb sp.pats x 0) {tmps:=vs.toArray++Array.replicate (fn.ntmps - vs.toArray.size) undef,defers:=[]} w:=by
    have hη:∀k b n,zlk (zbr sp.pats vs 0) k=some (b,n)→(k,b)∈zbr sp.pats vs 0∧n=0:=by
      intro k b n
      generalize zbr sp.pats vs 0=l
      induction l with
      | nil=>intro h;cases h
      | cons p r ih=>
        intro h
        simp only[zlk] at h
        split at h
        · rename_i hk
          simp only[Option.some.injEq,Prod.mk.injEq] at h
          obtain⟨rfl,rfl⟩:=h
          subst hk
          exact⟨List.mem_cons_self,rfl⟩
        · obtain⟨h1,h2⟩:=ih h
          exact⟨List.mem_cons_of_mem _ h1,h2⟩
    have hbs:∀k b,(k,b)∈zbr sp.pats vs 0→b∈bs:=fun k b hkb=>by rw[←o1];exact List.mem_map.2 ⟨_,hkb,rfl⟩
    refine⟨zlk (zbr sp.pats vs 0),?_,?_⟩
    · exact {
        size:=hsz,lim:=hlim,defers:=⟨⟨[],rfl,List.nodup_nil,fun _ h=>by cases h⟩,fun _ h=>by cases h⟩,os:=rfl,tape:=rfl,output:=rfl,grow:=Nat.le_refl _,keep:=fun _ _ _ _=>rfl,
        own:=fun k b n hk=>⟨(o4 b (hbs k b (hη k b n hk).1)).2,.inr (hbs k b (hη k b n hk).1)⟩,
        dis:=fun b hb h=>h.elim (fun h=>absurd (o4 b hb).2 (Nat.not_lt_of_le h)) id,
        inj := fun k k' b n n' hk hk'=>by
          have h1:=(hη k b n hk).1
          have h2:=(hη k' b n' hk').1
          have hl:(zbr sp.pats vs 0).length≤1:=by omega
          match hobs:zbr sp.pats vs 0,hl with
          | [],_=>rw[hobs] at h1;cases h1
          | [p],_=>
            rw[hobs] at h1 h2
            simp only[List.mem_singleton] at h1 h2
            rw[←h2] at h1
            simpa using h1
        old:=fun b hb h=>h.elim (fun h=>absurd (hM b hb) (Nat.not_lt_of_le h)) id,obkeep:=fun b i o _ _ h1 h2=>⟨o,h1,h2⟩}
    · refine zcf rfl rfl (fun b h=>h.elim id fun⟨_,h⟩=>by cases h) rfl (fun k b n hk=>(o4 b (hbs k b (hη k b n hk).1)).1) sp.pats x vs bs 0 hA (by omega) (fun j v hj=>?_) (fun k b hkb=>?_)
      · simp only[Nat.zero_add]
        have hjl:=(List.getElem?_eq_some_iff.1 hj).1
        simp only[Array.getD_eq_getD_getElem?]
        rw[Array.getElem?_append_left (by simpa using hjl)]
        simp[hj]
      · have hl:(zbr sp.pats vs 0).length≤1:=by omega
        match hobs:zbr sp.pats vs 0,hl with
        | [],_=>rw[hobs] at hkb;cases hkb
        | [p],_=>
          rw[hobs] at hkb
          simp only[List.mem_singleton] at hkb
          subst hkb
          simp[zlk]
  have hCE:CfgOk E.P E.OB c:=hC
  refine wpIn_mono (zbe hC hpar body 0 _ _ _ w E none rfl rfl (.inl ⟨rfl,rfl⟩) hd (h x hpre) hR) fun e a' w' ⟨⟨xe,st',e1,e2,e3⟩,_⟩=>?_
  subst e1
  have leave:∀(R:Ending→World→Prop) (st1:St) (η:Eta) (tmps:Array Value),(∀a1 w1,a1.tmps=tmps→Good E c.nt η a1 w1→(∀f∈st1,Fact.holds E η a1 w1 f)→∃v,(results fn tmps).run P w1=.ok v w1∧R (.returned v) w1)→
      ∀(ms:List Nat) (a1:Act) (w1:World),a1.tmps=tmps→a1.defers=ms.map mkD→ms.Nodup→(∀D∈ms,E.w0.heap.size≤D∧w1.heap[D]?=some (.deferred (some []))∧∀k c,η k≠some (D,c))→
      Good E c.nt η a1 w1→(∀f∈st1,Fact.holds E η a1 w1 f)→LeavesInM Fence.wide 0 P fn tmps R a1.defers .returning w1:=by
    intro R st1 η tmps hfin ms
    induction ms with
    | nil=>
      intro a1 w1 ht hd1 _ _ g H
      rw[hd1]
      exact hfin a1 w1 ht g H
    | cons D ms ih=>
      intro a1 w1 ht hd1 hn hm g H
      have ht2:=zh7 rfl g H (by rw[hd1];rfl) hn hm
      rw[hd1]
      refine⟨by simp,.inl ⟨D,_,rfl,run_takeDeferred (hm D List.mem_cons_self).2.1,?_⟩⟩
      refine ih {a1 with defers:=ms.map mkD} _ ht rfl (List.nodup_cons.1 hn).2 (fun D' hD'=>?_) ht2.1 ht2.2
      obtain⟨p1,p2,p3⟩:=hm D' (List.mem_cons_of_mem _ hD')
      have hne:D'≠D:=fun e=>(List.nodup_cons.1 hn).1 (by rw[←e];exact hD')
      exact⟨p1,(World.putObj_heap_other hne).trans p2,p3⟩
  have fin : ∀st',zhC c rs sp.res (sp.f x) st'→RelS E c.nt st' a' w'→LeavesInM Fence.wide 0 P fn a'.tmps (fun e w'=>∃rs g,e=.returned (zdq rs)∧CPost OB w w' bs∧
      zgE w' (fun b c=>¬M b∧g≠some b∧∃el f,w'.heap[b]?=some (.cells c el f)) w.heap.size sp.res (sp.f x) rs g) a'.defers .returning w':=by
    intro st' hr hR
    unfold zhC at hr
    split at hr
    case h_2=>exact hr.elim
    case h_1 p st1 hfz=>
      split at hr
      case h_2=>exact hr.elim
      case h_1 q y hq=>
        obtain⟨r1,hr⟩:=OP.andK_out hr
        obtain⟨r2,r3⟩:=hr.out
        have r3:=ze0 _ _ _ r3
        obtain⟨η,g,H⟩:=zbE hfz r1 hR
        obtain⟨⟨ms,m1,m2,m3⟩,_⟩:=g.defers
        refine leave _ st1 η a'.tmps (fun a1 w1 ht g H=>?_) ms a' w' rfl m1 m2 m3 g H
        obtain⟨vs',gb,k1,k2,k3,k4⟩:=zcq hCE.tbl g H rs sp.res q y hq r2 (.inr fun _ h=>h)
        rw[r3] at k4
        rw[←hrs,ht] at k1
        refine⟨_,zb8 k1,vs',gb,rfl,?_,k4 _ (fun b c ⟨m1,m2,m3⟩=>⟨fun hm=>m1 (.inl hm),fun hg=>?_,m3⟩)⟩
        · exact {os:=g.os,tape:=g.tape,output:=g.output,size:=g.grow,keep:=fun b hb hn=>g.keep b hb hn (fun h=>h),obk:=fun b hb i o h1 h2=>g.obkeep b i o (o4 b hb).2 hb h1 h2}
        · obtain⟨k,n,hk⟩:=k2 b hg
          exact m2 k n hk
  cases xe with
  | normal=>exact fin st' e2 e3
  | exit id=>exact e2.elim
  | ret=>exact fin st' e2 e3
end
end Go.Eng
set_option linter.all false
namespace Go.Eng
def zlh:List (Nat×Nat)→(List (Nat×Nat)→Prop)→Prop
  | [],K=>K []
  | (a,b)::r,K=>zcR a fun a'=>zcR b fun b'=>zlh r fun r'=>K ((a',b')::r')
def zeV (k:Kill) (K:Kill→Prop):Prop:=
  zck k.slots fun a=>zck k.keys fun b=>zlh k.cells fun c=>zck k.rows fun d=>zck k.allof fun e=>zck k.cont fun f=>
    K {slots:=a,keys:=b,cells:=c,rows:=d,allof:=e,cont:=f}
def zlg:List Kill→(List Kill→Prop)→Prop
  | [],K=>K []
  | k::r,K=>zeV k fun k'=>zlg r fun r'=>K (k'::r')
theorem zg2:∀(l:List (Nat×Nat)) (K:List (Nat×Nat)→Prop),zlh l K=K l
  | [],K=>rfl
  | (a,b)::r,K=>by simp only[zlh,zbR,zg2 r]
theorem zke:∀(l:List Kill) (K:List Kill→Prop),zlg l K=K l
  | [],K=>rfl
  | k::r,K=>by simp only[zlg,zeV,zcu,zg2,zke r]
structure PF where
  src:Nat
  kill:Nat
  f:Fact
def zdg (f:Fact):Nat→Nat→List Kill→Nat
  | acc,_,[]=>acc
  | acc,b,K::r=>bif K.surv f then zdg f acc (2*b) r else zdg f (Nat.lor acc b) (2*b) r
def zcd (bef naft:Nat):List PF→St
  | []=>[]
  | ⟨src,kill,f⟩::r=>bif Nat.beq (Nat.land src bef) src&&Nat.beq (Nat.land kill naft) 0 then f::zcd bef naft r else zcd bef naft r
def zds (bi:Nat):Nat→List Nat→Nat
  | _,[]=>0
  | b,m::r=>bif Nat.beq b bi || !Nat.beq (Nat.land m bi) 0 then zds bi (2*b) r else Nat.lor b (zds bi (2*b) r)
def zgr (bl ml:Nat):Nat→List Nat→Nat
  | _,[]=>0
  | b,_::r=>bif Nat.beq b bl || !Nat.beq (Nat.land ml b) 0 then zgr bl ml (2*b) r else Nat.lor b (zgr bl ml (2*b) r)
def tagK (ks:List Kill) (src excl:Nat):St→List PF→(List PF→Prop)→Prop
  | [],acc,K=>K acc
  | f::r,acc,K=>zcR (zdg f 0 1 ks) fun q=>zcR (Nat.land q excl) fun m=>tagK ks src excl r (⟨src,m,f⟩::acc) K
def tag0 (ks:List Kill):St→(List PF→Prop)→Prop
  | [],K=>K []
  | f::r,K=>zcR (zdg f 0 1 ks) fun m=>tag0 ks r fun acc=>K (⟨0,m,f⟩::acc)
def subN:List Nat→List Nat→Bool
  | [],_=>true
  | n::r,l=>memN n l&&subN r l
def subC:List (Nat×Nat)→List (Nat×Nat)→Bool
  | [],_=>true
  | n::r,l=>memC n.1 n.2 l&&subC r l
def zid (K K':Kill):Bool:=
  subN K.slots K'.slots&&subN K.keys K'.keys&&subC K.cells K'.cells&&subN K.rows K'.rows&&subN K.allof K'.allof&&subN K.cont K'.cont
def ziY:List Nat→Res→Option Res
  | [],r=>some r
  | k :: l,r=>bif memN k r.kill.keys then (match freeze k r.add with
      | some (p,add)=>ziY l {ob:=some (r.ob.hold∧Frz p),add:=add,kill:=r.kill}
      | none=>ziY l r) else ziY l r
def zmo (c:Cfg) (need:List Nat) (Ki:Kill) (o:Oper) (M:St) (K:St→Prop):Prop:=
  match zfF c M o with
  | some r=>match ziY need r with
    | some r'=>bif zid r'.kill Ki then r'.ob.andK (zcm r'.add K) else False
    | none=>False
  | none=>False
def zlQ (c:Cfg) (Ki:Kill) (d:Option Nat) (K:St→Prop):Prop:=
  match d with
  | none=>K []
  | some d=>bif Nat.blt d c.nt&&memN d Ki.slots then K [.slot d (.one (.v (.tuple #[])))] else False
def zkh (t:Nat):List PF→Option (Nat×Nat×Bool)
  | []=>none
  | p::r=>match p with
    | ⟨src,kill,.slot t' (.one (.d .bool x))⟩=>bif Nat.beq t' t then some (src,kill,x) else zkh t r
    | _=>zkh t r
def zuh:GV→Bool
  | .yes=>true
  | _=>false
def isNo:GV→Bool
  | .no=>true
  | _=>false
def zfw (c : Cfg) (ops:Array Oper) (need:List Nat) (befs:List Nat) (ks:List Kill):List Oper→List Nat→List Kill→Nat→List PF→(List PF→Prop)→Prop
  | [],_,_,_,acc,K=>K acc
  | o :: r, m::ms,Ki::kr,b,acc,K=>
    zcR (zds b 1 befs) fun na=>zcR (zgr b m 1 befs) fun ex=>
    let cont:=fun acc add=>tagK ks b ex add acc fun acc'=>zcR (2*b) fun b'=>zfw c ops need befs ks r ms kr b' acc' K
    match zax c ops (zcd m na acc) o with
    | .yes=>zcm (zcd m na acc) fun M=>zmo c need Ki o M (cont acc)
    | .no=>zlQ c Ki o.dst (cont acc)
    | .open_ t _=>match zkh t acc with
      | some (src,kill,x)=>
        let acc1:=⟨src,kill,.slot t (.one (.lb (zab o)))⟩::acc
        let acc2:=⟨src,kill,.slot t (.one (.lb (!zab o)))⟩::acc
        bif zuh (zax c ops (zcd m na acc1) o)&&isNo (zax c ops (zcd m na acc2) o) then
          both (x=zab o→zcm (zcd m na acc1) fun M=>zmo c need Ki o M (cont acc1))
            (x=(!zab o)→zlQ c Ki o.dst (cont acc2))
        else False
      | none=>False
    | .bad=>False
  | _,_,_,_,_,_=>False
/-! ### The tables, laid out ahead -/
def zc1 (tbl:List Nat):List Edge→Nat
  | []=>0
  | e::r=>bif Region.binds .any e then Nat.lor (Nat.lor (Nat.pow 2 e.on) (match nth tbl e.on with|some m=>m|none=>0)) (zc1 tbl r) else zc1 tbl r
def zt7:List Oper→List Nat→(List Nat→Prop)→Prop
  | [],tbl,K=>K tbl
  | o::r,tbl,K=>zcR (zc1 tbl o.after.toList) fun m=>zck (tbl++[m]) fun tbl'=>zt7 r tbl' K
def zlr (i:Nat):List Edge→Bool
  | []=>true
  | e::r=>(bif Region.binds .any e then Nat.blt e.on i else true)&&zlr i r
def zhz (all:List Nat):List Oper→List Nat→Nat→Bool
  | [],[],_=>true
  | o::r,m::ms,i=>Nat.beq m (zc1 all o.after.toList)&&zlr i o.after.toList&&zhz all r ms (i+1)
  | _,_,_=>false
def ziV (c:Cfg) (ops:Array Oper):List Oper→St→List Kill→List Nat→(List Kill→List Nat→Prop)→Prop
  | [],_,ks,need,K=>zlg ks.reverse fun ks'=>K ks' need
  | o :: r,st,ks,need,K=>
    let run:=fun (st:St)=>
      match zdF (zge c st o) st with
      | some (_,st1)=>match zfF c st1 o with
        | some q=>zcm (after st1 q) fun st'=>zeV q.kill fun k=>zck (zge c st o++need) fun need'=>ziV c ops r st' (k::ks) need' K
        | none=>False
      | none=>False
    match zax c ops st o with
    | .yes=>run st
    | .no=>zcm (zh3 o.dst st) fun st'=>ziV c ops r st' ((match o.dst with|some d=>{slots:=[d]} | none=>{})::ks) need K
    | .open_ _ _=>run st
    | .bad=>False
def zmU:List PF→St
  | []=>[]
  | ⟨_,kill,f⟩::r=>bif Nat.beq kill 0 then f::zmU r else zmU r
def par (c:Cfg) (ops:Array Oper) (st:St) (K:St→Prop):Prop:=
  zt7 ops.toList [] fun befs=>
    bif zhz befs ops.toList befs 0 then
      ziV c ops ops.toList st [] [] fun ks need=>
        match zdF need st with
        | some (p,st1)=>p.andK (zcm st1 fun st2=>tag0 ks st2 fun acc=>zfw c ops need befs ks ops.toList befs ks 1 acc fun acc'=>zcm (zmU acc') K)
        | none=>False
    else False
end Go.Eng
set_option linter.all false
namespace Go.Eng
/-! ### Bits -/
theorem zmI {m i:Nat} (h:m.testBit i=false):Nat.land m (2 ^ i)=0:=by
  apply Nat.eq_of_testBit_eq
  intro j
  have:=Nat.testBit_and m (2 ^ i) j
  change (Nat.land m (2 ^ i)).testBit j=_ at this
  rw[this,Nat.testBit_two_pow]
  by_cases hj:i=j
  · subst hj;simp[h]
  · simp[hj]
theorem zlb {s m l:Nat} (hs:s=2 ^ l) (h:Nat.beq (Nat.land s m) s=true):m.testBit l=true:=by
  have h:=Nat.eq_of_beq_eq_true h
  have h1:=Nat.testBit_and s m l
  change (Nat.land s m).testBit l=_ at h1
  rw[h,hs,Nat.testBit_two_pow_self] at h1
  simpa using h1.symm
theorem zla {s m k:Nat} (h:Nat.beq (Nat.land s m) 0=true) (hm:m.testBit k=true):s.testBit k=false:=by
  have h:=Nat.eq_of_beq_eq_true h
  have h1:=Nat.testBit_and s m k
  change (Nat.land s m).testBit k=_ at h1
  rw[h,hm,Nat.zero_testBit] at h1
  simpa using h1.symm
theorem zfM (a b k:Nat):(Nat.lor a b).testBit k=(a.testBit k || b.testBit k):=Nat.testBit_or a b k
theorem zuf (a b k:Nat):(Nat.land a b).testBit k=(a.testBit k&&b.testBit k):=Nat.testBit_and a b k
theorem zdY (j:Nat):2*2 ^ j=2 ^ (j+1):=by rw[Nat.pow_succ,Nat.mul_comm]
theorem zkZ {a b:Nat} (h:2 ^ a=2 ^ b):a=b:=by
  have h1:(2 ^ b).testBit a=true:=by rw[←h];exact Nat.testBit_two_pow_self
  rw[Nat.testBit_two_pow] at h1
  exact (of_decide_eq_true h1).symm
theorem ztc {a b:Nat} (h:a≠b):Nat.beq (2 ^ a) (2 ^ b)=false:=by
  cases hb:Nat.beq (2 ^ a) (2 ^ b) with
  | false=>rfl
  | true=>exact absurd (zkZ (Nat.eq_of_beq_eq_true hb)) h
theorem zj3 {i:Nat}:∀(l:List Nat) (j t m:Nat),l[t]?=some m→j+t≠i→m.testBit i=false→(zds (2 ^ i) (2 ^ j) l).testBit (j+t)=true
  | [],j,t,m,h,_,_=>by simp at h
  | q::r,j,0,m,h,h1,h2=>by
    simp only[List.getElem?_cons_zero,Option.some.injEq] at h
    subst h
    simp only[zds,ztc (show j≠i by omega),zmI h2,Nat.beq,Bool.not_true,Bool.or_false,cond_false,zfM,Nat.add_zero,Nat.testBit_two_pow_self,Bool.true_or]
  | q::r,j,t+1,m,h,h1,h2=>by
    have ih:=zj3 (i:=i) r (j+1) t m (by simpa using h) (by omega) h2
    rw[show j+1+t=j+(t+1) from by omega] at ih
    simp only[zds,zdY]
    cases (Nat.beq (2 ^ j) (2 ^ i) || !Nat.beq (Nat.land q (2 ^ i)) 0) with
    | true=>exact ih
    | false=>simp only[cond_false,zfM,ih,Bool.or_true]
theorem zkm {l ml:Nat}:∀(bs:List Nat) (j t:Nat),t<bs.length→j+t≠l→ml.testBit (j+t)=false→(zgr (2 ^ l) ml (2 ^ j) bs).testBit (j+t)=true
  | [],j,t,h,_,_=>by simp at h
  | q::r,j,0,h,h1,h2=>by
    simp only[Nat.add_zero] at h2
    simp only[zgr,ztc (show j≠l by omega),zmI h2,Nat.beq,Bool.not_true,Bool.or_false,cond_false,zfM,Nat.add_zero,Nat.testBit_two_pow_self,Bool.true_or]
  | q::r,j,t+1,h,h1,h2=>by
    have ih:=zkm (l:=l) (ml:=ml) r (j+1) t (by simpa using h) (by omega) (by rw[show j+1+t=j+(t+1) from by omega];exact h2)
    rw[show j+1+t=j+(t+1) from by omega] at ih
    simp only[zgr,zdY]
    cases (Nat.beq (2 ^ j) (2 ^ l) || !Nat.beq (Nat.land ml (2 ^ j)) 0) with
    | true=>exact ih
    | false=>simp only[cond_false,zfM,ih,Bool.or_true]
theorem zfN {f:Fact}:∀(ks:List Kill) (acc b k:Nat),acc.testBit k=true→(zdg f acc b ks).testBit k=true
  | [],acc,b,k,h=>h
  | q::r,acc,b,k,h=>by
    simp only[zdg]
    cases q.surv f with
    | true=>exact zfN r acc _ k h
    | false=>exact zfN r _ _ k (by rw[zfM,h];rfl)
theorem zd8 {f:Fact}:∀(ks:List Kill) (acc j t:Nat) (K:Kill),ks[t]?=some K→K.surv f=false→(zdg f acc (2 ^ j) ks).testBit (j+t)=true
  | [],acc,j,t,K,h,_=>by simp at h
  | q::r,acc,j,0,K,h,h1=>by
    simp only[List.getElem?_cons_zero,Option.some.injEq] at h
    subst h
    simp only[zdg,h1,cond_false,Nat.add_zero]
    exact zfN r _ _ j (by rw[zfM,Nat.testBit_two_pow_self,Bool.or_true])
  | q :: r,acc,j,t+1,K,h,h1=>by
    simp only[zdg,zdY]
    cases q.surv f with
    | true=>
      have ih:=zd8 r acc (j+1) t K (by simpa using h) h1
      rw[show j+1+t=j+(t+1) from by omega] at ih
      exact ih
    | false=>
      have ih:=zd8 r (Nat.lor acc (2 ^ j)) (j+1) t K (by simpa using h) h1
      rw[show j+1+t=j+(t+1) from by omega] at ih
      exact ih
/-! ### The state behind a set of operations -/
section
variable {E:Env} {c:Cfg} {ops:Array Oper} {befs:List Nat} {ks:List Kill}
def FD (acc:List PF) (D:Nat→Prop) (f:Fact):Prop:=
  ∃p∈acc,p.f=f∧(p.src=0∨∃l,p.src=2 ^ l∧D l)∧∀k,D k→p.kill.testBit k=false
def Adds (acc:List PF) (l:Nat) (f:Fact):Prop:=∃p∈acc,p.f=f∧p.src=2 ^ l
def zey (n:Nat) (befs:List Nat) (ks:List Kill) (acc:List PF):Prop:=
  ∀ p∈acc,(p.src=0∧∀k K,ks[k]?=some K→K.surv p.f=false→p.kill.testBit k=true)∨
    (∃l ml,l<n∧p.src=2 ^ l∧befs[l]?=some ml∧∀k K,ks[k]?=some K→k≠l→ml.testBit k=false→k<befs.length→K.surv p.f=false→p.kill.testBit k=true)
def zAk (E:Env) (nt:Nat) (ops:Array Oper) (i:Nat) (F F':Fact→Prop):Prop:=
  ∀(a:Act) (w:World) (Q:Exit→Act→World→Prop) (K:Act→World→Prop),Rel E nt F a w→(∀a' w',Rel E nt F' a' w'→K a' w')→∀(ro:Option Nat) (q:Nat),wpOpIn (Fw ro) q E.P ops Q i K a w
def zdl (E:Env) (nt:Nat) (ops:Array Oper) (befs:List Nat) (ks:List Kill) (acc:List PF) (i:Nat):Prop:=
  ∃ (m:Nat) (Ki:Kill) (M:Fact→Prop),befs[i]?=some m∧ks[i]?=some Ki∧(∀f,M f→f∈zcd m (zds (2 ^ i) 1 befs) acc)∧
    ∀F:Fact→Prop,(∀f,M f→F f)→zAk E nt ops i F (fun f=>Adds acc i f∨(F f∧Ki.surv f=true))
theorem zdK {bef naft:Nat} {f:Fact}:∀ {acc:List PF},f∈zcd bef naft acc↔∃p∈acc,p.f=f∧Nat.beq (Nat.land p.src bef) p.src=true∧Nat.beq (Nat.land p.kill naft) 0=true
  | []=>by simp[zcd]
  | ⟨src, kill,f0⟩::r=>by
    have hp:∃p:PF,p=⟨src,kill,f0⟩:=⟨_,rfl⟩
    obtain⟨p,hp⟩:=hp
    have e1:src=p.src:=by rw[hp]
    have e2:kill=p.kill:=by rw[hp]
    have e3:f0=p.f:=by rw[hp]
    simp only[zcd]
    rw[←hp,e1,e2,e3]
    cases hb:(Nat.beq (Nat.land p.src bef) p.src&&Nat.beq (Nat.land p.kill naft) 0) with
    | true=>
      rw[Bool.and_eq_true] at hb
      simp only[cond_true,List.mem_cons,zdK (acc:=r)]
      constructor
      · rintro (rfl|⟨q,h1,h2⟩)
        · exact⟨p,.inl rfl,rfl,hb.1,hb.2⟩
        · exact⟨q,.inr h1,h2⟩
      · rintro⟨q,rfl|h1,h2,h3⟩
        · exact .inl h2.symm
        · exact .inr ⟨q,h1,h2,h3⟩
    | false=>
      simp only[cond_false,List.mem_cons,zdK (acc:=r)]
      constructor
      · rintro⟨q,h1,h2⟩
        exact⟨q,.inr h1,h2⟩
      · rintro⟨q,rfl|h1,h2,h3,h4⟩
        · rw[h3,h4] at hb;cases hb
        · exact⟨q,h1,h2,h3,h4⟩
theorem zd6 {bef naft:Nat} {acc acc':List PF} (h:∀p∈acc,p∈acc') {f:Fact} (hf:f∈zcd bef naft acc):f∈zcd bef naft acc':=by
  obtain⟨p,h1,h2⟩:=zdK.1 hf
  exact zdK.2 ⟨p,h p h1,h2⟩
/-! ### Every order -/
def zzL (befs:List Nat) (D:Nat→Prop):Prop:=∀i m,D i→befs[i]?=some m→∀l,m.testBit l=true→D l
theorem ze6 {tbl:List Nat} {l:Nat}:∀ {es:List Edge},(zc1 tbl es).testBit l=true→∃e∈es,Region.binds .any e=true∧(l=e.on∨∃m,tbl[e.on]?=some m∧m.testBit l=true)
  | [],h=>by simp[zc1] at h
  | e :: r,h=>by
    simp only[zc1] at h
    cases hb:Region.binds .any e with
    | false=>
      rw[hb] at h
      obtain⟨e',h1,h2⟩:=ze6 (es:=r) h
      exact⟨e',List.mem_cons_of_mem _ h1,h2⟩
    | true=>
      rw[hb] at h
      simp only[cond_true,zfM,Bool.or_eq_true] at h
      rcases h with (h|h)|h
      · refine⟨e,List.mem_cons_self,hb,.inl ?_⟩
        change (2 ^ e.on).testBit l=true at h
        rw[Nat.testBit_two_pow] at h
        simpa using (of_decide_eq_true h).symm
      · rw[zmt] at h
        cases ht:tbl[e.on]? with
        | none=>rw[ht] at h;simp at h
        | some m=>rw[ht] at h;exact⟨e,List.mem_cons_self,hb,.inr ⟨m,ht,h⟩⟩
      · obtain⟨e',h1,h2⟩:=ze6 (es:=r) h
        exact⟨e',List.mem_cons_of_mem _ h1,h2⟩
theorem zi7 {i:Nat}:∀ {es:List Edge},zlr i es=true→∀e∈es,Region.binds .any e=true→e.on<i
  | e :: r,h,e',he=>by
    simp only[zlr,Bool.and_eq_true] at h
    rcases List.mem_cons.1 he with rfl|he
    · intro hb
      have:=h.1
      rw[hb] at this
      simpa using this
    · exact zi7 h.2 e' he
theorem zjf {all:List Nat}:∀ {os:List Oper} {ms:List Nat} {i:Nat},zhz all os ms i=true→ms.length=os.length∧
    ∀(t:Nat) (o:Oper),os[t]?=some o→ms[t]?=some (zc1 all o.after.toList)∧∀e∈o.after.toList,Region.binds .any e=true→e.on<i+t
  | [],[],i,_=>⟨rfl,by simp⟩
  | [],_::_,i,h=>by simp[zhz] at h
  | _::_,[],i,h=>by simp[zhz] at h
  | o :: r,m::ms,i,h=>by
    simp only[zhz,Bool.and_eq_true] at h
    obtain⟨⟨h1,h2⟩,h3⟩:=h
    obtain⟨h4,h5⟩:=zjf h3
    refine⟨by simp[h4],fun t o' ho=>?_⟩
    cases t with
    | zero=>
      simp only[List.getElem?_cons_zero,Option.some.injEq] at ho
      subst ho
      exact⟨by simpa using Nat.eq_of_beq_eq_true h1,zi7 h2⟩
    | succ t=>
      obtain⟨h6,h7⟩:=h5 t o' (by simpa using ho)
      exact⟨by simpa using h6,fun e he hb=>by have:=h7 e he hb;omega⟩
def un (L:Array Bool):Nat→Nat
  | 0=>0
  | n+1=>un L n+(if L.getD n true=true then 0 else 1)
theorem zuP {L:Array Bool} {i:Nat} (hi:i<L.size) (hu:L.getD i true=false):∀n,un (L.setIfInBounds i true) n+(if i<n then 1 else 0)=un L n
  | 0=>by simp[un]
  | n + 1=>by
    have ih:=zuP hi hu n
    simp only[un]
    by_cases hn:i=n
    · subst hn
      have:(L.setIfInBounds i true).getD i true=true:=by simp[hi]
      rw[if_neg (Nat.lt_irrefl i)] at ih
      rw[this,hu]
      simp
      omega
    · have:(L.setIfInBounds i true).getD n true=L.getD n true:=getD_set_ne true hn
      rw[this]
      by_cases hlt:i<n
      · rw[if_pos hlt] at ih
        have h2:i<n+1:=by omega
        rw[if_pos h2]
        omega
      · rw[if_neg hlt] at ih
        have h2:¬i<n+1:=by omega
        rw[if_neg h2]
        omega
theorem zqH {L:Array Bool}:∀ {n:Nat},un L n=0→∀i,i<n→L.getD i true=true
  | n + 1,h,i,hi=>by
    simp only[un] at h
    by_cases hn:i=n
    · subst hn
      cases hL:L.getD i true with
      | true=>rfl
      | false=>rw[hL] at h;simp at h
    · exact zqH (n:=n) (by omega) i (by omega)
theorem zxh {ro : Option Nat} {q:Nat} {nt:Nat} (hchk:zhz befs ops.toList befs 0=true) {acc:List PF} (hkill:zey ops.size befs ks acc) (hstep:∀i,i<ops.size→zdl E nt ops befs ks acc i)
    {Q : Exit→Act→World→Prop} (hQ:∀a w,Rel E nt (FD acc (fun i=>i<ops.size)) a w→Q .normal a w):∀(fuel:Nat) (L:Array Bool) (a:Act) (w:World),L.size=ops.size→un L ops.size≤fuel→
      zzL befs (fun i=>L.getD i false=true)→Rel E nt (FD acc (fun i=>L.getD i false=true)) a w→wpAnyIn (Fw ro) q E.P .any ops Q fuel L a w:=by
  obtain⟨hlen,hbef⟩:=zjf hchk
  have hlen':befs.length=ops.size:=by simpa using hlen
  have getDf:∀ {L:Array Bool} {i:Nat},L.size=ops.size→i<ops.size→L.getD i false=L.getD i true:=by
    intro L i hL hi
    have:i<L.size:=by omega
    simp[this]
  have notReady:∀(L:Array Bool),L.size=ops.size→Region.ready .any ops L=[]→∀i,i<ops.size→L.getD i true=true:=by
    intro L hL hr i
    induction i using Nat.strongRecOn with
    | _ i ih=>
      intro hi
      cases hu:L.getD i true with
      | true=>rfl
      | false=>
        exfalso
        have:i∈Region.ready .any ops L:=by
          rw[mem_ready]
          refine⟨hu,ops[i],by simp[hi],fun e he hb=>?_⟩
          have hlt:=(hbef i ops[i] (by simp[hi])).2 e (by simpa using he) hb
          have:=ih e.on (by omega) (by omega)
          rw[getDf hL (by omega)]
          exact this
        rw[hr] at this
        cases this
  have fin:∀(L:Array Bool) (a:Act) (w:World),L.size=ops.size→(∀i,i<ops.size→L.getD i true=true)→Rel E nt (FD acc (fun i=>L.getD i false=true)) a w→Q .normal a w:=by
    intro L a w hL hall hR
    refine hQ a w (hR.weaken fun f ⟨p,h1,h2,h3,h4⟩=>⟨p,h1,h2,?_,fun k hk=>?_⟩)
    · rcases h3 with h3|⟨l,h3,h5⟩
      · exact .inl h3
      · exact .inr ⟨l,h3,by simp only[];rw[getDf hL h5];exact hall l h5⟩
    · refine h4 k ?_
      have:k<L.size:=by
        rcases Nat.lt_or_ge k L.size with h|h
        · exact h
        · simp[Array.getD,Nat.not_lt.2 h] at hk
      omega
  intro fuel
  induction fuel with
  | zero=>
    intro L a w hL hu hc hR
    have hall:=zqH (Nat.le_zero.1 hu)
    refine⟨?_,fin L a w hL hall hR⟩
    cases hr:Region.ready .any ops L with
    | nil=>rfl
    | cons i r=>
      have hi:i∈Region.ready .any ops L:=by rw[hr];exact List.mem_cons_self
      obtain⟨h1,o,h2,_⟩:=mem_ready.1 hi
      have:=hall i (Array.getElem?_eq_some_iff.1 h2).1
      rw[h1] at this
      cases this
  | succ fuel ih =>
    intro L a w hL hu hc hR
    refine⟨fun hr=>fin L a w hL (notReady L hL hr) hR,fun i hi=>?_⟩
    obtain⟨h1,o,h2,h3⟩:=mem_ready.1 hi
    have hin:i<ops.size:=(Array.getElem?_eq_some_iff.1 h2).1
    obtain⟨m,Ki,M,e1,e2,e3,e4⟩:=hstep i hin
    have hbi:=(hbef i o (by simpa using h2)).1
    have hm:m=zc1 befs o.after.toList:=by rw[e1] at hbi;exact Option.some.inj hbi
    have hpre:∀l,m.testBit l=true→L.getD l false=true:=by
      intro l hl
      rw[hm] at hl
      obtain⟨e,f1,f2,f3⟩:=ze6 hl
      have he:=h3 e (by simpa using f1) f2
      rcases f3 with rfl|⟨m',f4,f5⟩
      · exact he
      · exact hc e.on m' he f4 l f5
    have hnot:¬(L.getD i false=true):=by rw[getDf hL hin,h1];simp
    have hafter:∀k mk,L.getD k false=true→befs[k]?=some mk→mk.testBit i=false:=by
      intro k mk hk hmk
      cases hb:mk.testBit i with
      | false=>rfl
      | true=>exact absurd (hc k mk hk hmk i hb) hnot
    have hlt:∀k,L.getD k false=true→k<ops.size:=by
      intro k hk
      rcases Nat.lt_or_ge k L.size with h|h
      · omega
      · simp[Array.getD,Nat.not_lt.2 h] at hk
    have hsub:∀f,M f→FD acc (fun i=>L.getD i false=true) f:=by
      intro f hf
      obtain⟨p,p1,p2,p3,p4⟩:=zdK.1 (e3 f hf)
      refine⟨p,p1,p2,?_,fun k hk=>?_⟩
      · rcases hkill p p1 with ⟨q1,_⟩|⟨l,ml,q0,q1,_⟩
        · exact .inl q1
        · exact .inr ⟨l,q1,hpre l (zlb q1 p3)⟩
      · have hkn:=hlt k hk
        have hkb:befs[k]?=some (befs[k]'(by omega)):=by simp[hlen',hkn]
        have:=zj3 (i:=i) befs 0 k _ hkb (by rintro h;rw[Nat.zero_add] at h;subst h;exact hnot hk) (hafter k _ hk hkb)
        rw[Nat.zero_add,Nat.pow_zero] at this
        exact zla p4 this
    have hset:∀k,(L.setIfInBounds i true).getD k false=true↔k=i∨L.getD k false=true:=by
      intro k
      by_cases hki:i=k
      · subst hki
        have:i<L.size:=by omega
        simp[this]
      · rw [getD_set_ne false hki]
        constructor
        · exact .inr
        · rintro (h|h)
          · exact absurd h.symm hki
          · exact h
    refine e4 _ hsub a w Q _ hR (fun a' w' hR'=>ih _ a' w' (by simpa using hL) ?_ ?_ (hR'.weaken fun f ⟨p,p1,p2,p3,p4⟩=>?_)) ro q
    · have:=zuP (by omega) h1 ops.size
      rw[if_pos hin] at this
      omega
    · intro k mk hk hmk l hl
      rcases (hset k).1 hk with rfl|hk
      · rw[e1] at hmk
        cases hmk
        exact (hset l).2 (.inr (hpre l hl))
      · exact (hset l).2 (.inr (hc k mk hk hmk l hl))
    · by_cases hsrc:p.src=2 ^ i
      · exact .inl ⟨p,p1,p2,hsrc⟩
      · refine .inr ⟨⟨p,p1,p2,?_,fun k hk=>p4 k ((hset k).2 (.inr hk))⟩,?_⟩
        · rcases p3 with p3|⟨l,p3,p5⟩
          · exact .inl p3
          · rcases (hset l).1 p5 with rfl|p5
            · exact absurd p3 hsrc
            · exact .inr ⟨l,p3,p5⟩
        · have hki := p4 i ((hset i).2 (.inl rfl))
          cases hs:Ki.surv f with
          | true=>rfl
          | false =>
            exfalso
            rw[←p2] at hs
            rcases hkill p p1 with ⟨_,q2⟩|⟨l,ml,q0,q1,q2,q3⟩
            · rw[q2 i Ki e2 hs] at hki;cases hki
            · have hl:L.getD l false=true:=by
                rcases p3 with p3|⟨l',p3,p5⟩
                · rw[q1] at p3
                  have:=Nat.two_pow_pos l
                  omega
                · have:l=l':=zkZ (by rw[←q1,←p3])
                  subst this
                  rcases (hset l).1 p5 with rfl|p5
                  · exact absurd q1 hsrc
                  · exact p5
              have hil:i≠l:=by rintro rfl;exact hnot hl
              rw[q3 i Ki e2 hil (hafter l ml hl q2) (by omega) hs] at hki
              cases hki
end
end Go.Eng
set_option linter.all false
namespace Go.Eng
section
variable {E:Env} {c:Cfg} {ops:Array Oper} {befs:List Nat} {ks:List Kill}
theorem zfZ {l l':List Nat} (h:subN l l'=true):∀n∈l,n∈l':=by
  induction l with
  | nil=>intro n hn;cases hn
  | cons m r ih=>
    simp only[subN,Bool.and_eq_true] at h
    intro n hn
    rcases List.mem_cons.1 hn with rfl|hn
    · exact zaw.1 h.1
    · exact ih h.2 n hn
theorem ztA {l l':List (Nat×Nat)} (h:subC l l'=true):∀n∈l,n∈l':=by
  induction l with
  | nil=>intro n hn;cases hn
  | cons m r ih=>
    simp only[subC,Bool.and_eq_true] at h
    intro n hn
    rcases List.mem_cons.1 hn with rfl|hn
    · exact zgh.1 h.1
    · exact ih h.2 n hn
theorem zbL {l l':List Nat} (h:∀n∈l,n∈l') {n:Nat} (hn:memN n l'=false):memN n l=false:=by
  cases hb:memN n l with
  | false=>rfl
  | true=>rw[zaw.2 (h n (zaw.1 hb))] at hn;cases hn
theorem zt9 {l l':List (Nat×Nat)} (h:∀n∈l,n∈l') {k o:Nat} (hn:memC k o l'=false):memC k o l=false:=by
  cases hb:memC k o l with
  | false=>rfl
  | true=>rw[zgh.2 (h _ (zgh.1 hb))] at hn;cases hn
theorem zlG {l l':List Nat} (h:∀n∈l,n∈l'):∀ {ps:List (Nat×Nat)},anyK l' ps=false→anyK l ps=false
  | [],_=>rfl
  | p::r,hs=>by
    simp only[anyK,Bool.or_eq_false_iff] at hs ⊢
    exact⟨zbL h hs.1,zlG h hs.2⟩
theorem ziK {l l':List Nat} (h:∀n∈l,n∈l') {s:S1} (hs:s.ment l'=false):s.ment l=false:=by
  cases s
  case fn g fs cs=>
    simp only[S1.ment,Bool.or_eq_false_iff] at hs ⊢
    exact⟨zlG h hs.1,zlG h hs.2⟩
  all_goals first|rfl|exact zbL h hs
theorem zlF {l l':List Nat} (h:∀n∈l,n∈l'):∀ {cs:List S1},anyS (S1.ment l') cs=false→anyS (S1.ment l) cs=false
  | [],_=>rfl
  | s::r,hs=>by
    simp only[anyS,Bool.or_eq_false_iff] at hs ⊢
    exact⟨ziK h hs.1,zlF h hs.2⟩
theorem zrZ {l l':List Nat} (h:∀n∈l,n∈l') {s:SV} (hs:s.ment l'=false):s.ment l=false:=by
  cases s with
  | one s=>exact ziK h hs
  | agg cs=>exact zlF h hs
  | tup cs=>exact zlF h hs
theorem zhk {K K':Kill} (h:zid K K'=true) {f:Fact} (hf:K'.surv f=true):K.surv f=true:=by
  simp only[zid,Bool.and_eq_true] at h
  obtain⟨⟨⟨⟨⟨h1,h2⟩,h3⟩,h4⟩,h5⟩,h6⟩:=h
  have h1:=zfZ h1
  have h2:=zfZ h2
  have h3:=ztA h3
  have h4:=zfZ h4
  have h5:=zfZ h5
  have h6:=zfZ h6
  cases f with
  | slot t s=>
    simp only[Kill.surv,Bool.and_eq_true,Bool.not_eq_true'] at hf ⊢
    exact⟨zbL h1 hf.1,zrZ h2 hf.2⟩
  | cell k off s=>
    simp only[Kill.surv,Bool.and_eq_true,Bool.not_eq_true'] at hf ⊢
    exact⟨⟨⟨⟨zbL h2 hf.1.1.1.1,zt9 h3 hf.1.1.1.2⟩,zbL h5 hf.1.1.2⟩,zbL h6 hf.1.2⟩,ziK h2 hf.2⟩
  | row k el e xs=>
    simp only[Kill.surv,Bool.and_eq_true,Bool.not_eq_true'] at hf ⊢
    exact⟨⟨⟨zbL h2 hf.1.1.1,zbL h4 hf.1.1.2⟩,zbL h5 hf.1.2⟩,zbL h6 hf.2⟩
  | ob k i=>
    simp only[Kill.surv,Bool.and_eq_true,Bool.not_eq_true'] at hf ⊢
    exact⟨⟨zbL h2 hf.1.1,zbL h4 hf.1.2⟩,zbL h5 hf.2⟩
  | fix k=>
    simp only[Kill.surv,Bool.not_eq_true'] at hf ⊢
    exact zbL h2 hf
theorem zzf {nt k:Nat} {F:Fact→Prop} {K:Kill} {add add':St} {p:Prop} {a:Act} {w:World} (hk:k∈K.keys) (h:freeze k add=some (p,add')) (hp:p)
    (hR:Rel E nt (upd F add K) a w):Rel E nt (upd F add' K) a w:=by
  unfold freeze at h
  split at h
  case h_2=>cases h
  case h_1 r hr=>
    simp only[Option.some.injEq,Prod.mk.injEq] at h
    obtain⟨h1,h2⟩:=h
    rw[←h1] at hp
    subst h2
    obtain⟨η,g,H⟩:=hR
    have hrow:=H _ (.inl (zaO hr))
    refine⟨zaQ η k,(zbn g k).1,fun f hf=>?_⟩
    rcases hf with hf|⟨hf,hs⟩
    · obtain⟨q,q1,rfl,q3⟩:=zgg hf
      exact frzF_holds g hrow (H q (.inl q1)) (fun hm=>zfi hp q q1 hm) q3
    · have hm:=zia hs
      refine Fact.keep (ks:=K.keys) (zbn g k).2 (fun j hj=>zas ?_) hm (H f (.inr ⟨hf,hs⟩))
      intro hjk
      simp only[List.mem_singleton] at hjk
      subst hjk
      exact hj hk
theorem zcJ {nt:Nat} {F:Fact→Prop} {a:Act} {w:World}:∀ {need:List Nat} {r r':Res},ziY need r=some r'→r'.ob.hold→r'.kill=r.kill∧r.ob.hold∧
    (Rel E nt (upd F r.add r.kill) a w→Rel E nt (upd F r'.add r'.kill) a w)
  | [],r,r',h,hob=>by simp only[ziY,Option.some.injEq] at h;subst h;exact⟨rfl,hob,id⟩
  | k :: l,r,r',h,hob=>by
    simp only[ziY] at h
    cases hm:memN k r.kill.keys with
    | false=>rw[hm] at h;exact zcJ h hob
    | true=>
      rw[hm] at h
      simp only[cond_true] at h
      split at h
      · rename_i p add hf
        obtain⟨h1,h2,h3⟩:=zcJ (F:=F) (a:=a) (w:=w) (nt:=nt) h hob
        exact⟨h1,h2.1,fun hR=>h3 (zzf (zaw.1 hm) hf h2.2 hR)⟩
      · exact zcJ h hob
theorem zmn (hC : CfgOk E.P E.OB c) {need:List Nat} {Ki:Kill} {o:Oper} {M:St} {K:St→Prop} (h:zmo c need Ki o M K):∃add,K add∧
    ∀ (F:Fact→Prop),(∀f∈M,F f)→∀(a:Act) (w:World) (Q:Exit→Act→World→Prop) (K':Act→World→Prop),Rel E c.nt F a w→
      (∀a' w',Rel E c.nt (fun f=>f∈add∨(F f∧Ki.surv f=true)) a' w'→K' a' w')→∀(ro:Option Nat) (q:Nat),o.wpIn (Fw ro) q E.P a w K' Q:=by
  unfold zmo at h
  split at h
  case h_2=>exact h.elim
  case h_1 r hr =>
    split at h
    case h_2=>exact h.elim
    case h_1 r' hr'=>
      cases hsub:zid r'.kill Ki with
      | false=>rw[hsub] at h;exact h.elim
      | true =>
        rw[hsub] at h
        obtain⟨hob,h⟩:=OP.andK_out h
        rw[zbu] at h
        refine⟨r'.add,h,fun F hF a w Q K' hR hK' ro q=>?_⟩
        obtain⟨h1,h2,_⟩:=zcJ (F:=F) (a:=a) (w:=w) (E:=E) (nt:=c.nt) hr' hob
        have up:∀a' w',Rel E c.nt (upd F r.add r.kill) a' w'→K' a' w':=fun a' w' hr''=>by
          have:=(zcJ (F:=F) (a:=a') (w:=w') (E:=E) (nt:=c.nt) hr' hob).2.2 hr''
          exact hK' a' w' (this.weaken fun f hf=>by
            rcases hf with hf|⟨hf,hs⟩
            · exact .inl hf
            · exact .inr ⟨hf,zhk hsub hs⟩)
        obtain⟨η,g,H⟩:=hR
        unfold zfF at hr
        split at hr
        case h_2=>cases hr
        case h_1 e he=>
          have hsem:=zi4 hC g (fun f hf=>H f (hF f hf)) he
          split at hr
          · rename_i hd
            exact zdZ g H hsem (by rw[hd];exact hr) (fun d hd'=>by rw[hd] at hd';cases hd') h2 (zcY he) up
          · rename_i d hd
            cases hb:Nat.blt d c.nt with
            | false=>rw[hb] at hr;simp at hr
            | true=>
              rw[hb] at hr
              exact zdZ g H hsem (by rw[hd];exact hr) (fun d' hd'=>by
                rw[hd] at hd'
                simp only[Option.some.injEq] at hd'
                subst hd'
                simpa using hb) h2 (zcY he) up
theorem zlP {Ki:Kill} {d:Option Nat} {K:St→Prop} (h:zlQ c Ki d K):∃add,K add∧
    ∀(F:Fact→Prop) (a:Act) (w:World),Rel E c.nt F a w→Rel E c.nt (fun f=>f∈add∨(F f∧Ki.surv f=true)) (a.put d undef) w:=by
  cases d with
  | none=>exact⟨[],h,fun F a w hR=>hR.weaken fun f hf=>by
      rcases hf with hf|hf
      · cases hf
      · exact hf.1⟩
  | some d=>
    simp only[zlQ] at h
    cases hb:(Nat.blt d c.nt&&memN d Ki.slots) with
    | false=>rw[hb] at h;exact h.elim
    | true=>
      rw[hb] at h
      rw[Bool.and_eq_true] at hb
      refine⟨_,h,fun F a w ⟨η,g,H⟩=>?_⟩
      refine (zgP g H (d:=d) (by simpa using hb.1) (s:=.one (.v undef)) (v:=undef) rfl).weaken fun f hf=>?_
      rcases hf with hf|⟨hf,hs⟩
      · exact .inl hf
      · refine .inr ⟨hf,zhk (K:={slots:=[d]}) (K':=Ki) ?_ hs⟩
        simp[zid,subN,subC,hb.2]
theorem zlV {src ex:Nat}:∀ {add:St} {acc:List PF} {K:List PF→Prop},tagK ks src ex add acc K→∃acc',K acc'∧(∀p∈acc,p∈acc')∧(∀f∈add,∃p∈acc',p.f=f∧p.src=src)∧
    ∀p∈acc',p∈acc∨(p.src=src∧p.f∈add∧p.kill=Nat.land (zdg p.f 0 1 ks) ex)
  | [],acc,K,h=>⟨acc,h,fun _ h=>h,fun f hf=>(by cases hf),fun p hp=>.inl hp⟩
  | f :: r,acc,K,h=>by
    simp only[tagK,zbR] at h
    obtain⟨acc',h1,h2,h3,h4⟩:=zlV h
    refine⟨acc',h1,fun p hp=>h2 p (List.mem_cons_of_mem _ hp),fun f' hf'=>?_,fun p hp=>?_⟩
    · rcases List.mem_cons.1 hf' with rfl|hf'
      · exact⟨_,h2 _ List.mem_cons_self,rfl,rfl⟩
      · exact h3 f' hf'
    · rcases h4 p hp with h|⟨h5,h6,h7⟩
      · rcases List.mem_cons.1 h with rfl|h
        · exact .inr ⟨rfl,List.mem_cons_self,rfl⟩
        · exact .inl h
      · exact .inr ⟨h5,List.mem_cons_of_mem _ h6,h7⟩
theorem zlW:∀ {st:St} {K:List PF→Prop},tag0 ks st K→∃acc,K acc∧∀p∈acc,p.f∈st∧p.src=0∧p.kill=zdg p.f 0 1 ks
  | [],K,h=>⟨[],h,fun p hp=>by cases hp⟩
  | f :: r,K,h=>by
    simp only[tag0,zbR] at h
    obtain⟨acc,h1,h2⟩:=zlW h
    refine⟨_,h1,fun p hp=>?_⟩
    rcases List.mem_cons.1 hp with rfl|hp
    · exact⟨List.mem_cons_self,rfl,rfl⟩
    · obtain⟨h3,h4⟩:=h2 p hp
      exact⟨List.mem_cons_of_mem _ h3,h4⟩
theorem zg3 {t src kill:Nat} {x:Bool}:∀ {acc:List PF},zkh t acc=some (src,kill,x)→(⟨src,kill,.slot t (.one (.d .bool x))⟩:PF)∈acc
  | [],h=>by simp[zkh] at h
  | p :: r,h=>by
    unfold zkh at h
    split at h
    · rename_i src' kill' t' y
      cases hb:Nat.beq t' t with
      | true=>
        rw[hb] at h
        simp only[cond_true,Option.some.injEq,Prod.mk.injEq] at h
        obtain⟨rfl,rfl,rfl⟩:=h
        have:=Nat.eq_of_beq_eq_true hb
        subst this
        exact List.mem_cons_self
      | false=>
        rw[hb] at h
        exact List.mem_cons_of_mem _ (zg3 (acc:=r) h)
    · exact List.mem_cons_of_mem _ (zg3 (acc:=r) h)
def Init (E:Env) (nt:Nat) (st0:St) (acc:List PF):Prop:=∀a w,RelS E nt st0 a w→Rel E nt (fun f=>∃p∈acc,p.f=f∧p.src=0) a w
theorem zdl.ext {nt:Nat} {acc acc':List PF} {j:Nat} (h:zdl E nt ops befs ks acc j) (hsub:∀p∈acc,p∈acc') (hnew:∀p∈acc',p∈acc∨p.src≠2 ^ j):zdl E nt ops befs ks acc' j:=by
  obtain⟨m,Ki,M,h1,h2,h3,h4⟩:=h
  refine⟨m,Ki,M,h1,h2,fun f hf=>zd6 hsub (h3 f hf),fun F hF a w Q K hR hK=>h4 F hF a w Q K hR fun a' w' hR'=>hK a' w' (hR'.weaken fun f hf=>?_)⟩
  rcases hf with ⟨p,p1,p2,p3⟩|hf
  · rcases hnew p p1 with h|h
    · exact .inl ⟨p,h,p2,p3⟩
    · exact absurd p3 h
  · exact .inr hf
theorem zAp {η:Eta} {a:Act} {w:World} {t:Nat} {x b:Bool} (hx:x=b) (h:Fact.holds E η a w (.slot t (.one (.d .bool x)))):Fact.holds E η a w (.slot t (.one (.lb b))):=by
  have:=zbJ (h:zao (vw E η w) η (.one (.d .bool x)) _)
  rw[hx] at this
  exact this
theorem zva {nt:Nat} {F F':Fact→Prop} {t:Nat} {x b:Bool} (hx:x=b) {a:Act} {w:World} (hR:Rel E nt F a w) (h:∀f,F' f→F f∨(f=.slot t (.one (.lb b))∧F (.slot t (.one (.d .bool x))))):Rel E nt F' a w:=by
  obtain⟨η,g,H⟩:=hR
  refine⟨η,g,fun f hf=>?_⟩
  rcases h f hf with h|⟨rfl,h⟩
  · exact H f h
  · exact zAp hx (H _ h)
theorem zsg {nt:Nat} {acc:List PF} {q:PF} {t:Nat} {x b:Bool} (hx:x=b) (hq:q∈acc) (hf:q.f=.slot t (.one (.d .bool x))) {j:Nat} (h:zdl E nt ops befs ks acc j) :
    zdl E nt ops befs ks (⟨q.src,q.kill,.slot t (.one (.lb b))⟩::acc) j:=by
  obtain⟨m,Ki,M,h1,h2,h3,h4⟩:=h
  refine⟨m,Ki,M,h1,h2,fun f hf=>zd6 (fun p hp=>List.mem_cons_of_mem _ hp) (h3 f hf),fun F hF a w Q K hR hK=>h4 F hF a w Q K hR fun a' w' hR'=>hK a' w' (zva hx hR' (t:=t) fun f hf'=>?_)⟩
  rcases hf' with ⟨p,p1,p2,p3⟩|hf'
  · rcases List.mem_cons.1 p1 with rfl|p1
    · exact .inr ⟨p2.symm,.inl ⟨q,hq,hf,p3⟩⟩
    · exact .inl (.inl ⟨p,p1,p2,p3⟩)
  · exact .inl (.inr hf')
theorem zsi {nt:Nat} {st0:St} {acc:List PF} {q:PF} {t:Nat} {x b:Bool} (hx:x=b) (hq:q∈acc) (hf:q.f=.slot t (.one (.d .bool x))) (h:Init E nt st0 acc) :
    Init E nt st0 (⟨q.src,q.kill,.slot t (.one (.lb b))⟩::acc):=by
  intro a w hR
  refine zva hx (h a w hR) (t:=t) fun f ⟨p,p1,p2,p3⟩=>?_
  rcases List.mem_cons.1 p1 with rfl|p1
  · exact .inr ⟨p2.symm,q,hq,hf,p3⟩
  · exact .inl ⟨p,p1,p2,p3⟩
theorem zsh {n:Nat} {acc:List PF} {q:PF} {t:Nat} {x b:Bool} (hq:q∈acc) (hf:q.f=.slot t (.one (.d .bool x))) (h:zey n befs ks acc):zey n befs ks (⟨q.src,q.kill,.slot t (.one (.lb b))⟩::acc):=by
  intro p hp
  rcases List.mem_cons.1 hp with rfl|hp
  · have:=h q hq
    rw[hf] at this
    exact this
  · exact h p hp
theorem zug {g:GV} (h:zuh g=true):g=.yes:=by cases g<;>simp[zuh] at h;rfl
theorem zwy {g:GV} (h:isNo g=true):g=.no:=by cases g<;>simp[isNo] at h;rfl
theorem zhq (hC:CfgOk E.P E.OB c) {need:List Nat} {st0:St} {K:List PF→Prop}:∀(l:List Oper) (ms:List Nat) (kr:List Kill) (i:Nat) (acc:List PF),
    (∀t,l[t]?=ops[i+t]?)→(∀t,ms[t]?=befs[i+t]?)→(∀t,kr[t]?=ks[i+t]?)→zfw c ops need befs ks l ms kr (2 ^ i) acc K→
    zey i befs ks acc→(∀j,j<i→zdl E c.nt ops befs ks acc j)→Init E c.nt st0 acc→
    ∃acc',zey (i+l.length) befs ks acc'∧(∀j,j<i+l.length→zdl E c.nt ops befs ks acc' j)∧Init E c.nt st0 acc'∧K acc'
  | [],ms,kr,i,acc,_,_,_,h,h1,h2,h3=>⟨acc,h1,h2,h3,by simpa [zfw] using h⟩
  | _::_,[],_,i,acc,_,_,_,h,_,_,_=>by simp[zfw] at h
  | _::_,_::_,[],i,acc,_,_,_,h,_,_,_=>by simp[zfw] at h
  | o :: r, m::ms,Ki::kr,i,acc,hl,hms,hkr,h,h1,h2,h3=>by
    have ho:ops[i]?=some o:=by have:=hl 0;simpa using this.symm
    have hm:befs[i]?=some m:=by have:=hms 0;simpa using this.symm
    have hK:ks[i]?=some Ki:=by have:=hkr 0;simpa using this.symm
    have go:∀(acc1:List PF) (add:St),(tagK ks (2 ^ i) (zgr (2 ^ i) m 1 befs) add acc1 fun acc'=>zfw c ops need befs ks r ms kr (2*2 ^ i) acc' K)→zey i befs ks acc1→
        (∀j,j<i→zdl E c.nt ops befs ks acc1 j)→Init E c.nt st0 acc1→(∀acc',(∀p∈acc1,p∈acc')→(∀f,Adds acc' i f→f∈add)→zdl E c.nt ops befs ks acc' i)→
        ∃acc',zey (i+(o::r).length) befs ks acc'∧(∀j,j<i+(o::r).length→zdl E c.nt ops befs ks acc' j)∧Init E c.nt st0 acc'∧K acc':=by
      intro acc1 add ht k1 k2 k3 k4
      obtain⟨acc',t1,t2,t3,t4⟩:=zlV ht
      have hsrc:∀p∈acc1,p.src≠2 ^ i:=by
        intro p hp hs
        rcases k1 p hp with ⟨q1,_⟩|⟨l,ml,q0,q1,_⟩
        · have:=Nat.two_pow_pos i;omega
        · have:=zkZ (q1.symm.trans hs);omega
      rw[zdY] at t1
      have hlen:i+(o::r).length=i+1+r.length:=by simp;omega
      rw[hlen]
      refine zhq hC r ms kr (i+1) acc' (fun t=>?_) (fun t=>?_) (fun t=>?_) t1 ?_ ?_ ?_
      · have:=hl (t+1);simp only[List.getElem?_cons_succ] at this;rw[this];congr 1;omega
      · have:=hms (t+1);simp only[List.getElem?_cons_succ] at this;rw[this];congr 1;omega
      · have:=hkr (t+1);simp only[List.getElem?_cons_succ] at this;rw[this];congr 1;omega
      · intro p hp
        rcases t4 p hp with h|⟨h5,h6,h7⟩
        · rcases k1 p h with q|⟨l,ml,q0,q1,q2,q3⟩
          · exact .inl q
          · exact .inr ⟨l,ml,by omega,q1,q2,q3⟩
        · refine .inr ⟨i,m,by omega,h5,hm,fun k K' hk hki hmk hkb hs=>?_⟩
          have e1:=zd8 ks 0 0 k K' hk hs
          have e2:=zkm (l:=i) (ml:=m) befs 0 k hkb (by omega) (by simpa using hmk)
          simp only[Nat.zero_add,Nat.pow_zero] at e1 e2
          rw[h7,zuf,e1,e2]
          rfl
      · intro j hj
        rcases Nat.lt_or_ge j i with hji|hji
        · refine (k2 j hji).ext t2 fun p hp=>?_
          rcases t4 p hp with h|⟨h5,_,_⟩
          · exact .inl h
          · exact .inr (by rw[h5];intro h;have:=zkZ h;omega)
        · have:j=i:=by omega
          subst this
          refine k4 acc' t2 fun f ⟨p,p1,p2,p3⟩=>?_
          rcases t4 p p1 with h|⟨_,h6,_⟩
          · exact absurd p3 (hsrc p h)
          · rw[←p2];exact h6
      · intro a w hR
        refine (k3 a w hR).weaken fun f ⟨p,p1,p2,p3⟩=>?_
        rcases t4 p p1 with h|⟨h5,_,_⟩
        · exact⟨p,h,p2,p3⟩
        · exfalso;have:=Nat.two_pow_pos i;omega
    have run:∀(acc1:List PF),zax c ops (zcd m (zds (2 ^ i) 1 befs) acc1) o=.yes→
        (zcm (zcd m (zds (2 ^ i) 1 befs) acc1) fun M=>zmo c need Ki o M fun add=>tagK ks (2 ^ i) (zgr (2 ^ i) m 1 befs) add acc1 fun acc'=>zfw c ops need befs ks r ms kr (2*2 ^ i) acc' K)→
        zey i befs ks acc1→(∀j,j<i→zdl E c.nt ops befs ks acc1 j)→Init E c.nt st0 acc1→
        ∃acc',zey (i+(o::r).length) befs ks acc'∧(∀j,j<i+(o::r).length→zdl E c.nt ops befs ks acc' j)∧Init E c.nt st0 acc'∧K acc':=by
      intro acc1 hg h k1 k2 k3
      rw[zbu] at h
      obtain⟨add,g1,g2⟩:=zmn hC h
      refine go acc1 add g1 k1 k2 k3 fun acc' hsub hadd=>⟨m,Ki,fun f=>f∈zcd m (zds (2 ^ i) 1 befs) acc1,hm,hK,fun f hf=>zd6 hsub hf,fun F hF a w Q K' hR hK' ro q=>?_⟩
      unfold wpOpIn
      rw[ho]
      have hgs:=zef (c:=c) (ops:=ops) (hR.weaken hF) (o:=o)
      rw[hg] at hgs
      simp only at hgs ⊢
      rw[if_pos hgs]
      exact g2 F hF a w Q K' hR (fun a' w' hr=>hK' a' w' (hr.weaken fun f hf=>hf.imp (hadd f) id)) ro q
    have skip:∀(acc1:List PF),zax c ops (zcd m (zds (2 ^ i) 1 befs) acc1) o=.no→
        (zlQ c Ki o.dst fun add=>tagK ks (2 ^ i) (zgr (2 ^ i) m 1 befs) add acc1 fun acc'=>zfw c ops need befs ks r ms kr (2*2 ^ i) acc' K)→
        zey i befs ks acc1→(∀j,j<i→zdl E c.nt ops befs ks acc1 j)→Init E c.nt st0 acc1→
        ∃acc',zey (i+(o::r).length) befs ks acc'∧(∀j,j<i+(o::r).length→zdl E c.nt ops befs ks acc' j)∧Init E c.nt st0 acc'∧K acc':=by
      intro acc1 hg h k1 k2 k3
      obtain⟨add,g1,g2⟩:=zlP (E:=E) h
      refine go acc1 add g1 k1 k2 k3 fun acc' hsub hadd=>⟨m,Ki,fun f=>f∈zcd m (zds (2 ^ i) 1 befs) acc1,hm,hK,fun f hf=>zd6 hsub hf,fun F hF a w Q K' hR hK' ro q=>?_⟩
      unfold wpOpIn
      rw[ho]
      have hgs:=zef (c:=c) (ops:=ops) (hR.weaken hF) (o:=o)
      rw[hg] at hgs
      simp only at hgs ⊢
      rw[if_neg (by rw[hgs];simp)]
      refine⟨fun _ _=>trivial,?_⟩
      exact hK' _ _ ((g2 F a w hR).weaken fun f hf=>hf.imp (hadd f) id)
    simp only[zfw,zbR] at h
    split at h
    · rename_i hg
      exact run acc hg h h1 h2 h3
    · rename_i hg
      exact skip acc hg h h1 h2 h3
    · rename_i t g hg
      split at h
      case h_2=>exact h.elim
      case h_1 src kill x hp=>
        have q1:=zg3 hp
        have q2:(⟨src,kill,.slot t (.one (.d .bool x))⟩:PF).f=.slot t (.one (.d .bool x)):=rfl
        cases hb:(zuh (zax c ops (zcd m (zds (2 ^ i) 1 befs) (⟨src,kill,.slot t (.one (.lb (zab o)))⟩::acc)) o)&&isNo (zax c ops (zcd m (zds (2 ^ i) 1 befs) (⟨src,kill,.slot t (.one (.lb (!zab o)))⟩::acc)) o)) with
        | false=>rw[hb] at h;exact h.elim
        | true=>
          rw[hb] at h
          simp only[cond_true] at h
          rw[Bool.and_eq_true] at hb
          by_cases hx:x=zab o
          · exact run _ (zug hb.1) (h.out.1 hx) (zsh q1 q2 h1) (fun j hj=>zsg hx q1 q2 (h2 j hj)) (zsi hx q1 q2 h3)
          · have hx:x = !zab o:=by cases x<;>cases hh:zab o<;>simp_all
            exact skip _ (zwy hb.2) (h.out.2 hx) (zsh q1 q2 h1) (fun j hj=>zsg hx q1 q2 (h2 j hj)) (zsi hx q1 q2 h3)
    · exact h.elim
theorem zj4:∀ {os:List Oper} {tbl:List Nat} {K:List Nat→Prop},zt7 os tbl K→∃t,K t
  | [],tbl,K,h=>⟨tbl,h⟩
  | o::r,tbl,K,h=>by
    simp only[zt7,zbR,zcu] at h
    exact zj4 h
theorem zfP:∀ {os:List Oper} {st:St} {ks:List Kill} {need:List Nat} {K:List Kill→List Nat→Prop},ziV c ops os st ks need K→∃ks need,K ks need
  | [],st,ks,need,K,h=>⟨ks.reverse,need,by simpa only [ziV,zke] using h⟩
  | o :: r, st,ks,need,K,h=>by
    have run:∀st,(match zdF (zge c st o) st with
      | some (_,st1)=>match zfF c st1 o with
        | some q=>zeV q.kill fun k=>zck (zge c st o++need) fun need'=>ziV c ops r (after st1 q) (k::ks) need' K
        | none=>False
      | none=>False)→∃ks need,K ks need:=by
      intro st h
      split at h
      · split at h
        · simp only[zeV,zcu,zg2] at h
          exact zfP h
        · exact h.elim
      · exact h.elim
    simp only[ziV,zbu] at h
    split at h
    · exact run st h
    · exact zfP h
    · exact run st h
    · exact h.elim
theorem zgV {f:Fact}:∀ {acc:List PF},f∈zmU acc→∃p∈acc,p.f=f∧p.kill=0
  | ⟨src, kill,f0⟩::r,h=>by
    simp only[zmU] at h
    cases hb:Nat.beq kill 0 with
    | true=>
      rw[hb] at h
      rcases List.mem_cons.1 h with rfl|h
      · exact⟨_,List.mem_cons_self,rfl,Nat.eq_of_beq_eq_true hb⟩
      · obtain⟨q,h1,h2⟩:=zgV h
        exact⟨q,List.mem_cons_of_mem _ h1,h2⟩
    | false=>
      rw[hb] at h
      obtain⟨q,h1,h2⟩:=zgV h
      exact⟨q,List.mem_cons_of_mem _ h1,h2⟩
theorem zb3 {P : Program} {OB:Nat→Obj→Prop} (hm:P.follows .mixedOrders=true) (hC:CfgOk P OB c):zpP P OB c (par c):=by
  intro E hP hOB id ops st K a w Q h hR hQ ro q
  subst hP hOB
  obtain⟨befs,h⟩:=zj4 h
  cases hchk:zhz befs ops.toList befs 0 with
  | false=>rw[hchk] at h;exact h.elim
  | true =>
    rw[hchk] at h
    obtain⟨ks,need,h⟩:=zfP h
    split at h
    case h_2=>exact h.elim
    case h_1 p st1 hf=>
      obtain⟨hp,h⟩:=OP.andK_out h
      rw[zbu] at h
      obtain⟨acc,h,hacc⟩:=zlW h
      have hR1:=zbE hf hp hR
      have hk0:zey 0 befs ks acc:=by
        intro p hp
        obtain⟨h1,h2,h3⟩:=hacc p hp
        refine .inl ⟨h2,fun k K hk hs=>?_⟩
        have:=zd8 ks 0 0 k K hk hs
        rw[h3]
        simpa using this
      have hi0:Init E c.nt st1 acc:=fun a w hR=>hR.weaken fun f ⟨p,p1,p2,_⟩=>by rw[←p2];exact (hacc p p1).1
      obtain⟨acc',k1,k2,k3,k4⟩:=zhq (E:=E) (ops:=ops) (st0:=st1) hC ops.toList befs ks 0 acc (by simp) (by simp) (by simp) h hk0 (fun j hj=>by omega) hi0
      simp only[Nat.zero_add,Array.length_toList] at k1 k2
      rw[zbu] at k4
      refine wpIn_region_any hm (zgC (fun o ho t ht=>zgT.2 ⟨o,ho,ht⟩) _ _ _ _ (zbK.refl _ _) ?_)
      have hR2:Rel E c.nt (fun f=>∃p∈acc',p.f=f∧p.src=0) a w:=k3 a w hR1
      refine zxh hchk k1 (fun i hi=>k2 i hi) (Q:=Q) (fun a' w' hR'=>?_) ops.size (Array.replicate ops.size false) a _ (by simp) ?_ ?_ ?_
      · refine hQ _ a' w' k4 (hR'.weaken fun f hf=>?_)
        obtain⟨p,p1,p2,p3⟩:=zgV hf
        refine⟨p,p1,p2,?_,fun k _=>by rw[p3];exact Nat.zero_testBit k⟩
        rcases k1 p p1 with ⟨q1,_⟩|⟨l,ml,q0,q1,_⟩
        · exact .inl q1
        · exact .inr ⟨l,q1,q0⟩
      · have:∀n (L:Array Bool),un L n≤n:=by
          intro n L
          induction n with
          | zero=>exact Nat.le_refl 0
          | succ n ih=>simp only[un];split<;>omega
        exact this _ _
      · intro i m hi
        simp at hi
        have hz:((Array.replicate ops.size false)[i]?.getD false)=false:=by
          by_cases h:i<ops.size<;>simp[h]
        simp_all
      · obtain ⟨η,g,H⟩:=hR2
        refine⟨η,⟨g.size,g.lim,g.defers,g.os,g.tape,g.output,g.grow,g.keep,g.own,g.dis,g.inj,g.old,g.obkeep,g.nd⟩,fun f ⟨p,p1,p2,p3,p4⟩=>?_⟩
        have hs:p.src=0:=by
          rcases p3 with p3|⟨l,_,p5⟩
          · exact p3
          · exfalso
            have hz:(Array.replicate ops.size false).getD l false=false:=by
              by_cases h:l<ops.size<;>simp[Array.getD,h]
            rw[hz] at p5
            cases p5
        exact H f ⟨p,p1,p2,hs⟩
end
end Go.Eng
set_option linter.all false
set_option maxRecDepth 100000
namespace Go.Eng
section
variable {c:Cfg}
/-! ### The body of a function that is handed a struct with slices of own memory, and hands it back -/
def noGl:List Pat→Bool
  | []=>true
  | .gl _ _::_=>false
  | .gw _ _::_=>false
  | .dat _::r=>noGl r
  | .lit _::r=>noGl r
  | .ob _::r=>noGl r
theorem zh1 {OB:Nat→Obj→Prop} {w:World} {M:Nat→Prop}:∀ {ps:List Pat} {x:(zac ps).Den} {vs:List Value} {bs:List Nat},noGl ps=true→zdo OB w M ps x vs bs→vs.length=ps.length
  | [],x,vs,bs,_,h=>by rw[h.1];rfl
  | .gl _ _::_,x,vs,bs,hn,_=>by cases hn
  | .gw _ _::_,x,vs,bs,hn,_=>by cases hn
  | .dat _::r,x,vs,bs,hn,h=>by
    obtain⟨v,vs',rfl,_,h⟩:=h
    simp[zh1 (ps:=r) hn h]
  | .lit _::r,x,vs,bs,hn,h=>by
    obtain⟨vs',rfl,h⟩:=h
    simp[zh1 (ps:=r) hn h]
  | .ob _::r,x,vs,bs,hn,h=>by
    obtain⟨b,o,vs',bs',rfl,_,_,_,_,h⟩:=h
    simp[zh1 (ps:=r) hn h]
def zqE (sp:VaSpec) (x:(icTy sp.cs).Den) (y:(zac sp.pats).Den):St:=
  .slot sp.pats.length (.agg (zaP (zdM 40000) sp.cs x [] 0).1)::((zaP (zdM 40000) sp.cs x [] 0).2.1++zbb sp.pats y 0)
def zv5 (c:Cfg) (st:St) (rs:List ResultVar) (cs:List IC) (y:(icTy cs).Den):Prop:=
  match rs with
  | [r]=>match svOf c st r with
    | some (.agg ss)=>match zb2 st cs ss with
      | some (p,x,[],wks)=>bif zeQ wks then Leaf (p∧eqD (icTy cs) x y) else False
      | _=>False
    | _=>False
  | _=>False
def vaVC (c:Cfg) (par:Array Oper→St→(St→Prop)→Prop) (anns:List (St→LoopAnn)) (rs:List ResultVar) (body:Code) (sp:VaSpec) (x:(icTy sp.cs).Den) (y:(zac sp.pats).Den):Prop:=
  vc c par anns body 0 (zqE sp x y) fun e st=>match e with
    | .ret | .normal=>zv5 c st rs sp.outs (sp.out x y)
    | _=>False
theorem ztw {P : Program} {OB:Nat→Obj→Prop} (hC:CfgOk P OB c) {par:Array Oper→St→(St→Prop)→Prop} (hpar:zpP P OB c par) {f:Nat} {fn:Func} {body:Code} {rs:List ResultVar} {sp:VaSpec}
    (hf:P.funcs[f]?=some fn) (hb:fn.body=some body) (hnt:fn.ntmps=c.nt) (hps:sp.pats.length+1≤c.nt) (hlim:c.nt≤1000000) (hob:zb9 sp.pats=0) (hgl:noGl sp.pats=true) (hrs:fn.results.toList=rs) (hd:zcZ c.nt body=true)
    (anns:(icTy sp.cs).Den→(zac sp.pats).Den→List (St→LoopAnn)) (h:∀x y,sp.pre x y→vaVC c par (anns x y) rs body sp x y):zop P OB f sp:=by
  intro w M x y vs us ws hM hA hCe hN hwM hpre
  obtain⟨o1,o2,o3,o4⟩:=zcb sp.pats y vs [] 0 hA
  have hvl:=zh1 hgl hA
  let η0:Eta:=fun k=>match zaM (zdM 40000) sp.cs us 0 k with|some r=>r|none=>none
  have hη:∀k,η0 k=match zaM (zdM 40000) sp.cs us 0 k with|some r=>r|none=>none:=fun _=>rfl
  let E:Env:={P:=P,M:=fun c=>M c∧c ∉ ws,mu:=fun _=>False,w0:=w,OB:=OB,x:={mw:=fun c=>c∈ws,eta0:=η0}}
  have kinds:∀k b' c,η0 k=some (b',c)→zaM (zdM 40000) sp.cs us 0 k=some (some (b',c))∧b'∈ws:=fun k b' c hk=>by
    rw[hη] at hk
    split at hk
    · rename_i r hr
      subst hk
      exact⟨hr,zbW sp.cs x us [] ws 0 k b' c hCe hr⟩
    · cases hk
  have hηM:∀k b' c,η0 k=some (b',c)→M b':=fun k b' c hk=>hwM b' (kinds k b' c hk).2
  have hkf:∀k r,zaM (zdM 40000) sp.cs us 0 k=some r→η0 k=r:=fun k r h=>by rw[hη,h]
  refine callsIn_wide.1 (callsIn_of_wp_marks (F:=Fence.wide) (n:=0) hf hb trivial ?_)
  have hsz:((vs++[Value.agg us.toArray]).toArray++Array.replicate (fn.ntmps - (vs++[Value.agg us.toArray]).toArray.size) undef).size=c.nt:=by
    simp;omega
  have hR : RelS E c.nt (zqE sp x y) {tmps:=(vs++[Value.agg us.toArray]).toArray++Array.replicate (fn.ntmps - (vs++[Value.agg us.toArray]).toArray.size) undef,defers:=[]} w:=by
    refine⟨η0,?_,?_⟩
    · exact {
        size:=hsz,lim:=hlim,defers:=⟨⟨[],rfl,List.nodup_nil,fun _ h=>by cases h⟩,fun _ h=>by cases h⟩,os:=rfl,tape:=rfl,output:=rfl,grow:=Nat.le_refl _,keep:=fun _ _ _ _=>rfl,
        own:=fun k b' n hk=>⟨hM b' (hηM k b' n hk),.inl (.inr (kinds k b' n hk).2)⟩,
        dis:=fun b' hb' h=>hb'.elim,
        inj:=fun k k' b' n n' hk hk'=>zct sp.cs x us [] ws 0 k k' b' n n' hCe hN (kinds k b' n hk).1 (kinds k' b' n' hk').1,
        old:=fun b' ⟨h1,h2⟩ h=>by
          rcases h with h|h
          · exact absurd (hM b' h1) (Nat.not_lt_of_le h)
          · exact h2 h,
        obkeep:=fun b' i o _ _ h1 h2=>⟨o,h1,h2⟩}
    · have hV:∀c r,(¬M c∧∃el f,w.heap[c]?=some (.cells r el f))→vw E η0 w c r:=fun c r ⟨h1,h2⟩=>⟨fun hm=>(by
        rcases hm with hm|⟨_,hm⟩
        · exact h1 hm.1
        · cases hm),fun k n hk=>h1 (hηM k c n hk),h2⟩
      have hio:=io_holds (E:=E) (d:=zdM 40000) (η':=η0) (a':={tmps:=(vs++[Value.agg us.toArray]).toArray++Array.replicate (fn.ntmps - (vs++[Value.agg us.toArray]).toArray.size) undef,defers:=[]}) hV sp.cs x us [] [] ws 0 hCe trivial (fun c hc=>.inr hc) hkf
      intro f hf'
      simp only[zqE,List.mem_cons,List.mem_append] at hf'
      rcases hf' with rfl|hf'|hf'
      · simp only[Fact.holds,zbl (show sp.pats.length<1000000 by omega)]
        refine⟨us,?_,hio.1⟩
        simp only[Array.getD_eq_getD_getElem?]
        rw[Array.getElem?_append_left (by simp;omega)]
        simp[←hvl]
      · exact hio.2 f hf'
      · refine zcf (E:=E) (P:=P) (OB:=OB) (M:=M) rfl rfl (fun c h=>by
          rcases h with h|⟨_,h⟩
          · exact h.1
          · cases h) rfl (fun k b' n hk=>hηM k b' n hk) sp.pats y vs [] 0 hA (by omega) (fun j v hj=>?_) (fun k b' hkb'=>?_) f hf'
        · have hjl:=(List.getElem?_eq_some_iff.1 hj).1
          simp only[Array.getD_eq_getD_getElem?]
          rw[Array.getElem?_append_left (by simp;omega),Nat.zero_add]
          simp[List.getElem?_append_left hjl,hj]
        · rw[hob] at o2
          rw[List.eq_nil_of_length_eq_zero o2] at hkb'
          cases hkb'
  have hCE:CfgOk E.P E.OB c:=hC
  refine wpIn_mono (zbe hC hpar body 0 _ _ _ w E none rfl rfl (.inl ⟨rfl,rfl⟩) hd (h x y hpre) hR) fun e a' w' ⟨⟨xe,st',e1,e2,e3⟩,_⟩=>?_
  subst e1
  have leave:∀(R:Ending→World→Prop) (st1:St) (η:Eta) (tmps:Array Value),(∀a1 w1,a1.tmps=tmps→Good E c.nt η a1 w1→(∀f∈st1,Fact.holds E η a1 w1 f)→∃v,(results fn tmps).run P w1=.ok v w1∧R (.returned v) w1)→
      ∀(ms:List Nat) (a1:Act) (w1:World),a1.tmps=tmps→a1.defers=ms.map mkD→ms.Nodup→(∀D∈ms,E.w0.heap.size≤D∧w1.heap[D]?=some (.deferred (some []))∧∀k c,η k≠some (D,c))→
      Good E c.nt η a1 w1→(∀f∈st1,Fact.holds E η a1 w1 f)→LeavesInM Fence.wide 0 P fn tmps R a1.defers .returning w1:=by
    intro R st1 η tmps hfin ms
    induction ms with
    | nil=>
      intro a1 w1 ht hd1 _ _ g H
      rw[hd1]
      exact hfin a1 w1 ht g H
    | cons D ms ih=>
      intro a1 w1 ht hd1 hn hm g H
      have ht2:=zh7 rfl g H (by rw[hd1];rfl) hn hm
      rw[hd1]
      refine⟨by simp,.inl ⟨D,_,rfl,run_takeDeferred (hm D List.mem_cons_self).2.1,?_⟩⟩
      refine ih {a1 with defers:=ms.map mkD} _ ht rfl (List.nodup_cons.1 hn).2 (fun D' hD'=>?_) ht2.1 ht2.2
      obtain⟨p1,p2,p3⟩:=hm D' (List.mem_cons_of_mem _ hD')
      have hne:D'≠D:=fun e=>(List.nodup_cons.1 hn).1 (by rw[←e];exact hD')
      exact⟨p1,(World.putObj_heap_other hne).trans p2,p3⟩
  have fin : ∀ st',zv5 c st' rs sp.outs (sp.out x y)→RelS E c.nt st' a' w'→LeavesInM Fence.wide 0 P fn a'.tmps (fun e w'=>∃us',e=.returned (.agg us'.toArray)∧VaPost w w' ws∧zuH OB M w w' ws sp.outs (sp.out x y) us') a'.defers .returning w':=by
    intro st' hr hR
    unfold zv5 at hr
    split at hr
    case h_2=>exact hr.elim
    case h_1 rv =>
      split at hr
      case h_2=>exact hr.elim
      case h_1 ss hss=>
        split at hr
        case h_2=>exact hr.elim
        case h_1 p z wks hm=>
          cases hck:zeQ wks with
          | false=>rw[hck] at hr;exact hr.elim
          | true =>
            rw[hck] at hr
            obtain⟨r2,r3⟩:=Leaf.out (show Leaf (p∧eqD (icTy sp.outs) z (sp.out x y)) from hr)
            have r3:=ze0 _ _ _ r3
            obtain⟨η,g,H⟩:=hR
            obtain⟨⟨ms,m1,m2,m3⟩,_⟩:=g.defers
            refine leave _ st' η a'.tmps (fun a1 w1 ht g H=>?_) ms a' w' rfl m1 m2 m3 g H
            obtain⟨v,k1,us',hv,f1⟩:=zc4 hCE.tbl H hss
            subst hv
            have k1':(zft a1.tmps _).run P w1=.ok _ w1:=k1
            obtain⟨os',ws',g1,g2,g3,g4⟩:=zbP g H sp.outs ss us' p z [] wks hm r2 f1
            have hos:os'=[]:=by
              cases os' with
              | nil=>rfl
              | cons _ _=>exact g2.elim
            subst hos
            rw[r3] at g1
            refine⟨_,zb8 (vs:=[.agg us'.toArray]) (by rw[hrs,←ht];simp[k1']),us',rfl,?_,?_⟩
            · exact {os:=g.os,tape:=g.tape,output:=g.output,size:=g.grow,keep:=fun c hc h3=>g.keep c hc (fun h=>h) h3}
            · refine ⟨ws',g4 (zdd hck),fun c hc=>?_,g1.mono fun c r ⟨v1,v2⟩=>⟨?_,fun hc=>?_,v2⟩⟩
              · obtain⟨q1,_⟩:=g3 c hc
                exact q1.symm
              · by_cases hcw:c∈ws
                · exact .inr hcw
                · exact .inl fun hMc=>v1 (.inl (.inl ⟨hMc,hcw⟩))
              · obtain⟨_,j,n,_,q3⟩:=g3 c hc
                exact v1 (.inr ⟨j,n,q3⟩)
  cases xe with
  | normal=>exact fin st' e2 e3
  | exit id=>exact e2.elim
  | ret=>exact fin st' e2 e3
end
end Go.Eng
set_option linter.all false
namespace Go.Eng
/-! ### Other names for keys -/
def mapP (f:Nat→Nat):List (Nat×Nat)→List (Nat×Nat)
  | []=>[]
  | p::r=>(f p.1,p.2)::mapP f r
def allP (h:Nat→Bool):List (Nat×Nat)→Bool
  | []=>true
  | p::r=>h p.1&&allP h r
def S1.mapK (f:Nat→Nat):S1→S1
  | .p k off=>.p (f k) off
  | .pr k i sz=>.pr (f k) i sz
  | .pq k i sz off=>.pq (f k) i sz off
  | .o k n=>.o (f k) n
  | .fn g fs cs=>.fn g (mapP f fs) (mapP f cs)
  | s=>s
def S1.inK (h:Nat→Bool):S1→Bool
  | .p k _ | .pr k _ _ | .pq k _ _ _ | .o k _=>h k
  | .fn _ fs cs=>allP h fs&&allP h cs
  | _=>true
def mapL (f:Nat→Nat):List S1→List S1
  | []=>[]
  | s::r=>s.mapK f::mapL f r
def allL (h:Nat→Bool):List S1→Bool
  | []=>true
  | s::r=>s.inK h&&allL h r
def SV.mapK (f:Nat→Nat):SV→SV
  | .one s=>.one (s.mapK f)
  | .agg cs=>.agg (mapL f cs)
  | .tup cs=>.tup (mapL f cs)
def SV.inK (h:Nat→Bool):SV→Bool
  | .one s=>s.inK h
  | .agg cs | .tup cs=>allL h cs
def SH:Nat:=10000000
def up (k:Nat):Nat:=k+SH
def Fact.memKey:Fact→Option Nat
  | .cell k _ _ | .row k _ _ _ | .ob k _=>some k
  | _=>none
def zeE (seen:List Nat):St→St
  | []=>[]
  | f::r=>match f with
    | .slot t s=>bif Nat.ble 1000000 t then .slot t (s.mapK up)::zeE seen r else zeE seen r
    | .cell k off s=>bif memN k seen then .cell (up k) off (s.mapK up)::zeE seen r else .cell (up k) off (s.mapK up)::.fix (up k)::zeE (k::seen) r
    | .row k el e xs=>bif memN k seen then .row (up k) el e xs::zeE seen r else .row (up k) el e xs::.fix (up k)::zeE (k::seen) r
    | .ob k i=>bif memN k seen then .ob (up k) i::zeE seen r else .ob (up k) i::.fix (up k)::zeE (k::seen) r
    | .fix k=>zeE seen r
def argF:Nat→List SV→St
  | _,[]=>[]
  | i,s::r=>.slot i (s.mapK up)::argF (i+1) r
def zfu:List (Nat×Nat)→List SV
  | []=>[]
  | p::r=>.one (.p p.1 p.2)::zfu r
def zoy:Nat→St→Nat
  | n,[]=>n
  | n,f::r=>match f.memKey with
    | some k=>zoy (bif Nat.ble n k then k+1 else n) r
    | none=>zoy n r
def zob:St→List Nat
  | []=>[]
  | .fix k::r=>k::zob r
  | _::r=>zob r
def oldK (fks:List Nat) (B K:Nat):Bool:=memN K fks&&(Nat.ble SH K&&Nat.blt (K - SH) B)
def outK (fks:List Nat) (B K:Nat):Nat:=bif oldK fks B K then K - SH else B+K
def ziP (fks:List Nat) (B k:Nat):Bool:=Nat.blt k B&&oldK fks B (k+SH)
def zdc (all:Bool) (fks:List Nat) (B:Nat):St→St
  | []=>[]
  | f::r=>match f with
    | .cell k off s=>bif all || oldK fks B k then .cell (outK fks B k) off (s.mapK (outK fks B))::zdc all fks B r else zdc all fks B r
    | .row k el e xs=>bif all || oldK fks B k then .row (outK fks B k) el e xs::zdc all fks B r else zdc all fks B r
    | .ob k i=>bif all || oldK fks B k then .ob (outK fks B k) i::zdc all fks B r else zdc all fks B r
    | _=>zdc all fks B r
def zbV (d:Nat) (fks:List Nat) (B:Nat):St→St
  | []=>[]
  | f::r=>match f with
    | .slot t s=>bif !Nat.beq t d&&s.inK (ziP fks B) then .slot t s::zbV d fks B r else zbV d fks B r
    | .fix k=>bif ziP fks B k then .fix k::zbV d fks B r else zbV d fks B r
    | _=>zbV d fks B r
structure InlF where
  nt:Nat
  np:Nat
  body:Code
  rs:List ResultVar
  anns:List (St→LoopAnn)
def zpq (g:Nat):List (Nat×InlF)→Option InlF
  | []=>none
  | (f,s)::r=>bif Nat.beq f g then some s else zpq g r
def tgt (st:St) (fo:Operand):Option (Nat×List (Nat×Nat)×List (Nat×Nat)):=
  match eval st fo with
  | some (.one (.fn g fs cs))=>some (g,fs,cs)
  | some (.one (.v (.func (.func g) x y)))=>bif x.size == 0&&y.size == 0 then some (g,[],[]) else none
  | _=>none
def zxE (c:Cfg) (st:St):List ResultVar→Option SV
  | []=>some (.one (.v (.tuple #[])))
  | [r]=>svOf c st r
  | _=>none
def zso (c:Cfg) (I:InlF) (d B:Nat) (st:St) (K:St→Prop) (st':St):Prop:=
  match zxE c st' I.rs with
  | some s=>zck (zob st') fun fks=>zcm (.slot d (s.mapK (outK fks B))::(zbV d fks B st++zdc (!s.inK (fun _=>false)) fks B st')) K
  | none=>False
def zy0 (c:Cfg) (I:InlF) (d:Nat) (st:St) (ss:List SV) (K:St→Prop):Prop:=
  zcR (zoy 1 st) fun B=>zcm (argF 0 ss++zeE [] st) fun st0=>
    vc {c with nt:=I.nt} (par {c with nt:=I.nt}) I.anns I.body 0 st0 fun e st'=>match e with
      | .exit _=>False
      | _=>zso {c with nt:=I.nt} I d B st K st'
def zn4 (c : Cfg) (tbl:List (Nat×InlF)) (nt:Nat) (o:Oper) (st:St):Option ((St→Prop)→Prop):=
  match o.op with
  | .call { callee:=.value fo,args,argTypes:=_}=>match tgt st fo with
    | some (g,fs,cs)=>match zpq g tbl with
      | some I=>match zb5 st args.toList,o.dst with
        | some ss,some d=>bif Nat.blt d nt&&(Nat.beq (fs.length+(ss.length+cs.length)) I.np&&Nat.ble I.np I.nt) then
            some (fun K=>zy0 c I d st (zfu fs++(ss++zfu cs)) K) else none
        | _,_=>none
      | none=>none
    | none=>none
  | _=>none
def zqA (P:Program) (tbl:List (Nat×InlF)):Prop:=∀g I,zpq g tbl=some I→∃fn,P.funcs[g]?=some fn∧fn.body=some I.body∧fn.ntmps=I.nt∧fn.results.toList=I.rs∧
  zcZ I.nt I.body=true∧za6 I.body=true∧I.nt≤1000000∧(fn.name == "runtime.NumGoroutine")=false
/-! ### Soundness -/
section
variable {V V':View} {η η':Eta} {f:Nat→Nat} {h:Nat→Bool}
theorem ziy (hη:∀k,h k=true→η' (f k)=η k):∀ {ps:List (Nat×Nat)} {vs:List Value},allP h ps=true→ptrL η ps vs→ptrL η' (mapP f ps) vs
  | [],[],_,H=>H
  | [],_::_,_,H=>H.elim
  | _::_,[],_,H=>H.elim
  | p::r,v::l,hin,⟨⟨b,c,h1,h2⟩,h3⟩=>by
    simp only[allP,Bool.and_eq_true] at hin
    exact⟨⟨b,c,(hη _ hin.1).trans h1,h2⟩,ziy hη hin.2 h3⟩
theorem zdj (hv:∀b c,V b c→V' b c) (hη:∀k,h k=true→η' (f k)=η k) {s:S1} {v:Value} (hin:s.inK h=true) (H:zaN V η s v):zaN V' η' (s.mapK f) v:=by
  cases s with
  | d t x=>exact RepV.mono hv H
  | dfl e' ys=>exact⟨RepV.mono hv H.1,H.2⟩
  | pw t x=>obtain⟨b,c,h1,h2,h3,h4⟩:=H;exact⟨b,c,h1,hv _ _ h2,h3,Rep.mono hv _ _ _ h4⟩
  | lb b=>exact H
  | v x=>exact H
  | p k off=>
    obtain⟨b,c,h1,h2⟩:=H
    exact⟨b,c,(hη _ hin).trans h1,h2⟩
  | pd t x=>
    obtain⟨ad,c,h1,h2,h3,h4,h5⟩:=H
    exact⟨ad,c,h1,h2,hv _ _ h3,h4,Rep.mono hv _ _ _ h5⟩
  | po off t x=>
    obtain⟨ad,c,h1,h2,h3,h4,h5⟩:=H
    exact⟨ad,c,h1,h2,hv _ _ h3,h4,Rep.mono hv _ _ _ h5⟩
  | pr k i sz=>
    obtain⟨h0,b,c,h1,h2⟩:=H
    exact⟨h0,b,c,(hη _ hin).trans h1,h2⟩
  | pq k i sz off=>
    obtain⟨h0,b,c,h1,h2⟩:=H
    exact⟨h0,b,c,(hη _ hin).trans h1,h2⟩
  | o k n=>
    rcases H with ⟨h1,h2⟩|⟨b,c,h1,h2⟩
    · exact .inl ⟨(hη _ hin).trans h1,h2⟩
    · exact .inr ⟨b,c,(hη _ hin).trans h1,h2⟩
  | u=>exact H
  | fo k r=>exact H
  | fn g fs cs=>
    simp only[S1.inK,Bool.and_eq_true] at hin
    obtain⟨fv,cv,h1,h2,h3⟩:=H
    exact⟨fv,cv,h1,ziy hη hin.1 h2,ziy hη hin.2 h3⟩
theorem ziU (hv:∀b c,V b c→V' b c) (hη:∀k,h k=true→η' (f k)=η k):∀ {cs:List S1} {vs:List Value},allL h cs=true→zaJ V η cs vs→zaJ V' η' (mapL f cs) vs
  | [],[],_,H=>H
  | [],_::_,_,H=>H.elim
  | _::_,[],_,H=>H.elim
  | s::r,v::l,hin,⟨h1,h2,h3⟩=>by
    simp only[allL,Bool.and_eq_true] at hin
    exact⟨zdj hv hη hin.1 h1,h2,ziU hv hη hin.2 h3⟩
theorem ziS (hv:∀b c,V b c→V' b c) (hη:∀k,h k=true→η' (f k)=η k):∀ {cs:List S1} {vs:List Value},allL h cs=true→zdi V η cs vs→zdi V' η' (mapL f cs) vs
  | [],[],_,H=>H
  | [],_::_,_,H=>H.elim
  | _::_,[],_,H=>H.elim
  | s::r,v::l,hin,⟨h1,h3⟩=>by
    simp only[allL,Bool.and_eq_true] at hin
    exact⟨zdj hv hη hin.1 h1,ziS hv hη hin.2 h3⟩
theorem zec (hv:∀b c,V b c→V' b c) (hη:∀k,h k=true→η' (f k)=η k) {s:SV} {v:Value} (hin:s.inK h=true) (H:zao V η s v):zao V' η' (s.mapK f) v:=by
  cases s with
  | one s=>exact zdj hv hη hin H
  | agg cs=>obtain⟨vs,rfl,H⟩:=H;exact⟨vs,rfl,ziU hv hη hin H⟩
  | tup cs=>obtain⟨vs,rfl,H⟩:=H;exact⟨vs,rfl,ziS hv hη hin H⟩
end
theorem zr6:∀l:List (Nat×Nat),mapP (fun k=>k) l=l
  | []=>rfl
  | p::r=>by simp only[mapP,zr6 r]
theorem S1.mapK_id (s:S1):s.mapK (fun k=>k)=s:=by cases s<;>simp only[S1.mapK,zr6]
theorem zr7:∀l:List S1,mapL (fun k=>k) l=l
  | []=>rfl
  | s::r=>by simp only[mapL,zr7 r,S1.mapK_id]
theorem SV.mapK_id (s:SV):s.mapK (fun k=>k)=s:=by cases s<;>simp only[SV.mapK,zr7,S1.mapK_id]
theorem znk:∀l:List (Nat×Nat),allP (fun _=>true) l=true
  | []=>rfl
  | p::r=>by simp only[allP,znk r,Bool.and_self]
theorem S1.inK_true (s:S1):s.inK (fun _=>true)=true:=by cases s<;>simp only[S1.inK,znk,Bool.and_self]
theorem znl:∀l:List S1,allL (fun _=>true) l=true
  | []=>rfl
  | s::r=>by simp only[allL,znl r,S1.inK_true,Bool.and_self]
theorem SV.inK_true (s:SV):s.inK (fun _=>true)=true:=by cases s<;>simp only[SV.inK,znl,S1.inK_true]
theorem ziL {k:Nat}:∀ {st:St},k∈zob st→Fact.fix k∈st
  | [],h=>by cases h
  | f :: r,h=>by
    cases f with
    | fix j=>
      simp only[zob,List.mem_cons] at h
      rcases h with rfl|h
      · exact List.mem_cons_self
      · exact List.mem_cons_of_mem _ (ziL h)
    | _=>exact List.mem_cons_of_mem _ (ziL (by simpa [zob] using h))
theorem zmC {q:Fact}:∀ {st:St} {seen:List Nat},q∈zeE seen st→(∃k,q=.fix (up k))∨(∃t s,1000000≤t∧q=.slot t (s.mapK up)∧Fact.slot t s∈st)∨
    (∃k off s,q=.cell (up k) off (s.mapK up)∧Fact.cell k off s∈st)∨(∃k el e xs,q=.row (up k) el e xs∧Fact.row k el e xs∈st)∨(∃k i,q=.ob (up k) i∧Fact.ob k i∈st)
  | [],_,h=>by cases h
  | f :: r,seen,h=>by
    have lift:∀ {seen},q∈zeE seen r→(∃k,q=.fix (up k))∨(∃t s,1000000≤t∧q=.slot t (s.mapK up)∧Fact.slot t s∈f::r)∨
        (∃k off s,q=.cell (up k) off (s.mapK up)∧Fact.cell k off s∈f::r)∨(∃k el e xs,q=.row (up k) el e xs∧Fact.row k el e xs∈f::r)∨(∃k i,q=.ob (up k) i∧Fact.ob k i∈f::r):=fun h=>by
      rcases zmC h with h|⟨t,s,h0,h1,h2⟩|⟨k,off,s,h1,h2⟩|⟨k,el,e,xs,h1,h2⟩|⟨k,i,h1,h2⟩
      · exact .inl h
      · exact .inr (.inl ⟨t,s,h0,h1,List.mem_cons_of_mem _ h2⟩)
      · exact .inr (.inr (.inl ⟨k,off,s,h1,List.mem_cons_of_mem _ h2⟩))
      · exact .inr (.inr (.inr (.inl ⟨k,el,e,xs,h1,List.mem_cons_of_mem _ h2⟩)))
      · exact .inr (.inr (.inr (.inr ⟨k,i,h1,List.mem_cons_of_mem _ h2⟩)))
    cases f with
    | slot t s=>
      simp only[zeE] at h
      cases hb:Nat.ble 1000000 t with
      | false=>rw[hb] at h;exact lift h
      | true=>
        rw[hb] at h
        simp only[cond_true,List.mem_cons] at h
        rcases h with rfl|h
        · exact .inr (.inl ⟨t,s,Nat.le_of_ble_eq_true hb,rfl,List.mem_cons_self⟩)
        · exact lift h
    | cell k off s=>
      simp only[zeE] at h
      cases hb:memN k seen with
      | true=>
        rw[hb] at h
        simp only[cond_true,List.mem_cons] at h
        rcases h with rfl|h
        · exact .inr (.inr (.inl ⟨k,off,s,rfl,List.mem_cons_self⟩))
        · exact lift h
      | false=>
        rw[hb] at h
        simp only[cond_false,List.mem_cons] at h
        rcases h with rfl|rfl|h
        · exact .inr (.inr (.inl ⟨k,off,s,rfl,List.mem_cons_self⟩))
        · exact .inl ⟨k,rfl⟩
        · exact lift h
    | row k el e xs=>
      simp only[zeE] at h
      cases hb:memN k seen with
      | true=>
        rw[hb] at h
        simp only[cond_true,List.mem_cons] at h
        rcases h with rfl|h
        · exact .inr (.inr (.inr (.inl ⟨k,el,e,xs,rfl,List.mem_cons_self⟩)))
        · exact lift h
      | false=>
        rw[hb] at h
        simp only[cond_false,List.mem_cons] at h
        rcases h with rfl|rfl|h
        · exact .inr (.inr (.inr (.inl ⟨k,el,e,xs,rfl,List.mem_cons_self⟩)))
        · exact .inl ⟨k,rfl⟩
        · exact lift h
    | ob k i=>
      simp only[zeE] at h
      cases hb:memN k seen with
      | true=>
        rw[hb] at h
        simp only[cond_true,List.mem_cons] at h
        rcases h with rfl|h
        · exact .inr (.inr (.inr (.inr ⟨k,i,rfl,List.mem_cons_self⟩)))
        · exact lift h
      | false=>
        rw[hb] at h
        simp only[cond_false,List.mem_cons] at h
        rcases h with rfl|rfl|h
        · exact .inr (.inr (.inr (.inr ⟨k,i,rfl,List.mem_cons_self⟩)))
        · exact .inl ⟨k,rfl⟩
        · exact lift h
    | fix k=>
      simp only[zeE] at h
      exact lift h
theorem zj5 {all:Bool} {fks:List Nat} {B:Nat} {q:Fact}:∀ {st:St},q∈zdc all fks B st→
    (∃k off s,q=.cell (outK fks B k) off (s.mapK (outK fks B))∧Fact.cell k off s∈st)∨(∃k el e xs,q=.row (outK fks B k) el e xs∧Fact.row k el e xs∈st)∨(∃k i,q=.ob (outK fks B k) i∧Fact.ob k i∈st)
  | [],h=>by cases h
  | f :: r,h=>by
    have lift:q∈zdc all fks B r→(∃k off s,q=.cell (outK fks B k) off (s.mapK (outK fks B))∧Fact.cell k off s∈f::r)∨(∃k el e xs,q=.row (outK fks B k) el e xs∧Fact.row k el e xs∈f::r)∨(∃k i,q=.ob (outK fks B k) i∧Fact.ob k i∈f::r):=fun h=>by
      rcases zj5 h with ⟨k,off,s,h1,h2⟩|⟨k,el,e,xs,h1,h2⟩|⟨k,i,h1,h2⟩
      · exact .inl ⟨k,off,s,h1,List.mem_cons_of_mem _ h2⟩
      · exact .inr (.inl ⟨k,el,e,xs,h1,List.mem_cons_of_mem _ h2⟩)
      · exact .inr (.inr ⟨k,i,h1,List.mem_cons_of_mem _ h2⟩)
    cases f with
    | slot t s=>exact lift (by simpa [zdc] using h)
    | fix k=>exact lift (by simpa [zdc] using h)
    | cell k off s=>
      simp only[zdc] at h
      cases hb:(all || oldK fks B k) with
      | false=>rw[hb] at h;exact lift h
      | true=>
        rw[hb] at h
        simp only[cond_true,List.mem_cons] at h
        rcases h with rfl|h
        · exact .inl ⟨k,off,s,rfl,List.mem_cons_self⟩
        · exact lift h
    | row k el e xs=>
      simp only[zdc] at h
      cases hb:(all || oldK fks B k) with
      | false=>rw[hb] at h;exact lift h
      | true=>
        rw[hb] at h
        simp only[cond_true,List.mem_cons] at h
        rcases h with rfl|h
        · exact .inr (.inl ⟨k,el,e,xs,rfl,List.mem_cons_self⟩)
        · exact lift h
    | ob k i=>
      simp only[zdc] at h
      cases hb:(all || oldK fks B k) with
      | false=>rw[hb] at h;exact lift h
      | true=>
        rw[hb] at h
        simp only[cond_true,List.mem_cons] at h
        rcases h with rfl|h
        · exact .inr (.inr ⟨k,i,rfl,List.mem_cons_self⟩)
        · exact lift h
theorem zhs {d:Nat} {fks:List Nat} {B:Nat} {q:Fact}:∀ {st:St},q∈zbV d fks B st→
    (∃t s,q=.slot t s∧t≠d∧s.inK (ziP fks B)=true∧Fact.slot t s∈st)∨(∃k,q=.fix k∧ziP fks B k=true∧Fact.fix k∈st)
  | [],h=>by cases h
  | f :: r,h=>by
    have lift:q∈zbV d fks B r→(∃t s,q=.slot t s∧t≠d∧s.inK (ziP fks B)=true∧Fact.slot t s∈f::r)∨(∃k,q=.fix k∧ziP fks B k=true∧Fact.fix k∈f::r):=fun h=>by
      rcases zhs h with ⟨t,s,h1,h2,h3,h4⟩|⟨k,h1,h2,h3⟩
      · exact .inl ⟨t,s,h1,h2,h3,List.mem_cons_of_mem _ h4⟩
      · exact .inr ⟨k,h1,h2,List.mem_cons_of_mem _ h3⟩
    cases f with
    | slot t s=>
      simp only[zbV] at h
      cases hb:(!Nat.beq t d&&s.inK (ziP fks B)) with
      | false=>rw[hb] at h;exact lift h
      | true=>
        rw[hb] at h
        simp only[cond_true,List.mem_cons] at h
        simp only[Bool.and_eq_true,Bool.not_eq_true'] at hb
        rcases h with rfl|h
        · exact .inl ⟨t,s,rfl,Nat.ne_of_beq_eq_false hb.1,hb.2,List.mem_cons_self⟩
        · exact lift h
    | fix k=>
      simp only[zbV] at h
      cases hb:ziP fks B k with
      | false=>rw[hb] at h;exact lift h
      | true=>
        rw[hb] at h
        simp only[cond_true,List.mem_cons] at h
        rcases h with rfl|h
        · exact .inr ⟨k,rfl,hb,List.mem_cons_self⟩
        · exact lift h
    | cell k off s=>exact lift (by simpa [zbV] using h)
    | row k el e xs=>exact lift (by simpa [zbV] using h)
    | ob k i=>exact lift (by simpa [zbV] using h)
theorem zpO {q:Fact}:∀ {ss:List SV} {i:Nat},q∈argF i ss→∃j s,nth ss j=some s∧q=.slot (i+j) (s.mapK up)
  | [],i,h=>by cases h
  | s :: r,i,h=>by
    simp only[argF,List.mem_cons] at h
    rcases h with rfl|h
    · exact⟨0,s,rfl,rfl⟩
    · obtain⟨j,u,h1,h2⟩:=zpO h
      exact⟨j+1,u,h1,by rw[h2,Nat.add_assoc,Nat.add_comm 1 j]⟩
theorem zka {V:View} {η:Eta}:∀ {ss:List SV} {vs:List Value} {j:Nat} {s:SV},zdO V η ss vs→nth ss j=some s→∃v,vs[j]?=some v∧zao V η s v
  | [],_,_,_,_,h=>by simp[nth] at h
  | _::_,[],_,_,H,_=>H.elim
  | s::r,v::l,0,u,⟨h1,_⟩,h=>by
    simp only[nth,Option.some.injEq] at h
    subst h
    exact⟨v,rfl,h1⟩
  | s::r,v::l,j+1,u,⟨_,h2⟩,h=>by
    obtain⟨w,h3,h4⟩:=zka h2 (show nth r j=some u from h)
    exact⟨w,by simpa using h3,h4⟩
theorem zgk {V:View} {η:Eta}:∀ {ss:List SV} {vs:List Value},zdO V η ss vs→ss.length=vs.length
  | [],[],_=>rfl
  | [],_::_,H=>H.elim
  | _::_,[],H=>H.elim
  | s::r,v::l,⟨_,h2⟩=>by simp[zgk h2]
theorem ptrs_holds {V:View} {η:Eta}:∀ {ps:List (Nat×Nat)} {vs:List Value},ptrL η ps vs→zdO V η (zfu ps) vs
  | [],[],_=>trivial
  | [],_::_,H=>H.elim
  | _::_,[],H=>H.elim
  | p::r,v::l,⟨h1,h2⟩=>⟨h1,ptrs_holds h2⟩
theorem zga:∀ps:List (Nat×Nat),(zfu ps).length=ps.length
  | []=>rfl
  | p::r=>by simp[zfu,zga r]
theorem zqK {E:Env} {η:Eta} {st:St} {a:Act} {w:World} (H:∀f∈st,Fact.holds E η a w f) {fo:Operand} {g:Nat} {fs cs:List (Nat×Nat)} (h:tgt st fo=some (g,fs,cs)) :
    ∃fv cv:List Value,a.eval fo=.func (.func g) fv.toArray cv.toArray∧ptrL η fs fv∧ptrL η cs cv:=by
  unfold tgt at h
  split at h
  · rename_i g' fs' cs' he
    simp only[Option.some.injEq,Prod.mk.injEq] at h
    obtain⟨rfl,rfl,rfl⟩:=h
    exact zaf H he
  · rename_i g' x y he
    cases hb:(x.size == 0&&y.size == 0) with
    | false=>rw[hb] at h;simp at h
    | true=>
      rw[hb] at h
      simp only[cond_true,Option.some.injEq,Prod.mk.injEq] at h
      obtain⟨rfl,rfl,rfl⟩:=h
      simp only[Bool.and_eq_true,beq_iff_eq] at hb
      have e:a.eval fo=.func (.func g') x y:=zaf H he
      have hx:x=([]:List Value).toArray:=by simpa using hb.1
      have hy:y=([]:List Value).toArray:=by simpa using hb.2
      exact⟨[],[],by rw[e,hx,hy],trivial,trivial⟩
  · cases h
theorem zo8 {fks:List Nat} {B K:Nat}:oldK fks B K=true↔K∈fks∧SH≤K∧K - SH<B:=by
  simp only[oldK,Bool.and_eq_true,zaw]
  constructor
  · rintro⟨h1,h2,h3⟩;exact⟨h1,Nat.le_of_ble_eq_true h2,zpL h3⟩
  · rintro⟨h1,h2,h3⟩;exact⟨h1,Nat.ble_eq_true_of_le h2,zhc h3⟩
theorem ztW {fks:List Nat} {B K:Nat} (h:oldK fks B K=true):outK fks B K=K - SH:=by unfold outK;rw[h,cond_true]
theorem ztX {fks:List Nat} {B K:Nat} (h:oldK fks B K=false):outK fks B K=B+K:=by unfold outK;rw[h,cond_false]
theorem zwg {fks:List Nat} {B:Nat} {ηn η2:Eta} (hnd:∀k,ηn k=bif Nat.blt k B then (bif oldK fks B (k+SH) then η2 (k+SH) else none) else (bif oldK fks B (k - B) then none else η2 (k - B))) (K:Nat):ηn (outK fks B K)=η2 K:=by
  by_cases ho:oldK fks B K=true
  · obtain⟨h1,h2,h3⟩:=zo8.1 ho
    rw[ztW ho,hnd,zhc h3,cond_true]
    have e:K - SH+SH=K:=Nat.sub_add_cancel h2
    rw[e,ho,cond_true]
  · have ho:oldK fks B K=false:=by cases h:oldK fks B K<;>simp_all
    rw[ztX ho,hnd,zs9 (Nat.le_add_right _ _),cond_false]
    have e:B+K - B=K:=Nat.add_sub_cancel_left ..
    rw[e,ho,cond_false]
theorem zsn {P:Program} {OB:Nat→Obj→Prop} {c:Cfg} (hC:∀nt,CfgOk P OB {c with nt:=nt}) (hm:P.follows .mixedOrders=true) {tbl:List (Nat×InlF)} (hT:zqA P tbl) (nt:Nat):zvA P OB nt (zn4 c tbl nt):=by
  intro E hP hOB o st F a w K K' Q ro q hh hF hR hK
  subst hP hOB
  unfold zn4 at hh
  split at hh
  case h_2=>cases hh
  case h_1 fo args ats ho=>
  split at hh
  case h_2=>cases hh
  case h_1 g fs cs htg=>
  split at hh
  case h_2=>cases hh
  case h_1 I hI=>
  split at hh
  case h_2=>cases hh
  case h_1 ss d hss hd=>
  cases hb:(Nat.blt d nt&&(Nat.beq (fs.length+(ss.length+cs.length)) I.np&&Nat.ble I.np I.nt)) with
  | false=>rw[hb] at hh;simp at hh
  | true=>
  rw[hb] at hh
  simp only[cond_true,Option.some.injEq] at hh
  subst hh
  simp only[Bool.and_eq_true] at hb
  have hdn:=zpL hb.1
  have hnp:=Nat.eq_of_beq_eq_true hb.2.1
  have hnt:=Nat.le_of_ble_eq_true hb.2.2
  obtain⟨fn,hf,hbody,hfnt,hrs,hdo,hnr,hlim,hname⟩:=hT g I hI
  obtain⟨η,gd,H⟩:=hR
  obtain⟨fv,cv,hfo,hfv,hcv⟩:=zqK H htg
  have hA:zdO (vw E η w) η (zfu fs++(ss++zfu cs)) (fv++(args.toList.map a.eval++cv)):=zfh (ptrs_holds hfv) (zfh (zcv H hss) (ptrs_holds hcv))
  obtain⟨vals,hvals⟩:∃vals,vals=fv++(args.toList.map a.eval++cv):=⟨_,rfl⟩
  obtain⟨SS,hSS⟩:∃SS,SS=zfu fs++(ss++zfu cs):=⟨_,rfl⟩
  rw[←hvals,←hSS] at hA
  have hlen:vals.length=I.np:=by
    rw[←zgk hA,hSS];simp[zga];omega
  have hrun:(execOp a.eval o).run E.P w=.ok (.enter g vals.toArray) w:=by
    have e2':¬fn.name = "runtime.NumGoroutine" := by simpa using hname
    have e3':¬fn.body=none:=by rw[hbody];intro h;cases h
    have e:vals.toArray=fv.toArray++args.map a.eval++cv.toArray:=by
      rw[hvals];apply Array.ext';simp
    rw[e]
    simp[execOp,ho,resolve,Deferred.ofValue,hfo,invoke,callFunc,hf,e2',e3']
  have hgrow:=gd.grow
  refine zau (by intro d h;rw[ho] at h;cases h) hrun ⟨fun h=>(by cases h),zha (R:=fun e w'=>∃v,e=.returned v∧K' (a.put o.dst v) w') ?_ |>.mono fun e w' ⟨v,h1,h2⟩=>by subst h1;exact h2⟩
  simp only[zy0,zbR,zbu] at hF
  obtain⟨B,hB⟩:∃B,B=zoy 1 st:=⟨_,rfl⟩
  rw[←hB,←hSS] at hF
  obtain⟨η',hdef⟩:∃η':Eta,∀K,η' K=bif Nat.ble SH K then η (K - SH) else none:=⟨fun K=>bif Nat.ble SH K then η (K - SH) else none,fun _=>rfl⟩
  let E':Env:={P:=E.P,M:=fun b=>E.Mp b,mu:=fun b=>E.mu b∧∃k n,η k=some (b,n),w0:=w,OB:=E.OB,x:={mw:=fun b=>E.low b∧∃k n,η k=some (b,n),eta0:=η',nd:=true}}
  have hup:∀k,η' (up k)=η k:=fun k=>by
    rw[hdef,up,Nat.ble_eq_true_of_le (Nat.le_add_left _ _),Nat.add_sub_cancel,cond_true]
  have hη':∀K b n,η' K=some (b,n)→SH≤K∧η (K - SH)=some (b,n):=fun K b n h=>by
    rw[hdef] at h
    cases hb:Nat.ble SH K with
    | false=>rw[hb] at h;cases h
    | true=>rw[hb] at h;exact⟨Nat.le_of_ble_eq_true hb,h⟩
  have hmu:∀b,E.mu b→b<w.heap.size:=fun b h=>by
    have:=gd.dis b h
    have:¬E.w0.heap.size≤b:=fun h=>this (.inl h)
    omega
  have hlow:∀b,E'.low b→E.low b:=fun b h=>h.elim (fun h=>.inl (Nat.le_trans hgrow h)) (fun h=>h.1)
  have hMp:∀b,E.Mp b→b<w.heap.size∧∀k n,η k=some (b,n)→¬E.low b:=fun b h=>by
    rcases h with h|⟨o,h⟩
    · have h1:=gd.old b h
      have:¬E.w0.heap.size≤b:=fun h=>h1 (.inl h)
      exact⟨by omega,fun _ _ _=>h1⟩
    · obtain⟨_,h2,h3⟩:=gd.defers.2 _ h
      exact⟨zag h2,fun k n hk=>absurd hk (h3 k n)⟩
  obtain⟨a',ha'⟩:∃a':Act,a' = {tmps:=vals.toArray++Array.replicate (fn.ntmps - vals.toArray.size) undef,defers:=[]}:=⟨_,rfl⟩
  have hsz:a'.tmps.size=I.nt:=by rw[ha',hfnt];simp;omega
  have hget:∀(j:Nat) v,vals[j]?=some v→a'.tmps.getD j undef=v:=fun j v h=>by
    have hl:=(List.getElem?_eq_some_iff.1 h).1
    rw[ha']
    simp only[Array.getD_eq_getD_getElem?]
    rw[Array.getElem?_append_left (by simpa using hl)]
    simp[h]
  have hview:∀b c,vw E η w b c→vw E' η' w b c:=fun b c ⟨h1,h2,h3⟩=>⟨fun h=>h.elim h1 (fun⟨_,h⟩=>by cases h),fun K n hK=>h2 _ _ (hη' K b n hK).2,h3⟩
  have hR' : RelS E' I.nt (argF 0 SS++zeE [] st) a' w:=by
    refine ⟨η',{
      size:=hsz,lim:=hlim,defers:=⟨⟨[],by rw[ha'];rfl,List.nodup_nil,fun _ h=>(by cases h)⟩,fun _ h=>(by cases h)⟩,os:=rfl,tape:=rfl,output:=rfl,grow:=Nat.le_refl _,keep:=fun _ _ _ _=>rfl,
      own:=fun K b n hK=>?_,dis:=fun b hb h=>?_,inj:=fun K L b n n' hK hL=>?_,old:=fun b hb h=>?_,obkeep:=fun b i o _ _ h1 h2=>⟨o,h1,h2⟩,nd:=fun _=>(by rw[ha'])},fun f hf=>?_⟩
    · obtain⟨_,hk⟩:=hη' K b n hK
      obtain⟨h1,h2⟩:=gd.own _ b n hk
      exact⟨h1,h2.imp (fun h=>.inr ⟨h,_,_,hk⟩) (fun h=>⟨h,_,_,hk⟩)⟩
    · exact gd.dis b hb.1 (hlow b h)
    · obtain⟨h1,h2⟩:=hη' K b n hK
      obtain⟨h3,h4⟩:=hη' L b n' hL
      have:=gd.inj _ _ b n n' h2 h4
      omega
    · obtain ⟨h1,h2⟩:=hMp b hb
      rcases h with h|⟨h3,k,n,h4⟩
      · have h:w.heap.size≤b:=h
        omega
      · exact h2 k n h4 h3
    · rcases List.mem_append.1 hf with hf|hf
      · obtain⟨j,s,h1,rfl⟩:=zpO hf
        obtain⟨v,h2,h3⟩:=zka hA h1
        simp only[Fact.holds,Nat.zero_add]
        have hj:j<I.nt:=by have:=(List.getElem?_eq_some_iff.1 h2).1;omega
        rw[zbl (by omega),hget j v h2]
        exact zec (h:=fun _=>true) hview (fun k _=>hup k) (SV.inK_true s) h3
      · rcases zmC hf with ⟨k,rfl⟩|⟨t,s,h0,rfl,h2⟩|⟨k,off,s,rfl,h2⟩|⟨k,el,e,xs,rfl,h2⟩|⟨k,i,rfl,h2⟩
        · exact (Eq.refl (η' (up k)))
        · have h:=H _ h2
          simp only[Fact.holds] at h ⊢
          have e:sval a' t=sval a t:=by unfold sval;rw[zs9 h0];rfl
          rw[e]
          exact zec (h:=fun _=>true) hview (fun k _=>hup k) (SV.inK_true s) h
        · obtain⟨b,n,cur,el,v,h3,h4,h5,h6,h7,h8⟩:=H _ h2
          exact⟨b,n,cur,el,v,.inr ⟨h3,k,n,h4⟩,(hup k).trans h4,h5,h6,h7,zdj (h:=fun _=>true) hview (fun k _=>hup k) (S1.inK_true s) h8⟩
        · rcases H _ h2 with ⟨h3,h4⟩|⟨b,n,cur,h3,h4,h5,h6⟩
          · exact .inl ⟨(hup k).trans h3,h4⟩
          · exact .inr ⟨b,n,cur,.inr ⟨h3,k,n,h4⟩,(hup k).trans h4,h5,h6.mono hview⟩
        · obtain⟨b,n,o,h3,h4,h5⟩:=H _ h2
          exact⟨b,n,o,(hup k).trans h3,h4,h5⟩
  have hC':=hC I.nt
  refine callsIn_wide.1 (callsIn_of_wp (F:=Fence.wide) (n:=0) hf hbody trivial ?_)
  rw[←ha']
  refine wpIn_mono (zbe hC' (zb3 hm hC') I.body 0 _ _ a' w E' none rfl rfl (.inr hnr) hdo hF hR') fun e a2 w2 ⟨⟨xe,st',e1,e2,η2,g2,H2⟩,_⟩=>?_
  subst e1
  have fin : zso {c with nt:=I.nt} I d B st K st'→a2.defers=[]∧∃v,(results fn a2.tmps).run E.P w2=.ok v w2∧∃v',Ending.returned v=.returned v'∧K' (a.put o.dst v') w2:=by
    intro e2
    unfold zso at e2
    split at e2
    case h_2=>exact e2.elim
    case h_1 s hs=>
    simp only[zcu,zbu] at e2
    obtain⟨fks,hfks⟩:∃fks,fks=zob st':=⟨_,rfl⟩
    rw[←hfks] at e2
    obtain ⟨v,hv,hsv⟩:∃v,(results fn a2.tmps).run E.P w2=.ok v w2∧zao (vw E' η2 w2) η2 s v:=by
      unfold zxE at hs
      split at hs
      · rename_i hr
        simp only[Option.some.injEq] at hs
        subst hs
        exact⟨.tuple #[],zb8 (vs:=[]) (by rw[hrs,hr];rfl),rfl⟩
      · rename_i r hr
        obtain⟨v,k1,k2⟩:=zc4 (E:=E') hC'.tbl H2 hs
        have k1:(zft a2.tmps r).run E.P w2=.ok v w2:=k1
        exact⟨v,zb8 (vs:=[v]) (by rw[hrs,hr];simp[List.mapM_cons,k1]),k2⟩
      · cases hs
    refine⟨g2.nd rfl,v,hv,v,rfl,?_⟩
    rw[hd]
    refine hK _ _ _ e2 ?_
    obtain⟨ηn,hnd⟩:∃ηn:Eta,∀k,ηn k=bif Nat.blt k B then (bif oldK fks B (k+SH) then η2 (k+SH) else none) else (bif oldK fks B (k - B) then none else η2 (k - B)):=⟨_,fun _=>rfl⟩
    have hout:∀K,ηn (outK fks B K)=η2 K:=zwg hnd
    have hηn:∀k b n,ηn k=some (b,n)→(k<B∧oldK fks B (k+SH)=true∧η2 (k+SH)=some (b,n))∨(B≤k∧oldK fks B (k - B)=false∧η2 (k - B)=some (b,n)):=fun k b n h=>by
      rw[hnd] at h
      cases hb:Nat.blt k B with
      | true=>
        rw[hb] at h
        simp only[cond_true] at h
        cases ho:oldK fks B (k+SH) with
        | true=>rw[ho] at h;exact .inl ⟨zpL hb,rfl,h⟩
        | false=>rw[ho] at h;cases h
      | false=>
        rw[hb] at h
        simp only[cond_false] at h
        have hle:B≤k:=Nat.le_of_not_lt fun h=>by rw[zhc h] at hb;cases hb
        cases ho:oldK fks B (k - B) with
        | true=>rw[ho] at h;cases h
        | false=>rw[ho] at h;exact .inr ⟨hle,rfl,h⟩
    have hη2:∀k b n,ηn k=some (b,n)→∃K,η2 K=some (b,n):=fun k b n h=>(hηn k b n h).elim (fun h=>⟨_,h.2.2⟩) (fun h=>⟨_,h.2.2⟩)
    have hold:∀b n K,b<w.heap.size→η2 K=some (b,n)→∃k n',η k=some (b,n'):=fun b n K hb h=>by
      obtain⟨_,h⟩:=g2.own K b n h
      rcases h with (h|⟨_,h⟩)|⟨_,h⟩
      · have h:w.heap.size≤b:=h
        omega
      · exact h
      · exact h
    have hfree:∀b,b<w.heap.size→(∀k n,η k≠some (b,n))→∀k n,ηn k≠some (b,n):=fun b hb h k n hk=>by
      obtain⟨K,hK⟩:=hη2 k b n hk
      obtain⟨k',n',h'⟩:=hold b n K hb hK
      exact h k' n' h'
    have hstay:∀b,b<w.heap.size→(∀k n,η k≠some (b,n))→w2.heap[b]?=w.heap[b]?:=fun b hb h=>g2.keep b hb (fun hm=>by obtain⟨_,k,n,hk⟩:=hm;exact h k n hk) (fun hm=>by obtain⟨_,k,n,hk⟩:=hm;exact h k n hk)
    have hvo:∀b c,vw E η w b c→vw E ηn w2 b c:=fun b c ⟨h1,h2,el,f,h3⟩=>⟨h1,hfree b (zag h3) h2,el,f,(hstay b (zag h3) h2).trans h3⟩
    have hvn:∀b c,vw E' η2 w2 b c→vw E ηn w2 b c:=fun b c ⟨h1,h2,h3⟩=>⟨fun h=>h1 (.inl h),fun k n hk=>by obtain⟨K,hK⟩:=hη2 k b n hk;exact h2 K n hK,h3⟩
    have hkept:∀k,ziP fks B k=true→ηn k=η k:=fun k h=>by
      simp only[ziP,Bool.and_eq_true] at h
      have hfx:=(zo8.1 h.2).1
      have hmem:Fact.fix (k+SH)∈st':=ziL (by rw[←hfks];exact hfx)
      have hfx:η2 (k+SH)=η' (k+SH):=H2 _ hmem
      rw[hnd,h.1,h.2,cond_true,cond_true]
      exact hfx.trans (hup k)
    have hdsz:d<a.tmps.size:=by rw[gd.size];exact hdn
    have hlimd:d<1000000:=Nat.lt_of_lt_of_le hdn gd.lim
    refine ⟨ηn,{
      size:=by rw[←gd.size];simp[Act.put]
      lim:=gd.lim
      defers:=?_
      os:=g2.os.trans gd.os
      tape:=g2.tape.trans gd.tape
      output:=g2.output.trans gd.output
      grow:=Nat.le_trans gd.grow g2.grow
      keep:=fun b hb h1 h2=>(g2.keep b (Nat.lt_of_lt_of_le hb gd.grow) (fun h=>h1 h.1) (fun h=>h.1.elim (fun h=>absurd hb (Nat.not_lt_of_le h)) h2)).trans (gd.keep b hb h1 h2)
      own:=fun k b n h=>?_
      dis:=gd.dis
      inj:=fun k k' b n n' h h'=>?_
      old:=gd.old
      obkeep:=fun b i o hb h1 h2 h3=>?_
      nd:=gd.nd},fun f hf=>?_⟩
    · obtain ⟨⟨ms,h1,h2,h3⟩,h4⟩:=gd.defers
      exact ⟨⟨ms,h1,h2,fun D hD=>by
        obtain⟨k1,k2,k3⟩:=h3 D hD
        exact⟨k1,(hstay D (zag k2) k3).trans k2,hfree D (zag k2) k3⟩⟩,fun p hp=>by
        obtain⟨k1,k2,k3⟩:=h4 p hp
        exact⟨k1,(hstay _ (zag k2) k3).trans k2,hfree _ (zag k2) k3⟩⟩
    · obtain⟨K,hK⟩:=hη2 k b n h
      obtain⟨h1,h2⟩:=g2.own K b n hK
      exact⟨h1,h2.imp (hlow b) (fun h=>h.1)⟩
    · rcases hηn k b n h with ⟨h1,h2,h3⟩|⟨h1,h2,h3⟩<;>rcases hηn k' b n' h' with ⟨k1,k2,k3⟩|⟨k1,k2,k3⟩
      · have:=g2.inj _ _ b n n' h3 k3;omega
      · have:=g2.inj _ _ b n n' h3 k3
        rw[this,k2] at h2;cases h2
      · have:=g2.inj _ _ b n n' h3 k3
        rw[←this,h2] at k2;cases k2
      · have:=g2.inj _ _ b n n' h3 k3;omega
    · obtain⟨o',h4,h5⟩:=gd.obkeep b i o hb h1 h2 h3
      by_cases hk:∃k n,η k=some (b,n)
      · exact g2.obkeep b i o' (zag h4) ⟨h1,hk⟩ h4 h5
      · exact⟨o',(hstay b (zag h4) fun k n h=>hk ⟨k,n,h⟩).trans h4,h5⟩
    · rcases List.mem_cons.1 hf with rfl|hf
      · simp only[Fact.holds]
        rw[zbC hdsz hlimd]
        exact zec (h:=fun _=>true) hvn (fun k _=>hout k) (SV.inK_true s) hsv
      rcases List.mem_append.1 hf with hf|hf
      · rcases zhs hf with ⟨t,s,rfl,h1,h2,h3⟩|⟨k,rfl,h1,h2⟩
        · have h:=H _ h3
          simp only[Fact.holds] at h ⊢
          have e:sval (a.put (some d) v) t=sval a t:=ze8 (zaa h1)
          rw[e,←SV.mapK_id s]
          exact zec (f:=fun k=>k) (h:=ziP fks B) hvo (fun k hk=>hkept k hk) h2 h
        · exact (hkept k h1).trans (H _ h2)
      · rcases zj5 hf with ⟨k,off,s,rfl,h2⟩|⟨k,el,e,xs,rfl,h2⟩|⟨k,i,rfl,h2⟩
        · obtain⟨b,n,cur,el,v,h3,h4,h5,h6,h7,h8⟩:=H2 _ h2
          exact⟨b,n,cur,el,v,hlow b h3,(hout k).trans h4,h5,h6,h7,zdj (h:=fun _=>true) hvn (fun k _=>hout k) (S1.inK_true s) h8⟩
        · rcases H2 _ h2 with ⟨h3,h4⟩|⟨b,n,cur,h3,h4,h5,h6⟩
          · exact .inl ⟨(hout k).trans h3,h4⟩
          · exact .inr ⟨b,n,cur,hlow b h3,(hout k).trans h4,h5,h6.mono hvn⟩
        · obtain⟨b,n,o,h3,h4,h5⟩:=H2 _ h2
          exact⟨b,n,o,(hout k).trans h3,h4,h5⟩
  cases xe with
  | normal=>exact fin e2
  | exit id=>exact e2.elim
  | ret=>exact fin e2
def Cfg.withInl (c:Cfg) (tbl:List (Nat×InlF)):Cfg:={c with hk:=zn4 c tbl}
theorem zgG {P:Program} {OB:Nat→Obj→Prop} {c:Cfg} (hC:∀nt,CfgOk P OB {c with nt:=nt}) (hm:P.follows .mixedOrders=true) {tbl:List (Nat×InlF)} (hT:zqA P tbl) (nt:Nat):CfgOk P OB {c.withInl tbl with nt:=nt} where
  tbl:=(hC nt).tbl
  eqs:=(hC nt).eqs
  ctr:=(hC nt).ctr
  ext:=(hC nt).ext
  extb:=(hC nt).extb
  obs:=(hC nt).obs
  its:=(hC nt).its
  ios:=(hC nt).ios
  vas:=(hC nt).vas
  hk:=fun n=>zsn hC hm hT n
end Go.Eng
namespace Go.Eng
set_option linter.all false
mutual
def brOf (tt:TT):Nat→Nat→Option Ty
  | 0,_=>none
  | n + 1, t=>match tt.get t with
    | some i=>match i.kind with
      | .int .i64=>some (.int .i64)
      | .bool=>some .bool
      | .str=>some .str
      | .slice e=>match tt.get e with
        | some ei=>bif Nat.ble 1 ei.size then (match brOf tt n e with
          | some a=>bif Nat.beq a.size ei.size then some (.sl a) else none
          | none=>none) else none
        | none=>none
      | .struct fs=>zhb tt n fs
      | .flt k=>some (.flt k)
      | .array k e=>match tt.get e with
        | some ei=>match brOf tt n e with
          | some a=>bif Nat.beq a.size ei.size then some (zbs (List.replicate k a)) else none
          | none=>none
        | none=>none
      | _=>none
    | none=>none
def zhb (tt:TT):Nat→List (Nat×Nat)→Option Ty
  | 0,_=>none
  | _,[]=>some .nil
  | n + 1,f::r=>match brOf tt n f.1 with
    | some a=>match zhb tt n r with
      | some b=>match tt.get f.1 with
        | some i=>bif Nat.beq a.size i.size then some (.cons a b) else none
        | none=>none
      | none=>none
    | none=>none
end
def Ty.fits:(t:Ty)→t.Den→Prop
  | .int _,(x:Int)=>-9223372036854775808≤x∧x≤9223372036854775807
  | .sl e,(xs:List e.Den)=>∀x∈xs,e.fits x
  | .cons a b,x=>a.fits x.1∧b.fits x.2
  | _,_=>True
abbrev ztv (w:World):View:=fun b c=>∃el f,w.heap[b]?=some (.cells c el f)
section
variable {H:Type} {enc:TypeId×Value→H} {P:Program} {w:World} {base:Nat} {spare:Nat→Bool} {held:Bool}
theorem zks {a:Addr} {n:Nat} (hn:1≤n) {cs:List Value} (h:w.cells? base a n=some cs) :
    a.spot=none∧cs.length=n∧∃c el f,w.heap[a.block]?=some (.cells c el f)∧a.off+n≤c.size∧cs=(c.toList.drop a.off).take n:=by
  unfold World.cells? at h
  split at h
  case isFalse=>cases h
  case isTrue=>
    have hlen:=mapM_some_length h
    simp only[List.length_range] at hlen
    have each:∀i,i<n→w.cell? (a.add i)=cs[i]?:=fun i hi=>mapM_some_get h i i (by simp[hi])
    have h0:=each 0 (by omega)
    have e0:a.add 0=a:=by simp[Addr.add]
    rw[e0,List.getElem?_eq_getElem (by omega)] at h0
    unfold World.cell? at h0
    split at h0
    case h_2=>cases h0
    case h_1 c el f hb=>
      have hsp:a.spot=none:=by
        cases hs:a.spot with
        | none=>rfl
        | some s=>rw[hs] at h0;simp at h0
      have hc:∀i,i<n→c[a.off+i]?=cs[i]?:=by
        intro i hi
        have:=each i hi
        obtain⟨b,off,sp⟩:=a
        simp only at hsp hb
        subst hsp
        rw[zaT,zbz hb] at this
        exact this
      have hsz:a.off+n≤c.size:=by
        have:=hc (n - 1) (by omega)
        rw[List.getElem?_eq_getElem (by omega)] at this
        have:=(Array.getElem?_eq_some_iff.1 this).1
        omega
      refine⟨hsp,hlen,c,el,f,hb,hsz,?_⟩
      apply List.ext_getElem?
      intro i
      by_cases hi:i<n
      · rw[List.getElem?_take,if_pos hi,List.getElem?_drop,←hc i hi,Array.getElem?_toList]
      · rw[List.getElem?_eq_none (by omega),List.getElem?_eq_none (by simp;omega)]
theorem zdU {tt:TT} (hT:TblOk P tt) {t:Nat} {i:TInfo} (h:tt.get t=some i):P.cellsOf t=i.size:=by
  obtain⟨ti,h1,h2,_⟩:=(hT.rows t i h).info
  simp[Program.cellsOf,h1,h2]
theorem zku {tt:TT}:∀(n:Nat) (fs:List (Nat×Nat)) (ty:Ty) (off m:Nat),zhb tt n fs=some ty→zbv tt off fs m=true→off+ty.size=m∧ty.agg=true
  | 0,fs,ty,off,m,h,_=>by simp[zhb] at h
  | n+1,[],ty,off,m,h,hf=>by
    simp only[zhb,Option.some.injEq] at h
    subst h
    simp only[zbv] at hf
    exact⟨Nat.eq_of_beq_eq_true hf,rfl⟩
  | n + 1, f :: r,ty,off,m,h,hf=>by
    simp only[zhb] at h
    cases ha:brOf tt n f.1 with
    | none=>rw[ha] at h;cases h
    | some a =>
      rw[ha] at h
      simp only at h
      cases hb:zhb tt n r with
      | none=>rw[hb] at h;cases h
      | some b=>
        rw[hb] at h
        simp only at h
        cases hg:tt.get f.1 with
        | none=>rw[hg] at h;cases h
        | some i=>
          rw[hg] at h
          simp only at h
          cases hz:Nat.beq a.size i.size with
          | false=>rw[hz] at h;simp at h
          | true=>
            rw[hz] at h
            simp only[cond_true,Option.some.injEq] at h
            subst h
            have hz':=Nat.eq_of_beq_eq_true hz
            simp only[zbv,hg,Bool.and_eq_true] at hf
            have:=(zku n r b _ m hb hf.2).1
            exact⟨by simp only[Ty.size];omega,rfl⟩
theorem ziO {α:Type} {p:Nat→α→Prop}:∀n:Nat,(∀i,i<n→∃x,p i x)→∃xs:List α,xs.length=n∧∀i x,xs[i]?=some x→p i x
  | 0,_=>⟨[],rfl,fun i x h=>by simp at h⟩
  | n + 1,h=>by
    obtain⟨xs,h1,h2⟩:=ziO n (fun i hi=>h i (by omega))
    obtain⟨x,hx⟩:=h n (by omega)
    refine⟨xs++[x],by simp[h1],fun i y hy=>?_⟩
    by_cases hi:i<n
    · rw[List.getElem?_append_left (by omega)] at hy;exact h2 i y hy
    · rw [List.getElem?_append_right (by omega)] at hy
      have:i - xs.length=0:=by
        have:=(List.getElem?_eq_some_iff.1 hy).1
        simp at this;omega
      rw[this] at hy
      simp at hy
      subst hy
      have:i=n:=by omega
      subst this
      exact hx
theorem zqq (a:Ty):∀n,(zbs (List.replicate n a)).agg=true
  | 0=>rfl
  | _+1=>rfl
theorem ztz {t:TypeId} {fuel:Nat} {cs:List Value} {x:DataW H×List MemPlace} {k:FloatKind} (ht:P.underlying t=some (.float k)) (h:DataW.trod enc P w base spare held fuel t cs=some x):∃n,cs=[.float k n]:=by
  cases fuel with
  | zero=>simp[DataW.trod] at h
  | succ n=>
    unfold DataW.trod at h
    rw[ht] at h
    split at h<;>simp_all
theorem zty {tt : TT} (hT : TblOk P tt):∀(fuel m t:Nat) (ty:Ty) (cs:List Value) (z:DataW H×List MemPlace),brOf tt m t=some ty→DataW.trod enc P w base spare held fuel t cs=some z→
    ∃x:ty.Den,Rep (ztv w) ty x cs∧ty.fits x:=by
  intro fuel
  induction fuel using Nat.strongRecOn with
  | _ fuel ih =>
    intro m t ty cs z hb hz
    cases m with
    | zero=>simp[brOf] at hb
    | succ m =>
      simp only[brOf] at hb
      cases hg:tt.get t with
      | none=>rw[hg] at hb;cases hb
      | some i =>
        rw[hg] at hb
        have hI:=hT.rows t i hg
        have hd:=hI.desc
        simp only at hb
        cases hk:i.kind with
        | int k=>
          rw[hk] at hb hd
          simp only at hd
          cases k<;>simp only[Option.some.injEq] at hb<;>first|(cases hb;done)|subst hb
          obtain⟨n,rfl,_,hw⟩:=DataW.trod_int hd hz
          refine⟨n,rfl,?_⟩
          simp only[Lit.wf,Bool.and_eq_true,decide_eq_true_eq] at hw
          exact hw
        | bool=>
          rw[hk] at hb hd
          simp only[Option.some.injEq] at hb hd
          subst hb
          obtain⟨b,rfl,_⟩:=DataW.trod_bool hd hz
          exact⟨b,rfl,trivial⟩
        | str=>
          rw[hk] at hb hd
          simp only[Option.some.injEq] at hb hd
          subst hb
          obtain⟨s,rfl,_⟩:=DataW.trod_string hd hz
          exact⟨s,rfl,trivial⟩
        | flt k=>
          rw[hk] at hb hd
          simp only[Option.some.injEq] at hb hd
          subst hb
          obtain⟨b,rfl⟩:=ztz hd hz
          exact⟨b,rfl,trivial⟩
        | cpx k=>rw[hk] at hb;cases hb
        | array len e=>
          rw[hk] at hb hd
          simp only at hb hd
          cases hge:tt.get e with
          | none=>rw[hge] at hb;cases hb
          | some ei =>
            rw[hge] at hb
            simp only at hb
            cases ha:brOf tt m e with
            | none=>rw[ha] at hb;cases hb
            | some a =>
              rw[ha] at hb
              simp only at hb
              cases h2:Nat.beq a.size ei.size with
              | false=>rw[h2] at hb;simp at hb
              | true =>
                rw[h2] at hb
                simp only[cond_true,Option.some.injEq] at hb
                subst hb
                have h2:=Nat.eq_of_beq_eq_true h2
                obtain⟨xs,n,hf,_,hl,hxl,each⟩:=DataW.trod_array hd hz
                have hc:=zdU hT hge
                have hci:=zdU hT hg
                have hrow:=hT.row hg
                simp only[zeB,hk,hge] at hrow
                have hrow:=Nat.eq_of_beq_eq_true hrow
                have go:∀(r off:Nat),off+r=len→∃x:(zbs (List.replicate r a)).Den,Rep (ztv w) (zbs (List.replicate r a)) x (cs.drop (off*ei.size))∧(zbs (List.replicate r a)).fits x:=by
                  intro r
                  induction r with
                  | zero=>
                    intro off ho
                    refine⟨(),List.drop_of_length_le ?_,trivial⟩
                    rw[hl,hci,hrow,show off=len by omega]
                    exact Nat.le_refl _
                  | succ r ihr=>
                    intro off ho
                    have hlt:off<xs.length:=by omega
                    have hread:=each off (by omega)
                    rw[hc,List.getElem?_eq_getElem hlt] at hread
                    obtain⟨x,hx,hfx⟩:=ih n (by omega) m e a _ _ ha hread
                    obtain⟨y,hy,hfy⟩:=ihr (off+1) (by omega)
                    refine⟨(x,y),⟨_,_,?_,hx,hy⟩,hfx,hfy⟩
                    rw[Nat.add_mul,Nat.one_mul,←List.drop_drop]
                    exact (List.take_append_drop _ _).symm
                obtain⟨x,hx,hfx⟩:=go len 0 (by omega)
                exact⟨x,by simpa using hx,hfx⟩
        | ptr e=>rw[hk] at hb;cases hb
        | other=>rw[hk] at hb;cases hb
        | iface=>rw[hk] at hb;cases hb
        | slice e =>
          rw[hk] at hb hd
          simp only at hb hd
          cases hge:tt.get e with
          | none=>rw[hge] at hb;cases hb
          | some ei =>
            rw[hge] at hb
            simp only at hb
            cases h1:Nat.ble 1 ei.size with
            | false=>rw[h1] at hb;simp at hb
            | true =>
              rw[h1] at hb
              simp only[cond_true] at hb
              cases ha:brOf tt m e with
              | none=>rw[ha] at hb;cases hb
              | some a =>
                rw[ha] at hb
                simp only at hb
                cases h2:Nat.beq a.size ei.size with
                | false=>rw[h2] at hb;simp at hb
                | true =>
                  rw[h2] at hb
                  simp only[cond_true,Option.some.injEq] at hb
                  subst hb
                  have h1:=Nat.le_of_ble_eq_true h1
                  have h2:=Nat.eq_of_beq_eq_true h2
                  have hc:=zdU hT hge
                  rw[←h2] at hc h1
                  rcases DataW.trod_slice hd hz with ⟨rfl,_⟩|⟨ad,len,cap,zoc,rest,n,hf,rfl,_,_,hlc,hcm,hel,each,_,_⟩
                  · exact⟨[],znJ a,(fun x hx=>by cases hx)⟩
                  · have one:∀j,j<len→∃x:a.Den,(ad.spot=none∧∃c el f,w.heap[ad.block]?=some (.cells c el f)∧ad.off+j*a.size+a.size≤c.size∧
                        Rep (ztv w) a x ((c.toList.drop (ad.off+j*a.size)).take a.size))∧a.fits x:=by
                      intro j hj
                      have h3:=each j hj
                      rw[hc,List.getElem?_eq_getElem (by omega)] at h3
                      obtain⟨cj,h4,h5⟩:=Option.bind_eq_some_iff.1 h3
                      obtain⟨s1,s2,c,el,f,s3,s4,s5⟩:=zks h1 h4
                      obtain⟨x,hx,hfx⟩:=ih n (by omega) m e a cj _ ha h5
                      obtain⟨b,off,sp⟩:=ad
                      have hsp:sp=none:=by
                        have h6:=each 0 (by omega)
                        rw[hc,List.getElem?_eq_getElem (by omega)] at h6
                        obtain⟨c0,h7,_⟩:=Option.bind_eq_some_iff.1 h6
                        have:=(zks h1 h7).1
                        simpa [Addr.add] using this
                      subst hsp
                      rw[zaT] at s3 s4 s5
                      exact⟨x,⟨rfl,c,el,f,s3,s4,by rw[←s5];exact hx⟩,hfx⟩
                    obtain⟨xs,l1,l2⟩:=ziO len one
                    refine⟨xs,⟨some ad,cap,?_,?_,hcm,(fun h=>by cases h),fun ad' had hne=>?_⟩,fun x hx=>?_⟩
                    · rw[←l1]
                    · exact l1▸hlc
                    · cases had
                      have hpos:0<len:=by
                        rw[←l1]
                        exact List.length_pos_iff.2 hne
                      have hlast:=l2 (len - 1) _ (List.getElem?_eq_getElem (by omega))
                      obtain⟨⟨s1,c,el,f,s3,s4,s5⟩,_⟩:=hlast
                      refine⟨s1,c,⟨el,f,s3⟩,?_,fun j x hx=>?_⟩
                      · change ad.off+xs.length*a.size≤c.size
                        rw[l1]
                        have:len*a.size=(len - 1)*a.size+a.size:=by
                          rw[←Nat.succ_mul];congr 1;omega
                        omega
                      · obtain⟨⟨_,c',el',f',s6,_,s7⟩,_⟩:=l2 j x hx
                        rw[s3] at s6
                        simp only[Option.some.injEq,Obj.cells.injEq] at s6
                        obtain⟨rfl,_,_⟩:=s6
                        exact s7
                    · obtain⟨j,hj,rfl⟩:=List.mem_iff_getElem.1 hx
                      exact (l2 j _ (List.getElem?_eq_getElem hj)).2
        | struct fs =>
          rw[hk] at hb hd
          simp only at hb hd
          obtain⟨fa,hd,hfs⟩:=hd
          obtain⟨xs,n,hf,_,hl,hxl,each⟩:=DataW.trod_struct hd hz
          have hrow:=hT.row hg
          simp only[zeB,hk] at hrow
          have hci:=zdU hT hg
          -- the fields, from a place on
          have go : ∀ (gs : List (Nat×Nat)) (k off m':Nat) (ty:Ty),fs.drop k=gs→zhb tt m' gs=some ty→zbv tt off gs i.size=true→
              ∃x:ty.Den,Rep (ztv w) ty x (cs.drop off)∧ty.fits x:=by
            intro gs
            induction gs with
            | nil=>
              intro k off m' ty _ h1 h2
              cases m' with
              | zero=>simp[zhb] at h1
              | succ m'=>
                simp only[zhb,Option.some.injEq] at h1
                subst h1
                simp only[zbv] at h2
                have h2:=Nat.eq_of_beq_eq_true h2
                exact⟨(),List.drop_of_length_le (by omega),trivial⟩
            | cons g r ihg =>
              intro k off m' ty hgs h1 h2
              cases m' with
              | zero=>simp[zhb] at h1
              | succ m' =>
                simp only[zhb] at h1
                cases ha:brOf tt m' g.1 with
                | none=>rw[ha] at h1;cases h1
                | some a =>
                  rw[ha] at h1
                  simp only at h1
                  cases hb2:zhb tt m' r with
                  | none=>rw[hb2] at h1;cases h1
                  | some b =>
                    rw[hb2] at h1
                    simp only at h1
                    cases hgg:tt.get g.1 with
                    | none=>rw[hgg] at h1;cases h1
                    | some gi=>
                      rw[hgg] at h1
                      simp only at h1
                      cases hz2:Nat.beq a.size gi.size with
                      | false=>rw[hz2] at h1;simp at h1
                      | true=>
                        rw[hz2] at h1
                        simp only[cond_true,Option.some.injEq] at h1
                        subst h1
                        have hz2:=Nat.eq_of_beq_eq_true hz2
                        simp only[zbv,hgg,Bool.and_eq_true] at h2
                        obtain⟨h3,h4⟩:=h2
                        have h3:=Nat.eq_of_beq_eq_true h3
                        have hget:fs[k]?=some g:=by
                          have:=congrArg (fun l:List (Nat×Nat)=>l[0]?) hgs
                          simpa using this
                        rw[←hfs] at hget
                        simp only[List.getElem?_map,Option.map_eq_some_iff,Array.getElem?_toList] at hget
                        obtain⟨fl,hfl,hfg⟩:=hget
                        have e1:fl.type=g.1:=congrArg Prod.fst hfg
                        have e2:fl.offset=g.2:=congrArg Prod.snd hfg
                        have hread:=each k fl hfl
                        have hlt:k<xs.length:=by rw[hxl];exact (Array.getElem?_eq_some_iff.1 hfl).1
                        rw[e1,e2,h3,zdU hT hgg,List.getElem?_eq_getElem hlt] at hread
                        obtain⟨x,hx,hfx⟩:=ih n (by omega) m' g.1 a _ _ ha hread
                        obtain⟨y,hy,hfy⟩:=ihg (k+1) (off+gi.size) m' b (by rw[←List.drop_drop,hgs];rfl) hb2 h4
                        refine⟨(x,y),⟨_,_,?_,hx,hy⟩,hfx,hfy⟩
                        rw[←List.drop_drop]
                        exact (List.take_append_drop _ _).symm
          obtain⟨x,hx,hfx⟩:=go fs 0 0 m ty (by simp) hb hrow
          exact⟨x,by simpa using hx,hfx⟩
end
theorem zv8 {P : Program} {w:World} {tt:TT} (hT:TblOk P tt) {base m t:Nat} {ty:Ty} {v:Value} {r:Reach} {V:View} {x:ty.Den} (hb:brOf tt m t=some ty) (hv:Value.okWide P w r base t v) (hx:Rep V ty x v.cells.toList):RepV V ty x v:=by
  cases m with
  | zero=>simp[brOf] at hb
  | succ m =>
    simp only[brOf] at hb
    cases hg:tt.get t with
    | none=>rw[hg] at hb;cases hb
    | some i =>
      rw[hg] at hb
      have hd:=(hT.rows t i hg).desc
      simp only at hb
      have oneC:ty.agg=false→v.oneCell'=true→RepV V ty x v:=fun h1 h2=>by
        refine RepV.mk1 h1 ?_
        cases v<;>first|(simp[Value.oneCell'] at h2;done)|simpa [Value.cells] using hx
      cases hk:i.kind with
      | int k=>
        rw[hk] at hb hd
        simp only at hd
        cases k<;>simp only[Option.some.injEq] at hb<;>first|(cases hb;done)|subst hb
        refine oneC rfl ?_
        simp only[Value.okWide,hd,Cell.okWide,Cell.ok] at hv
        split at hv<;>first|rfl|exact hv.elim|(cases hv;done)|simp_all [Value.oneCell']
      | bool=>
        rw[hk] at hb hd
        simp only[Option.some.injEq] at hb hd
        subst hb
        refine oneC rfl ?_
        simp only[Value.okWide,hd,Cell.okWide,Cell.ok] at hv
        split at hv<;>first|rfl|exact hv.elim|(cases hv;done)|simp_all [Value.oneCell']
      | str=>
        rw[hk] at hb hd
        simp only[Option.some.injEq] at hb hd
        subst hb
        refine oneC rfl ?_
        simp only[Value.okWide,hd,Cell.okWide,Cell.ok] at hv
        split at hv<;>first|rfl|exact hv.elim|(cases hv;done)|simp_all [Value.oneCell']
      | flt k=>
        rw[hk] at hb hd
        simp only[Option.some.injEq] at hb hd
        subst hb
        refine oneC rfl ?_
        simp only[Value.okWide,hd,Cell.okWide,Cell.ok] at hv
        split at hv<;>first|rfl|exact hv.elim|(cases hv;done)|simp_all [Value.oneCell']
      | cpx k=>rw[hk] at hb;cases hb
      | array len e=>
        rw[hk] at hb hd
        simp only at hb hd
        cases hge:tt.get e with
        | none=>rw[hge] at hb;cases hb
        | some ei=>
          rw[hge] at hb
          simp only at hb
          cases ha:brOf tt m e with
          | none=>rw[ha] at hb;cases hb
          | some a=>
            rw[ha] at hb
            simp only at hb
            cases h2:Nat.beq a.size ei.size with
            | false=>rw[h2] at hb;simp at hb
            | true=>
              rw[h2] at hb
              simp only[cond_true,Option.some.injEq] at hb
              subst hb
              simp only[Value.okWide,hd] at hv
              obtain⟨cs,rfl,_,_⟩:=hv
              exact⟨cs.toList,by simpa [Value.cells] using hx,.inl ⟨zqq _ _,by simp⟩⟩
      | ptr e=>rw[hk] at hb;cases hb
      | other=>rw[hk] at hb;cases hb
      | iface=>rw[hk] at hb;cases hb
      | slice e =>
        rw[hk] at hb hd
        simp only at hb hd
        have hag : ty.agg=false:=by
          cases hge:tt.get e with
          | none=>rw[hge] at hb;cases hb
          | some ei=>
            rw[hge] at hb
            simp only at hb
            cases h1:Nat.ble 1 ei.size with
            | false=>rw[h1] at hb;simp at hb
            | true =>
              rw[h1] at hb
              simp only[cond_true] at hb
              cases ha:brOf tt m e with
              | none=>rw[ha] at hb;cases hb
              | some a=>
                rw[ha] at hb
                simp only at hb
                cases h2:Nat.beq a.size ei.size with
                | false=>rw[h2] at hb;simp at hb
                | true=>
                  rw[h2] at hb
                  simp only[cond_true,Option.some.injEq] at hb
                  subst hb;rfl
        refine oneC hag ?_
        simp only[Value.okWide,hd,Cell.okWide,Cell.ok] at hv
        split at hv<;>first|rfl|exact hv.elim|(cases hv;done)|simp_all [Value.oneCell']
      | struct fs=>
        rw[hk] at hb hd
        simp only at hb hd
        obtain⟨fa,hd,_⟩:=hd
        have hrow:=hT.row hg
        simp only[zeB,hk] at hrow
        have hag:=(zku m fs ty 0 i.size hb hrow).2
        simp only[Value.okWide,hd] at hv
        obtain⟨cs,rfl,_,_⟩:=hv
        exact⟨cs.toList,by simpa [Value.cells] using hx,.inl ⟨hag,by simp⟩⟩
def datP:List Ty→List Pat
  | []=>[]
  | t::r=>.dat t::datP r
def zsD:(tys:List Ty)→(zac (datP tys)).Den→Prop
  | [],_=>True
  | t::r,x=>t.fits x.1∧zsD r x.2
def zzJ (tt:TT):List TypeId→List Ty→Prop
  | [],[]=>True
  | t::r,ty::s=>brOf tt 20 t=some ty∧zzJ tt r s
  | _,_=>False
theorem zjp {H:Type} {enc:TypeId×Value→H} {P:Program} {W:World} {OB:Nat→Obj→Prop} {tt:TT} (hT:TblOk P tt) {base:Nat}:∀ {ts:List TypeId} {tys:List Ty} {vs:List Value} {ds:List (DataW H)} {ps:List MemPlace},zzJ tt ts tys→
    DataW.TrodAll enc P W 0 (fun _=>true) true ts vs ds ps→(∀(j:Nat) t v,ts[j]?=some t→vs[j]?=some v→Value.okWide P W .any base t v)→
    ∃x:(zac (datP tys)).Den,zdo OB W (fun _=>False) (datP tys) x vs []∧zsD tys x
  | [],[],[],[],ps,_,_,_=>⟨(),⟨rfl,rfl⟩,trivial⟩
  | t::ts,ty::tys,v::vs,d::ds,ps,hb,h,hv=>by
    obtain⟨p,q,⟨fuel,h1⟩,h2,_⟩:=h
    obtain⟨x,hx,hf⟩:=zty hT fuel 20 t ty _ _ hb.1 h1
    obtain⟨y,hy,hg⟩:=zjp hT hb.2 h2 (fun j t' v' h3 h4=>hv (j+1) t' v' (by simpa using h3) (by simpa using h4))
    have hr:=zv8 hT hb.1 (hv 0 t v rfl rfl) hx
    exact⟨(x,y),⟨v,vs,rfl,hr.mono (fun b c h=>⟨fun h=>h,h⟩),hy⟩,hf,hg⟩
end Go.Eng
namespace Go.Eng.Ar
open Go.Eng Go.Proofs
def ztl (P:Program):TT→Prop
  | []=>True
  | (t,i)::r=>TIOk P t i∧ztl P r
theorem zjS {P:Program}:∀ {tt:TT} {t:Nat} {i:TInfo},ztl P tt→tt.get t=some i→TIOk P t i
  | [],_,_,_,h=>by simp[TT.get] at h
  | (t',i')::r,t,i,hr,h=>by
    simp only[TT.get] at h
    cases hb:Nat.beq t' t with
    | true=>
      rw[hb] at h
      have:=Nat.eq_of_beq_eq_true hb
      subst this
      simp only[cond_true,Option.some.injEq] at h
      subst h
      exact hr.1
    | false=>rw[hb] at h;exact zjS hr.2 h
def i3:TInfo:={kind:=.int .i64,size:=1,bytes:=8,zero:=.int .i64 0}
theorem row3:TIOk Tryz.prog 3 i3:=⟨Tryz.underlying3,⟨Tryz.t3,by kernel_rfl,by kernel_rfl,by kernel_rfl,by kernel_rfl⟩,rfl⟩
def i4:TInfo:={kind:=.bool,size:=1,bytes:=1,zero:=.bool false}
theorem row4:TIOk Tryz.prog 4 i4:=⟨Tryz.underlying4,⟨Tryz.t4,by kernel_rfl,by kernel_rfl,by kernel_rfl,by kernel_rfl⟩,rfl⟩
def i5:TInfo:={kind:=.int .u8,size:=1,bytes:=1,zero:=.int .u8 0}
theorem row5:TIOk Tryz.prog 5 i5:=⟨Tryz.underlying5,⟨Tryz.t5,by kernel_rfl,by kernel_rfl,by kernel_rfl,by kernel_rfl⟩,rfl⟩
def i9:TInfo:={kind:=.str,size:=1,bytes:=16,zero:=.string ByteArray.empty}
theorem row9:TIOk Tryz.prog 9 i9:=⟨Tryz.underlying9,⟨Tryz.t9,by kernel_rfl,by kernel_rfl,by kernel_rfl,by kernel_rfl⟩,rfl⟩
def i23:TInfo:={kind:=.struct [(3,0),(3,1),(3,2)],size:=3,bytes:=24,zero:=.agg #[.int .i64 0,.int .i64 0,.int .i64 0]}
theorem zx8:TIOk Tryz.prog 23 i23:=⟨⟨_,Tryz.underlying23,rfl⟩,⟨Tryz.t23,by kernel_rfl,by kernel_rfl,by kernel_rfl,by kernel_rfl⟩,rfl⟩
def i25:TInfo:={kind:=.struct [(3,0),(3,1)],size:=2,bytes:=16,zero:=.agg #[.int .i64 0,.int .i64 0]}
theorem zAd:TIOk Tryz.prog 25 i25:=⟨⟨_,Tryz.underlying25,rfl⟩,⟨Tryz.t25,by kernel_rfl,by kernel_rfl,by kernel_rfl,by kernel_rfl⟩,rfl⟩
def i28:TInfo:={kind:=.struct [(3,0),(3,1)],size:=2,bytes:=16,zero:=.agg #[.int .i64 0,.int .i64 0]}
theorem zAc:TIOk Tryz.prog 28 i28:=⟨⟨_,Tryz.underlying28,rfl⟩,⟨Tryz.t28,by kernel_rfl,by kernel_rfl,by kernel_rfl,by kernel_rfl⟩,rfl⟩
def i29:TInfo:={kind:=.int .i64,size:=1,bytes:=8,zero:=.int .i64 0}
theorem zAb:TIOk Tryz.prog 29 i29:=⟨Tryz.underlying29,⟨Tryz.t29,by kernel_rfl,by kernel_rfl,by kernel_rfl,by kernel_rfl⟩,rfl⟩
def i39:TInfo:={kind:=.slice 53,size:=1,bytes:=24,zero:=.slice none 0 0}
theorem zAa:TIOk Tryz.prog 39 i39:=⟨Tryz.underlying39,⟨Tryz.t39,by kernel_rfl,by kernel_rfl,by kernel_rfl,by kernel_rfl⟩,rfl⟩
def i41:TInfo:={kind:=.struct [(3,0),(3,1),(39,2)],size:=3,bytes:=40,zero:=.agg #[.int .i64 0,.int .i64 0,.slice none 0 0]}
theorem zz9:TIOk Tryz.prog 41 i41:=⟨⟨_,Tryz.underlying41,rfl⟩,⟨Tryz.t41,by kernel_rfl,by kernel_rfl,by kernel_rfl,by kernel_rfl⟩,rfl⟩
def i53:TInfo:={kind:=.struct [(23,0),(3,3),(3,4)],size:=5,bytes:=40,zero:=.agg #[.int .i64 0,.int .i64 0,.int .i64 0,.int .i64 0,.int .i64 0]}
theorem zz8:TIOk Tryz.prog 53 i53:=⟨⟨_,Tryz.underlying53,rfl⟩,⟨Tryz.t53,by kernel_rfl,by kernel_rfl,by kernel_rfl,by kernel_rfl⟩,rfl⟩
def i59:TInfo:={kind:=.cpx .f64,size:=1,bytes:=16,zero:=.complex .f64 0 0}
theorem zz7:TIOk Tryz.prog 59 i59:=⟨Tryz.underlying59,⟨Tryz.t59,by kernel_rfl,by kernel_rfl,by kernel_rfl,by kernel_rfl⟩,rfl⟩
def i65:TInfo:={kind:=.slice 23,size:=1,bytes:=24,zero:=.slice none 0 0}
theorem zz6:TIOk Tryz.prog 65 i65:=⟨Tryz.underlying65,⟨Tryz.t65,by kernel_rfl,by kernel_rfl,by kernel_rfl,by kernel_rfl⟩,rfl⟩
def i66:TInfo:={kind:=.slice 76,size:=1,bytes:=24,zero:=.slice none 0 0}
theorem zz5:TIOk Tryz.prog 66 i66:=⟨Tryz.underlying66,⟨Tryz.t66,by kernel_rfl,by kernel_rfl,by kernel_rfl,by kernel_rfl⟩,rfl⟩
def i75:TInfo:={kind:=.struct [(66,0),(3,1)],size:=2,bytes:=32,zero:=.agg #[.slice none 0 0,.int .i64 0]}
theorem zz4:TIOk Tryz.prog 75 i75:=⟨⟨_,Tryz.underlying75,rfl⟩,⟨Tryz.t75,by kernel_rfl,by kernel_rfl,by kernel_rfl,by kernel_rfl⟩,rfl⟩
def i76:TInfo:={kind:=.slice 3,size:=1,bytes:=24,zero:=.slice none 0 0}
theorem zro:TIOk Tryz.prog 76 i76:=⟨Tryz.underlying76,⟨Tryz.t76,by kernel_rfl,by kernel_rfl,by kernel_rfl,by kernel_rfl⟩,rfl⟩
def i78:TInfo:={kind:=.struct [(3,0),(76,1)],size:=2,bytes:=32,zero:=.agg #[.int .i64 0,.slice none 0 0]}
theorem zz3:TIOk Tryz.prog 78 i78:=⟨⟨_,Tryz.underlying78,rfl⟩,⟨Tryz.t78,by kernel_rfl,by kernel_rfl,by kernel_rfl,by kernel_rfl⟩,rfl⟩
def i81:TInfo:={kind:=.struct [(3,0),(76,1),(76,2),(76,3)],size:=4,bytes:=80,zero:=.agg #[.int .i64 0,.slice none 0 0,.slice none 0 0,.slice none 0 0]}
theorem zz2:TIOk Tryz.prog 81 i81:=⟨⟨_,Tryz.underlying81,rfl⟩,⟨Tryz.t81,by kernel_rfl,by kernel_rfl,by kernel_rfl,by kernel_rfl⟩,rfl⟩
def i82:TInfo:={kind:=.array 2 3,size:=2,bytes:=16,zero:=.agg #[.int .i64 0,.int .i64 0]}
theorem zx6:TIOk Tryz.prog 82 i82:=⟨Tryz.underlying82,⟨Tryz.t82,by kernel_rfl,by kernel_rfl,by kernel_rfl,by kernel_rfl⟩,rfl⟩
def i92:TInfo:={kind:=.array 2 28,size:=4,bytes:=32,zero:=.agg #[.int .i64 0,.int .i64 0,.int .i64 0,.int .i64 0]}
theorem zz1:TIOk Tryz.prog 92 i92:=⟨Tryz.underlying92,⟨Tryz.t92,by kernel_rfl,by kernel_rfl,by kernel_rfl,by kernel_rfl⟩,rfl⟩
def i113:TInfo:={kind:=.struct [(78,0),(81,2)],size:=6,bytes:=112,zero:=.agg #[.int .i64 0,.slice none 0 0,.int .i64 0,.slice none 0 0,.slice none 0 0,.slice none 0 0]}
theorem zyq:TIOk Tryz.prog 113 i113:=⟨⟨_,Tryz.underlying113,rfl⟩,⟨Tryz.t113,by kernel_rfl,by kernel_rfl,by kernel_rfl,by kernel_rfl⟩,rfl⟩
def i118:TInfo:={kind:=.slice 82,size:=1,bytes:=24,zero:=.slice none 0 0}
theorem zyp:TIOk Tryz.prog 118 i118:=⟨Tryz.underlying118,⟨Tryz.t118,by kernel_rfl,by kernel_rfl,by kernel_rfl,by kernel_rfl⟩,rfl⟩
def i132:TInfo:={kind:=.struct [(23,0),(23,3)],size:=6,bytes:=48,zero:=.agg #[.int .i64 0,.int .i64 0,.int .i64 0,.int .i64 0,.int .i64 0,.int .i64 0]}
theorem zyo:TIOk Tryz.prog 132 i132:=⟨⟨_,Tryz.underlying132,rfl⟩,⟨Tryz.t132,by kernel_rfl,by kernel_rfl,by kernel_rfl,by kernel_rfl⟩,rfl⟩
def i141:TInfo:={kind:=.ptr 53,size:=1,bytes:=8,zero:=.pointer none}
theorem zyn:TIOk Tryz.prog 141 i141:=⟨Tryz.underlying141,⟨Tryz.t141,by kernel_rfl,by kernel_rfl,by kernel_rfl,by kernel_rfl⟩,rfl⟩
def i143:TInfo:={kind:=.slice 147,size:=1,bytes:=24,zero:=.slice none 0 0}
theorem zym:TIOk Tryz.prog 143 i143:=⟨Tryz.underlying143,⟨Tryz.t143,by kernel_rfl,by kernel_rfl,by kernel_rfl,by kernel_rfl⟩,rfl⟩
def i147:TInfo:={kind:=.struct [(53,0),(28,5),(28,7)],size:=9,bytes:=72,zero:=.agg #[.int .i64 0,.int .i64 0,.int .i64 0,.int .i64 0,.int .i64 0,.int .i64 0,.int .i64 0,.int .i64 0,.int .i64 0]}
theorem zyl:TIOk Tryz.prog 147 i147:=⟨⟨_,Tryz.underlying147,rfl⟩,⟨Tryz.t147,by kernel_rfl,by kernel_rfl,by kernel_rfl,by kernel_rfl⟩,rfl⟩
def i150:TInfo:={kind:=.array 2 3,size:=2,bytes:=16,zero:=.agg #[.int .i64 0,.int .i64 0]}
theorem zyk:TIOk Tryz.prog 150 i150:=⟨Tryz.underlying150,⟨Tryz.t150,by kernel_rfl,by kernel_rfl,by kernel_rfl,by kernel_rfl⟩,rfl⟩
def i152:TInfo:={kind:=.flt .f64,size:=1,bytes:=8,zero:=.float .f64 0}
theorem zyj:TIOk Tryz.prog 152 i152:=⟨Tryz.underlying152,⟨Tryz.t152,by kernel_rfl,by kernel_rfl,by kernel_rfl,by kernel_rfl⟩,rfl⟩
def i164:TInfo:={kind:=.int .u64,size:=1,bytes:=8,zero:=.int .u64 0}
theorem zyi:TIOk Tryz.prog 164 i164:=⟨Tryz.underlying164,⟨Tryz.t164,by kernel_rfl,by kernel_rfl,by kernel_rfl,by kernel_rfl⟩,rfl⟩
def i176:TInfo:={kind:=.slice 9,size:=1,bytes:=24,zero:=.slice none 0 0}
theorem zyh:TIOk Tryz.prog 176 i176:=⟨Tryz.underlying176,⟨Tryz.t176,by kernel_rfl,by kernel_rfl,by kernel_rfl,by kernel_rfl⟩,rfl⟩
def i186:TInfo:={kind:=.slice 29,size:=1,bytes:=24,zero:=.slice none 0 0}
theorem zyg:TIOk Tryz.prog 186 i186:=⟨Tryz.underlying186,⟨Tryz.t186,by kernel_rfl,by kernel_rfl,by kernel_rfl,by kernel_rfl⟩,rfl⟩
def i192:TInfo:={kind:=.slice 222,size:=1,bytes:=24,zero:=.slice none 0 0}
theorem zyf:TIOk Tryz.prog 192 i192:=⟨Tryz.underlying192,⟨Tryz.t192,by kernel_rfl,by kernel_rfl,by kernel_rfl,by kernel_rfl⟩,rfl⟩
def i194:TInfo:={kind:=.struct [(3,0),(3,1),(192,2)],size:=3,bytes:=40,zero:=.agg #[.int .i64 0,.int .i64 0,.slice none 0 0]}
theorem zye:TIOk Tryz.prog 194 i194:=⟨⟨_,Tryz.underlying194,rfl⟩,⟨Tryz.t194,by kernel_rfl,by kernel_rfl,by kernel_rfl,by kernel_rfl⟩,rfl⟩
def i197:TInfo:={kind:=.struct [(76,0),(3,1),(76,2),(3,3)],size:=4,bytes:=64,zero:=.agg #[.slice none 0 0,.int .i64 0,.slice none 0 0,.int .i64 0]}
theorem zyd:TIOk Tryz.prog 197 i197:=⟨⟨_,Tryz.underlying197,rfl⟩,⟨Tryz.t197,by kernel_rfl,by kernel_rfl,by kernel_rfl,by kernel_rfl⟩,rfl⟩
def i206:TInfo:={kind:=.struct [(3,0),(3,1)],size:=2,bytes:=16,zero:=.agg #[.int .i64 0,.int .i64 0]}
theorem zyc:TIOk Tryz.prog 206 i206:=⟨⟨_,Tryz.underlying206,rfl⟩,⟨Tryz.t206,by kernel_rfl,by kernel_rfl,by kernel_rfl,by kernel_rfl⟩,rfl⟩
def i210:TInfo:={kind:=.slice 5,size:=1,bytes:=24,zero:=.slice none 0 0}
theorem zyb:TIOk Tryz.prog 210 i210:=⟨Tryz.underlying210,⟨Tryz.t210,by kernel_rfl,by kernel_rfl,by kernel_rfl,by kernel_rfl⟩,rfl⟩
def i215:TInfo:={kind:=.iface,size:=1,bytes:=16,zero:=.nilIface}
theorem zya:TIOk Tryz.prog 215 i215:=⟨⟨_,Tryz.underlying215⟩,⟨Tryz.t215,by kernel_rfl,by kernel_rfl,by kernel_rfl,by kernel_rfl⟩,rfl⟩
def i222:TInfo:={kind:=.struct [(76,0),(3,1)],size:=2,bytes:=32,zero:=.agg #[.slice none 0 0,.int .i64 0]}
theorem zx9:TIOk Tryz.prog 222 i222:=⟨⟨_,Tryz.underlying222,rfl⟩,⟨Tryz.t222,by kernel_rfl,by kernel_rfl,by kernel_rfl,by kernel_rfl⟩,rfl⟩
def i248:TInfo:={kind:=.int .u64,size:=1,bytes:=8,zero:=.int .u64 0}
theorem zx7:TIOk Tryz.prog 248 i248:=⟨Tryz.underlying248,⟨Tryz.t248,by kernel_rfl,by kernel_rfl,by kernel_rfl,by kernel_rfl⟩,rfl⟩
def tt:TT:=[(3,i3),(4,i4),(5,i5),(9,i9),(23,i23),(25,i25),(28,i28),(29,i29),(39,i39),(41,i41),(53,i53),(59,i59),(65,i65),(66,i66),(75,i75),(76,i76),(78,i78),(81,i81),(82,i82),(92,i92),(113,i113),(118,i118),(132,i132),(141,i141),(143,i143),(147,i147),(150,i150),(152,i152),(164,i164),(176,i176),(186,i186),(192,i192),(194,i194),(197,i197),(206,i206),(210,i210),(215,i215),(222,i222),(248,i248)]
theorem rows:ztl Tryz.prog tt:=⟨row3,row4,row5,row9,zx8,zAd,zAc,zAb,zAa,zz9,zz8,zz7,zz6,zz5,zz4,zro,zz3,zz2,zx6,zz1,zyq,zyp,zyo,zyn,zym,zyl,zyk,zyj,zyi,zyh,zyg,zyf,zye,zyd,zyc,zyb,zya,zx9,zx7,trivial⟩
theorem tbl:TblOk Tryz.prog tt:=⟨fun _ _ h=>zjS rows h,by kernel_rfl⟩
end Go.Eng.Ar
