/- Texts FD P6 L33 FE FP FG FL FM FL1 FL2 FL3 FL4 FN, as far as they are used. Conditions: each lemma's own. -/
import Derived.Test.YtimkbccpbjabiaaKB2
namespace Go.Eng
set_option linter.all false
set_option maxRecDepth 100000
section
variable {E:Env} {nt:Nat} {η:Eta} {a:Act} {w:World}
def extE (fr:Nat→Option (Nat×Nat)) (η:Eta):Eta:=fun k=>match fr k with|some r=>some r|none=>η k
theorem ztk (g:Good E nt η a w) {d:Nat} {v:Value} {w':World} (hp:CPost E.OB w w' []) {fr:Nat→Option (Nat×Nat)} {ks:List Nat} (hfr:∀k b c,fr k=some (b,c)→w.heap.size≤b∧b<w'.heap.size)
    (hinj:∀k k' b c c',fr k=some (b,c)→fr k'=some (b,c')→k=k') (hks:∀k,k ∉ ks→fr k=none) :
    Good E nt (extE fr η) (a.put (some d) v) w'∧Keeps E η (extE fr η) a (a.put (some d) v) w w' {slots:=[d],keys:=ks}:=by
  have hη:∀k,extE fr η k=match fr k with|some r=>some r|none=>η k:=fun _=>rfl
  have hnb:∀b:Nat,b ∉ ([]:List Nat):=fun b=>by simp
  constructor
  · have hsz:=hp.size
    have hgr:=g.grow
    refine {size:=(g.put _ _).size,lim:=g.lim,defers:=g.defers.mono rfl (fun D o h hn=>(hp.keep D (zag h) (hnb D)).trans h) (fun k b c hk=>by
        rw[hη] at hk
        split at hk
        · rename_i r hf
          simp only[Option.some.injEq] at hk
          subst hk
          exact .inr (hfr k b c hf).1
        · exact .inl ⟨k,c,hk⟩),os:=hp.os.trans g.os,tape:=hp.tape.trans g.tape,output:=hp.output.trans g.output,grow:=by omega,keep:=?_,own:=?_,dis:=g.dis,inj:=?_,old:=g.old,obkeep:=?_}
    · intro b hb hm hw
      exact (hp.keep b (by omega) (hnb b)).trans (g.keep b hb hm hw)
    · intro k b c hk
      rw[hη] at hk
      split at hk
      · rename_i r hf
        simp only[Option.some.injEq] at hk
        subst hk
        have:=hfr k b c hf
        exact⟨this.2,.inl (.inl (by omega))⟩
      · have:=g.own k b c hk
        exact⟨by omega,this.2⟩
    · intro k k' b c c' hk hk'
      rw[hη] at hk hk'
      split at hk<;>split at hk'
      · rename_i r hf _ r' hf'
        simp only[Option.some.injEq] at hk hk'
        subst hk;subst hk'
        exact hinj k k' b c c' hf hf'
      · rename_i r hf _ hf'
        simp only[Option.some.injEq] at hk
        subst hk
        have h1:=hfr k b c hf
        have h2:=(g.own k' b c' hk').1
        omega
      · rename_i hf _ r hf'
        simp only[Option.some.injEq] at hk'
        subst hk'
        have h1:=hfr k' b c' hf'
        have h2:=(g.own k b c hk).1
        omega
      · exact g.inj k k' b c c' hk hk'
    · intro b i o hb hm h1 h2
      obtain⟨o1,h3,h4⟩:=g.obkeep b i o hb hm h1 h2
      exact⟨o1,(hp.keep b (zag h3) (hnb b)).trans h3,h4⟩
  · refine ⟨?_,?_,?_,?_,?_,?_⟩
    · rintro b c ⟨h1,h2,el,f,h3⟩
      have hlt:=zag h3
      refine⟨h1,fun k n hk=>?_,el,f,(hp.keep b hlt (hnb b)).trans h3⟩
      rw[hη] at hk
      split at hk
      · rename_i r hf
        simp only[Option.some.injEq] at hk
        subst hk
        have:=hfr k b n hf
        omega
      · exact h2 k n hk
    · intro k hk
      rw[hη,hks k hk]
    · intro t ht;exact zab (by simpa using ht)
    · intro k off b c cur el v h1 h2 h3 h4 h5 h6 h7
      exact⟨cur,(hp.keep b (zag h6) (hnb b)).trans h6,h7⟩
    · intro k b c cur el h1 h2 h3 h4 h5 h6
      exact (hp.keep b (zag h6) (hnb b)).trans h6
    · intro k i b c o h1 h2 h3 h4 h5 h6
      exact⟨o,(hp.keep b (zag h5) (hnb b)).trans h5,h6⟩
end
end Go.Eng
namespace Go.Eng.Lp
open Go.Eng Go.Proofs
set_option linter.all false
set_option maxRecDepth 100000
set_option maxHeartbeats 4000000
def rowF:Nat→List (List Int)→St
  | _,[]=>[]
  | i,r::rs=>.cell 70000 i (.o (70001+i) r.length)::.row (70001+i) 3 I64 r::rowF (i+1) rs
def zm7:Nat→Nat→List Nat
  | _,0=>[]
  | i,n+1=>(70001+i)::zm7 (i+1) n
theorem zky:∀ {n i k:Nat},k ∉ zm7 i n→k<70001+i∨70001+i+n≤k
  | 0,i,k,_=>by omega
  | n+1,i,k,h=>by
    simp only[zm7,List.mem_cons,not_or] at h
    have:=zky h.2
    omega
theorem zmg {f:Fact}:∀ {xss:List (List Int)} {i:Nat},f∈rowF i xss→∃j,j<xss.length∧(f=.cell 70000 (i+j) (.o (70001+(i+j)) (rowN xss j).length)∨f=.row (70001+(i+j)) 3 I64 (rowN xss j))
  | [],_,h=>by cases h
  | r :: rs,i,h=>by
    simp only[rowF,List.mem_cons] at h
    rcases h with rfl|rfl|h
    · exact⟨0,by simp,.inl rfl⟩
    · exact⟨0,by simp,.inr rfl⟩
    · obtain⟨j,hj,h⟩:=zmg h
      refine⟨j+1,by simpa using hj,?_⟩
      rw[show i+(j+1)=i+1+j by omega]
      exact h
theorem zpV {E:Env} {nt:Nat} {st st':St} {a:Act} {w w':World} (hR:RelS E nt st a w) (hE:E.OB=OB) {d:Nat} (hd:d<nt) {xss:List (List Int)} {v:Value} {bs:List Nat} {us:List Value} (hne:xss≠[])
    (hbel:Bel w.heap.size w w') (hrows:RowsAt w' w.heap.size xss bs us) (hout:zp1 w' w.heap.size bs us v)
    (hst:∀f∈st',f∈st∧Kill.surv {slots:=[d],keys:=70000::zm7 0 xss.length} f=true) :
    RelS E nt (.slot d (.agg [.o 70000 xss.length])::.row 70000 31 (.sl I64) []::(rowF 0 xss++st')) (a.put (some d) (.agg #[v])) w':=by
  obtain⟨η,g,H⟩:=hR
  have hlu:=hrows.lu
  have hpos:0<xss.length:=List.length_pos_iff.2 hne
  rcases hout with ⟨h,_⟩|⟨ls,cc,curo,q1,q2,q3,q4,q5⟩
  · rw[h] at hlu;simp at hlu;omega
  obtain ⟨cap,hcap⟩:∃cap:Nat→Nat,∀i,i<xss.length→∃b cur,bs[i]?=some b∧us[i]?=some (.slice (some ⟨b,0,none⟩) (rowN xss i).length (cap i))∧w.heap.size≤b∧w'.heap[b]?=some (.cells cur 3 (0,0))∧rowJ (rowN xss i) (cap i) cur:=by
    refine Classical.axiomOfChoice (r:=fun i c=>i<xss.length→∃b cur,bs[i]?=some b∧us[i]?=some (.slice (some ⟨b,0,none⟩) (rowN xss i).length c)∧w.heap.size≤b∧w'.heap[b]?=some (.cells cur 3 (0,0))∧rowJ (rowN xss i) c cur) fun i=>?_
    by_cases hi:i<xss.length
    · obtain⟨b,c,cur,h⟩:=hrows.at' i hi
      exact⟨c,fun _=>⟨b,cur,h⟩⟩
    · exact⟨0,fun h=>absurd h hi⟩
  let fr:Nat→Option (Nat×Nat):=fun k=>if k=70000 then some (ls,cc) else if 70001≤k∧k<70001+xss.length then (bs[k - 70001]?).map fun b=>(b,cap (k - 70001)) else none
  have fr0:fr 70000=some (ls,cc):=if_pos rfl
  have fri:∀i b,i<xss.length→bs[i]?=some b→fr (70001+i)=some (b,cap i):=fun i b hi hb=>by
    show (if _ then _ else _)=_
    rw[if_neg (by omega),if_pos (by omega),Nat.add_sub_cancel_left,hb];rfl
  have frc : ∀k b c,fr k=some (b,c)→(k=70000∧b=ls)∨∃i,i<xss.length∧k=70001+i∧bs[i]?=some b:=fun k b c h=>by
    have h:(if k=70000 then some (ls,cc) else if 70001≤k∧k<70001+xss.length then (bs[k - 70001]?).map fun b=>(b,cap (k - 70001)) else none)=some (b,c):=h
    split at h
    · rename_i hk
      cases h
      exact .inl ⟨hk,rfl⟩
    · split at h
      · rename_i hk
        refine .inr ⟨k - 70001,by omega,by omega,?_⟩
        cases hb:bs[k - 70001]? with
        | none=>rw[hb] at h;cases h
        | some b'=>
          rw[hb] at h
          simp only[Option.map_some,Option.some.injEq,Prod.mk.injEq] at h
          rw[h.1]
      · cases h
  have hblk:∀i b,i<xss.length→bs[i]?=some b→w.heap.size≤b∧b<w'.heap.size:=fun i b hi hb=>by
    obtain⟨b',cur,e1,_,e2,e3,_⟩:=hcap i hi
    rw[hb] at e1
    cases e1
    exact⟨e2,zag e3⟩
  have hp:CPost E.OB w w' []:=⟨hbel.os,hbel.tape,hbel.output,hbel.size,fun b h _=>hbel.keep b h h,fun b hb=>by cases hb⟩
  obtain ⟨g',hK⟩:=ztk (d:=d) (v:=.agg #[v]) g hp (fr:=fr) (ks:=70000::zm7 0 xss.length) (fun k b c h=>by
      rcases frc k b c h with ⟨_,rfl⟩|⟨i,hi,_,hb⟩
      · exact⟨q1,zag q3⟩
      · exact hblk i b hi hb)
    (fun k k' b c c' h h'=>by
      rcases frc k b c h with ⟨rfl,e⟩|⟨i,hi,rfl,hb⟩<;>rcases frc k' b c' h' with ⟨rfl,e'⟩|⟨i',hi',rfl,hb'⟩
      · rfl
      · exact absurd (e▸List.mem_of_getElem? hb') q2
      · exact absurd (e'▸List.mem_of_getElem? hb) q2
      · have:=hrows.nd
        have h1:i<bs.length:=by rw[hrows.lb];exact hi
        have h2:i'<bs.length:=by rw[hrows.lb];exact hi'
        rw[List.getElem?_eq_getElem h1] at hb
        rw[List.getElem?_eq_getElem h2] at hb'
        have e:bs[i]=bs[i']:=(Option.some.inj hb).trans (Option.some.inj hb').symm
        have hpw:=List.pairwise_iff_getElem.1 this
        rcases Nat.lt_trichotomy i i' with hc|hc|hc
        · exact absurd e (hpw i i' h1 h2 hc)
        · rw[hc]
        · exact absurd e.symm (hpw i' i h2 h1 hc))
    (fun k hk=>by
      simp only[List.mem_cons,not_or] at hk
      have:=zky hk.2
      show (if _ then _ else _)=_
      rw[if_neg hk.1,if_neg (by omega)])
  have e0:extE fr η 70000=some (ls,cc):=by unfold extE;rw[fr0]
  have ei:∀i b,i<xss.length→bs[i]?=some b→extE fr η (70001+i)=some (b,cap i):=fun i b hi hb=>by unfold extE;rw[fri i b hi hb]
  have hlow:∀b,w.heap.size≤b→E.low b:=fun b h=>.inl (Nat.le_trans g.grow h)
  have q5':=q5
  refine⟨extE fr η,g',fun f hf=>?_⟩
  rcases List.mem_cons.1 hf with rfl|hf
  · simp only[Fact.holds]
    rw[zbm (by rw[g.size];exact hd) (Nat.lt_of_lt_of_le hd g.lim)]
    refine⟨[v],rfl,.inr ⟨ls,cc,e0,?_,?_⟩,by rw[q4];rfl,trivial⟩
    · rw[q4,hlu]
    · rw[←hlu];exact q5.2.1
  rcases List.mem_cons.1 hf with rfl|hf
  · exact .inr ⟨ls,cc,curo,hlow ls q1,e0,q3,by show curo.size=cc*1;rw[q5.1,Nat.mul_one],Nat.zero_le _,q5.2.2.1,fun i x h=>by cases h⟩
  rcases List.mem_append.1 hf with hf|hf
  · obtain⟨j,hj,h⟩:=zmg hf
    rw[Nat.zero_add] at h
    obtain⟨b,cur,e1,e2,e3,e4,e5⟩:=hcap j hj
    rcases h with rfl|rfl
    · refine⟨ls,cc,curo,31,_,hlow ls q1,e0,q3,q5.2.2.2 j _ e2,rfl,.inr ⟨b,cap j,ei j b hj e1,rfl,e5.2.1⟩⟩
    · exact .inr ⟨b,cap j,cur,hlow b e3,ei j b hj e1,e4,zqI e5⟩
  · obtain⟨h1,h2⟩:=hst f hf
    exact hK.fact h2 (H f h1)
def datF:Nat→List (List Int)→St
  | _,[]=>[]
  | i,r::rs=>.cell 70000 i (.d (.sl I64) r)::datF (i+1) rs
theorem zmI:∀ {xss:List (List Int)} {i j:Nat},j<xss.length→Fact.cell 70000 (i+j) (.d (.sl I64) (rowN xss j))∈datF i xss
  | [],_,_,h=>absurd h (Nat.not_lt_zero _)
  | r::rs,i,0,_=>List.mem_cons_self
  | r::rs,i,j+1,h=>by
    refine List.mem_cons_of_mem _ ?_
    have:=zmI (i:=i+1) (j:=j) (xss:=rs) (by simpa using h)
    rw[show i+(j+1)=i+1+j by omega]
    exact this
theorem zmb {E:Env} {nt:Nat} {st st':St} {a:Act} {w:World} {xss:List (List Int)} (hR:RelS E nt st a w) (hne:xss≠[]) (h0:Fact.row 70000 31 (.sl I64) []∈st) (ho:∃t,Fact.cell t 0 (.o 70000 xss.length)∈st) (hd:∀f∈datF 0 xss,f∈st) (hs:∀f∈st',f∈st) :
    RelS E nt (.row 70000 31 (.sl I64) xss::st') a w:=by
  obtain⟨η,g,H⟩:=hR
  refine⟨η,g,fun f hf=>?_⟩
  rcases List.mem_cons.1 hf with rfl|hf
  · obtain ⟨t,ht⟩:=ho
    have hpos:0<xss.length:=List.length_pos_iff.2 hne
    obtain⟨bt,ct,curt,elt,vt,_,_,_,_,_,ho⟩:=H _ ht
    rcases ho with ⟨_,h,_⟩|⟨b,c,e1,_,hle⟩
    · omega
    rcases H _ h0 with ⟨h,_⟩|⟨b',c',cur,hlow,e2,hb,hr⟩
    · rw[e1] at h;cases h
    · rw [e1] at e2
      cases e2
      refine .inr ⟨b,c,cur,hlow,e1,hb,hr.1,hle,hr.2.2.1,fun i x hx=>?_⟩
      have hi:i<xss.length:=(List.getElem?_eq_some_iff.1 hx).1
      have hm:=hd _ (zmI (i:=0) hi)
      rw[Nat.zero_add] at hm
      obtain⟨b2,c2,cur2,el2,v,_,e3,hb2,hv,h1,hrep⟩:=H _ hm
      rw[e1] at e3
      cases e3
      rw[hb] at hb2
      cases hb2
      have ex:rowN xss i=x:=by simp[rowN,List.getD,hx]
      rw[ex] at hrep
      obtain⟨l,hl,⟨hf,_⟩|⟨_,h2⟩⟩:=hrep
      · cases hf
      · have hlt:i<cur.size:=(Array.getElem?_eq_some_iff.1 hv).1
        have e4:(cur.toList.drop (i*1)).take 1=[v]:=by
          rw[Nat.mul_one,List.drop_eq_getElem_cons (by simpa using hlt)]
          have:cur.toList[i]=v:=by
            have:=(Array.getElem?_eq_some_iff.1 hv).2
            simpa using this
          simp[this]
        show Rep _ (.sl I64) x ((cur.toList.drop (i*1)).take 1)
        rw[e4,←h2];exact hl
  · exact H f (hs f hf)
end Go.Eng.Lp
namespace Go.Eng.Lp
set_option linter.all false
set_option maxRecDepth 100000
abbrev Mat:=Nat→Nat→Int
theorem zjb (f:Nat→Int):∀n,sm f (n+1)=f 0+sm (fun i=>f (i+1)) n
  | 0=>by simp[sm]
  | n+1=>by
    have h:=zjb f n
    simp only[sm] at h ⊢
    omega
theorem znH (f g h:Nat→Int) (a b:Int):∀n,(∀i,i<n→h i=a*f i - b*g i)→sm h n=a*sm f n - b*sm g n
  | 0,_=>by simp[sm]
  | n+1,e=>by
    simp only[sm]
    rw[znH f g h a b n (fun i hi=>e i (by omega)),e n (by omega),Int.mul_add,Int.mul_add]
    omega
theorem zp6 {f:Nat→Int}:∀n,(∀i,i<n→f i≤0)→sm f n≤0
  | 0,_=>by simp[sm]
  | n+1,h=>by
    have a:=zp6 n (fun i hi=>h i (by omega))
    have b:=h n (by omega)
    simp only[sm];omega
def rowS (M:Mat) (w:Nat→Int) (n i:Nat):Int:=sm (fun j=>M i j*w j) n
def cond (M:Mat):Mat:=fun i j=>M 0 0*M (i+1) (j+1) - M (i+1) 0*M 0 (j+1)
def isZ (M:Mat) (n:Nat):Prop:=∀i j,i<n→j<n→i≠j→M i j≤0
def good:Nat→Mat→Prop
  | 0,_=>True
  | n+1,M=>0<M 0 0∧good n (cond M)
theorem zqn {M:Mat} {n:Nat} (h:isZ M (n+1)) (h0:0≤M 0 0):isZ (cond M) n:=by
  intro i j hi hj hij
  have a:=h (i+1) (j+1) (by omega) (by omega) (by omega)
  have b:=h (i+1) 0 (by omega) (by omega) (by omega)
  have c:=h 0 (j+1) (by omega) (by omega) (by omega)
  have p:=Int.mul_nonpos_of_nonneg_of_nonpos h0 a
  have q:=Int.mul_nonneg_of_nonpos_of_nonpos b c
  simp only[cond];omega
theorem zpW {M:Mat} {w:Nat→Int} {n i:Nat}:rowS (cond M) (fun j=>w (j+1)) n i=M 0 0*rowS M w (n+1) (i+1) - M (i+1) 0*rowS M w (n+1) 0:=by
  simp only[rowS]
  rw[zjb,zjb]
  rw [znH (fun j=>M (i+1) (j+1)*w (j+1)) (fun j=>M 0 (j+1)*w (j+1)) (fun j=>cond M i j*w (j+1)) (M 0 0) (M (i+1) 0) n (fun j _=>by
    simp only[cond];rw[Int.sub_mul,Int.mul_assoc,Int.mul_assoc])]
  rw[Int.mul_add,Int.mul_add]
  have:M 0 0*(M (i+1) 0*w 0)=M (i+1) 0*(M 0 0*w 0):=Int.mul_left_comm _ _ _
  omega
theorem zmL {M:Mat} {w:Nat→Int} {n:Nat} (hZ:isZ M (n+1)) (h0:0<M 0 0) (hS:∀i,i<n+1→0<rowS M w (n+1) i):∀i,i<n→0<rowS (cond M) (fun j=>w (j+1)) n i:=by
  intro i hi
  rw[zpW]
  have a:=Int.mul_pos h0 (hS (i+1) (by omega))
  have b:=hZ (i+1) 0 (by omega) (by omega) (by omega)
  have c:=Int.mul_nonpos_of_nonpos_of_nonneg b (Int.le_of_lt (hS 0 (by omega)))
  omega
theorem ziw {a w:Int} (hw:0<w) (h:0<a*w):0<a:=by
  rcases Int.lt_or_le 0 a with h1|h1
  · exact h1
  · have:=Int.mul_nonpos_of_nonpos_of_nonneg h1 (Int.le_of_lt hw);omega
theorem zhu {a w:Int} (ha:0<a) (h:0<a*w):0<w:=ziw ha (by rw[Int.mul_comm];exact h)
theorem zmz {M:Mat} {w:Nat→Int} {n:Nat} (hZ:isZ M (n+1)) (hw:∀i,i<n→0<w (i+1)):rowS M w (n+1) 0≤M 0 0*w 0:=by
  simp only[rowS]
  rw[zjb]
  have:=zp6 (f:=fun i=>M 0 (i+1)*w (i+1)) n (fun i hi=>Int.mul_nonpos_of_nonpos_of_nonneg (hZ 0 (i+1) (by omega) (by omega) (by omega)) (Int.le_of_lt (hw i hi)))
  omega
theorem zeo:∀(n:Nat) (M:Mat) (w:Nat→Int),isZ M n→(∀i,i<n→0<w i)→(∀i,i<n→0<rowS M w n i)→good n M
  | 0,_,_,_,_,_=>trivial
  | n+1,M,w,hZ,hw,hS=>by
    have h0:0<M 0 0:=ziw (hw 0 (by omega)) (Int.lt_of_lt_of_le (hS 0 (by omega)) (zmz hZ fun i hi=>hw (i+1) (by omega)))
    exact⟨h0,zeo n (cond M) (fun j=>w (j+1)) (zqn hZ (Int.le_of_lt h0)) (fun i hi=>hw (i+1) (by omega)) (zmL hZ h0 hS)⟩
theorem zhv:∀(n:Nat) (M:Mat) (x:Nat→Int),isZ M n→good n M→(∀i,i<n→0<rowS M x n i)→∀i,i<n→0<x i
  | 0,_,_,_,_,_=>fun i hi=>by omega
  | n+1,M,x,hZ,hg,hS=>by
    have h0:=hg.1
    have ih:=zhv n (cond M) (fun j=>x (j+1)) (zqn hZ (Int.le_of_lt h0)) hg.2 (zmL hZ h0 hS)
    intro i hi
    cases i with
    | zero=>exact zhu h0 (Int.lt_of_lt_of_le (hS 0 (by omega)) (zmz hZ ih))
    | succ i=>exact ih i (by omega)
/-! ### Determinants of at most 4 rows, by the first row -/
def d1 (M:Mat):Int:=M 0 0
def d2 (M:Mat):Int:=M 0 0*M 1 1 - M 0 1*M 1 0
def d3 (M:Mat):Int:=M 0 0*(M 1 1*M 2 2 - M 1 2*M 2 1) - M 0 1*(M 1 0*M 2 2 - M 1 2*M 2 0)+M 0 2*(M 1 0*M 2 1 - M 1 1*M 2 0)
def m3 (a b c d e f g h i:Int):Int:=a*(e*i - f*h) - b*(d*i - f*g)+c*(d*h - e*g)
def d4 (M:Mat):Int:=M 0 0*m3 (M 1 1) (M 1 2) (M 1 3) (M 2 1) (M 2 2) (M 2 3) (M 3 1) (M 3 2) (M 3 3) - M 0 1*m3 (M 1 0) (M 1 2) (M 1 3) (M 2 0) (M 2 2) (M 2 3) (M 3 0) (M 3 2) (M 3 3)
  + M 0 2*m3 (M 1 0) (M 1 1) (M 1 3) (M 2 0) (M 2 1) (M 2 3) (M 3 0) (M 3 1) (M 3 3) - M 0 3*m3 (M 1 0) (M 1 1) (M 1 2) (M 2 0) (M 2 1) (M 2 2) (M 3 0) (M 3 1) (M 3 2)
theorem zlO (M:Mat):d1 (cond M)=d2 M:=by simp only[d1,d2,cond];grind
theorem zoR (M:Mat):d2 (cond M)=M 0 0*d3 M:=by simp only[d2,d3,cond];grind
theorem zrg (M:Mat):d3 (cond M)=M 0 0*(M 0 0*d4 M):=by simp only[d3,d4,m3,cond];grind
def dets:Nat→Mat→Prop
  | 0,_=>True
  | 1,M=>0<d1 M
  | 2,M=>0<d1 M∧0<d2 M
  | 3,M=>0<d1 M∧0<d2 M∧0<d3 M
  | _,M=>0<d1 M∧0<d2 M∧0<d3 M∧0<d4 M
theorem zoy (n:Nat) (hn:n≤4) (M:Mat):good n M↔dets n M:=by
  have g1:∀M,good 1 M↔dets 1 M:=fun M=>by simp[good,dets,d1]
  have g2:∀M,good 2 M↔dets 2 M:=fun M=>by
    show (0<M 0 0∧good 1 (cond M))↔_
    rw[g1]
    simp only[dets,zlO];simp only[d1]
  have step:∀a b:Int,0<a→(0<a*b↔0<b):=fun a b h=>⟨fun h2=>zhu h h2,fun h2=>Int.mul_pos h h2⟩
  have g3:∀M,good 3 M↔dets 3 M:=fun M=>by
    show (0<M 0 0∧good 2 (cond M))↔_
    rw[g2]
    simp only[dets,zlO,zoR]
    constructor
    · rintro⟨h0,h1,h2⟩;exact⟨h0,h1,(step _ _ h0).1 h2⟩
    · rintro⟨h0,h1,h2⟩;exact⟨h0,h1,(step _ _ h0).2 h2⟩
  match n,hn with
  | 0,_=>simp[good,dets]
  | 1,_=>exact g1 M
  | 2,_=>exact g2 M
  | 3,_=>exact g3 M
  | 4,_=>
    show (0<M 0 0∧good 3 (cond M))↔_
    rw[g3]
    simp only[dets,zlO,zoR,zrg]
    constructor
    · rintro⟨h0,h1,h2,h3⟩;exact⟨h0,h1,(step _ _ h0).1 h2,(step _ _ h0).1 ((step _ _ h0).1 h3)⟩
    · rintro⟨h0,h1,h2,h3⟩;exact⟨h0,h1,(step _ _ h0).2 h2,(step _ _ h0).2 ((step _ _ h0).2 h3)⟩
end Go.Eng.Lp
namespace Go.Eng.Lp
open Go.Eng Go.Proofs
set_option linter.all false
set_option maxRecDepth 100000
set_option maxHeartbeats 8000000
def entry (m:List (List Int)):Mat:=fun i j=>(m.getD i []).getD j 0
def dtN:Nat→Mat→Int
  | 0,_=>1
  | 1,M=>d1 M
  | 2,M=>d2 M
  | 3,M=>d3 M
  | _,M=>d4 M
theorem zpE {α:Type} {l:List α} (h:l.length=1):∃a,l=[a]:=by
  match l,h with
  | [a],_=>exact⟨a,rfl⟩
theorem zm0 {α:Type} {l:List α} (h:l.length=2):∃a b,l=[a,b]:=by
  match l,h with
  | [a,b],_=>exact⟨a,b,rfl⟩
theorem zkw {α:Type} {l:List α} (h:l.length=3):∃a b c,l=[a,b,c]:=by
  match l,h with
  | [a,b,c],_=>exact⟨a,b,c,rfl⟩
theorem zia {α:Type} {l:List α} (h:l.length=4):∃a b c d,l=[a,b,c,d]:=by
  match l,h with
  | [a,b,c,d],_=>exact⟨a,b,c,d,rfl⟩
theorem det1 (a:Int):detN 1 [[a]]=d1 (entry [[a]]):=by simp[detN,sumD,d1,entry]
theorem det2 (a b c d:Int):detN 2 [[a,b],[c,d]]=d2 (entry [[a,b],[c,d]]):=by
  simp[detN,sumD,zap,zaB,d2,entry];grind
theorem det3 (a b c d e f g h i:Int):detN 3 [[a,b,c],[d,e,f],[g,h,i]]=d3 (entry [[a,b,c],[d,e,f],[g,h,i]]):=by
  simp[detN,sumD,zap,zaB,d3,entry];grind
theorem det4 (a b c d e f g h i j k l m n o p:Int):detN 4 [[a,b,c,d],[e,f,g,h],[i,j,k,l],[m,n,o,p]]=d4 (entry [[a,b,c,d],[e,f,g,h],[i,j,k,l],[m,n,o,p]]):=by
  simp[detN,sumD,zap,zaB,d4,m3,entry];grind
theorem zoL {n:Nat} (hn:n≤4) {c:List (List Int)} (h:zby n c):detN n c=dtN n (entry c):=by
  have hr:∀r,r∈c→r.length=n:=fun r hr=>(h.2 r hr).1
  have hl:=h.1
  clear h
  match n,hn with
  | 0,_=>rfl
  | 1,_=>
    obtain⟨r0,rfl⟩:=zpE hl
    obtain⟨a,rfl⟩:=zpE (hr r0 (by simp))
    exact det1 a
  | 2,_=>
    obtain⟨r0,r1,rfl⟩:=zm0 hl
    obtain⟨a,b,rfl⟩:=zm0 (hr r0 (by simp))
    obtain⟨c,d,rfl⟩:=zm0 (hr r1 (by simp))
    exact det2 a b c d
  | 3,_=>
    obtain⟨r0,r1,r2,rfl⟩:=zkw hl
    obtain⟨a,b,c,rfl⟩:=zkw (hr r0 (by simp))
    obtain⟨d,e,f,rfl⟩:=zkw (hr r1 (by simp))
    obtain⟨g,h,i,rfl⟩:=zkw (hr r2 (by simp))
    exact det3 a b c d e f g h i
  | 4,_=>
    obtain⟨r0,r1,r2,r3,rfl⟩:=zia hl
    obtain⟨a,b,c,d,rfl⟩:=zia (hr r0 (by simp))
    obtain⟨e,f,g,h,rfl⟩:=zia (hr r1 (by simp))
    obtain⟨i,j,k,l,rfl⟩:=zia (hr r2 (by simp))
    obtain⟨m,n,o,p,rfl⟩:=zia (hr r3 (by simp))
    exact det4 a b c d e f g h i j k l m n o p
theorem zc9 (m:List (List Int)) {n i j:Nat} (hi:i≤n) (hj:j≤n):entry (zkQ m n) i j=entry m i j:=by
  simp only[entry,zkQ]
  rw[zbI _ [] (n+1) i (by omega),zfk 0 (by omega)]
theorem zoH (m:List (List Int)) {n:Nat} (hn:n≤3):dtN (n+1) (entry (zkQ m n))=dtN (n+1) (entry m):=by
  match n,hn with
  | 0,_=>simp only[dtN,d1];rw[zc9 m (by decide) (by decide)]
  | 1,_=>simp only[dtN,d2];simp only[zc9 m (n:=1),Nat.le_refl,Nat.zero_le]
  | 2,_=>simp only[dtN,d3];simp only[zc9 m (n:=2),Nat.le_refl,Nat.zero_le,show (1:Nat)≤2 by decide]
  | 3,_=>simp only[dtN,d4];simp only[zc9 m (n:=3),Nat.le_refl,Nat.zero_le,show (1:Nat)≤3 by decide,show (2:Nat)≤3 by decide]
theorem zpz {N:Nat} {m:List (List Int)} (h:zby N m) (hN:N≤4) {n:Nat} (hn:n<N):zfx m n=dtN (n+1) (entry m):=by
  simp only[zfx]
  rw[zoL (by omega) (zhc h hn),zoH m (by omega)]
theorem zmj {N:Nat} {m:List (List Int)} (h:zby N m) (hN:N≤4):zb4 (zaG m)=true↔dets N (entry m):=by
  have hl:(zaG m).length=N:=by rw[zaG,zar];exact h.1
  have hg:∀i,i<N→(zaG m).getD i 0=dtN (i+1) (entry m):=fun i hi=>by
    rw[zaG,zbI _ 0 _ i (by rw[h.1];exact hi)]
    exact zpz h hN hi
  simp only[zb4,decide_eq_true_eq,hl]
  have e:(∀i,i<N→0<(zaG m).getD i 0)↔∀i,i<N→0<dtN (i+1) (entry m):=⟨fun a i hi=>by rw[←hg i hi];exact a i hi,fun a i hi=>by rw[hg i hi];exact a i hi⟩
  rw[e]
  match N,hN with
  | 0,_=>simp[dets]
  | 1, _=>exact⟨fun a=>a 0 (by decide),fun a i hi=>by
      obtain rfl:i=0:=by omega
      exact a⟩
  | 2, _=>exact⟨fun a=>⟨a 0 (by decide),a 1 (by decide)⟩,fun a i hi=>by
      rcases (show i=0∨i=1 by omega) with rfl|rfl
      · exact a.1
      · exact a.2⟩
  | 3, _=>exact⟨fun a=>⟨a 0 (by decide),a 1 (by decide),a 2 (by decide)⟩,fun a i hi=>by
      rcases (show i=0∨i=1∨i=2 by omega) with rfl|rfl|rfl
      · exact a.1
      · exact a.2.1
      · exact a.2.2⟩
  | 4, _=>exact⟨fun a=>⟨a 0 (by decide),a 1 (by decide),a 2 (by decide),a 3 (by decide)⟩,fun a i hi=>by
      rcases (show i=0∨i=1∨i=2∨i=3 by omega) with rfl|rfl|rfl|rfl
      · exact a.1
      · exact a.2.1
      · exact a.2.2.1
      · exact a.2.2.2⟩
def zje (rows:List (List Int)):Mat:=fun i j=>zdw i j ((rows.getD i []).getD j 0)
theorem znW (i:Nat) (s w:Nat→Int):∀n,sm (fun j=>zdw i j (s j)*w j) n=(if i<n then 1000*w i else 0) - sm (fun j=>s j*w j) n
  | 0=>by simp[sm]
  | n + 1=>by
    have ih:=znW i s w n
    simp only[sm]
    rw[ih]
    simp only[zdw]
    by_cases h:i=n
    · subst h
      rw[if_neg (by omega),if_pos rfl,if_pos (by omega),Int.neg_mul,Int.sub_mul];omega
    · rw[if_neg (show ¬(i:Int)=n by omega),Int.neg_mul]
      by_cases h2:i<n
      · rw[if_pos h2,if_pos (by omega)];omega
      · rw[if_neg h2,if_neg (by omega)];omega
theorem Lines.entry {rows:List (List Int)} (h:Lines rows) {i j:Nat} (hi:i<rows.length) (hj:j<rows.length):entry (matI 0 rows) i j=zje rows i j:=h.cell hi hj
theorem zge:∀(n:Nat) {M M':Mat},(∀i j,i<n→j<n→M i j=M' i j)→good n M→good n M'
  | 0,_,_,_,_=>trivial
  | n+1,M,M',h,hg=>by
    refine⟨by rw[←h 0 0 (by omega) (by omega)];exact hg.1,zge n (fun i j hi hj=>?_) hg.2⟩
    simp only[cond]
    rw[h 0 0 (by omega) (by omega),h (i+1) (j+1) (by omega) (by omega),h (i+1) 0 (by omega) (by omega),h 0 (j+1) (by omega) (by omega)]
theorem zqQ (w:List Int):∀(rows:List (List Int)) (o:Nat),zej w o rows=0→∀i,i<rows.length→sm (dotF (rows.getD i []) w) w.length<1000*w.getD (o+i) 0
  | [],_,_,i,hi=>by simp at hi
  | r :: t,o,h,i,hi=>by
    simp only[zej] at h
    split at h
    · omega
    · rename_i h1
      cases i with
      | zero=>simpa using h1
      | succ i=>
        have:=zqQ w t (o+1) h i (by simpa using hi)
        rw[show o+(i+1)=o+1+i by omega]
        exact this
theorem Lines.isZ {rows:List (List Int)} (h:Lines rows):Lp.isZ (zje rows) rows.length:=by
  intro i j hi hj hij
  have:=h.get hi hj
  simp only[zje,zdw]
  rw[if_neg (by omega)];omega
theorem zkH {rows:List (List Int)} (h:Lines rows):zb4 (zaG (matI 0 rows))=true↔good rows.length (zje rows):=by
  rw[zmj h.sq h.le,←zoy _ h.le]
  exact⟨zge _ fun i j hi hj=>h.entry hi hj,zge _ fun i j hi hj=>(h.entry hi hj).symm⟩
theorem zg2 {rows:List (List Int)} {w:List Int} (h:Lines rows) (hl:w.length=rows.length) {i:Nat} (hi:i<rows.length):rowS (zje rows) (fun j=>w.getD j 0) rows.length i=1000*w.getD i 0 - sm (dotF (rows.getD i []) w) w.length:=by
  simp only[rowS,zje]
  rw[znW i (fun j=>(rows.getD i []).getD j 0) (fun j=>w.getD j 0),if_pos hi,hl]
  rfl
theorem zcy {rows:List (List Int)} {w:List Int} (h:Lines rows) (hw:zbH rows w=0):zb4 (zaG (matI 0 rows))=true:=by
  simp only[zbH] at hw
  split at hw
  · rename_i hl
    split at hw
    · rename_i h1
      rw[zkH h]
      refine zeo _ _ (fun j=>w.getD j 0) h.isZ (fun i hi=>by have:=zfS h1 i (by omega);omega) (fun i hi=>?_)
      rw[zg2 h hl hi]
      have:=zqQ w rows 0 hw i hi
      rw[Nat.zero_add] at this
      omega
    · rename_i h1;exact absurd hw h1
  · omega
@[reducible] def zli:Spec:={pats:=[.dat zcv,.dat (.sl I64)],res:=[{t:=.bool}],pre:=fun _=>True,f:=fun _=>(true,())}
theorem zhf {rows:List (List Int)} (h:zfc rows=true):zdn rows:=by
  have h:=of_decide_eq_true h
  exact⟨by omega,fun i hi=>by have:=h.2 i hi;omega⟩
theorem h8 : Ok 8 zli:=by
  refine mk (ctr:=[(16,zgy),(40,zld),(42,zfZ),(41,zlg),(43,znS),(45,zdl),(44,zdF),(46,zbn),(47,zbn),(48,zde),(49,zjj),(37,znQ),(50,zll)]) ⟨h16,h40,h42,h41,h43,h45,h44,h46,h47,h48,h49,h37,h50,trivial⟩ (nt:=103) Try.func8 rfl rfl rfl rfl (by kernel_rfl) (by kernel_rfl) (fun _=>[]) ?_
  rintro⟨⟨(rows:List (List Int)),_⟩,(w:List Int),_⟩ _
  by_cases hw8:(w.length:Int)≤8
  · cases hs:zfc rows with
    | true =>
      have hpl:=zhf hs
      by_cases hc:zai rows=0
      · have hL:=zcj hc
        have hM:zdU rows=(zaG (matI 0 rows),0):=by simp only[zdU];rw[if_pos hc]
        have hF:zeW rows=(zb4 (zaG (matI 0 rows)),0):=by simp only[zeW];rw[if_pos hc]
        have hW:zfN rows w=zbH rows w:=by simp only[zfN];rw[if_pos hc]
        have hln:(zaG (matI 0 rows)).length≤4:=by rw[zaG,zar,zfA];exact hL.le
        by_cases hz:zbH rows w=0
        · have hfade:=zcy hL hz
          rw[hfade] at hF
          repeat' (intro hzz;(try (rename Two=>hq;cases hq));(try dsimp only at hzz);(try simp only[zad,zac,eqD,inR,big,zaa,Bool.not_true,Bool.not_false,Bool.true_eq,decide_eq_true_eq,decide_eq_false_iff_not,Bool.not_eq_true',Bool.not_eq_false',Bool.and_eq_true,Prod.mk.injEq,and_true,true_and,Int.not_lt,Int.not_le,gt_iff_lt,ge_iff_le] at hzz);(try simp only[zad,zac,eqD,inR,big,zaa,Bool.not_true,Bool.not_false,Bool.true_eq,decide_eq_true_eq,decide_eq_false_iff_not,Bool.not_eq_true',Bool.not_eq_false',Bool.and_eq_true,Prod.mk.injEq,and_true,true_and,Int.not_lt,Int.not_le,gt_iff_lt,ge_iff_le,hs,hc,hM,hF,hW,hz,hfade] at hzz);(try (first|contradiction|(exfalso;omega)));(try (revert hzz;intro _)))
          all_goals try (rename Unit=>hq;clear hq)
          all_goals try ((with_reducible refine Held.mk ?_);(with_reducible (first|refine Frz.mk ?_|refine And.intro (Frz.mk ?_) ?_|refine And.intro ?_ (Frz.mk ?_)));repeat' first|exact True.intro|(change _=_;with_reducible rfl)|refine And.intro ?_ ?_|(with_reducible refine Frz.mk ?_))
          all_goals try (refine Held.mk ?_;(try dsimp only at *);(try simp only[zad,zac,eqD,inR,big,zaa,Bool.not_true,Bool.not_false,Bool.true_eq,decide_eq_true_eq,decide_eq_false_iff_not,Bool.not_eq_true',Bool.not_eq_false',Bool.and_eq_true,Prod.mk.injEq,and_true,true_and,Int.not_lt,Int.not_le,gt_iff_lt,ge_iff_le] at *);(try simp only[zad,zac,eqD,inR,big,zaa,Bool.not_true,Bool.not_false,Bool.true_eq,decide_eq_true_eq,decide_eq_false_iff_not,Bool.not_eq_true',Bool.not_eq_false',Bool.and_eq_true,Prod.mk.injEq,and_true,true_and,Int.not_lt,Int.not_le,gt_iff_lt,ge_iff_le,hs,hc,hM,hF,hW,hz,hfade] at *))
          all_goals try omega
          all_goals first|exact hpl|exact hL|exact zgN (by omega)|(rename_i h;simp at h;done)
        ·
          repeat' (intro hzz;(try (rename Two=>hq;cases hq));(try dsimp only at hzz);(try simp only[zad,zac,eqD,inR,big,zaa,Bool.not_true,Bool.not_false,Bool.true_eq,decide_eq_true_eq,decide_eq_false_iff_not,Bool.not_eq_true',Bool.not_eq_false',Bool.and_eq_true,Prod.mk.injEq,and_true,true_and,Int.not_lt,Int.not_le,gt_iff_lt,ge_iff_le] at hzz);(try simp only[zad,zac,eqD,inR,big,zaa,Bool.not_true,Bool.not_false,Bool.true_eq,decide_eq_true_eq,decide_eq_false_iff_not,Bool.not_eq_true',Bool.not_eq_false',Bool.and_eq_true,Prod.mk.injEq,and_true,true_and,Int.not_lt,Int.not_le,gt_iff_lt,ge_iff_le,hs,hc,hM,hF,hW] at hzz);(try (first|contradiction|(exfalso;omega)));(try (revert hzz;intro _)))
          all_goals try (rename Unit=>hq;clear hq)
          all_goals try ((with_reducible refine Held.mk ?_);(with_reducible (first|refine Frz.mk ?_|refine And.intro (Frz.mk ?_) ?_|refine And.intro ?_ (Frz.mk ?_)));repeat' first|exact True.intro|(change _=_;with_reducible rfl)|refine And.intro ?_ ?_|(with_reducible refine Frz.mk ?_))
          all_goals try (refine Held.mk ?_;(try dsimp only at *);(try simp only[zad,zac,eqD,inR,big,zaa,Bool.not_true,Bool.not_false,Bool.true_eq,decide_eq_true_eq,decide_eq_false_iff_not,Bool.not_eq_true',Bool.not_eq_false',Bool.and_eq_true,Prod.mk.injEq,and_true,true_and,Int.not_lt,Int.not_le,gt_iff_lt,ge_iff_le] at *);(try simp only[zad,zac,eqD,inR,big,zaa,Bool.not_true,Bool.not_false,Bool.true_eq,decide_eq_true_eq,decide_eq_false_iff_not,Bool.not_eq_true',Bool.not_eq_false',Bool.and_eq_true,Prod.mk.injEq,and_true,true_and,Int.not_lt,Int.not_le,gt_iff_lt,ge_iff_le,hs,hc,hM,hF,hW] at *))
          all_goals try omega
          all_goals first|exact hpl|exact hL|exact zgN (by omega)|(rename_i h;simp at h;done)
      · have hM:zdU rows=([],zai rows):=by simp only[zdU];rw[if_neg hc]
        have hF:zeW rows=(false,zai rows):=by simp only[zeW];rw[if_neg hc]
        have hW:zfN rows w=zai rows:=by simp only[zfN];rw[if_neg hc]
        repeat' (intro hzz;(try (rename Two=>hq;cases hq));(try dsimp only at hzz);(try simp only[zad,zac,eqD,inR,big,zaa,Bool.not_true,Bool.not_false,Bool.true_eq,decide_eq_true_eq,decide_eq_false_iff_not,Bool.not_eq_true',Bool.not_eq_false',Bool.and_eq_true,Prod.mk.injEq,and_true,true_and,Int.not_lt,Int.not_le,gt_iff_lt,ge_iff_le] at hzz);(try simp only[zad,zac,eqD,inR,big,zaa,Bool.not_true,Bool.not_false,Bool.true_eq,decide_eq_true_eq,decide_eq_false_iff_not,Bool.not_eq_true',Bool.not_eq_false',Bool.and_eq_true,Prod.mk.injEq,and_true,true_and,Int.not_lt,Int.not_le,gt_iff_lt,ge_iff_le,hs,hM,hF,hW] at hzz);(try (first|contradiction|(exfalso;omega)));(try (revert hzz;intro _)))
        all_goals try (rename Unit=>hq;clear hq)
        all_goals try ((with_reducible refine Held.mk ?_);(with_reducible (first|refine Frz.mk ?_|refine And.intro (Frz.mk ?_) ?_|refine And.intro ?_ (Frz.mk ?_)));repeat' first|exact True.intro|(change _=_;with_reducible rfl)|refine And.intro ?_ ?_|(with_reducible refine Frz.mk ?_))
        all_goals try (refine Held.mk ?_;(try dsimp only at *);(try simp only[zad,zac,eqD,inR,big,zaa,Bool.not_true,Bool.not_false,Bool.true_eq,decide_eq_true_eq,decide_eq_false_iff_not,Bool.not_eq_true',Bool.not_eq_false',Bool.and_eq_true,Prod.mk.injEq,and_true,true_and,Int.not_lt,Int.not_le,gt_iff_lt,ge_iff_le] at *);(try simp only[zad,zac,eqD,inR,big,zaa,Bool.not_true,Bool.not_false,Bool.true_eq,decide_eq_true_eq,decide_eq_false_iff_not,Bool.not_eq_true',Bool.not_eq_false',Bool.and_eq_true,Prod.mk.injEq,and_true,true_and,Int.not_lt,Int.not_le,gt_iff_lt,ge_iff_le,hs,hM,hF,hW] at *))
        all_goals try omega
        all_goals first|exact hpl|exact zgN (by omega)|rfl|(rename_i h;simp at h;done)
    | false=>
      repeat' (intro hzz;(try (rename Two=>hq;cases hq));(try dsimp only at hzz);(try simp only[zad,zac,eqD,inR,big,zaa,Bool.not_true,Bool.not_false,Bool.true_eq,decide_eq_true_eq,decide_eq_false_iff_not,Bool.not_eq_true',Bool.not_eq_false',Bool.and_eq_true,Prod.mk.injEq,and_true,true_and,Int.not_lt,Int.not_le,gt_iff_lt,ge_iff_le] at hzz);(try simp only[zad,zac,eqD,inR,big,zaa,Bool.not_true,Bool.not_false,Bool.true_eq,decide_eq_true_eq,decide_eq_false_iff_not,Bool.not_eq_true',Bool.not_eq_false',Bool.and_eq_true,Prod.mk.injEq,and_true,true_and,Int.not_lt,Int.not_le,gt_iff_lt,ge_iff_le,hs] at hzz);(try (first|contradiction|(exfalso;omega)));(try (revert hzz;intro _)))
      all_goals try (rename Unit=>hq;clear hq)
      all_goals try ((with_reducible refine Held.mk ?_);(with_reducible (first|refine Frz.mk ?_|refine And.intro (Frz.mk ?_) ?_|refine And.intro ?_ (Frz.mk ?_)));repeat' first|exact True.intro|(change _=_;with_reducible rfl)|refine And.intro ?_ ?_|(with_reducible refine Frz.mk ?_))
      all_goals try (refine Held.mk ?_;(try dsimp only at *);(try simp only[zad,zac,eqD,inR,big,zaa,Bool.not_true,Bool.not_false,Bool.true_eq,decide_eq_true_eq,decide_eq_false_iff_not,Bool.not_eq_true',Bool.not_eq_false',Bool.and_eq_true,Prod.mk.injEq,and_true,true_and,Int.not_lt,Int.not_le,gt_iff_lt,ge_iff_le] at *);(try simp only[zad,zac,eqD,inR,big,zaa,Bool.not_true,Bool.not_false,Bool.true_eq,decide_eq_true_eq,decide_eq_false_iff_not,Bool.not_eq_true',Bool.not_eq_false',Bool.and_eq_true,Prod.mk.injEq,and_true,true_and,Int.not_lt,Int.not_le,gt_iff_lt,ge_iff_le,hs] at *))
      all_goals try omega
      all_goals first|rfl|(rename_i h;simp at h;done)
  ·
    repeat' (intro hzz;(try (rename Two=>hq;cases hq));(try dsimp only at hzz);(try simp only[zad,zac,eqD,inR,big,zaa,Bool.not_true,Bool.not_false,Bool.true_eq,decide_eq_true_eq,decide_eq_false_iff_not,Bool.not_eq_true',Bool.not_eq_false',Bool.and_eq_true,Prod.mk.injEq,and_true,true_and,Int.not_lt,Int.not_le,gt_iff_lt,ge_iff_le] at hzz);(try (first|contradiction|(exfalso;omega)));(try (revert hzz;intro _)))
    all_goals try (rename Unit=>hq;clear hq)
    all_goals try ((with_reducible refine Held.mk ?_);(with_reducible (first|refine Frz.mk ?_|refine And.intro (Frz.mk ?_) ?_|refine And.intro ?_ (Frz.mk ?_)));repeat' first|exact True.intro|(change _=_;with_reducible rfl)|refine And.intro ?_ ?_|(with_reducible refine Frz.mk ?_))
    all_goals try (refine Held.mk ?_;(try dsimp only at *);(try simp only[zad,zac,eqD,inR,big,zaa,Bool.not_true,Bool.not_false,Bool.true_eq,decide_eq_true_eq,decide_eq_false_iff_not,Bool.not_eq_true',Bool.not_eq_false',Bool.and_eq_true,Prod.mk.injEq,and_true,true_and,Int.not_lt,Int.not_le,gt_iff_lt,ge_iff_le] at *))
    all_goals try omega
    all_goals first|rfl|(rename_i h;simp at h;done)
def Hid (p:Prop):Prop:=p
theorem zhT (c:Int) (q:Nat):∀(t:List (List Int)) (i:Nat),q<i→zap q c i t=t.map (zaB c 0)
  | [],_,_=>rfl
  | r::t,i,h=>by
    have h':¬((i:Nat):Int)=(q:Int):=by omega
    simp only[zap,if_neg h',List.map_cons,zhT c q t (i+1) (by omega)]
theorem zff (c:Int) (q:Nat):∀(t:List (List Int)) (i:Nat),i≤q→q<i+t.length→(zap q c i t).length+1=t.length
  | [],i,h,h'=>by simp at h';omega
  | r :: t,i,h,h'=>by
    simp only[zap]
    by_cases e:((i:Nat):Int)=(q:Int)
    · rw[if_pos e,zhT c q t (i+1) (by omega)];simp
    · rw[if_neg e]
      have:=zff c q t (i+1) (by omega) (by simp at h';omega)
      simp;omega
theorem zfe {c q:Int} {s:List Int}:∀ {t:List (List Int)} {i:Nat},s∈zap q c i t→∃r∈t,s=zaB c 0 r
  | [],_,h=>by cases h
  | r :: t,i,h=>by
    simp only[zap] at h
    split at h
    · obtain⟨p,hp,e⟩:=zfe h
      exact⟨p,List.mem_cons_of_mem _ hp,e⟩
    · rcases List.mem_cons.1 h with rfl|h
      · exact⟨r,List.mem_cons_self,rfl⟩
      · obtain⟨p,hp,e⟩:=zfe h
        exact⟨p,List.mem_cons_of_mem _ hp,e⟩
theorem znE {N k i:Nat} {rows:List (List Int)} (h:zby (N+1) rows) (hk:k<N+1) (hi:i<N+1):zby N (zap k i 0 rows):=by
  obtain⟨h1,h2⟩:=h
  refine⟨?_,fun q hq=>?_⟩
  · have:=zff i k rows 0 (Nat.zero_le _) (by omega)
    omega
  · obtain⟨p,hp,rfl⟩:=zfe hq
    obtain⟨h3,h4⟩:=h2 p hp
    exact⟨by rw[zfg,if_pos (by omega)];omega,fun x hx=>h4 x (zdX _ _ _ _ hx)⟩
def cofN (m:List (List Int)) (i k:Nat):Int:=if (i+k) % 2=1 then -detN (m.length - 1) (zap k i 0 m) else detN (m.length - 1) (zap k i 0 m)
def wtN (m:List (List Int)) (i:Nat):Int:=sm (cofN m i) m.length
def wtsN (m:List (List Int)):List Int:=tab (wtN m) m.length
theorem zmM {N:Nat} {m:List (List Int)} (hN:N≤4) (h:zby N m) {i k:Nat} (hi:i<N) (hk:k<N) : -400000000000000≤detN (m.length - 1) (zap k i 0 m)∧detN (m.length - 1) (zap k i 0 m)≤400000000000000:=by
  obtain⟨n,rfl⟩:∃n,N=n+1:=⟨N - 1,by omega⟩
  have hd:=zjQ n _ (znE h hk hi)
  have hb:=zoO (n:=n) (by omega)
  rw[h.1,Nat.add_sub_cancel]
  omega
theorem zrk {N:Nat} {m:List (List Int)} (hN:N≤4) (h:zby N m) {i k:Nat} (hi:i<N) (hk:k<N) : -400000000000000≤cofN m i k∧cofN m i k≤400000000000000:=by
  have:=zmM hN h hi hk
  unfold cofN
  split<;>omega
theorem zqq {N:Nat} {m:List (List Int)} (hN:N≤4) (h:zby N m) {i:Nat} (hi:i<N):∀k,k≤N→-400000000000000*(k:Int)≤sm (cofN m i) k∧sm (cofN m i) k≤400000000000000*(k:Int)
  | 0,_=>by simp[sm]
  | k+1,hk=>by
    have a:=zqq hN h hi k (by omega)
    have b:=zrk hN h hi (k:=k) (by omega)
    simp only[sm]
    omega
theorem zhV {N:Nat} {m:List (List Int)} (h:zby N m) {i k:Nat} (hi:i<N) (hk:k<N):(zap k i 0 m).length=m.length - 1:=by
  have:=zff i k m 0 (Nat.zero_le _) (by rw[h.1];omega)
  omega
theorem zsl {N:Nat} {m:List (List Int)} (hN:N≤4) (h:zby N m):zkO m:=⟨by rw[h.1];exact hN,fun r hr=>by rw[(h.2 r hr).1];exact hN⟩
theorem zrF {i k:Nat}:(((i:Int)+(k:Int)).tmod 2)=(((i+k) % 2:Nat):Int):=by
  rw[←Int.natCast_add];rfl
def fWF (rows:List (List Int)):List Int×Int:=if zai rows=0 then (if zb4 (zaG (matI 0 rows))=true then (wtsN (matI 0 rows),0) else ([],28)) else ([],zai rows)
@[reducible] def sWF:Spec:={pats:=[.dat zcv],res:=[{t:=.sl I64},{t:=I64}],pre:=fun _=>True,f:=fun x=>((fWF x.1.1).1,(fWF x.1.1).2,())}
def zqt (m:List (List Int)):LoopAnn:={σ:=Nat,pat:=fun k=>sI 23 k::sOwn 6 60006 3 (tab (wtN m) k),inv:=fun k=>k≤m.length,meas:=fun k=>m.length - k}
def zqu (m:List (List Int)) (st:St):LoopAnn:=zgK 23 st fun i=>{σ:=Nat,pat:=fun k=>[sI 28 k,sI 8 (sm (cofN m i.toNat) k)],inv:=fun k=>k≤m.length,meas:=fun k=>m.length - k}
theorem h65:Ok 65 sWF:=by
  refine mk (ctr:=[(47,zbn),(93,zfo),(96,zlm),(104,zgT),(105,zdE)]) ⟨h47,h93,h96,h104,hDet,trivial⟩ (nt:=53) Try.func65 rfl rfl rfl rfl (by kernel_rfl) (by kernel_rfl) (fun x=>[fun _=>zqt (matI 0 x.1.1),zqu (matI 0 x.1.1)]) ?_
  rintro⟨⟨(rows:List (List Int)),⟨⟩⟩,⟨⟩⟩ _
  by_cases h0:zai rows=0
  · have hL:=zcj h0
    have hN:=hL.le
    have hs:=hL.sq
    have h93':Hid (zfm rows):=hL.small
    have h96':Hid (∃N,N≤4∧zby N (matI 0 rows)):=⟨_,hN,hs⟩
    have hml:=hs.1
    obtain⟨m,hm⟩:∃m,matI 0 rows=m:=⟨_,rfl⟩
    have e1:zb4 (zaG m)=true→fWF rows=(wtsN m,0):=fun h=>by unfold fWF;rw[if_pos h0,hm,if_pos h]
    have e2:zb4 (zaG m)=false→fWF rows=([],28):=fun h=>by unfold fWF;rw[if_pos h0,hm,if_neg (by rw[h];decide)]
    rw[hm] at hs hml h96'
    rw[hm]
    repeat' (intro hzz;(try (rename Two=>hq;cases hq));(try dsimp only at hzz);(try simp only[zad,zac,eqD,inR,big,zaa,Bool.not_true,Bool.not_false,Bool.true_eq,decide_eq_true_eq,decide_eq_false_iff_not,Bool.not_eq_true',Bool.not_eq_false',Bool.and_eq_true,Prod.mk.injEq,and_true,true_and,Int.not_lt,Int.not_le,gt_iff_lt,ge_iff_le] at hzz);(try simp only[zad,zac,eqD,inR,big,zaa,Bool.not_true,Bool.not_false,Bool.true_eq,decide_eq_true_eq,decide_eq_false_iff_not,Bool.not_eq_true',Bool.not_eq_false',Bool.and_eq_true,Prod.mk.injEq,and_true,true_and,Int.not_lt,Int.not_le,gt_iff_lt,ge_iff_le,h0,hm,Int.toNat_natCast] at hzz);(try (first|contradiction|(exfalso;omega)));(try (revert hzz;intro _)))
    all_goals try (rename Unit=>hq;clear hq)
    all_goals try ((with_reducible refine Held.mk ?_);(with_reducible (first|refine Frz.mk ?_|refine And.intro (Frz.mk ?_) ?_|refine And.intro ?_ (Frz.mk ?_)));repeat' first|exact True.intro|(change _=_;with_reducible rfl)|refine And.intro ?_ ?_|(with_reducible refine Frz.mk ?_))
    all_goals try (refine Held.mk ?_;(try dsimp only at *);(try simp only[zad,zac,eqD,inR,big,zaa,Bool.not_true,Bool.not_false,Bool.true_eq,decide_eq_true_eq,decide_eq_false_iff_not,Bool.not_eq_true',Bool.not_eq_false',Bool.and_eq_true,Prod.mk.injEq,and_true,true_and,Int.not_lt,Int.not_le,gt_iff_lt,ge_iff_le] at *);(try simp only[zad,zac,eqD,inR,big,zaa,Bool.not_true,Bool.not_false,Bool.true_eq,decide_eq_true_eq,decide_eq_false_iff_not,Bool.not_eq_true',Bool.not_eq_false',Bool.and_eq_true,Prod.mk.injEq,and_true,true_and,Int.not_lt,Int.not_le,gt_iff_lt,ge_iff_le,h0,hm,Int.toNat_natCast] at *))
    all_goals try omega
    · exact h93'
    · exact h96'
    · rename_i h
      rw[e2 h];exact⟨rfl,rfl⟩
    · rename_i h
      refine zah.mk ?_
      refine Exists.intro (0:Nat) ?_
      refine And.intro (Leaf.mk ?_) ?_
      · repeat' first|exact True.intro|refine And.intro ?_ ?_
        all_goals try ((change _=_<;>try dsimp only)<;>try with_reducible rfl)
        all_goals try omega
        all_goals (rfl)
      exact Nat.zero_le _
    · rename_i h i hi hlt
      refine zah.mk ?_
      refine Exists.intro (0:Nat) ?_
      refine And.intro (Leaf.mk ?_) ?_
      · repeat' first|exact True.intro|refine And.intro ?_ ?_
        all_goals try ((change _=_<;>try dsimp only)<;>try with_reducible rfl)
        all_goals try omega
        all_goals (rfl)
      exact Nat.zero_le _
    · exact zsl hN hs
    · rename_i h i hi hlt k hk hkl
      obtain⟨n,hn⟩:∃n,rows.length=n+1:=⟨rows.length - 1,by omega⟩
      rw[hn] at hs
      exact⟨n,by omega,znE hs (by omega) (by omega)⟩
    · rename_i h i hi hlt k hk hkl ht
      rw[zhV hs (by omega) (by omega)]
      have:=zmM hN hs (i:=i) (k:=k) (by omega) (by omega)
      omega
    · rename_i h i hi hlt k hk hkl ht
      rw[zhV hs (by omega) (by omega)]
      have b:=zmM hN hs (i:=i) (k:=k) (by omega) (by omega)
      have c:=zqq hN hs (i:=i) (by omega) k (by omega)
      omega
    · rename_i h i hi hlt k hk hkl ht
      have ec:cofN m i k = -detN (zap k i 0 m).length (zap k i 0 m):=by
        rw[zhV hs (by omega) (by omega)];exact if_pos (by rw[zrF] at ht;omega)
      refine zah.mk ?_
      refine Exists.intro (k+1) ?_
      refine And.intro (Leaf.mk ?_) ?_
      · repeat' first|exact True.intro|refine And.intro ?_ ?_
        all_goals try ((change _=_<;>try dsimp only)<;>try with_reducible rfl)
        all_goals try omega
        all_goals (first|rfl|(show _=sm (cofN m i) k+cofN m i k;rw[ec,hm,Int.toNat_natCast]))
      exact⟨by show k+1≤m.length;omega,by show m.length - (k+1)<m.length - k;omega⟩
    · rename_i h i hi hlt k hk hkl ht
      rw[zhV hs (by omega) (by omega)]
      have b:=zmM hN hs (i:=i) (k:=k) (by omega) (by omega)
      have c:=zqq hN hs (i:=i) (by omega) k (by omega)
      omega
    · rename_i h i hi hlt k hk hkl ht
      have ec:cofN m i k=detN (zap k i 0 m).length (zap k i 0 m):=by
        rw[zhV hs (by omega) (by omega)];exact if_neg (by rw[zrF] at ht;omega)
      refine zah.mk ?_
      refine Exists.intro (k+1) ?_
      refine And.intro (Leaf.mk ?_) ?_
      · repeat' first|exact True.intro|refine And.intro ?_ ?_
        all_goals try ((change _=_<;>try dsimp only)<;>try with_reducible rfl)
        all_goals try omega
        all_goals (first|rfl|(show _=sm (cofN m i) k+cofN m i k;rw[ec,hm,Int.toNat_natCast]))
      exact⟨by show k+1≤m.length;omega,by show m.length - (k+1)<m.length - k;omega⟩
    · rename_i h i hi hlt k hk hkl
      rw[zar];show i+1≤2147483648;omega
    · rename_i h i hi hlt k hk hkl
      have ek:k=m.length:=by omega
      subst ek
      refine zah.mk ?_
      refine Exists.intro (i+1) ?_
      refine And.intro (Leaf.mk ?_) ?_
      · repeat' first|exact True.intro|refine And.intro ?_ ?_
        all_goals try ((change _=_<;>try dsimp only)<;>try with_reducible rfl)
        all_goals try omega
        all_goals (first|rfl|exact congrArg List.length (tab_succ _ _).symm|exact (tab_succ _ _).symm|(rw[zar,List.length_append,zar];rfl))
      exact⟨by show i+1≤m.length;omega,by show m.length - (i+1)<m.length - i;omega⟩
    · rename_i h i hi hlt
      have ei:i=m.length:=by omega
      subst ei
      rw[e1 h];exact⟨rfl,rfl⟩
  · have e0:fWF rows=([],zai rows):=if_neg h0
    repeat' (intro hzz;(try (rename Two=>hq;cases hq));(try dsimp only at hzz);(try simp only[zad,zac,eqD,inR,big,zaa,Bool.not_true,Bool.not_false,Bool.true_eq,decide_eq_true_eq,decide_eq_false_iff_not,Bool.not_eq_true',Bool.not_eq_false',Bool.and_eq_true,Prod.mk.injEq,and_true,true_and,Int.not_lt,Int.not_le,gt_iff_lt,ge_iff_le] at hzz);(try simp only[zad,zac,eqD,inR,big,zaa,Bool.not_true,Bool.not_false,Bool.true_eq,decide_eq_true_eq,decide_eq_false_iff_not,Bool.not_eq_true',Bool.not_eq_false',Bool.and_eq_true,Prod.mk.injEq,and_true,true_and,Int.not_lt,Int.not_le,gt_iff_lt,ge_iff_le,h0,e0] at hzz);(try (first|contradiction|(exfalso;omega)));(try (revert hzz;intro _)))
    all_goals try (rename Unit=>hq;clear hq)
    all_goals try ((with_reducible refine Held.mk ?_);(with_reducible (first|refine Frz.mk ?_|refine And.intro (Frz.mk ?_) ?_|refine And.intro ?_ (Frz.mk ?_)));repeat' first|exact True.intro|(change _=_;with_reducible rfl)|refine And.intro ?_ ?_|(with_reducible refine Frz.mk ?_))
    all_goals try (refine Held.mk ?_;(try dsimp only at *);(try simp only[zad,zac,eqD,inR,big,zaa,Bool.not_true,Bool.not_false,Bool.true_eq,decide_eq_true_eq,decide_eq_false_iff_not,Bool.not_eq_true',Bool.not_eq_false',Bool.and_eq_true,Prod.mk.injEq,and_true,true_and,Int.not_lt,Int.not_le,gt_iff_lt,ge_iff_le] at *);(try simp only[zad,zac,eqD,inR,big,zaa,Bool.not_true,Bool.not_false,Bool.true_eq,decide_eq_true_eq,decide_eq_false_iff_not,Bool.not_eq_true',Bool.not_eq_false',Bool.and_eq_true,Prod.mk.injEq,and_true,true_and,Int.not_lt,Int.not_le,gt_iff_lt,ge_iff_le,h0,e0] at *))
    all_goals try omega
    all_goals first|rfl|(rw[e0];exact⟨rfl,rfl⟩)|(rw[e0];exact⟨rfl,rfl,rfl⟩)|trace_state
abbrev zaS (xss:List (List Int)) (i:Nat):List Int:=xss.getD i []
theorem znp:∀ {w:List Int},(∀k,k<w.length→1≤w.getD k 0∧w.getD k 0≤1000000000000)→wRow w=0
  | [],_=>rfl
  | n::w,h=>by
    have h0:1≤n∧n≤1000000000000:=h 0 (by simp)
    have h1:=znp (w:=w) fun k hk=>h (k+1) (by simpa using hk)
    simp only[wRow]
    rw[if_pos h0];exact h1
theorem zr2 (w:List Int):∀(rows:List (List Int)) (o:Nat),(∀i,i<rows.length→sm (dotF (rows.getD i []) w) w.length<1000*w.getD (o+i) 0)→zej w o rows=0
  | [],_,_=>rfl
  | r :: rows,o,h=>by
    have h0:sm (dotF r w) w.length<1000*w.getD o 0:=h 0 (by simp)
    have h1:=zr2 w rows (o+1) fun i hi=>by
      have:=h (i+1) (by simpa using hi)
      rw[show o+1+i=o+(i+1) by omega]
      exact this
    simp only[zej]
    rw[if_neg (by omega)];exact h1
theorem zrh {rows:List (List Int)} {w:List Int} (hl:w.length=rows.length) (h1:∀k,k<w.length→1≤w.getD k 0∧w.getD k 0≤1000000000000) (h2:∀i,i<rows.length→sm (dotF (rows.getD i []) w) w.length<1000*w.getD i 0):zbH rows w=0:=by
  unfold zbH
  rw[if_pos hl,if_pos (znp h1)]
  exact zr2 w rows 0 fun i hi=>by rw[Nat.zero_add];exact h2 i hi
theorem zql {rows:List (List Int)} {w:List Int} (h:zbH rows w=0):w.length=rows.length∧(∀k,k<w.length→1≤w.getD k 0∧w.getD k 0≤1000000000000)∧∀i,i<rows.length→sm (dotF (rows.getD i []) w) w.length<1000*w.getD i 0:=by
  unfold zbH at h
  split at h
  · rename_i hl
    split at h
    · rename_i hw
      exact⟨hl,zfS hw,fun i hi=>by have:=zqQ w rows 0 h i hi;rw[Nat.zero_add] at this;exact this⟩
    · rename_i hw;exact absurd h hw
  · omega
theorem wt1 (a:Int):∀i,i<1→sm (fun j=>entry [[a]] i j*wtN [[a]] j) 1=detN 1 [[a]]:=by
  intro i hi
  obtain rfl:i=0:=by omega
  simp[wtN,cofN,sm,detN,sumD,zap,zaB,entry]
theorem wt2 (a b c d:Int):∀i,i<2→sm (fun j=>entry [[a,b],[c,d]] i j*wtN [[a,b],[c,d]] j) 2=detN 2 [[a,b],[c,d]]:=by
  intro i hi
  rcases (show i=0∨i=1 by omega) with rfl|rfl<;>simp[wtN,cofN,sm,detN,sumD,zap,zaB,entry]<;>grind
theorem wt3 (a b c d e f g h k:Int):∀i,i<3→sm (fun j=>entry [[a,b,c],[d,e,f],[g,h,k]] i j*wtN [[a,b,c],[d,e,f],[g,h,k]] j) 3=detN 3 [[a,b,c],[d,e,f],[g,h,k]]:=by
  intro i hi
  rcases (show i=0∨i=1∨i=2 by omega) with rfl|rfl|rfl<;>simp[wtN,cofN,sm,detN,sumD,zap,zaB,entry]<;>grind
theorem wt4 (a b c d e f g h k l m n o p q r:Int):∀i,i<4→sm (fun j=>entry [[a,b,c,d],[e,f,g,h],[k,l,m,n],[o,p,q,r]] i j*wtN [[a,b,c,d],[e,f,g,h],[k,l,m,n],[o,p,q,r]] j) 4=detN 4 [[a,b,c,d],[e,f,g,h],[k,l,m,n],[o,p,q,r]]:=by
  intro i hi
  rcases (show i=0∨i=1∨i=2∨i=3 by omega) with rfl|rfl|rfl|rfl<;>simp[wtN,cofN,sm,detN,sumD,zap,zaB,entry]<;>grind
theorem zrx {N:Nat} (hN:N≤4) {m:List (List Int)} (h:zby N m) {i:Nat} (hi:i<N):sm (fun j=>entry m i j*wtN m j) N=detN N m:=by
  have hr:∀r,r∈m→r.length=N:=fun r hr=>(h.2 r hr).1
  have hl:=h.1
  clear h
  match N,hN with
  | 0,_=>omega
  | 1,_=>
    obtain⟨r0,rfl⟩:=zpE hl
    obtain⟨a,rfl⟩:=zpE (hr r0 (by simp))
    exact wt1 a i hi
  | 2,_=>
    obtain⟨r0,r1,rfl⟩:=zm0 hl
    obtain⟨a,b,rfl⟩:=zm0 (hr r0 (by simp))
    obtain⟨c,d,rfl⟩:=zm0 (hr r1 (by simp))
    exact wt2 a b c d i hi
  | 3,_=>
    obtain⟨r0,r1,r2,rfl⟩:=zkw hl
    obtain⟨a,b,c,rfl⟩:=zkw (hr r0 (by simp))
    obtain⟨d,e,f,rfl⟩:=zkw (hr r1 (by simp))
    obtain⟨g,h,k,rfl⟩:=zkw (hr r2 (by simp))
    exact wt3 a b c d e f g h k i hi
  | 4,_=>
    obtain⟨r0,r1,r2,r3,rfl⟩:=zia hl
    obtain⟨a,b,c,d,rfl⟩:=zia (hr r0 (by simp))
    obtain⟨e,f,g,h,rfl⟩:=zia (hr r1 (by simp))
    obtain⟨k,l,m,n,rfl⟩:=zia (hr r2 (by simp))
    obtain⟨o,p,q,r,rfl⟩:=zia (hr r3 (by simp))
    exact wt4 a b c d e f g h k l m n o p q r i hi
theorem ztf {n:Nat} (h:n≤3):detB n≤48000000000:=by
  match n,h with
  | 0,_=>decide
  | 1,_=>decide
  | 2,_=>decide
  | 3,_=>decide
theorem zrj {N:Nat} {m:List (List Int)} (hN:N≤4) (h:zby N m) {i k:Nat} (hi:i<N) (hk:k<N):cofN m i k≤48000000000:=by
  obtain⟨n,rfl⟩:∃n,N=n+1:=⟨N - 1,by omega⟩
  have hd:=zjQ n _ (znE h hk hi)
  have hb:=ztf (n:=n) (by omega)
  unfold cofN
  rw[h.1,Nat.add_sub_cancel]
  split<;>omega
theorem zp4 {N:Nat} {m:List (List Int)} (hN:N≤4) (h:zby N m) {i:Nat} (hi:i<N):∀k,k≤N→sm (cofN m i) k≤48000000000*(k:Int)
  | 0,_=>by simp[sm]
  | k+1,hk=>by
    have a:=zp4 hN h hi k (by omega)
    have b:=zrj hN h hi (k:=k) (by omega)
    simp only[sm]
    omega
theorem zhg {f g:Nat→Int}:∀n,(∀i,i<n→f i=g i)→sm f n=sm g n
  | 0,_=>rfl
  | n+1,h=>by simp only[sm];rw[zhg n (fun i hi=>h i (by omega)),h n (by omega)]
theorem zno {m:List (List Int)} {i:Nat} (hi:i<m.length):(wtsN m).getD i 0=wtN m i:=zbI (wtN m) 0 _ i hi
theorem zrw {rows:List (List Int)} (h:Lines rows) (hf:zb4 (zaG (matI 0 rows))=true):zbH rows (wtsN (matI 0 rows))=0:=by
  have hs:=h.sq
  have hml:=hs.1
  have hl:(wtsN (matI 0 rows)).length=rows.length:=by rw[wtsN,zar];exact hml
  have hg:=(zkH h).1 hf
  have hd:=(zmj hs h.le).1 hf
  have hp:=h.pos
  have hle:=h.le
  have det:0<detN rows.length (matI 0 rows):=by
    rw[zoL h.le hs]
    have hp':=hp
    revert hd
    generalize entry (matI 0 rows)=M
    intro hd
    match hN:rows.length,hle with
    | 0,_=>omega
    | 1,_=>rw[hN] at hd;exact hd
    | 2,_=>rw[hN] at hd;exact hd.2
    | 3,_=>rw[hN] at hd;exact hd.2.2
    | 4,_=>rw[hN] at hd;exact hd.2.2.2
  have hrow:∀i,i<rows.length→rowS (zje rows) (fun j=>(wtsN (matI 0 rows)).getD j 0) rows.length i=detN rows.length (matI 0 rows):=fun i hi=>by
    rw[←zrx h.le hs hi]
    refine zhg _ fun j hj=>?_
    show zje rows i j*(wtsN (matI 0 rows)).getD j 0=_
    rw[h.entry hi hj,zno (by omega)]
  have hpos:=zhv rows.length (zje rows) (fun j=>(wtsN (matI 0 rows)).getD j 0) h.isZ hg (fun i hi=>by rw[hrow i hi];exact det)
  refine zrh hl (fun k hk=>?_) fun i hi=>?_
  · have h1:=hpos k (by omega)
    have h2:=zp4 h.le hs (i:=k) (by omega) rows.length (Nat.le_refl _)
    have e:(wtsN (matI 0 rows)).getD k 0=sm (cofN (matI 0 rows) k) rows.length:=by rw[zno (by omega)];unfold wtN;rw[hml]
    rw[e] at h1 ⊢
    omega
  · have h1:=hrow i hi
    rw[zg2 h hl hi] at h1
    omega
theorem zmP:∀ {row:List Int},(∀n∈row,0≤n∧n≤2000)→zdj row=0
  | [],_=>rfl
  | x::r,h=>by
    have h0:=h x List.mem_cons_self
    have h1:=zmP (row:=r) fun n hn=>h n (List.mem_cons_of_mem _ hn)
    simp only[zdj]
    first|(rw[if_pos h0];exact h1)|(split<;>first|exact h1|omega)
theorem zkV {N:Nat}:∀ {rows:List (List Int)},(∀r∈rows,r.length=N∧∀n∈r,0≤n∧n≤2000)→zbO N rows=0
  | [],_=>rfl
  | r::t,h=>by
    have h0:=h r List.mem_cons_self
    have h1:=zkV (rows:=t) fun q hq=>h q (List.mem_cons_of_mem _ hq)
    have h2:=zmP h0.2
    simp only[zbO]
    simp[h0.1,h1,h2]
theorem zpY {rows:List (List Int)} (h:Lines rows):zai rows=0:=by
  have hp:=h.pos
  have hl:=h.le
  have hc:zau rows.length=0:=by
    unfold zau
    simp
    omega
  unfold zai
  rw[if_pos hc]
  exact zkV fun r hr=>⟨h.len r hr,h.val r hr⟩
def lowE (rows:List (List Int)) (less:List Int) (N i k:Nat):Int:=if i*N+k<less.length then max 0 ((zaS rows i).getD k 0 - less.getD (i*N+k) 0 % 2001) else (zaS rows i).getD k 0
def lowM (rows:List (List Int)) (less:List Int) (N:Nat):List (List Int):=tab (fun i=>tab (lowE rows less N i) N) N
theorem zoj {rows:List (List Int)} {less:List Int} {N i k:Nat} (h:0≤(zaS rows i).getD k 0):0≤lowE rows less N i k∧lowE rows less N i k≤(zaS rows i).getD k 0:=by
  unfold lowE
  split
  · have:=Int.emod_nonneg (less.getD (i*N+k) 0) (show (2001:Int)≠0 by decide)
    omega
  · omega
theorem zqY {rows:List (List Int)} {less:List Int} {N i k:Nat} (hi:i<N) (hk:k<N):((lowM rows less N).getD i []).getD k 0=lowE rows less N i k:=by
  unfold lowM
  rw[zbI _ [] N i hi,zbI _ 0 N k hk]
theorem zkt {rows:List (List Int)} {less:List Int} (h:Lines rows):Lines (lowM rows less rows.length):=by
  have hl:(lowM rows less rows.length).length=rows.length:=zar _ _
  refine⟨by rw[hl];exact h.pos,by rw[hl];exact h.le,fun r hr=>?_,fun r hr n hn=>?_⟩
  · obtain⟨i,hi,rfl⟩:=zg8 hr
    rw[hl];exact zar _ _
  · obtain⟨i,hi,rfl⟩:=zg8 hr
    obtain⟨k,hk,rfl⟩:=zg8 hn
    have:=h.get hi hk
    have:=zoj (less:=less) (N:=rows.length) this.1
    show 0≤lowE rows less rows.length i k∧lowE rows less rows.length i k≤2000
    have e:zaS rows i=rows.getD i []:=rfl
    rw[e] at this
    omega
theorem zp7 {f g:Nat→Int}:∀n,(∀i,i<n→f i≤g i)→sm f n≤sm g n
  | 0,_=>Int.le_refl _
  | n+1,h=>by
    have a:=zp7 n fun i hi=>h i (by omega)
    have b:=h n (by omega)
    simp only[sm];omega
theorem zlA {rows:List (List Int)} {less w:List Int} (h:Lines rows) (hw:zbH rows w=0):zbH (lowM rows less rows.length) w=0:=by
  have hl:(lowM rows less rows.length).length=rows.length:=zar _ _
  obtain⟨h1,h2,h3⟩:=zql hw
  refine zrh (by rw[hl];exact h1) h2 fun i hi=>?_
  rw[hl] at hi
  refine Int.lt_of_le_of_lt (zp7 _ fun k hk=>?_) (h3 i hi)
  unfold dotF
  rw[zqY hi (by omega)]
  have:=zoj (less:=less) (N:=rows.length) (h.get hi (k:=k) (by omega)).1
  exact Int.mul_le_mul_of_nonneg_right this.2 (by have:=h2 k hk;omega)
theorem zoi {rows:List (List Int)} {less w:List Int} (h:Lines rows) (hw:zbH rows w=0):zb4 (zaG (matI 0 (lowM rows less rows.length)))=true:=zcy (zkt h) (zlA h hw)
def zav (rows:List (List Int)) (i k:Nat):Int:=sm (fun j=>(zaS rows i).getD j 0) k
def zaz (rows:List (List Int)) (N:Nat):Nat→Bool
  | 0=>true
  | i+1=>zaz rows N i&&decide (zav rows i N<1000)
def zh9 (n:Nat):List Int:=tab (fun _=>1) n
theorem zk1 {rows:List (List Int)} {N:Nat}:∀ {n:Nat},zaz rows N n=true→∀i,i<n→zav rows i N<1000
  | 0,_,i,hi=>absurd hi (Nat.not_lt_zero i)
  | n+1,h,i,hi=>by
    simp only[zaz,Bool.and_eq_true,decide_eq_true_eq] at h
    by_cases e:i<n
    · exact zk1 h.1 i e
    · rw[show i=n by omega];exact h.2
theorem zn7 {rows:List (List Int)} (h:zaz rows rows.length rows.length=true):zbH rows (zh9 rows.length)=0:=by
  have hl:(zh9 rows.length).length=rows.length:=zar _ _
  have hg:∀k,k<rows.length→(zh9 rows.length).getD k 0=1:=fun k hk=>zbI _ 0 _ k hk
  refine zrh hl (fun k hk=>by rw[hg k (by omega)];decide) fun i hi=>?_
  have:=zk1 h i hi
  rw[hg i hi,hl]
  have e:sm (dotF (rows.getD i []) (zh9 rows.length)) rows.length=zav rows i rows.length:=zhg _ fun k hk=>by
    unfold dotF
    rw[hg k hk,Int.mul_one]
  rw[e];omega
end Go.Eng.Lp
namespace Go.Eng
set_option linter.all false
set_option maxRecDepth 100000
section
variable {P:Program} {a:Act} {w:World} {ops:Array Oper}
end
section
variable {c:Cfg}
theorem zq8 {P:Program} {OB:Nat→Obj→Prop} (hC:CfgOk P OB c) {f:Nat} {fn:Func} {body:Code} {rs:List ResultVar} {sp:Spec}
    (hf:P.funcs[f]?=some fn) (hb:fn.body=some body) (hnt:fn.ntmps=c.nt) (hps:sp.pats.length≤c.nt) (hlim:c.nt≤1000000) (hob:zb8 sp.pats≤1) (hrs:fn.results.toList=rs)
    (h : ∀x,sp.pre x→∀(M:Nat→Prop) (bs:List Nat) (w:World) (a:Act),a.defers=[]→RelS {P:=P,M:=M,mu:=fun b=>b∈bs,w0:=w,OB:=OB} c.nt (za3 sp.pats x 0) a w→
      body.wpIn (Fw none) 0 P (zii {P:=P,M:=M,mu:=fun b=>b∈bs,w0:=w,OB:=OB} c.nt fun e st=>match e with
        | .ret | .normal=>zjr c rs sp.res (sp.f x) st
        | _=>False) a w):zp2 P OB f sp:=by
  intro w M x vs bs hM hA hpre
  obtain⟨o1,o2,o3,o4⟩:=zb7 sp.pats x vs bs 0 hA
  let E:Env:={P:=P,M:=M,mu:=fun b=>b∈bs,w0:=w,OB:=OB}
  refine callsIn_wide.1 (callsIn_of_wp_marks (F:=Fence.wide) (n:=0) hf hb trivial ?_)
  have hsz:(vs.toArray++Array.replicate (fn.ntmps - vs.toArray.size) undef).size=c.nt:=by
    simp;omega
  have hR : RelS E c.nt (za3 sp.pats x 0) {tmps:=vs.toArray++Array.replicate (fn.ntmps - vs.toArray.size) undef,defers:=[]} w:=by
    have hη:∀k b n,zjI (zbf sp.pats vs 0) k=some (b,n)→(k,b)∈zbf sp.pats vs 0∧n=0:=by
      intro k b n
      generalize zbf sp.pats vs 0=l
      induction l with
      | nil=>intro h;cases h
      | cons p r ih=>
        intro h
        simp only[zjI] at h
        split at h
        · rename_i hk
          simp only[Option.some.injEq,Prod.mk.injEq] at h
          obtain⟨rfl,rfl⟩:=h
          subst hk
          exact⟨List.mem_cons_self,rfl⟩
        · obtain⟨h1,h2⟩:=ih h
          exact⟨List.mem_cons_of_mem _ h1,h2⟩
    have hbs:∀k b,(k,b)∈zbf sp.pats vs 0→b∈bs:=fun k b hkb=>by rw[←o1];exact List.mem_map.2 ⟨_,hkb,rfl⟩
    refine⟨zjI (zbf sp.pats vs 0),?_,?_⟩
    · exact {
        size:=hsz,lim:=hlim,defers:=⟨⟨[],rfl,List.nodup_nil,fun _ h=>by cases h⟩,fun _ h=>by cases h⟩,os:=rfl,tape:=rfl,output:=rfl,grow:=Nat.le_refl _,keep:=fun _ _ _ _=>rfl,
        own:=fun k b n hk=>⟨(o4 b (hbs k b (hη k b n hk).1)).2,.inr (hbs k b (hη k b n hk).1)⟩,
        dis:=fun b hb h=>h.elim (fun h=>absurd (o4 b hb).2 (Nat.not_lt_of_le h)) id,
        inj := fun k k' b n n' hk hk'=>by
          have h1:=(hη k b n hk).1
          have h2:=(hη k' b n' hk').1
          have hl:(zbf sp.pats vs 0).length≤1:=by omega
          match hobs:zbf sp.pats vs 0,hl with
          | [],_=>rw[hobs] at h1;cases h1
          | [p],_=>
            rw[hobs] at h1 h2
            simp only[List.mem_singleton] at h1 h2
            rw[←h2] at h1
            simpa using h1
        old:=fun b hb h=>h.elim (fun h=>absurd (hM b hb) (Nat.not_lt_of_le h)) id,obkeep:=fun b i o _ _ h1 h2=>⟨o,h1,h2⟩}
    · refine zca rfl rfl (fun b h=>h.elim id fun⟨_,h⟩=>by cases h) rfl (fun k b n hk=>(o4 b (hbs k b (hη k b n hk).1)).1) sp.pats x vs bs 0 hA (by omega) (fun j v hj=>?_) (fun k b hkb=>?_)
      · simp only[Nat.zero_add]
        have hjl:=(List.getElem?_eq_some_iff.1 hj).1
        simp only[Array.getD_eq_getD_getElem?]
        rw[Array.getElem?_append_left (by simpa using hjl)]
        simp[hj]
      · have hl:(zbf sp.pats vs 0).length≤1:=by omega
        match hobs:zbf sp.pats vs 0,hl with
        | [],_=>rw[hobs] at hkb;cases hkb
        | [p],_=>
          rw[hobs] at hkb
          simp only[List.mem_singleton] at hkb
          subst hkb
          simp[zjI]
  have hCE:CfgOk E.P E.OB c:=hC
  refine wpIn_mono (h x hpre M bs w _ rfl hR) fun e a' w' ⟨xe,st',e1,e2,e3⟩=>?_
  subst e1
  have leave:∀(R:Ending→World→Prop) (st1:St) (η:Eta) (tmps:Array Value),(∀a1 w1,a1.tmps=tmps→Good E c.nt η a1 w1→(∀f∈st1,Fact.holds E η a1 w1 f)→∃v,(results fn tmps).run P w1=.ok v w1∧R (.returned v) w1)→
      ∀(ms:List Nat) (a1:Act) (w1:World),a1.tmps=tmps→a1.defers=ms.map mkD→ms.Nodup→(∀D∈ms,E.w0.heap.size≤D∧w1.heap[D]?=some (.deferred (some []))∧∀k c,η k≠some (D,c))→
      Good E c.nt η a1 w1→(∀f∈st1,Fact.holds E η a1 w1 f)→LeavesInM Fence.wide 0 P fn tmps R a1.defers .returning w1:=by
    intro R st1 η tmps hfin ms
    induction ms with
    | nil=>
      intro a1 w1 ht hd1 _ _ g H
      rw[hd1]
      exact hfin a1 w1 ht g H
    | cons D ms ih=>
      intro a1 w1 ht hd1 hn hm g H
      have ht2:=zj5 rfl g H (by rw[hd1];rfl) hn hm
      rw[hd1]
      refine⟨by simp,.inl ⟨D,_,rfl,run_takeDeferred (hm D List.mem_cons_self).2.1,?_⟩⟩
      refine ih {a1 with defers:=ms.map mkD} _ ht rfl (List.nodup_cons.1 hn).2 (fun D' hD'=>?_) ht2.1 ht2.2
      obtain⟨p1,p2,p3⟩:=hm D' (List.mem_cons_of_mem _ hD')
      have hne:D'≠D:=fun e=>(List.nodup_cons.1 hn).1 (by rw[←e];exact hD')
      exact⟨p1,(World.putObj_heap_other hne).trans p2,p3⟩
  have fin : ∀st',zjr c rs sp.res (sp.f x) st'→RelS E c.nt st' a' w'→LeavesInM Fence.wide 0 P fn a'.tmps (fun e w'=>∃rs g,e=.returned (zcC rs)∧CPost OB w w' bs∧
      zfR w' (fun b c=>¬M b∧g≠some b∧∃el f,w'.heap[b]?=some (.cells c el f)) w.heap.size sp.res (sp.f x) rs g) a'.defers .returning w':=by
    intro st' hr hR
    unfold zjr at hr
    split at hr
    case h_2=>exact hr.elim
    case h_1 p st1 hfz=>
      split at hr
      case h_2=>exact hr.elim
      case h_1 q y hq=>
        obtain⟨r1,hr⟩:=OP.andK_out hr
        obtain⟨r2,r3⟩:=hr.out
        have r3:=zeX _ _ _ r3
        obtain⟨η,g,H⟩:=zaT hfz r1 hR
        obtain⟨⟨ms,m1,m2,m3⟩,_⟩:=g.defers
        refine leave _ st1 η a'.tmps (fun a1 w1 ht g H=>?_) ms a' w' rfl m1 m2 m3 g H
        obtain⟨vs',gb,k1,k2,k3,k4⟩:=zb6 hCE.tbl g H rs sp.res q y hq r2 (.inr fun _ h=>h)
        rw[r3] at k4
        rw[←hrs,ht] at k1
        refine⟨_,zcP k1,vs',gb,rfl,?_,k4 _ (fun b c ⟨m1,m2,m3⟩=>⟨fun hm=>m1 (.inl hm),fun hg=>?_,m3⟩)⟩
        · exact {os:=g.os,tape:=g.tape,output:=g.output,size:=g.grow,keep:=fun b hb hn=>g.keep b hb hn (fun h=>h),obk:=fun b hb i o h1 h2=>g.obkeep b i o (o4 b hb).2 hb h1 h2}
        · obtain⟨k,n,hk⟩:=k2 b hg
          exact m2 k n hk
  cases xe with
  | normal=>exact fin st' e2 e3
  | exit id=>exact e2.elim
  | ret=>exact fin st' e2 e3
end
end Go.Eng
namespace Go.Eng.Lp
open Go.Eng Go.Proofs
set_option linter.all false
set_option maxRecDepth 100000
set_option maxHeartbeats 8000000
abbrev cLs:List (Nat×Spec):=[(16,zgy),(40,zld),(42,zfZ),(65,sWF),(46,zbn),(66,sMod),(44,zdF),(50,zll),(43,znS),(48,zde),(45,zdl)]
theorem zsn:All cLs:=⟨h16,h40,h42,h65,h46,h66,h44,h50,h43,h48,h45,trivial⟩
@[reducible] def cfL:Cfg:=cfg {} cLs 162
theorem zfP:CfgOk Try.prog OB cfL:=zrn x0 zsn
@[reducible] noncomputable def EH (M:Nat→Prop) (bs:List Nat) (w:World) (nd:Bool):Env:={P:=Try.prog,M:=M,mu:=fun b=>b∈bs,w0:=w,OB:=OB,x:={nd:=nd}}
theorem zs6 {M:Nat→Prop} {bs:List Nat} {w0 w:World} {nt:Nat} {st:St} {a:Act} (hR:RelS (EH M bs w0 false) nt st a w) (hd:a.defers=[]):RelS (EH M bs w0 true) nt st a w:=
  let ⟨η,g,H⟩:=hR
  ⟨η,⟨g.size,g.lim,g.defers,g.os,g.tape,g.output,g.grow,g.keep,g.own,g.dis,g.inj,g.old,g.obkeep,fun _=>hd⟩,H⟩
theorem ziA {M:Nat→Prop} {bs:List Nat} {w0 w:World} {nt:Nat} {st:St} {a:Act} (hR:RelS (EH M bs w0 true) nt st a w):RelS (EH M bs w0 false) nt st a w∧a.defers=[]:=
  let ⟨η,g,H⟩:=hR
  ⟨⟨η,⟨g.size,g.lim,g.defers,g.os,g.tape,g.output,g.grow,g.keep,g.own,g.dis,g.inj,g.old,g.obkeep,fun h=>by cases h⟩,H⟩,g.nd rfl⟩
theorem zbz {anns:List (St→LoopAnn)} {b:Code} {st0 target:St} {R:St→Prop} {a:Act} {M:Nat→Prop} {bs:List Nat} {w0 w:World} {Q:Exit→Act→World→Prop} {X:Prop} (hR:RelS (EH M bs w0 true) 162 st0 a w) (hd:zeb 162 b=true) (hnr:za7 b=true)
    (hvc:vc cfL (par cfL) anns b 0 st0 (fun e st=>match e with | .normal=>Goal (∃s:Unit,ent st target∧X) | .ret=>R st | _=>False))
    (hQ:∀a' w',X→RelS (EH M bs w0 true) 162 target a' w'→Q .normal a' w') (hQr:∀st a' w',R st→RelS (EH M bs w0 true) 162 st a' w'→Q .ret a' w'):b.wpIn (Fw none) 0 Try.prog Q a w:=by
  refine wpIn_mono (za9 zfP (zcR zkq zfP) b 0 st0 _ a w (EH M bs w0 true) none rfl rfl (.inr hnr) hd hvc hR) ?_
  rintro e a' w' ⟨⟨xe,st',h1,h2,h3⟩,hag⟩
  subst h1
  cases xe with
  | normal=>
    obtain⟨_,h4,h5⟩:=h2.out
    exact hQ a' w' h5 (zds h4 h3)
  | exit id=>exact h2.elim
  | ret=>exact hQr _ a' w' h2 h3
theorem zpm {M:Nat→Prop} {bs:List Nat} {w0 w:World} {a:Act} {st:St} {t:Nat} {v:Bool} (hR:RelS (EH M bs w0 true) 162 (.slot t (.one (.d .bool v))::st) a w) (ht:t<1000000):a.eval (.tmp t)=.bool v:=by
  obtain⟨η,g,H⟩:=hR
  have h:=H _ List.mem_cons_self
  simp only[Fact.holds] at h
  rw[zdC ht] at h
  obtain⟨l,h1,⟨h2,_⟩|⟨_,h2⟩⟩:=h
  · cases h2
  · have h1:l=[.bool v]:=h1
    rw[h1] at h2
    exact (List.cons.inj h2).1.symm
theorem zgW {E:Env} {nt:Nat} {f:Fact} {st:St} {a:Act} {w:World} (hR:RelS E nt (f::st) a w):RelS E nt st a w:=zei hR (fun g hg=>List.mem_cons_of_mem _ hg)
theorem zen {ops:Array Oper} {l:List Oper} {st0 target:St} {a:Act} {M:Nat→Prop} {bs:List Nat} {w0 w:World} {Q:Exit→Act→World→Prop} (hR:RelS (EH M bs w0 true) 162 st0 a w)
    (hsub:∀o∈l,o∈ops.toList) (hdst:∀o∈ops.toList,∀t,o.dst=some t→t<162)
    (hvc:zdm cfL ops l st0 (fun st=>Goal (∃s:Unit,ent st target∧True)))
    (hQ:∀a' w',RelS (EH M bs w0 true) 162 target a' w'→Q .normal a' w'):wpListIn (Fw none) 0 Try.prog ops Q l a w:=by
  refine zhD ?_ l a w (zeg (E:=EH M bs w0 true) (c:=cfL) (ro:=none) (q:=0) zfP (ops:=ops) (Q:=fun e a' w'=>e=.normal∧RelS (EH M bs w0 true) 162 target a' w') hdst l hsub st0 _ a w hvc hR ?_)
  · rintro e a' w' ⟨rfl,h1⟩
    exact hQ a' w' h1
  · intro st' a' w' h1 h2
    obtain⟨_,h4,_⟩:=h1.out
    exact⟨rfl,zds h4 h2⟩
noncomputable def b12:Code:=zda Try.f12
noncomputable def Q0:Code:=match b12 with | .seq x _=>x|c=>c
noncomputable def Q1:Code:=match b12 with | .seq _ (.seq x _)=>x|c=>c
noncomputable def Q3:Code:=match b12 with | .seq _ (.seq _ (.seq x _))=>x|c=>c
noncomputable def Q5:Code:=match b12 with | .seq _ (.seq _ (.seq _ (.seq x _)))=>x|c=>c
noncomputable def Q6:Code:=match b12 with | .seq _ (.seq _ (.seq _ (.seq _ (.seq x _))))=>x|c=>c
noncomputable def Q9:Code:=match b12 with | .seq _ (.seq _ (.seq _ (.seq _ (.seq _ (.seq x _)))))=>x|c=>c
noncomputable def Q10:Code:=match b12 with | .seq _ (.seq _ (.seq _ (.seq _ (.seq _ (.seq _ (.seq x _))))))=>x|c=>c
noncomputable def Q11:Code:=match b12 with | .seq _ (.seq _ (.seq _ (.seq _ (.seq _ (.seq _ (.seq _ (.seq (.seq x _) _)))))))=>x|c=>c
noncomputable def QL:Code:=match b12 with | .seq _ (.seq _ (.seq _ (.seq _ (.seq _ (.seq _ (.seq _ (.seq (.seq _ (.block _ (.loop x))) _)))))))=>x|c=>c
noncomputable def QT:Code:=match b12 with | .seq _ (.seq _ (.seq _ (.seq _ (.seq _ (.seq _ (.seq _ (.seq _ x)))))))=>x|c=>c
noncomputable def Q12:Code:=match QL with | .seq (.seq x _) _=>x|c=>c
noncomputable def QB:Code:=match QL with | .seq _ x=>x|c=>c
noncomputable def ops9:List Oper:=match Q9 with | .region _ x _=>x.toList | _=>[]
theorem zpr:Q9=.region 9 ops9.toArray false:=rfl
theorem zsq:(Try.f12.body:Option Code)=some (.seq Q0 (.seq Q1 (.seq Q3 (.seq Q5 (.seq Q6 (.seq Q9 (.seq Q10 (.seq (.seq Q11 (.block 0 (.loop (.seq (.seq Q12 (.cond (.tmp 51) .skip (.exit 0))) QB)))) QT)))))))):=rfl
@[reducible] def zeA:Spec:={pats:=[.dat zcv,.dat (.sl I64)],res:=[{t:=.bool}],pre:=fun _=>True,f:=fun _=>(true,())}
@[reducible] def s0 (rows:List (List Int)) (less:List Int):St:=[.slot 0 (.one (.d zcv (rows,()))),.slot 1 (.one (.d (.sl I64) less))]
@[reducible] def s1 (rows:List (List Int)) (less:List Int):St:=[sB 4 false,.slot 2 (.one (.p 2 0)),.cell 2 0 (.d MatT rows),.slot 1 (.one (.d (.sl I64) less))]
@[reducible] def s5 (rows:List (List Int)) (less:List Int):St:=.slot 5 (.one (.d (.sl I64) (fWF rows).1))::sI 6 (fWF rows).2::s1 rows less
theorem vQ0 (rows:List (List Int)) (less:List Int):vc cfL (par cfL) [] Q0 0 (s0 rows less) (fun e st=>match e with | .normal=>Goal (∃s:Unit,ent st (s1 rows less)∧True) | .ret=>False | _=>False):=by
  repeat' (intro hzz;(try (rename Two=>hq;cases hq));(try dsimp only at hzz);(try simp only[zad,zac,eqD,inR,big,zaa,Bool.not_true,Bool.not_false,Bool.true_eq,decide_eq_true_eq,decide_eq_false_iff_not,Bool.not_eq_true',Bool.not_eq_false',Bool.and_eq_true,Prod.mk.injEq,and_true,true_and,Int.not_lt,Int.not_le,gt_iff_lt,ge_iff_le] at hzz);(try (revert hzz;intro _)))
  all_goals try (rename Unit=>hq;clear hq)
  all_goals try ((with_reducible refine Held.mk ?_);(with_reducible (first|refine Frz.mk ?_|refine And.intro (Frz.mk ?_) ?_|refine And.intro ?_ (Frz.mk ?_)));repeat' first|exact True.intro|(change _=_;with_reducible rfl)|refine And.intro ?_ ?_|(with_reducible refine Frz.mk ?_))
  all_goals try (refine Held.mk ?_;(try dsimp only at *);(try simp only[zad,zac,eqD,inR,big,zaa,Bool.not_true,Bool.not_false,Bool.true_eq,decide_eq_true_eq,decide_eq_false_iff_not,Bool.not_eq_true',Bool.not_eq_false',Bool.and_eq_true,Prod.mk.injEq,and_true,true_and,Int.not_lt,Int.not_le,gt_iff_lt,ge_iff_le] at *))
  all_goals try omega
  ·
    refine zah.mk ?_
    refine Exists.intro () ?_
    refine And.intro (Leaf.mk ?_) ?_
    · repeat' first|exact True.intro|refine And.intro ?_ ?_
      all_goals try ((change _=_<;>try dsimp only)<;>try with_reducible rfl)
      all_goals try omega
      all_goals (rfl)
    trivial
theorem vQ1 (rows:List (List Int)) (less:List Int):vc cfL (par cfL) [] Q1 0 (s1 rows less) (fun e st=>match e with | .normal=>Goal (∃s:Unit,ent st (s1 rows less)∧True) | .ret=>False | _=>False):=by
  repeat' (intro hzz;(try (rename Two=>hq;cases hq));(try dsimp only at hzz);(try simp only[zad,zac,eqD,inR,big,zaa,Bool.not_true,Bool.not_false,Bool.true_eq,decide_eq_true_eq,decide_eq_false_iff_not,Bool.not_eq_true',Bool.not_eq_false',Bool.and_eq_true,Prod.mk.injEq,and_true,true_and,Int.not_lt,Int.not_le,gt_iff_lt,ge_iff_le] at hzz);(try (revert hzz;intro _)))
  all_goals try (rename Unit=>hq;clear hq)
  all_goals try ((with_reducible refine Held.mk ?_);(with_reducible (first|refine Frz.mk ?_|refine And.intro (Frz.mk ?_) ?_|refine And.intro ?_ (Frz.mk ?_)));repeat' first|exact True.intro|(change _=_;with_reducible rfl)|refine And.intro ?_ ?_|(with_reducible refine Frz.mk ?_))
  all_goals try (refine Held.mk ?_;(try dsimp only at *);(try simp only[zad,zac,eqD,inR,big,zaa,Bool.not_true,Bool.not_false,Bool.true_eq,decide_eq_true_eq,decide_eq_false_iff_not,Bool.not_eq_true',Bool.not_eq_false',Bool.and_eq_true,Prod.mk.injEq,and_true,true_and,Int.not_lt,Int.not_le,gt_iff_lt,ge_iff_le] at *))
  all_goals try omega
  all_goals first|contradiction|skip
  ·
    refine zah.mk ?_
    refine Exists.intro () ?_
    refine And.intro (Leaf.mk ?_) ?_
    · repeat' first|exact True.intro|refine And.intro ?_ ?_
      all_goals try ((change _=_<;>try dsimp only)<;>try with_reducible rfl)
      all_goals try omega
      all_goals (rfl)
    trivial
theorem vQ3 (rows:List (List Int)) (less:List Int):vc cfL (par cfL) [] Q3 0 (s1 rows less) (fun e st=>match e with | .normal=>Goal (∃s:Unit,ent st (s1 rows less)∧(zfc rows=true∧(less.length:Int)≤16)) | .ret=>zjr cfL Try.f12.results.toList zeA.res (true,()) st | _=>False):=by
  repeat' (intro hzz;(try (rename Two=>hq;cases hq));(try dsimp only at hzz);(try simp only[zad,zac,eqD,inR,big,zaa,Bool.not_true,Bool.not_false,Bool.true_eq,decide_eq_true_eq,decide_eq_false_iff_not,Bool.not_eq_true',Bool.not_eq_false',Bool.and_eq_true,Prod.mk.injEq,and_true,true_and,Int.not_lt,Int.not_le,gt_iff_lt,ge_iff_le] at hzz);(try (revert hzz;intro _)))
  all_goals try (rename Unit=>hq;clear hq)
  all_goals try ((with_reducible refine Held.mk ?_);(with_reducible (first|refine Frz.mk ?_|refine And.intro (Frz.mk ?_) ?_|refine And.intro ?_ (Frz.mk ?_)));repeat' first|exact True.intro|(change _=_;with_reducible rfl)|refine And.intro ?_ ?_|(with_reducible refine Frz.mk ?_))
  all_goals try (refine Held.mk ?_;(try dsimp only at *);(try simp only[zad,zac,eqD,inR,big,zaa,Bool.not_true,Bool.not_false,Bool.true_eq,decide_eq_true_eq,decide_eq_false_iff_not,Bool.not_eq_true',Bool.not_eq_false',Bool.and_eq_true,Prod.mk.injEq,and_true,true_and,Int.not_lt,Int.not_le,gt_iff_lt,ge_iff_le] at *))
  all_goals try omega
  · rename_i h h2
    refine zah.mk ?_
    refine Exists.intro () ?_
    refine And.intro (Leaf.mk ?_) ?_
    · repeat' first|exact True.intro|refine And.intro ?_ ?_
      all_goals try ((change _=_<;>try dsimp only)<;>try with_reducible rfl)
      all_goals try omega
      all_goals (rfl)
    exact⟨h,h2⟩
theorem vQ5 (rows:List (List Int)) (less:List Int) (h:zdn rows):vc cfL (par cfL) [] Q5 0 (s1 rows less) (fun e st=>match e with | .normal=>Goal (∃s:Unit,ent st (s5 rows less)∧True) | .ret=>False | _=>False):=by
  repeat' (intro hzz;(try (rename Two=>hq;cases hq));(try dsimp only at hzz);(try simp only[zad,zac,eqD,inR,big,zaa,Bool.not_true,Bool.not_false,Bool.true_eq,decide_eq_true_eq,decide_eq_false_iff_not,Bool.not_eq_true',Bool.not_eq_false',Bool.and_eq_true,Prod.mk.injEq,and_true,true_and,Int.not_lt,Int.not_le,gt_iff_lt,ge_iff_le] at hzz);(try (revert hzz;intro _)))
  all_goals try (rename Unit=>hq;clear hq)
  all_goals try ((with_reducible refine Held.mk ?_);(with_reducible (first|refine Frz.mk ?_|refine And.intro (Frz.mk ?_) ?_|refine And.intro ?_ (Frz.mk ?_)));repeat' first|exact True.intro|(change _=_;with_reducible rfl)|refine And.intro ?_ ?_|(with_reducible refine Frz.mk ?_))
  all_goals try (refine Held.mk ?_;(try dsimp only at *);(try simp only[zad,zac,eqD,inR,big,zaa,Bool.not_true,Bool.not_false,Bool.true_eq,decide_eq_true_eq,decide_eq_false_iff_not,Bool.not_eq_true',Bool.not_eq_false',Bool.and_eq_true,Prod.mk.injEq,and_true,true_and,Int.not_lt,Int.not_le,gt_iff_lt,ge_iff_le] at *))
  all_goals try omega
  all_goals first|exact h|skip
  ·
    refine zah.mk ?_
    refine Exists.intro () ?_
    refine And.intro (Leaf.mk ?_) ?_
    · repeat' first|exact True.intro|refine And.intro ?_ ?_
      all_goals try ((change _=_<;>try dsimp only)<;>try with_reducible rfl)
      all_goals try omega
      all_goals (rfl)
    trivial
theorem vQ6 (rows:List (List Int)) (less:List Int):vc cfL (par cfL) [] Q6 0 (s5 rows less) (fun e st=>match e with | .normal=>Goal (∃s:Unit,ent st (s5 rows less)∧zai rows=0) | .ret=>zjr cfL Try.f12.results.toList zeA.res (true,()) st | _=>False):=by
  repeat' (intro hzz;(try (rename Two=>hq;cases hq));(try dsimp only at hzz);(try simp only[zad,zac,eqD,inR,big,zaa,Bool.not_true,Bool.not_false,Bool.true_eq,decide_eq_true_eq,decide_eq_false_iff_not,Bool.not_eq_true',Bool.not_eq_false',Bool.and_eq_true,Prod.mk.injEq,and_true,true_and,Int.not_lt,Int.not_le,gt_iff_lt,ge_iff_le] at hzz);(try (revert hzz;intro _)))
  all_goals try (rename Unit=>hq;clear hq)
  all_goals try ((with_reducible refine Held.mk ?_);(with_reducible (first|refine Frz.mk ?_|refine And.intro (Frz.mk ?_) ?_|refine And.intro ?_ (Frz.mk ?_)));repeat' first|exact True.intro|(change _=_;with_reducible rfl)|refine And.intro ?_ ?_|(with_reducible refine Frz.mk ?_))
  all_goals try (refine Held.mk ?_;(try dsimp only at *);(try simp only[zad,zac,eqD,inR,big,zaa,Bool.not_true,Bool.not_false,Bool.true_eq,decide_eq_true_eq,decide_eq_false_iff_not,Bool.not_eq_true',Bool.not_eq_false',Bool.and_eq_true,Prod.mk.injEq,and_true,true_and,Int.not_lt,Int.not_le,gt_iff_lt,ge_iff_le] at *))
  all_goals try omega
  · rename_i h h2
    rw[show fWF rows=([],zai rows) from if_neg h];rfl
  · rename_i h h2
    exact absurd (show (fWF rows).2=zai rows by rw[show fWF rows=([],zai rows) from if_neg h]) h2
  · rename_i h
    refine zah.mk ?_
    refine Exists.intro () ?_
    refine And.intro (Leaf.mk ?_) ?_
    · repeat' first|exact True.intro|refine And.intro ?_ ?_
      all_goals try ((change _=_<;>try dsimp only)<;>try with_reducible rfl)
      all_goals try omega
      all_goals (rfl)
    exact h
def zaN (rows:List (List Int)) (less:List Int) (N i k:Nat):List Int:=tab (fun j=>if j<k then lowE rows less N i j else (zaS rows i).getD j 0) N
def rowH (rows:List (List Int)) (less:List Int) (n i:Nat):Nat→Nat→St
  | _,0=>[]
  | j,m+1=>.cell 70000 j (.o (70001+j) n)::.row (70001+j) 3 I64 (zaN rows less n j (if j<i then n else 0))::rowH rows less n i (j+1) m
@[reducible] def s9 (rows:List (List Int)) (less:List Int) (n:Nat):St:=.slot 46 (.agg [.o 70000 n])::.row 70000 31 (.sl I64) []::(rowH rows less n 0 0 n++s5 rows less)
@[reducible] def hd (rows:List (List Int)) (less:List Int) (n i:Nat):St:=[sI 11 i,sB 9 (zaz rows n i),.slot 10 (.one (.o 60010 i)),.row 60010 3 I64 (zh9 i),.slot 8 (.one (.p 8 0)),.cell 8 0 (.o 70000 n),.row 70000 31 (.sl I64) []]++(rowH rows less n i 0 n++s5 rows less)
@[reducible] def hE (rows:List (List Int)) (less:List Int) (n:Nat):St:=[sB 9 true,.slot 8 (.one (.p 8 0)),.cell 8 0 (.o 70000 n),.row 70000 31 (.sl I64) []]++(rowH rows less n 0 0 n++s5 rows less)
theorem v9a (rows:List (List Int)) (less:List Int):zdm cfL ops9.toArray (ops9.take 1) (s5 rows less) (fun st=>Goal (∃s:Unit,ent st (.slot 45 (.agg [.d MatT rows])::s5 rows less)∧True)):=by
  repeat' (intro hzz;(try (rename Two=>hq;cases hq));(try dsimp only at hzz);(try simp only[zad,zac,eqD,inR,big,zaa,Bool.not_true,Bool.not_false,Bool.true_eq,decide_eq_true_eq,decide_eq_false_iff_not,Bool.not_eq_true',Bool.not_eq_false',Bool.and_eq_true,Prod.mk.injEq,and_true,true_and,Int.not_lt,Int.not_le,gt_iff_lt,ge_iff_le] at hzz);(try (revert hzz;intro _)))
  all_goals try (rename Unit=>hq;clear hq)
  all_goals try ((with_reducible refine Held.mk ?_);(with_reducible (first|refine Frz.mk ?_|refine And.intro (Frz.mk ?_) ?_|refine And.intro ?_ (Frz.mk ?_)));repeat' first|exact True.intro|(change _=_;with_reducible rfl)|refine And.intro ?_ ?_|(with_reducible refine Frz.mk ?_))
  all_goals try (refine Held.mk ?_;(try dsimp only at *);(try simp only[zad,zac,eqD,inR,big,zaa,Bool.not_true,Bool.not_false,Bool.true_eq,decide_eq_true_eq,decide_eq_false_iff_not,Bool.not_eq_true',Bool.not_eq_false',Bool.and_eq_true,Prod.mk.injEq,and_true,true_and,Int.not_lt,Int.not_le,gt_iff_lt,ge_iff_le] at *))
  all_goals try omega
  ·
    refine zah.mk ?_
    refine Exists.intro () ?_
    refine And.intro (Leaf.mk ?_) ?_
    · repeat' first|exact True.intro|refine And.intro ?_ ?_
      all_goals try ((change _=_<;>try dsimp only)<;>try with_reducible rfl)
      all_goals try omega
      all_goals (rfl)
    trivial
theorem zbl {rows:List (List Int)} {less:List Int} {N i k:Nat}:(zaN rows less N i k).length=N:=zar _ _
theorem zbW {rows:List (List Int)} {less:List Int} {N i k:Nat} (hk:k<N):(zaN rows less N i k).getD k 0=(zaS rows i).getD k 0:=by
  unfold zaN
  rw[zbI _ 0 N k hk,if_neg (Nat.lt_irrefl k)]
theorem zsJ {α:Type} (d:α) {f:Nat→α} {l:List α} {N:Nat} (hl:l.length=N) (h:∀i,i<N→f i=l.getD i d):tab f N=l:=by
  refine List.ext_getElem (by rw[zar,hl]) fun i h1 h2=>?_
  have hi:i<N:=by rw[zar] at h1;exact h1
  have h3:=zbI f d N i hi
  have h4:=h i hi
  simp only[List.getD_eq_getElem?_getD,List.getElem?_eq_getElem h1,List.getElem?_eq_getElem h2,Option.getD_some] at h3 h4
  rw[h3,h4]
theorem zqg {rows:List (List Int)} {less:List Int} {N i k:Nat} {l:List Int} (hl:l.length=N) (h:∀j,j<N→l.getD j 0=if j<k then lowE rows less N i j else (zaS rows i).getD j 0):l=zaN rows less N i k:=
  (zsJ 0 hl (fun j hj=>(h j hj).symm)).symm
theorem zeR {rows:List (List Int)} {less:List Int} {N i k:Nat} {v:Int} (hk:k<N) (hv:v=lowE rows less N i k):(zaN rows less N i k).set k v=zaN rows less N i (k+1):=by
  refine zqg (by rw[List.length_set,zbl]) fun j hj=>?_
  by_cases e:j=k
  · subst e
    rw[if_pos (by omega)]
    simp[List.getD,List.getElem?_set,zbl,hj,hv]
  · have h1:((zaN rows less N i k).set k v).getD j 0=(zaN rows less N i k).getD j 0:=by
      simp only[List.getD,List.getElem?_set]
      rw[if_neg (fun q=>e q.symm)]
    rw[h1]
    unfold zaN
    rw[zbI _ 0 N j hj]
    by_cases h2:j<k
    · rw[if_pos h2,if_pos (by omega)]
    · rw[if_neg h2,if_neg (by omega)]
theorem zdg {rows:List (List Int)} {less:List Int} {N i k:Nat} (hv:lowE rows less N i k=(zaS rows i).getD k 0):zaN rows less N i k=zaN rows less N i (k+1):=by
  unfold zaN
  refine zdk _ fun j hj=>?_
  by_cases e:j=k
  · subst e;rw[if_neg (Nat.lt_irrefl j),if_pos (by omega),hv]
  · by_cases h2:j<k
    · rw[if_pos h2,if_pos (by omega)]
    · rw[if_neg h2,if_neg (by omega)]
theorem zdh {rows:List (List Int)} {less:List Int} {N i k:Nat} (hc:i*N+k<less.length):(if (zaS rows i).getD k 0 - less.getD (i*N+k) 0 % 2001>0 then (zaS rows i).getD k 0 - less.getD (i*N+k) 0 % 2001 else 0)=lowE rows less N i k:=by
  unfold lowE
  rw[if_pos hc]
  split<;>omega
theorem zeS {rows:List (List Int)} {less:List Int} {N i k:Nat} (hc:¬i*N+k<less.length):lowE rows less N i k=(zaS rows i).getD k 0:=if_neg hc
theorem zhm {rows:List (List Int)} (h:Lines rows) {i:Nat} (hi:i<rows.length):∀k,k≤rows.length→0≤zav rows i k∧zav rows i k≤2000*(k:Int)
  | 0,_=>by simp[zav,sm]
  | k+1,hk=>by
    have a:=zhm h hi k (by omega)
    have b:=h.get hi (k:=k) (by omega)
    have e:zav rows i (k+1)=zav rows i k+(rows.getD i []).getD k 0:=rfl
    omega
theorem zqX {rows:List (List Int)} {less:List Int} {N i:Nat} (hl:(zaS rows i).length=N):zaS rows i=zaN rows less N i 0:=zqg hl fun j _=>by rw[if_neg (Nat.not_lt_zero j)]
theorem zmr {rows:List (List Int)} {less:List Int} {N i:Nat}:zaN rows less N i N=tab (lowE rows less N i) N:=zdk _ fun j hj=>if_pos hj
theorem zam {n:Nat}:(zh9 n).length=n:=zar _ _
@[reducible] def inn (rows:List (List Int)) (less:List Int) (n i:Nat):LoopAnn:={σ:=Nat,pat:=fun k=>[sI 13 k,sI 12 (zav rows i k),.row (70001+i) 3 I64 (zaN rows less n i k)],inv:=fun k=>k≤n,meas:=fun k=>n - k}
theorem v9b1 (rows:List (List Int)) (less:List Int):zdm cfL ops9.toArray (ops9.drop 2) (s9 rows less 1) (fun st=>Goal (∃s:Unit,ent st (hE rows less 1)∧True)):=by
  repeat' (intro hzz;(try (rename Two=>hq;cases hq));(try dsimp only at hzz);(try simp only[zad,zac,eqD,inR,big,zaa,Bool.not_true,Bool.not_false,Bool.true_eq,decide_eq_true_eq,decide_eq_false_iff_not,Bool.not_eq_true',Bool.not_eq_false',Bool.and_eq_true,Prod.mk.injEq,and_true,true_and,Int.not_lt,Int.not_le,gt_iff_lt,ge_iff_le] at hzz);(try (revert hzz;intro _)))
  all_goals try (rename Unit=>hq;clear hq)
  all_goals try ((with_reducible refine Held.mk ?_);(with_reducible (first|refine Frz.mk ?_|refine And.intro (Frz.mk ?_) ?_|refine And.intro ?_ (Frz.mk ?_)));repeat' first|exact True.intro|(change _=_;with_reducible rfl)|refine And.intro ?_ ?_|(with_reducible refine Frz.mk ?_))
  all_goals try (refine Held.mk ?_;(try dsimp only at *);(try simp only[zad,zac,eqD,inR,big,zaa,Bool.not_true,Bool.not_false,Bool.true_eq,decide_eq_true_eq,decide_eq_false_iff_not,Bool.not_eq_true',Bool.not_eq_false',Bool.and_eq_true,Prod.mk.injEq,and_true,true_and,Int.not_lt,Int.not_le,gt_iff_lt,ge_iff_le] at *))
  all_goals try omega
  all_goals
    refine zah.mk ?_
    refine Exists.intro () ?_
    refine And.intro (Leaf.mk ?_) ?_
    · repeat' first|exact True.intro|refine And.intro ?_ ?_
      all_goals try ((change _=_<;>try dsimp only)<;>try with_reducible rfl)
      all_goals try omega
      all_goals (rfl)
    trivial
theorem vQA1 (rows:List (List Int)) (less:List Int):vc cfL (par cfL) [] (.seq Q10 Q11) 0 (hE rows less 1) (fun e st=>match e with | .normal=>Goal (∃s:Unit,ent st (hd rows less 1 0)∧True) | .ret=>False | _=>False):=by
  repeat' (intro hzz;(try (rename Two=>hq;cases hq));(try dsimp only at hzz);(try simp only[zad,zac,eqD,inR,big,zaa,Bool.not_true,Bool.not_false,Bool.true_eq,decide_eq_true_eq,decide_eq_false_iff_not,Bool.not_eq_true',Bool.not_eq_false',Bool.and_eq_true,Prod.mk.injEq,and_true,true_and,Int.not_lt,Int.not_le,gt_iff_lt,ge_iff_le] at hzz);(try (revert hzz;intro _)))
  all_goals try (rename Unit=>hq;clear hq)
  all_goals try ((with_reducible refine Held.mk ?_);(with_reducible (first|refine Frz.mk ?_|refine And.intro (Frz.mk ?_) ?_|refine And.intro ?_ (Frz.mk ?_)));repeat' first|exact True.intro|(change _=_;with_reducible rfl)|refine And.intro ?_ ?_|(with_reducible refine Frz.mk ?_))
  all_goals try (refine Held.mk ?_;(try dsimp only at *);(try simp only[zad,zac,eqD,inR,big,zaa,Bool.not_true,Bool.not_false,Bool.true_eq,decide_eq_true_eq,decide_eq_false_iff_not,Bool.not_eq_true',Bool.not_eq_false',Bool.and_eq_true,Prod.mk.injEq,and_true,true_and,Int.not_lt,Int.not_le,gt_iff_lt,ge_iff_le] at *))
  all_goals try omega
  ·
    refine zah.mk ?_
    refine Exists.intro () ?_
    refine And.intro (Leaf.mk ?_) ?_
    · repeat' first|exact True.intro|refine And.intro ?_ ?_
      all_goals try ((change _=_<;>try dsimp only)<;>try with_reducible rfl)
      all_goals try omega
      all_goals (rfl)
    trivial
theorem zrE (rows:List (List Int)) (less:List Int) (i:Nat):vc cfL (par cfL) [] Q12 0 (hd rows less 1 i) (fun e st=>match e with | .normal=>Goal (∃s:Unit,ent st (.slot 51 (.one (.d .bool (decide ((i:Int)<(1:Nat)))))::hd rows less 1 i)∧True) | .ret=>False | _=>False):=by
  repeat' (intro hzz;(try (rename Two=>hq;cases hq));(try dsimp only at hzz);(try simp only[zad,zac,eqD,inR,big,zaa,Bool.not_true,Bool.not_false,Bool.true_eq,decide_eq_true_eq,decide_eq_false_iff_not,Bool.not_eq_true',Bool.not_eq_false',Bool.and_eq_true,Prod.mk.injEq,and_true,true_and,Int.not_lt,Int.not_le,gt_iff_lt,ge_iff_le] at hzz);(try (revert hzz;intro _)))
  all_goals try (rename Unit=>hq;clear hq)
  all_goals try ((with_reducible refine Held.mk ?_);(with_reducible (first|refine Frz.mk ?_|refine And.intro (Frz.mk ?_) ?_|refine And.intro ?_ (Frz.mk ?_)));repeat' first|exact True.intro|(change _=_;with_reducible rfl)|refine And.intro ?_ ?_|(with_reducible refine Frz.mk ?_))
  all_goals try (refine Held.mk ?_;(try dsimp only at *);(try simp only[zad,zac,eqD,inR,big,zaa,Bool.not_true,Bool.not_false,Bool.true_eq,decide_eq_true_eq,decide_eq_false_iff_not,Bool.not_eq_true',Bool.not_eq_false',Bool.and_eq_true,Prod.mk.injEq,and_true,true_and,Int.not_lt,Int.not_le,gt_iff_lt,ge_iff_le] at *))
  all_goals try omega
  ·
    refine zah.mk ?_
    refine Exists.intro () ?_
    refine And.intro (Leaf.mk ?_) ?_
    · repeat' first|exact True.intro|refine And.intro ?_ ?_
      all_goals try ((change _=_<;>try dsimp only)<;>try with_reducible rfl)
      all_goals try omega
      all_goals (rfl)
    trivial
theorem v9b2 (rows:List (List Int)) (less:List Int):zdm cfL ops9.toArray (ops9.drop 2) (s9 rows less 2) (fun st=>Goal (∃s:Unit,ent st (hE rows less 2)∧True)):=by
  repeat' (intro hzz;(try (rename Two=>hq;cases hq));(try dsimp only at hzz);(try simp only[zad,zac,eqD,inR,big,zaa,Bool.not_true,Bool.not_false,Bool.true_eq,decide_eq_true_eq,decide_eq_false_iff_not,Bool.not_eq_true',Bool.not_eq_false',Bool.and_eq_true,Prod.mk.injEq,and_true,true_and,Int.not_lt,Int.not_le,gt_iff_lt,ge_iff_le] at hzz);(try (revert hzz;intro _)))
  all_goals try (rename Unit=>hq;clear hq)
  all_goals try ((with_reducible refine Held.mk ?_);(with_reducible (first|refine Frz.mk ?_|refine And.intro (Frz.mk ?_) ?_|refine And.intro ?_ (Frz.mk ?_)));repeat' first|exact True.intro|(change _=_;with_reducible rfl)|refine And.intro ?_ ?_|(with_reducible refine Frz.mk ?_))
  all_goals try (refine Held.mk ?_;(try dsimp only at *);(try simp only[zad,zac,eqD,inR,big,zaa,Bool.not_true,Bool.not_false,Bool.true_eq,decide_eq_true_eq,decide_eq_false_iff_not,Bool.not_eq_true',Bool.not_eq_false',Bool.and_eq_true,Prod.mk.injEq,and_true,true_and,Int.not_lt,Int.not_le,gt_iff_lt,ge_iff_le] at *))
  all_goals try omega
  all_goals
    refine zah.mk ?_
    refine Exists.intro () ?_
    refine And.intro (Leaf.mk ?_) ?_
    · repeat' first|exact True.intro|refine And.intro ?_ ?_
      all_goals try ((change _=_<;>try dsimp only)<;>try with_reducible rfl)
      all_goals try omega
      all_goals (rfl)
    trivial
theorem vQA2 (rows:List (List Int)) (less:List Int):vc cfL (par cfL) [] (.seq Q10 Q11) 0 (hE rows less 2) (fun e st=>match e with | .normal=>Goal (∃s:Unit,ent st (hd rows less 2 0)∧True) | .ret=>False | _=>False):=by
  repeat' (intro hzz;(try (rename Two=>hq;cases hq));(try dsimp only at hzz);(try simp only[zad,zac,eqD,inR,big,zaa,Bool.not_true,Bool.not_false,Bool.true_eq,decide_eq_true_eq,decide_eq_false_iff_not,Bool.not_eq_true',Bool.not_eq_false',Bool.and_eq_true,Prod.mk.injEq,and_true,true_and,Int.not_lt,Int.not_le,gt_iff_lt,ge_iff_le] at hzz);(try (revert hzz;intro _)))
  all_goals try (rename Unit=>hq;clear hq)
  all_goals try ((with_reducible refine Held.mk ?_);(with_reducible (first|refine Frz.mk ?_|refine And.intro (Frz.mk ?_) ?_|refine And.intro ?_ (Frz.mk ?_)));repeat' first|exact True.intro|(change _=_;with_reducible rfl)|refine And.intro ?_ ?_|(with_reducible refine Frz.mk ?_))
  all_goals try (refine Held.mk ?_;(try dsimp only at *);(try simp only[zad,zac,eqD,inR,big,zaa,Bool.not_true,Bool.not_false,Bool.true_eq,decide_eq_true_eq,decide_eq_false_iff_not,Bool.not_eq_true',Bool.not_eq_false',Bool.and_eq_true,Prod.mk.injEq,and_true,true_and,Int.not_lt,Int.not_le,gt_iff_lt,ge_iff_le] at *))
  all_goals try omega
  ·
    refine zah.mk ?_
    refine Exists.intro () ?_
    refine And.intro (Leaf.mk ?_) ?_
    · repeat' first|exact True.intro|refine And.intro ?_ ?_
      all_goals try ((change _=_<;>try dsimp only)<;>try with_reducible rfl)
      all_goals try omega
      all_goals (rfl)
    trivial
theorem zrD (rows:List (List Int)) (less:List Int) (i:Nat):vc cfL (par cfL) [] Q12 0 (hd rows less 2 i) (fun e st=>match e with | .normal=>Goal (∃s:Unit,ent st (.slot 51 (.one (.d .bool (decide ((i:Int)<(2:Nat)))))::hd rows less 2 i)∧True) | .ret=>False | _=>False):=by
  repeat' (intro hzz;(try (rename Two=>hq;cases hq));(try dsimp only at hzz);(try simp only[zad,zac,eqD,inR,big,zaa,Bool.not_true,Bool.not_false,Bool.true_eq,decide_eq_true_eq,decide_eq_false_iff_not,Bool.not_eq_true',Bool.not_eq_false',Bool.and_eq_true,Prod.mk.injEq,and_true,true_and,Int.not_lt,Int.not_le,gt_iff_lt,ge_iff_le] at hzz);(try (revert hzz;intro _)))
  all_goals try (rename Unit=>hq;clear hq)
  all_goals try ((with_reducible refine Held.mk ?_);(with_reducible (first|refine Frz.mk ?_|refine And.intro (Frz.mk ?_) ?_|refine And.intro ?_ (Frz.mk ?_)));repeat' first|exact True.intro|(change _=_;with_reducible rfl)|refine And.intro ?_ ?_|(with_reducible refine Frz.mk ?_))
  all_goals try (refine Held.mk ?_;(try dsimp only at *);(try simp only[zad,zac,eqD,inR,big,zaa,Bool.not_true,Bool.not_false,Bool.true_eq,decide_eq_true_eq,decide_eq_false_iff_not,Bool.not_eq_true',Bool.not_eq_false',Bool.and_eq_true,Prod.mk.injEq,and_true,true_and,Int.not_lt,Int.not_le,gt_iff_lt,ge_iff_le] at *))
  all_goals try omega
  ·
    refine zah.mk ?_
    refine Exists.intro () ?_
    refine And.intro (Leaf.mk ?_) ?_
    · repeat' first|exact True.intro|refine And.intro ?_ ?_
      all_goals try ((change _=_<;>try dsimp only)<;>try with_reducible rfl)
      all_goals try omega
      all_goals (rfl)
    trivial
theorem v9b3 (rows:List (List Int)) (less:List Int):zdm cfL ops9.toArray (ops9.drop 2) (s9 rows less 3) (fun st=>Goal (∃s:Unit,ent st (hE rows less 3)∧True)):=by
  repeat' (intro hzz;(try (rename Two=>hq;cases hq));(try dsimp only at hzz);(try simp only[zad,zac,eqD,inR,big,zaa,Bool.not_true,Bool.not_false,Bool.true_eq,decide_eq_true_eq,decide_eq_false_iff_not,Bool.not_eq_true',Bool.not_eq_false',Bool.and_eq_true,Prod.mk.injEq,and_true,true_and,Int.not_lt,Int.not_le,gt_iff_lt,ge_iff_le] at hzz);(try (revert hzz;intro _)))
  all_goals try (rename Unit=>hq;clear hq)
  all_goals try ((with_reducible refine Held.mk ?_);(with_reducible (first|refine Frz.mk ?_|refine And.intro (Frz.mk ?_) ?_|refine And.intro ?_ (Frz.mk ?_)));repeat' first|exact True.intro|(change _=_;with_reducible rfl)|refine And.intro ?_ ?_|(with_reducible refine Frz.mk ?_))
  all_goals try (refine Held.mk ?_;(try dsimp only at *);(try simp only[zad,zac,eqD,inR,big,zaa,Bool.not_true,Bool.not_false,Bool.true_eq,decide_eq_true_eq,decide_eq_false_iff_not,Bool.not_eq_true',Bool.not_eq_false',Bool.and_eq_true,Prod.mk.injEq,and_true,true_and,Int.not_lt,Int.not_le,gt_iff_lt,ge_iff_le] at *))
  all_goals try omega
  all_goals
    refine zah.mk ?_
    refine Exists.intro () ?_
    refine And.intro (Leaf.mk ?_) ?_
    · repeat' first|exact True.intro|refine And.intro ?_ ?_
      all_goals try ((change _=_<;>try dsimp only)<;>try with_reducible rfl)
      all_goals try omega
      all_goals (rfl)
    trivial
theorem vQA3 (rows:List (List Int)) (less:List Int):vc cfL (par cfL) [] (.seq Q10 Q11) 0 (hE rows less 3) (fun e st=>match e with | .normal=>Goal (∃s:Unit,ent st (hd rows less 3 0)∧True) | .ret=>False | _=>False):=by
  repeat' (intro hzz;(try (rename Two=>hq;cases hq));(try dsimp only at hzz);(try simp only[zad,zac,eqD,inR,big,zaa,Bool.not_true,Bool.not_false,Bool.true_eq,decide_eq_true_eq,decide_eq_false_iff_not,Bool.not_eq_true',Bool.not_eq_false',Bool.and_eq_true,Prod.mk.injEq,and_true,true_and,Int.not_lt,Int.not_le,gt_iff_lt,ge_iff_le] at hzz);(try (revert hzz;intro _)))
  all_goals try (rename Unit=>hq;clear hq)
  all_goals try ((with_reducible refine Held.mk ?_);(with_reducible (first|refine Frz.mk ?_|refine And.intro (Frz.mk ?_) ?_|refine And.intro ?_ (Frz.mk ?_)));repeat' first|exact True.intro|(change _=_;with_reducible rfl)|refine And.intro ?_ ?_|(with_reducible refine Frz.mk ?_))
  all_goals try (refine Held.mk ?_;(try dsimp only at *);(try simp only[zad,zac,eqD,inR,big,zaa,Bool.not_true,Bool.not_false,Bool.true_eq,decide_eq_true_eq,decide_eq_false_iff_not,Bool.not_eq_true',Bool.not_eq_false',Bool.and_eq_true,Prod.mk.injEq,and_true,true_and,Int.not_lt,Int.not_le,gt_iff_lt,ge_iff_le] at *))
  all_goals try omega
  ·
    refine zah.mk ?_
    refine Exists.intro () ?_
    refine And.intro (Leaf.mk ?_) ?_
    · repeat' first|exact True.intro|refine And.intro ?_ ?_
      all_goals try ((change _=_<;>try dsimp only)<;>try with_reducible rfl)
      all_goals try omega
      all_goals (rfl)
    trivial
theorem zrC (rows:List (List Int)) (less:List Int) (i:Nat):vc cfL (par cfL) [] Q12 0 (hd rows less 3 i) (fun e st=>match e with | .normal=>Goal (∃s:Unit,ent st (.slot 51 (.one (.d .bool (decide ((i:Int)<(3:Nat)))))::hd rows less 3 i)∧True) | .ret=>False | _=>False):=by
  repeat' (intro hzz;(try (rename Two=>hq;cases hq));(try dsimp only at hzz);(try simp only[zad,zac,eqD,inR,big,zaa,Bool.not_true,Bool.not_false,Bool.true_eq,decide_eq_true_eq,decide_eq_false_iff_not,Bool.not_eq_true',Bool.not_eq_false',Bool.and_eq_true,Prod.mk.injEq,and_true,true_and,Int.not_lt,Int.not_le,gt_iff_lt,ge_iff_le] at hzz);(try (revert hzz;intro _)))
  all_goals try (rename Unit=>hq;clear hq)
  all_goals try ((with_reducible refine Held.mk ?_);(with_reducible (first|refine Frz.mk ?_|refine And.intro (Frz.mk ?_) ?_|refine And.intro ?_ (Frz.mk ?_)));repeat' first|exact True.intro|(change _=_;with_reducible rfl)|refine And.intro ?_ ?_|(with_reducible refine Frz.mk ?_))
  all_goals try (refine Held.mk ?_;(try dsimp only at *);(try simp only[zad,zac,eqD,inR,big,zaa,Bool.not_true,Bool.not_false,Bool.true_eq,decide_eq_true_eq,decide_eq_false_iff_not,Bool.not_eq_true',Bool.not_eq_false',Bool.and_eq_true,Prod.mk.injEq,and_true,true_and,Int.not_lt,Int.not_le,gt_iff_lt,ge_iff_le] at *))
  all_goals try omega
  ·
    refine zah.mk ?_
    refine Exists.intro () ?_
    refine And.intro (Leaf.mk ?_) ?_
    · repeat' first|exact True.intro|refine And.intro ?_ ?_
      all_goals try ((change _=_<;>try dsimp only)<;>try with_reducible rfl)
      all_goals try omega
      all_goals (rfl)
    trivial
theorem v9b4 (rows:List (List Int)) (less:List Int):zdm cfL ops9.toArray (ops9.drop 2) (s9 rows less 4) (fun st=>Goal (∃s:Unit,ent st (hE rows less 4)∧True)):=by
  repeat' (intro hzz;(try (rename Two=>hq;cases hq));(try dsimp only at hzz);(try simp only[zad,zac,eqD,inR,big,zaa,Bool.not_true,Bool.not_false,Bool.true_eq,decide_eq_true_eq,decide_eq_false_iff_not,Bool.not_eq_true',Bool.not_eq_false',Bool.and_eq_true,Prod.mk.injEq,and_true,true_and,Int.not_lt,Int.not_le,gt_iff_lt,ge_iff_le] at hzz);(try (revert hzz;intro _)))
  all_goals try (rename Unit=>hq;clear hq)
  all_goals try ((with_reducible refine Held.mk ?_);(with_reducible (first|refine Frz.mk ?_|refine And.intro (Frz.mk ?_) ?_|refine And.intro ?_ (Frz.mk ?_)));repeat' first|exact True.intro|(change _=_;with_reducible rfl)|refine And.intro ?_ ?_|(with_reducible refine Frz.mk ?_))
  all_goals try (refine Held.mk ?_;(try dsimp only at *);(try simp only[zad,zac,eqD,inR,big,zaa,Bool.not_true,Bool.not_false,Bool.true_eq,decide_eq_true_eq,decide_eq_false_iff_not,Bool.not_eq_true',Bool.not_eq_false',Bool.and_eq_true,Prod.mk.injEq,and_true,true_and,Int.not_lt,Int.not_le,gt_iff_lt,ge_iff_le] at *))
  all_goals try omega
  all_goals
    refine zah.mk ?_
    refine Exists.intro () ?_
    refine And.intro (Leaf.mk ?_) ?_
    · repeat' first|exact True.intro|refine And.intro ?_ ?_
      all_goals try ((change _=_<;>try dsimp only)<;>try with_reducible rfl)
      all_goals try omega
      all_goals (rfl)
    trivial
theorem vQA4 (rows:List (List Int)) (less:List Int):vc cfL (par cfL) [] (.seq Q10 Q11) 0 (hE rows less 4) (fun e st=>match e with | .normal=>Goal (∃s:Unit,ent st (hd rows less 4 0)∧True) | .ret=>False | _=>False):=by
  repeat' (intro hzz;(try (rename Two=>hq;cases hq));(try dsimp only at hzz);(try simp only[zad,zac,eqD,inR,big,zaa,Bool.not_true,Bool.not_false,Bool.true_eq,decide_eq_true_eq,decide_eq_false_iff_not,Bool.not_eq_true',Bool.not_eq_false',Bool.and_eq_true,Prod.mk.injEq,and_true,true_and,Int.not_lt,Int.not_le,gt_iff_lt,ge_iff_le] at hzz);(try (revert hzz;intro _)))
  all_goals try (rename Unit=>hq;clear hq)
  all_goals try ((with_reducible refine Held.mk ?_);(with_reducible (first|refine Frz.mk ?_|refine And.intro (Frz.mk ?_) ?_|refine And.intro ?_ (Frz.mk ?_)));repeat' first|exact True.intro|(change _=_;with_reducible rfl)|refine And.intro ?_ ?_|(with_reducible refine Frz.mk ?_))
  all_goals try (refine Held.mk ?_;(try dsimp only at *);(try simp only[zad,zac,eqD,inR,big,zaa,Bool.not_true,Bool.not_false,Bool.true_eq,decide_eq_true_eq,decide_eq_false_iff_not,Bool.not_eq_true',Bool.not_eq_false',Bool.and_eq_true,Prod.mk.injEq,and_true,true_and,Int.not_lt,Int.not_le,gt_iff_lt,ge_iff_le] at *))
  all_goals try omega
  ·
    refine zah.mk ?_
    refine Exists.intro () ?_
    refine And.intro (Leaf.mk ?_) ?_
    · repeat' first|exact True.intro|refine And.intro ?_ ?_
      all_goals try ((change _=_<;>try dsimp only)<;>try with_reducible rfl)
      all_goals try omega
      all_goals (rfl)
    trivial
theorem zrB (rows:List (List Int)) (less:List Int) (i:Nat):vc cfL (par cfL) [] Q12 0 (hd rows less 4 i) (fun e st=>match e with | .normal=>Goal (∃s:Unit,ent st (.slot 51 (.one (.d .bool (decide ((i:Int)<(4:Nat)))))::hd rows less 4 i)∧True) | .ret=>False | _=>False):=by
  repeat' (intro hzz;(try (rename Two=>hq;cases hq));(try dsimp only at hzz);(try simp only[zad,zac,eqD,inR,big,zaa,Bool.not_true,Bool.not_false,Bool.true_eq,decide_eq_true_eq,decide_eq_false_iff_not,Bool.not_eq_true',Bool.not_eq_false',Bool.and_eq_true,Prod.mk.injEq,and_true,true_and,Int.not_lt,Int.not_le,gt_iff_lt,ge_iff_le] at hzz);(try (revert hzz;intro _)))
  all_goals try (rename Unit=>hq;clear hq)
  all_goals try ((with_reducible refine Held.mk ?_);(with_reducible (first|refine Frz.mk ?_|refine And.intro (Frz.mk ?_) ?_|refine And.intro ?_ (Frz.mk ?_)));repeat' first|exact True.intro|(change _=_;with_reducible rfl)|refine And.intro ?_ ?_|(with_reducible refine Frz.mk ?_))
  all_goals try (refine Held.mk ?_;(try dsimp only at *);(try simp only[zad,zac,eqD,inR,big,zaa,Bool.not_true,Bool.not_false,Bool.true_eq,decide_eq_true_eq,decide_eq_false_iff_not,Bool.not_eq_true',Bool.not_eq_false',Bool.and_eq_true,Prod.mk.injEq,and_true,true_and,Int.not_lt,Int.not_le,gt_iff_lt,ge_iff_le] at *))
  all_goals try omega
  ·
    refine zah.mk ?_
    refine Exists.intro () ?_
    refine And.intro (Leaf.mk ?_) ?_
    · repeat' first|exact True.intro|refine And.intro ?_ ?_
      all_goals try ((change _=_<;>try dsimp only)<;>try with_reducible rfl)
      all_goals try omega
      all_goals (rfl)
    trivial
@[reducible] def sT (rows L:List (List Int)) (less:List Int) (n:Nat):St:=[sB 9 (zaz rows n n),.slot 10 (.one (.o 60010 n)),.row 60010 3 I64 (zh9 n),.slot 8 (.one (.p 8 0)),.cell 8 0 (.o 70000 n),.row 70000 31 (.sl I64) L]++s5 rows less
abbrev retV (st:St):Prop:=zjr cfL Try.f12.results.toList zeA.res (true,()) st
theorem vQT (rows L:List (List Int)) (less:List Int) (n:Nat) (hL:Lines rows) (hl:rows.length=n) (hc:zai rows=0) (hp:zdn rows) (hLn:L.length=n) (hLo:L=lowM rows less n):vc cfL (par cfL) [] QT 0 (sT rows L less n) (fun e st=>match e with | .normal | .ret=>retV st | _=>False):=by
  have hP:Hid (zdn rows):=hp
  have hLi:Hid (Lines rows):=hL
  have hn:n≤4:=by have:=hL.le;omega
  have hol:(zh9 n).length=n:=zam
  cases hF:zb4 (zaG (matI 0 rows)) with
  | true =>
    have hW:fWF rows=(wtsN (matI 0 rows),0):=by unfold fWF;rw[if_pos hc,if_pos hF]
    have c1:=zrw hL hF
    have c2:zfN rows (wtsN (matI 0 rows))=0:=by unfold zfN;rw[if_pos hc];exact c1
    have eA:zeW L=(true,0):=by
      subst hLo;subst hl
      unfold zeW
      rw[if_pos (zpY (zkt hL)),zoi hL c1]
    have hwl:Hid (zlx (wtsN (matI 0 rows)).length):=by
      have h1:=(zql c1).1
      have h2:=hL.le
      show (wtsN (matI 0 rows)).length≤1000000
      omega
    clear hLo
    cases hB:zaz rows n n with
    | true=>
      have c3:zfN rows (zh9 n)=0:=by
        unfold zfN;rw[if_pos hc]
        subst hl
        exact zn7 hB
      clear hL hp
      repeat' (intro hzz;(try (rename Two=>hq;cases hq));(try dsimp only at hzz);(try simp only[zad,zac,eqD,inR,big,zaa,Bool.not_true,Bool.not_false,Bool.true_eq,decide_eq_true_eq,decide_eq_false_iff_not,Bool.not_eq_true',Bool.not_eq_false',Bool.and_eq_true,Prod.mk.injEq,and_true,true_and,Int.not_lt,Int.not_le,gt_iff_lt,ge_iff_le] at hzz);(try simp only[zad,zac,eqD,inR,big,zaa,Bool.not_true,Bool.not_false,Bool.true_eq,decide_eq_true_eq,decide_eq_false_iff_not,Bool.not_eq_true',Bool.not_eq_false',Bool.and_eq_true,Prod.mk.injEq,and_true,true_and,Int.not_lt,Int.not_le,gt_iff_lt,ge_iff_le,hF,hW,c1,c2,c3,eA,Bool.false_eq_true,not_true_eq_false,not_false_eq_true] at hzz);(try (revert hzz;intro _)))
      all_goals try (rename Unit=>hq;clear hq)
      all_goals try ((with_reducible refine Held.mk ?_);(with_reducible (first|refine Frz.mk ?_|refine And.intro (Frz.mk ?_) ?_|refine And.intro ?_ (Frz.mk ?_)));repeat' first|exact True.intro|(change _=_;with_reducible rfl)|refine And.intro ?_ ?_|(with_reducible refine Frz.mk ?_))
      all_goals try (refine Held.mk ?_;(try dsimp only at *);(try simp only[zad,zac,eqD,inR,big,zaa,Bool.not_true,Bool.not_false,Bool.true_eq,decide_eq_true_eq,decide_eq_false_iff_not,Bool.not_eq_true',Bool.not_eq_false',Bool.and_eq_true,Prod.mk.injEq,and_true,true_and,Int.not_lt,Int.not_le,gt_iff_lt,ge_iff_le] at *);(try simp only[zad,zac,eqD,inR,big,zaa,Bool.not_true,Bool.not_false,Bool.true_eq,decide_eq_true_eq,decide_eq_false_iff_not,Bool.not_eq_true',Bool.not_eq_false',Bool.and_eq_true,Prod.mk.injEq,and_true,true_and,Int.not_lt,Int.not_le,gt_iff_lt,ge_iff_le,hF,hW,c1,c2,c3,eA,Bool.false_eq_true,not_true_eq_false,not_false_eq_true] at *))
      all_goals try omega
      all_goals first|exact hP|exact hLi|exact hwl|exact hol.symm|exact hLn.symm|rfl|decide|(rename zaz _ _ _=true=>hx;exact absurd (hB.symm.trans hx) (by decide))|trace_state
    | false=>
      clear hL hp
      repeat' (intro hzz;(try (rename Two=>hq;cases hq));(try dsimp only at hzz);(try simp only[zad,zac,eqD,inR,big,zaa,Bool.not_true,Bool.not_false,Bool.true_eq,decide_eq_true_eq,decide_eq_false_iff_not,Bool.not_eq_true',Bool.not_eq_false',Bool.and_eq_true,Prod.mk.injEq,and_true,true_and,Int.not_lt,Int.not_le,gt_iff_lt,ge_iff_le] at hzz);(try simp only[zad,zac,eqD,inR,big,zaa,Bool.not_true,Bool.not_false,Bool.true_eq,decide_eq_true_eq,decide_eq_false_iff_not,Bool.not_eq_true',Bool.not_eq_false',Bool.and_eq_true,Prod.mk.injEq,and_true,true_and,Int.not_lt,Int.not_le,gt_iff_lt,ge_iff_le,hF,hW,c1,c2,eA,Bool.false_eq_true,not_true_eq_false,not_false_eq_true] at hzz);(try (revert hzz;intro _)))
      all_goals try (rename Unit=>hq;clear hq)
      all_goals try ((with_reducible refine Held.mk ?_);(with_reducible (first|refine Frz.mk ?_|refine And.intro (Frz.mk ?_) ?_|refine And.intro ?_ (Frz.mk ?_)));repeat' first|exact True.intro|(change _=_;with_reducible rfl)|refine And.intro ?_ ?_|(with_reducible refine Frz.mk ?_))
      all_goals try (refine Held.mk ?_;(try dsimp only at *);(try simp only[zad,zac,eqD,inR,big,zaa,Bool.not_true,Bool.not_false,Bool.true_eq,decide_eq_true_eq,decide_eq_false_iff_not,Bool.not_eq_true',Bool.not_eq_false',Bool.and_eq_true,Prod.mk.injEq,and_true,true_and,Int.not_lt,Int.not_le,gt_iff_lt,ge_iff_le] at *);(try simp only[zad,zac,eqD,inR,big,zaa,Bool.not_true,Bool.not_false,Bool.true_eq,decide_eq_true_eq,decide_eq_false_iff_not,Bool.not_eq_true',Bool.not_eq_false',Bool.and_eq_true,Prod.mk.injEq,and_true,true_and,Int.not_lt,Int.not_le,gt_iff_lt,ge_iff_le,hF,hW,c1,c2,eA,Bool.false_eq_true,not_true_eq_false,not_false_eq_true] at *))
      all_goals try omega
      all_goals first|exact hP|exact hLi|exact hwl|exact hol.symm|exact hLn.symm|rfl|decide|(rename zaz _ _ _=true=>hx;exact absurd (hB.symm.trans hx) (by decide))|trace_state
  | false=>
    have hW:fWF rows=([],28):=by unfold fWF;rw[if_pos hc,if_neg (by rw[hF];decide)]
    have hB:zaz rows n n=false:=by
      cases hB:zaz rows n n with
      | false=>rfl
      | true=>
        subst hl
        have:=zcy hL (zn7 hB)
        rw[hF] at this
        exact absurd this (by decide)
    clear hL hp hLo
    repeat' (intro hzz;(try (rename Two=>hq;cases hq));(try dsimp only at hzz);(try simp only[zad,zac,eqD,inR,big,zaa,Bool.not_true,Bool.not_false,Bool.true_eq,decide_eq_true_eq,decide_eq_false_iff_not,Bool.not_eq_true',Bool.not_eq_false',Bool.and_eq_true,Prod.mk.injEq,and_true,true_and,Int.not_lt,Int.not_le,gt_iff_lt,ge_iff_le] at hzz);(try simp only[zad,zac,eqD,inR,big,zaa,Bool.not_true,Bool.not_false,Bool.true_eq,decide_eq_true_eq,decide_eq_false_iff_not,Bool.not_eq_true',Bool.not_eq_false',Bool.and_eq_true,Prod.mk.injEq,and_true,true_and,Int.not_lt,Int.not_le,gt_iff_lt,ge_iff_le,hF,hW,List.length_nil,Bool.false_eq_true,not_true_eq_false,not_false_eq_true] at hzz);(try (revert hzz;intro _)))
    all_goals try (rename Unit=>hq;clear hq)
    all_goals try ((with_reducible refine Held.mk ?_);(with_reducible (first|refine Frz.mk ?_|refine And.intro (Frz.mk ?_) ?_|refine And.intro ?_ (Frz.mk ?_)));repeat' first|exact True.intro|(change _=_;with_reducible rfl)|refine And.intro ?_ ?_|(with_reducible refine Frz.mk ?_))
    all_goals try (refine Held.mk ?_;(try dsimp only at *);(try simp only[zad,zac,eqD,inR,big,zaa,Bool.not_true,Bool.not_false,Bool.true_eq,decide_eq_true_eq,decide_eq_false_iff_not,Bool.not_eq_true',Bool.not_eq_false',Bool.and_eq_true,Prod.mk.injEq,and_true,true_and,Int.not_lt,Int.not_le,gt_iff_lt,ge_iff_le] at *);(try simp only[zad,zac,eqD,inR,big,zaa,Bool.not_true,Bool.not_false,Bool.true_eq,decide_eq_true_eq,decide_eq_false_iff_not,Bool.not_eq_true',Bool.not_eq_false',Bool.and_eq_true,Prod.mk.injEq,and_true,true_and,Int.not_lt,Int.not_le,gt_iff_lt,ge_iff_le,hF,hW,List.length_nil,Bool.false_eq_true,not_true_eq_false,not_false_eq_true] at *))
    all_goals try omega
    all_goals first|exact hP|exact hLi|exact hol.symm|exact hLn.symm|rfl|decide|(rename zaz _ _ _=true=>hx;exact absurd (hB.symm.trans hx) (by decide))|trace_state
theorem zsH (rows:List (List Int)) (less:List Int) (hL:Lines rows) (hl:rows.length=1):vc cfL (par cfL) [fun _=>inn rows less 1 0] QB 0 (hd rows less 1 0) (fun e st=>match e with | .normal=>Goal (∃s:Unit,ent st (hd rows less 1 (0+1))∧True) | .ret=>False | _=>False):=by
  have hr:(zaS rows 0).length=1:=(hL.row (by omega)).trans hl
  have hb:=@zhm rows hL 0 (by omega)
  have hg:=fun k hk=>@Lines.get rows hL 0 k (by omega) hk
  have hm:∀z:Int,0≤z % 2001∧z % 2001<2001:=fun z=>⟨Int.emod_nonneg _ (by decide),Int.emod_lt_of_pos _ (by decide)⟩
  repeat' (intro hzz;(try (rename Two=>hq;cases hq));(try dsimp only at hzz);(try simp only[zad,zac,eqD,inR,big,zaa,Bool.not_true,Bool.not_false,Bool.true_eq,decide_eq_true_eq,decide_eq_false_iff_not,Bool.not_eq_true',Bool.not_eq_false',Bool.and_eq_true,Prod.mk.injEq,and_true,true_and,Int.not_lt,Int.not_le,gt_iff_lt,ge_iff_le] at hzz);(try simp only[zad,zac,eqD,inR,big,zaa,Bool.not_true,Bool.not_false,Bool.true_eq,decide_eq_true_eq,decide_eq_false_iff_not,Bool.not_eq_true',Bool.not_eq_false',Bool.and_eq_true,Prod.mk.injEq,and_true,true_and,Int.not_lt,Int.not_le,gt_iff_lt,ge_iff_le,zax,zaj,Int.toNat_natCast] at hzz);(try (revert hzz;intro _)))
  all_goals try (rename Unit=>hq;clear hq)
  all_goals try ((with_reducible refine Held.mk ?_);(with_reducible (first|refine Frz.mk ?_|refine And.intro (Frz.mk ?_) ?_|refine And.intro ?_ (Frz.mk ?_)));repeat' first|exact True.intro|(change _=_;with_reducible rfl)|refine And.intro ?_ ?_|(with_reducible refine Frz.mk ?_))
  all_goals try (refine Held.mk ?_;(try dsimp only at *);(try simp only[zad,zac,eqD,inR,big,zaa,Bool.not_true,Bool.not_false,Bool.true_eq,decide_eq_true_eq,decide_eq_false_iff_not,Bool.not_eq_true',Bool.not_eq_false',Bool.and_eq_true,Prod.mk.injEq,and_true,true_and,Int.not_lt,Int.not_le,gt_iff_lt,ge_iff_le] at *);(try simp only[zad,zac,eqD,inR,big,zaa,Bool.not_true,Bool.not_false,Bool.true_eq,decide_eq_true_eq,decide_eq_false_iff_not,Bool.not_eq_true',Bool.not_eq_false',Bool.and_eq_true,Prod.mk.injEq,and_true,true_and,Int.not_lt,Int.not_le,gt_iff_lt,ge_iff_le,zax,zaj,Int.toNat_natCast] at *))
  all_goals try omega
  ·
    refine zah.mk ?_
    refine Exists.intro (0:Nat) ?_
    refine And.intro (Leaf.mk ?_) ?_
    · repeat' first|exact True.intro|refine And.intro ?_ ?_
      all_goals try ((change _=_<;>try dsimp only)<;>try with_reducible rfl)
      all_goals try omega
      all_goals (rfl)
    exact Nat.zero_le _
  · rename_i k hk hlt
    show (0:Int)≤(k:Int)∧(k:Int)<((zaS rows 0).length:Int)
    rw[hr];omega
  · rename_i k hk hlt
    have b:=hb k (by omega)
    have g:=hg k (by omega)
    show -9223372036854775808≤zav rows 0 k+(rows.getD 0 []).getD k 0∧zav rows 0 k+(rows.getD 0 []).getD k 0≤9223372036854775807
    omega
  · rename_i k hk hlt hc
    rw[zbl];omega
  · decide
  · rename_i k hk hlt hc
    have g:=hg k (by omega)
    have m:=hm (less.getD ((((0:Nat):Int)*((1:Nat):Int)+(k:Int)).toNat) 0)
    show -9223372036854775808≤(zaN rows less 1 0 k).getD k 0 - less.getD ((((0:Nat):Int)*((1:Nat):Int)+(k:Int)).toNat) 0 % 2001∧(zaN rows less 1 0 k).getD k 0 - less.getD ((((0:Nat):Int)*((1:Nat):Int)+(k:Int)).toNat) 0 % 2001≤9223372036854775807
    rw[zbW (by omega)]
    have g:0≤(zaS rows 0).getD k 0∧(zaS rows 0).getD k 0≤2000:=g
    omega
  · rename_i k hk hlt hc
    rw[zbl];omega
  · rename_i k hk hlt hc
    have e1:(((0:Nat):Int)*((1:Nat):Int)+(k:Int)).toNat=0*1+k:=by omega
    have hv:=@zdh rows less 1 0 k (by omega)
    refine zah.mk ?_
    refine Exists.intro (k+1) ?_
    refine And.intro (Leaf.mk ?_) ?_
    · repeat' first|exact True.intro|refine And.intro ?_ ?_
      all_goals try ((change _=_<;>try dsimp only)<;>try with_reducible rfl)
      all_goals try omega
      all_goals (first|rfl|(refine zeR (by omega) (Eq.trans ?_ hv);rw[←e1];exact congrArg (fun z=>if z - less.getD ((((0:Nat):Int)*((1:Nat):Int)+(k:Int)).toNat) 0 % 2001>0 then z - less.getD ((((0:Nat):Int)*((1:Nat):Int)+(k:Int)).toNat) 0 % 2001 else 0) (zbW (by omega)))|trace_state)
    exact⟨by show k+1≤1;omega,by show 1 - (k+1)<1 - k;omega⟩
  · rename_i k hk hlt hc
    refine zah.mk ?_
    refine Exists.intro (k+1) ?_
    refine And.intro (Leaf.mk ?_) ?_
    · repeat' first|exact True.intro|refine And.intro ?_ ?_
      all_goals try ((change _=_<;>try dsimp only)<;>try with_reducible rfl)
      all_goals try omega
      all_goals (first|rfl|exact zdg (zeS (by omega))|trace_state)
    exact⟨by show k+1≤1;omega,by show 1 - (k+1)<1 - k;omega⟩
  · exact⟨zam.symm,by rw[zam];decide⟩
  · rename_i k hk hlt hc
    have ek:k=1:=by omega
    subst ek
    have e1:zaz rows 1 (0+1)=decide (zav rows 0 1<1000):=by
      show (zaz rows 1 0&&decide (zav rows 0 1<1000))=_
      rw[hc,Bool.true_and]
    refine zah.mk ?_
    refine Exists.intro () ?_
    refine And.intro (Leaf.mk ?_) ?_
    · repeat' first|exact True.intro|refine And.intro ?_ ?_
      all_goals try ((change _=_<;>try dsimp only)<;>try with_reducible rfl)
      all_goals try omega
      all_goals (first|rfl|exact e1.symm|trace_state)
    trivial
  · exact⟨zam.symm,by rw[zam];decide⟩
  · rename_i k hk hlt hc
    have ek:k=1:=by omega
    subst ek
    have e1:zaz rows 1 (0+1)=false:=by
      show (zaz rows 1 0&&decide (zav rows 0 1<1000))=_
      rw[hc,Bool.false_and]
    refine zah.mk ?_
    refine Exists.intro () ?_
    refine And.intro (Leaf.mk ?_) ?_
    · repeat' first|exact True.intro|refine And.intro ?_ ?_
      all_goals try ((change _=_<;>try dsimp only)<;>try with_reducible rfl)
      all_goals try omega
      all_goals (first|rfl|exact e1.symm|trace_state)
    trivial
theorem zsG (rows:List (List Int)) (less:List Int) (hL:Lines rows) (hl:rows.length=2):vc cfL (par cfL) [fun _=>inn rows less 2 0] QB 0 (hd rows less 2 0) (fun e st=>match e with | .normal=>Goal (∃s:Unit,ent st (hd rows less 2 (0+1))∧True) | .ret=>False | _=>False):=by
  have hr:(zaS rows 0).length=2:=(hL.row (by omega)).trans hl
  have hb:=@zhm rows hL 0 (by omega)
  have hg:=fun k hk=>@Lines.get rows hL 0 k (by omega) hk
  have hm:∀z:Int,0≤z % 2001∧z % 2001<2001:=fun z=>⟨Int.emod_nonneg _ (by decide),Int.emod_lt_of_pos _ (by decide)⟩
  repeat' (intro hzz;(try (rename Two=>hq;cases hq));(try dsimp only at hzz);(try simp only[zad,zac,eqD,inR,big,zaa,Bool.not_true,Bool.not_false,Bool.true_eq,decide_eq_true_eq,decide_eq_false_iff_not,Bool.not_eq_true',Bool.not_eq_false',Bool.and_eq_true,Prod.mk.injEq,and_true,true_and,Int.not_lt,Int.not_le,gt_iff_lt,ge_iff_le] at hzz);(try simp only[zad,zac,eqD,inR,big,zaa,Bool.not_true,Bool.not_false,Bool.true_eq,decide_eq_true_eq,decide_eq_false_iff_not,Bool.not_eq_true',Bool.not_eq_false',Bool.and_eq_true,Prod.mk.injEq,and_true,true_and,Int.not_lt,Int.not_le,gt_iff_lt,ge_iff_le,zax,zaj,Int.toNat_natCast] at hzz);(try (revert hzz;intro _)))
  all_goals try (rename Unit=>hq;clear hq)
  all_goals try ((with_reducible refine Held.mk ?_);(with_reducible (first|refine Frz.mk ?_|refine And.intro (Frz.mk ?_) ?_|refine And.intro ?_ (Frz.mk ?_)));repeat' first|exact True.intro|(change _=_;with_reducible rfl)|refine And.intro ?_ ?_|(with_reducible refine Frz.mk ?_))
  all_goals try (refine Held.mk ?_;(try dsimp only at *);(try simp only[zad,zac,eqD,inR,big,zaa,Bool.not_true,Bool.not_false,Bool.true_eq,decide_eq_true_eq,decide_eq_false_iff_not,Bool.not_eq_true',Bool.not_eq_false',Bool.and_eq_true,Prod.mk.injEq,and_true,true_and,Int.not_lt,Int.not_le,gt_iff_lt,ge_iff_le] at *);(try simp only[zad,zac,eqD,inR,big,zaa,Bool.not_true,Bool.not_false,Bool.true_eq,decide_eq_true_eq,decide_eq_false_iff_not,Bool.not_eq_true',Bool.not_eq_false',Bool.and_eq_true,Prod.mk.injEq,and_true,true_and,Int.not_lt,Int.not_le,gt_iff_lt,ge_iff_le,zax,zaj,Int.toNat_natCast] at *))
  all_goals try omega
  ·
    refine zah.mk ?_
    refine Exists.intro (0:Nat) ?_
    refine And.intro (Leaf.mk ?_) ?_
    · repeat' first|exact True.intro|refine And.intro ?_ ?_
      all_goals try ((change _=_<;>try dsimp only)<;>try with_reducible rfl)
      all_goals try omega
      all_goals (rfl)
    exact Nat.zero_le _
  · rename_i k hk hlt
    show (0:Int)≤(k:Int)∧(k:Int)<((zaS rows 0).length:Int)
    rw[hr];omega
  · rename_i k hk hlt
    have b:=hb k (by omega)
    have g:=hg k (by omega)
    show -9223372036854775808≤zav rows 0 k+(rows.getD 0 []).getD k 0∧zav rows 0 k+(rows.getD 0 []).getD k 0≤9223372036854775807
    omega
  · rename_i k hk hlt hc
    rw[zbl];omega
  · decide
  · rename_i k hk hlt hc
    have g:=hg k (by omega)
    have m:=hm (less.getD ((((0:Nat):Int)*((2:Nat):Int)+(k:Int)).toNat) 0)
    show -9223372036854775808≤(zaN rows less 2 0 k).getD k 0 - less.getD ((((0:Nat):Int)*((2:Nat):Int)+(k:Int)).toNat) 0 % 2001∧(zaN rows less 2 0 k).getD k 0 - less.getD ((((0:Nat):Int)*((2:Nat):Int)+(k:Int)).toNat) 0 % 2001≤9223372036854775807
    rw[zbW (by omega)]
    have g:0≤(zaS rows 0).getD k 0∧(zaS rows 0).getD k 0≤2000:=g
    omega
  · rename_i k hk hlt hc
    rw[zbl];omega
  · rename_i k hk hlt hc
    have e1:(((0:Nat):Int)*((2:Nat):Int)+(k:Int)).toNat=0*2+k:=by omega
    have hv:=@zdh rows less 2 0 k (by omega)
    refine zah.mk ?_
    refine Exists.intro (k+1) ?_
    refine And.intro (Leaf.mk ?_) ?_
    · repeat' first|exact True.intro|refine And.intro ?_ ?_
      all_goals try ((change _=_<;>try dsimp only)<;>try with_reducible rfl)
      all_goals try omega
      all_goals (first|rfl|(refine zeR (by omega) (Eq.trans ?_ hv);rw[←e1];exact congrArg (fun z=>if z - less.getD ((((0:Nat):Int)*((2:Nat):Int)+(k:Int)).toNat) 0 % 2001>0 then z - less.getD ((((0:Nat):Int)*((2:Nat):Int)+(k:Int)).toNat) 0 % 2001 else 0) (zbW (by omega)))|trace_state)
    exact⟨by show k+1≤2;omega,by show 2 - (k+1)<2 - k;omega⟩
  · rename_i k hk hlt hc
    refine zah.mk ?_
    refine Exists.intro (k+1) ?_
    refine And.intro (Leaf.mk ?_) ?_
    · repeat' first|exact True.intro|refine And.intro ?_ ?_
      all_goals try ((change _=_<;>try dsimp only)<;>try with_reducible rfl)
      all_goals try omega
      all_goals (first|rfl|exact zdg (zeS (by omega))|trace_state)
    exact⟨by show k+1≤2;omega,by show 2 - (k+1)<2 - k;omega⟩
  · exact⟨zam.symm,by rw[zam];decide⟩
  · rename_i k hk hlt hc
    have ek:k=2:=by omega
    subst ek
    have e1:zaz rows 2 (0+1)=decide (zav rows 0 2<1000):=by
      show (zaz rows 2 0&&decide (zav rows 0 2<1000))=_
      rw[hc,Bool.true_and]
    refine zah.mk ?_
    refine Exists.intro () ?_
    refine And.intro (Leaf.mk ?_) ?_
    · repeat' first|exact True.intro|refine And.intro ?_ ?_
      all_goals try ((change _=_<;>try dsimp only)<;>try with_reducible rfl)
      all_goals try omega
      all_goals (first|rfl|exact e1.symm|trace_state)
    trivial
  · exact⟨zam.symm,by rw[zam];decide⟩
  · rename_i k hk hlt hc
    have ek:k=2:=by omega
    subst ek
    have e1:zaz rows 2 (0+1)=false:=by
      show (zaz rows 2 0&&decide (zav rows 0 2<1000))=_
      rw[hc,Bool.false_and]
    refine zah.mk ?_
    refine Exists.intro () ?_
    refine And.intro (Leaf.mk ?_) ?_
    · repeat' first|exact True.intro|refine And.intro ?_ ?_
      all_goals try ((change _=_<;>try dsimp only)<;>try with_reducible rfl)
      all_goals try omega
      all_goals (first|rfl|exact e1.symm|trace_state)
    trivial
theorem zsF (rows:List (List Int)) (less:List Int) (hL:Lines rows) (hl:rows.length=2):vc cfL (par cfL) [fun _=>inn rows less 2 1] QB 0 (hd rows less 2 1) (fun e st=>match e with | .normal=>Goal (∃s:Unit,ent st (hd rows less 2 (1+1))∧True) | .ret=>False | _=>False):=by
  have hr:(zaS rows 1).length=2:=(hL.row (by omega)).trans hl
  have hb:=@zhm rows hL 1 (by omega)
  have hg:=fun k hk=>@Lines.get rows hL 1 k (by omega) hk
  have hm:∀z:Int,0≤z % 2001∧z % 2001<2001:=fun z=>⟨Int.emod_nonneg _ (by decide),Int.emod_lt_of_pos _ (by decide)⟩
  repeat' (intro hzz;(try (rename Two=>hq;cases hq));(try dsimp only at hzz);(try simp only[zad,zac,eqD,inR,big,zaa,Bool.not_true,Bool.not_false,Bool.true_eq,decide_eq_true_eq,decide_eq_false_iff_not,Bool.not_eq_true',Bool.not_eq_false',Bool.and_eq_true,Prod.mk.injEq,and_true,true_and,Int.not_lt,Int.not_le,gt_iff_lt,ge_iff_le] at hzz);(try simp only[zad,zac,eqD,inR,big,zaa,Bool.not_true,Bool.not_false,Bool.true_eq,decide_eq_true_eq,decide_eq_false_iff_not,Bool.not_eq_true',Bool.not_eq_false',Bool.and_eq_true,Prod.mk.injEq,and_true,true_and,Int.not_lt,Int.not_le,gt_iff_lt,ge_iff_le,zax,zaj,Int.toNat_natCast] at hzz);(try (revert hzz;intro _)))
  all_goals try (rename Unit=>hq;clear hq)
  all_goals try ((with_reducible refine Held.mk ?_);(with_reducible (first|refine Frz.mk ?_|refine And.intro (Frz.mk ?_) ?_|refine And.intro ?_ (Frz.mk ?_)));repeat' first|exact True.intro|(change _=_;with_reducible rfl)|refine And.intro ?_ ?_|(with_reducible refine Frz.mk ?_))
  all_goals try (refine Held.mk ?_;(try dsimp only at *);(try simp only[zad,zac,eqD,inR,big,zaa,Bool.not_true,Bool.not_false,Bool.true_eq,decide_eq_true_eq,decide_eq_false_iff_not,Bool.not_eq_true',Bool.not_eq_false',Bool.and_eq_true,Prod.mk.injEq,and_true,true_and,Int.not_lt,Int.not_le,gt_iff_lt,ge_iff_le] at *);(try simp only[zad,zac,eqD,inR,big,zaa,Bool.not_true,Bool.not_false,Bool.true_eq,decide_eq_true_eq,decide_eq_false_iff_not,Bool.not_eq_true',Bool.not_eq_false',Bool.and_eq_true,Prod.mk.injEq,and_true,true_and,Int.not_lt,Int.not_le,gt_iff_lt,ge_iff_le,zax,zaj,Int.toNat_natCast] at *))
  all_goals try omega
  ·
    refine zah.mk ?_
    refine Exists.intro (0:Nat) ?_
    refine And.intro (Leaf.mk ?_) ?_
    · repeat' first|exact True.intro|refine And.intro ?_ ?_
      all_goals try ((change _=_<;>try dsimp only)<;>try with_reducible rfl)
      all_goals try omega
      all_goals (rfl)
    exact Nat.zero_le _
  · rename_i k hk hlt
    show (0:Int)≤(k:Int)∧(k:Int)<((zaS rows 1).length:Int)
    rw[hr];omega
  · rename_i k hk hlt
    have b:=hb k (by omega)
    have g:=hg k (by omega)
    show -9223372036854775808≤zav rows 1 k+(rows.getD 1 []).getD k 0∧zav rows 1 k+(rows.getD 1 []).getD k 0≤9223372036854775807
    omega
  · rename_i k hk hlt hc
    rw[zbl];omega
  · decide
  · rename_i k hk hlt hc
    have g:=hg k (by omega)
    have m:=hm (less.getD ((((1:Nat):Int)*((2:Nat):Int)+(k:Int)).toNat) 0)
    show -9223372036854775808≤(zaN rows less 2 1 k).getD k 0 - less.getD ((((1:Nat):Int)*((2:Nat):Int)+(k:Int)).toNat) 0 % 2001∧(zaN rows less 2 1 k).getD k 0 - less.getD ((((1:Nat):Int)*((2:Nat):Int)+(k:Int)).toNat) 0 % 2001≤9223372036854775807
    rw[zbW (by omega)]
    have g:0≤(zaS rows 1).getD k 0∧(zaS rows 1).getD k 0≤2000:=g
    omega
  · rename_i k hk hlt hc
    rw[zbl];omega
  · rename_i k hk hlt hc
    have e1:(((1:Nat):Int)*((2:Nat):Int)+(k:Int)).toNat=1*2+k:=by omega
    have hv:=@zdh rows less 2 1 k (by omega)
    refine zah.mk ?_
    refine Exists.intro (k+1) ?_
    refine And.intro (Leaf.mk ?_) ?_
    · repeat' first|exact True.intro|refine And.intro ?_ ?_
      all_goals try ((change _=_<;>try dsimp only)<;>try with_reducible rfl)
      all_goals try omega
      all_goals (first|rfl|(refine zeR (by omega) (Eq.trans ?_ hv);rw[←e1];exact congrArg (fun z=>if z - less.getD ((((1:Nat):Int)*((2:Nat):Int)+(k:Int)).toNat) 0 % 2001>0 then z - less.getD ((((1:Nat):Int)*((2:Nat):Int)+(k:Int)).toNat) 0 % 2001 else 0) (zbW (by omega)))|trace_state)
    exact⟨by show k+1≤2;omega,by show 2 - (k+1)<2 - k;omega⟩
  · rename_i k hk hlt hc
    refine zah.mk ?_
    refine Exists.intro (k+1) ?_
    refine And.intro (Leaf.mk ?_) ?_
    · repeat' first|exact True.intro|refine And.intro ?_ ?_
      all_goals try ((change _=_<;>try dsimp only)<;>try with_reducible rfl)
      all_goals try omega
      all_goals (first|rfl|exact zdg (zeS (by omega))|trace_state)
    exact⟨by show k+1≤2;omega,by show 2 - (k+1)<2 - k;omega⟩
  · exact⟨zam.symm,by rw[zam];decide⟩
  · rename_i k hk hlt hc
    have ek:k=2:=by omega
    subst ek
    have e1:zaz rows 2 (1+1)=decide (zav rows 1 2<1000):=by
      show (zaz rows 2 1&&decide (zav rows 1 2<1000))=_
      rw[hc,Bool.true_and]
    refine zah.mk ?_
    refine Exists.intro () ?_
    refine And.intro (Leaf.mk ?_) ?_
    · repeat' first|exact True.intro|refine And.intro ?_ ?_
      all_goals try ((change _=_<;>try dsimp only)<;>try with_reducible rfl)
      all_goals try omega
      all_goals (first|rfl|exact e1.symm|trace_state)
    trivial
  · exact⟨zam.symm,by rw[zam];decide⟩
  · rename_i k hk hlt hc
    have ek:k=2:=by omega
    subst ek
    have e1:zaz rows 2 (1+1)=false:=by
      show (zaz rows 2 1&&decide (zav rows 1 2<1000))=_
      rw[hc,Bool.false_and]
    refine zah.mk ?_
    refine Exists.intro () ?_
    refine And.intro (Leaf.mk ?_) ?_
    · repeat' first|exact True.intro|refine And.intro ?_ ?_
      all_goals try ((change _=_<;>try dsimp only)<;>try with_reducible rfl)
      all_goals try omega
      all_goals (first|rfl|exact e1.symm|trace_state)
    trivial
theorem zsE (rows:List (List Int)) (less:List Int) (hL:Lines rows) (hl:rows.length=3):vc cfL (par cfL) [fun _=>inn rows less 3 0] QB 0 (hd rows less 3 0) (fun e st=>match e with | .normal=>Goal (∃s:Unit,ent st (hd rows less 3 (0+1))∧True) | .ret=>False | _=>False):=by
  have hr:(zaS rows 0).length=3:=(hL.row (by omega)).trans hl
  have hb:=@zhm rows hL 0 (by omega)
  have hg:=fun k hk=>@Lines.get rows hL 0 k (by omega) hk
  have hm:∀z:Int,0≤z % 2001∧z % 2001<2001:=fun z=>⟨Int.emod_nonneg _ (by decide),Int.emod_lt_of_pos _ (by decide)⟩
  repeat' (intro hzz;(try (rename Two=>hq;cases hq));(try dsimp only at hzz);(try simp only[zad,zac,eqD,inR,big,zaa,Bool.not_true,Bool.not_false,Bool.true_eq,decide_eq_true_eq,decide_eq_false_iff_not,Bool.not_eq_true',Bool.not_eq_false',Bool.and_eq_true,Prod.mk.injEq,and_true,true_and,Int.not_lt,Int.not_le,gt_iff_lt,ge_iff_le] at hzz);(try simp only[zad,zac,eqD,inR,big,zaa,Bool.not_true,Bool.not_false,Bool.true_eq,decide_eq_true_eq,decide_eq_false_iff_not,Bool.not_eq_true',Bool.not_eq_false',Bool.and_eq_true,Prod.mk.injEq,and_true,true_and,Int.not_lt,Int.not_le,gt_iff_lt,ge_iff_le,zax,zaj,Int.toNat_natCast] at hzz);(try (revert hzz;intro _)))
  all_goals try (rename Unit=>hq;clear hq)
  all_goals try ((with_reducible refine Held.mk ?_);(with_reducible (first|refine Frz.mk ?_|refine And.intro (Frz.mk ?_) ?_|refine And.intro ?_ (Frz.mk ?_)));repeat' first|exact True.intro|(change _=_;with_reducible rfl)|refine And.intro ?_ ?_|(with_reducible refine Frz.mk ?_))
  all_goals try (refine Held.mk ?_;(try dsimp only at *);(try simp only[zad,zac,eqD,inR,big,zaa,Bool.not_true,Bool.not_false,Bool.true_eq,decide_eq_true_eq,decide_eq_false_iff_not,Bool.not_eq_true',Bool.not_eq_false',Bool.and_eq_true,Prod.mk.injEq,and_true,true_and,Int.not_lt,Int.not_le,gt_iff_lt,ge_iff_le] at *);(try simp only[zad,zac,eqD,inR,big,zaa,Bool.not_true,Bool.not_false,Bool.true_eq,decide_eq_true_eq,decide_eq_false_iff_not,Bool.not_eq_true',Bool.not_eq_false',Bool.and_eq_true,Prod.mk.injEq,and_true,true_and,Int.not_lt,Int.not_le,gt_iff_lt,ge_iff_le,zax,zaj,Int.toNat_natCast] at *))
  all_goals try omega
  ·
    refine zah.mk ?_
    refine Exists.intro (0:Nat) ?_
    refine And.intro (Leaf.mk ?_) ?_
    · repeat' first|exact True.intro|refine And.intro ?_ ?_
      all_goals try ((change _=_<;>try dsimp only)<;>try with_reducible rfl)
      all_goals try omega
      all_goals (rfl)
    exact Nat.zero_le _
  · rename_i k hk hlt
    show (0:Int)≤(k:Int)∧(k:Int)<((zaS rows 0).length:Int)
    rw[hr];omega
  · rename_i k hk hlt
    have b:=hb k (by omega)
    have g:=hg k (by omega)
    show -9223372036854775808≤zav rows 0 k+(rows.getD 0 []).getD k 0∧zav rows 0 k+(rows.getD 0 []).getD k 0≤9223372036854775807
    omega
  · rename_i k hk hlt hc
    rw[zbl];omega
  · decide
  · rename_i k hk hlt hc
    have g:=hg k (by omega)
    have m:=hm (less.getD ((((0:Nat):Int)*((3:Nat):Int)+(k:Int)).toNat) 0)
    show -9223372036854775808≤(zaN rows less 3 0 k).getD k 0 - less.getD ((((0:Nat):Int)*((3:Nat):Int)+(k:Int)).toNat) 0 % 2001∧(zaN rows less 3 0 k).getD k 0 - less.getD ((((0:Nat):Int)*((3:Nat):Int)+(k:Int)).toNat) 0 % 2001≤9223372036854775807
    rw[zbW (by omega)]
    have g:0≤(zaS rows 0).getD k 0∧(zaS rows 0).getD k 0≤2000:=g
    omega
  · rename_i k hk hlt hc
    rw[zbl];omega
  · rename_i k hk hlt hc
    have e1:(((0:Nat):Int)*((3:Nat):Int)+(k:Int)).toNat=0*3+k:=by omega
    have hv:=@zdh rows less 3 0 k (by omega)
    refine zah.mk ?_
    refine Exists.intro (k+1) ?_
    refine And.intro (Leaf.mk ?_) ?_
    · repeat' first|exact True.intro|refine And.intro ?_ ?_
      all_goals try ((change _=_<;>try dsimp only)<;>try with_reducible rfl)
      all_goals try omega
      all_goals (first|rfl|(refine zeR (by omega) (Eq.trans ?_ hv);rw[←e1];exact congrArg (fun z=>if z - less.getD ((((0:Nat):Int)*((3:Nat):Int)+(k:Int)).toNat) 0 % 2001>0 then z - less.getD ((((0:Nat):Int)*((3:Nat):Int)+(k:Int)).toNat) 0 % 2001 else 0) (zbW (by omega)))|trace_state)
    exact⟨by show k+1≤3;omega,by show 3 - (k+1)<3 - k;omega⟩
  · rename_i k hk hlt hc
    refine zah.mk ?_
    refine Exists.intro (k+1) ?_
    refine And.intro (Leaf.mk ?_) ?_
    · repeat' first|exact True.intro|refine And.intro ?_ ?_
      all_goals try ((change _=_<;>try dsimp only)<;>try with_reducible rfl)
      all_goals try omega
      all_goals (first|rfl|exact zdg (zeS (by omega))|trace_state)
    exact⟨by show k+1≤3;omega,by show 3 - (k+1)<3 - k;omega⟩
  · exact⟨zam.symm,by rw[zam];decide⟩
  · rename_i k hk hlt hc
    have ek:k=3:=by omega
    subst ek
    have e1:zaz rows 3 (0+1)=decide (zav rows 0 3<1000):=by
      show (zaz rows 3 0&&decide (zav rows 0 3<1000))=_
      rw[hc,Bool.true_and]
    refine zah.mk ?_
    refine Exists.intro () ?_
    refine And.intro (Leaf.mk ?_) ?_
    · repeat' first|exact True.intro|refine And.intro ?_ ?_
      all_goals try ((change _=_<;>try dsimp only)<;>try with_reducible rfl)
      all_goals try omega
      all_goals (first|rfl|exact e1.symm|trace_state)
    trivial
  · exact⟨zam.symm,by rw[zam];decide⟩
  · rename_i k hk hlt hc
    have ek:k=3:=by omega
    subst ek
    have e1:zaz rows 3 (0+1)=false:=by
      show (zaz rows 3 0&&decide (zav rows 0 3<1000))=_
      rw[hc,Bool.false_and]
    refine zah.mk ?_
    refine Exists.intro () ?_
    refine And.intro (Leaf.mk ?_) ?_
    · repeat' first|exact True.intro|refine And.intro ?_ ?_
      all_goals try ((change _=_<;>try dsimp only)<;>try with_reducible rfl)
      all_goals try omega
      all_goals (first|rfl|exact e1.symm|trace_state)
    trivial
theorem zsD (rows:List (List Int)) (less:List Int) (hL:Lines rows) (hl:rows.length=3):vc cfL (par cfL) [fun _=>inn rows less 3 1] QB 0 (hd rows less 3 1) (fun e st=>match e with | .normal=>Goal (∃s:Unit,ent st (hd rows less 3 (1+1))∧True) | .ret=>False | _=>False):=by
  have hr:(zaS rows 1).length=3:=(hL.row (by omega)).trans hl
  have hb:=@zhm rows hL 1 (by omega)
  have hg:=fun k hk=>@Lines.get rows hL 1 k (by omega) hk
  have hm:∀z:Int,0≤z % 2001∧z % 2001<2001:=fun z=>⟨Int.emod_nonneg _ (by decide),Int.emod_lt_of_pos _ (by decide)⟩
  repeat' (intro hzz;(try (rename Two=>hq;cases hq));(try dsimp only at hzz);(try simp only[zad,zac,eqD,inR,big,zaa,Bool.not_true,Bool.not_false,Bool.true_eq,decide_eq_true_eq,decide_eq_false_iff_not,Bool.not_eq_true',Bool.not_eq_false',Bool.and_eq_true,Prod.mk.injEq,and_true,true_and,Int.not_lt,Int.not_le,gt_iff_lt,ge_iff_le] at hzz);(try simp only[zad,zac,eqD,inR,big,zaa,Bool.not_true,Bool.not_false,Bool.true_eq,decide_eq_true_eq,decide_eq_false_iff_not,Bool.not_eq_true',Bool.not_eq_false',Bool.and_eq_true,Prod.mk.injEq,and_true,true_and,Int.not_lt,Int.not_le,gt_iff_lt,ge_iff_le,zax,zaj,Int.toNat_natCast] at hzz);(try (revert hzz;intro _)))
  all_goals try (rename Unit=>hq;clear hq)
  all_goals try ((with_reducible refine Held.mk ?_);(with_reducible (first|refine Frz.mk ?_|refine And.intro (Frz.mk ?_) ?_|refine And.intro ?_ (Frz.mk ?_)));repeat' first|exact True.intro|(change _=_;with_reducible rfl)|refine And.intro ?_ ?_|(with_reducible refine Frz.mk ?_))
  all_goals try (refine Held.mk ?_;(try dsimp only at *);(try simp only[zad,zac,eqD,inR,big,zaa,Bool.not_true,Bool.not_false,Bool.true_eq,decide_eq_true_eq,decide_eq_false_iff_not,Bool.not_eq_true',Bool.not_eq_false',Bool.and_eq_true,Prod.mk.injEq,and_true,true_and,Int.not_lt,Int.not_le,gt_iff_lt,ge_iff_le] at *);(try simp only[zad,zac,eqD,inR,big,zaa,Bool.not_true,Bool.not_false,Bool.true_eq,decide_eq_true_eq,decide_eq_false_iff_not,Bool.not_eq_true',Bool.not_eq_false',Bool.and_eq_true,Prod.mk.injEq,and_true,true_and,Int.not_lt,Int.not_le,gt_iff_lt,ge_iff_le,zax,zaj,Int.toNat_natCast] at *))
  all_goals try omega
  ·
    refine zah.mk ?_
    refine Exists.intro (0:Nat) ?_
    refine And.intro (Leaf.mk ?_) ?_
    · repeat' first|exact True.intro|refine And.intro ?_ ?_
      all_goals try ((change _=_<;>try dsimp only)<;>try with_reducible rfl)
      all_goals try omega
      all_goals (rfl)
    exact Nat.zero_le _
  · rename_i k hk hlt
    show (0:Int)≤(k:Int)∧(k:Int)<((zaS rows 1).length:Int)
    rw[hr];omega
  · rename_i k hk hlt
    have b:=hb k (by omega)
    have g:=hg k (by omega)
    show -9223372036854775808≤zav rows 1 k+(rows.getD 1 []).getD k 0∧zav rows 1 k+(rows.getD 1 []).getD k 0≤9223372036854775807
    omega
  · rename_i k hk hlt hc
    rw[zbl];omega
  · decide
  · rename_i k hk hlt hc
    have g:=hg k (by omega)
    have m:=hm (less.getD ((((1:Nat):Int)*((3:Nat):Int)+(k:Int)).toNat) 0)
    show -9223372036854775808≤(zaN rows less 3 1 k).getD k 0 - less.getD ((((1:Nat):Int)*((3:Nat):Int)+(k:Int)).toNat) 0 % 2001∧(zaN rows less 3 1 k).getD k 0 - less.getD ((((1:Nat):Int)*((3:Nat):Int)+(k:Int)).toNat) 0 % 2001≤9223372036854775807
    rw[zbW (by omega)]
    have g:0≤(zaS rows 1).getD k 0∧(zaS rows 1).getD k 0≤2000:=g
    omega
  · rename_i k hk hlt hc
    rw[zbl];omega
  · rename_i k hk hlt hc
    have e1:(((1:Nat):Int)*((3:Nat):Int)+(k:Int)).toNat=1*3+k:=by omega
    have hv:=@zdh rows less 3 1 k (by omega)
    refine zah.mk ?_
    refine Exists.intro (k+1) ?_
    refine And.intro (Leaf.mk ?_) ?_
    · repeat' first|exact True.intro|refine And.intro ?_ ?_
      all_goals try ((change _=_<;>try dsimp only)<;>try with_reducible rfl)
      all_goals try omega
      all_goals (first|rfl|(refine zeR (by omega) (Eq.trans ?_ hv);rw[←e1];exact congrArg (fun z=>if z - less.getD ((((1:Nat):Int)*((3:Nat):Int)+(k:Int)).toNat) 0 % 2001>0 then z - less.getD ((((1:Nat):Int)*((3:Nat):Int)+(k:Int)).toNat) 0 % 2001 else 0) (zbW (by omega)))|trace_state)
    exact⟨by show k+1≤3;omega,by show 3 - (k+1)<3 - k;omega⟩
  · rename_i k hk hlt hc
    refine zah.mk ?_
    refine Exists.intro (k+1) ?_
    refine And.intro (Leaf.mk ?_) ?_
    · repeat' first|exact True.intro|refine And.intro ?_ ?_
      all_goals try ((change _=_<;>try dsimp only)<;>try with_reducible rfl)
      all_goals try omega
      all_goals (first|rfl|exact zdg (zeS (by omega))|trace_state)
    exact⟨by show k+1≤3;omega,by show 3 - (k+1)<3 - k;omega⟩
  · exact⟨zam.symm,by rw[zam];decide⟩
  · rename_i k hk hlt hc
    have ek:k=3:=by omega
    subst ek
    have e1:zaz rows 3 (1+1)=decide (zav rows 1 3<1000):=by
      show (zaz rows 3 1&&decide (zav rows 1 3<1000))=_
      rw[hc,Bool.true_and]
    refine zah.mk ?_
    refine Exists.intro () ?_
    refine And.intro (Leaf.mk ?_) ?_
    · repeat' first|exact True.intro|refine And.intro ?_ ?_
      all_goals try ((change _=_<;>try dsimp only)<;>try with_reducible rfl)
      all_goals try omega
      all_goals (first|rfl|exact e1.symm|trace_state)
    trivial
  · exact⟨zam.symm,by rw[zam];decide⟩
  · rename_i k hk hlt hc
    have ek:k=3:=by omega
    subst ek
    have e1:zaz rows 3 (1+1)=false:=by
      show (zaz rows 3 1&&decide (zav rows 1 3<1000))=_
      rw[hc,Bool.false_and]
    refine zah.mk ?_
    refine Exists.intro () ?_
    refine And.intro (Leaf.mk ?_) ?_
    · repeat' first|exact True.intro|refine And.intro ?_ ?_
      all_goals try ((change _=_<;>try dsimp only)<;>try with_reducible rfl)
      all_goals try omega
      all_goals (first|rfl|exact e1.symm|trace_state)
    trivial
theorem zsC (rows:List (List Int)) (less:List Int) (hL:Lines rows) (hl:rows.length=3):vc cfL (par cfL) [fun _=>inn rows less 3 2] QB 0 (hd rows less 3 2) (fun e st=>match e with | .normal=>Goal (∃s:Unit,ent st (hd rows less 3 (2+1))∧True) | .ret=>False | _=>False):=by
  have hr:(zaS rows 2).length=3:=(hL.row (by omega)).trans hl
  have hb:=@zhm rows hL 2 (by omega)
  have hg:=fun k hk=>@Lines.get rows hL 2 k (by omega) hk
  have hm:∀z:Int,0≤z % 2001∧z % 2001<2001:=fun z=>⟨Int.emod_nonneg _ (by decide),Int.emod_lt_of_pos _ (by decide)⟩
  repeat' (intro hzz;(try (rename Two=>hq;cases hq));(try dsimp only at hzz);(try simp only[zad,zac,eqD,inR,big,zaa,Bool.not_true,Bool.not_false,Bool.true_eq,decide_eq_true_eq,decide_eq_false_iff_not,Bool.not_eq_true',Bool.not_eq_false',Bool.and_eq_true,Prod.mk.injEq,and_true,true_and,Int.not_lt,Int.not_le,gt_iff_lt,ge_iff_le] at hzz);(try simp only[zad,zac,eqD,inR,big,zaa,Bool.not_true,Bool.not_false,Bool.true_eq,decide_eq_true_eq,decide_eq_false_iff_not,Bool.not_eq_true',Bool.not_eq_false',Bool.and_eq_true,Prod.mk.injEq,and_true,true_and,Int.not_lt,Int.not_le,gt_iff_lt,ge_iff_le,zax,zaj,Int.toNat_natCast] at hzz);(try (revert hzz;intro _)))
  all_goals try (rename Unit=>hq;clear hq)
  all_goals try ((with_reducible refine Held.mk ?_);(with_reducible (first|refine Frz.mk ?_|refine And.intro (Frz.mk ?_) ?_|refine And.intro ?_ (Frz.mk ?_)));repeat' first|exact True.intro|(change _=_;with_reducible rfl)|refine And.intro ?_ ?_|(with_reducible refine Frz.mk ?_))
  all_goals try (refine Held.mk ?_;(try dsimp only at *);(try simp only[zad,zac,eqD,inR,big,zaa,Bool.not_true,Bool.not_false,Bool.true_eq,decide_eq_true_eq,decide_eq_false_iff_not,Bool.not_eq_true',Bool.not_eq_false',Bool.and_eq_true,Prod.mk.injEq,and_true,true_and,Int.not_lt,Int.not_le,gt_iff_lt,ge_iff_le] at *);(try simp only[zad,zac,eqD,inR,big,zaa,Bool.not_true,Bool.not_false,Bool.true_eq,decide_eq_true_eq,decide_eq_false_iff_not,Bool.not_eq_true',Bool.not_eq_false',Bool.and_eq_true,Prod.mk.injEq,and_true,true_and,Int.not_lt,Int.not_le,gt_iff_lt,ge_iff_le,zax,zaj,Int.toNat_natCast] at *))
  all_goals try omega
  ·
    refine zah.mk ?_
    refine Exists.intro (0:Nat) ?_
    refine And.intro (Leaf.mk ?_) ?_
    · repeat' first|exact True.intro|refine And.intro ?_ ?_
      all_goals try ((change _=_<;>try dsimp only)<;>try with_reducible rfl)
      all_goals try omega
      all_goals (rfl)
    exact Nat.zero_le _
  · rename_i k hk hlt
    show (0:Int)≤(k:Int)∧(k:Int)<((zaS rows 2).length:Int)
    rw[hr];omega
  · rename_i k hk hlt
    have b:=hb k (by omega)
    have g:=hg k (by omega)
    show -9223372036854775808≤zav rows 2 k+(rows.getD 2 []).getD k 0∧zav rows 2 k+(rows.getD 2 []).getD k 0≤9223372036854775807
    omega
  · rename_i k hk hlt hc
    rw[zbl];omega
  · decide
  · rename_i k hk hlt hc
    have g:=hg k (by omega)
    have m:=hm (less.getD ((((2:Nat):Int)*((3:Nat):Int)+(k:Int)).toNat) 0)
    show -9223372036854775808≤(zaN rows less 3 2 k).getD k 0 - less.getD ((((2:Nat):Int)*((3:Nat):Int)+(k:Int)).toNat) 0 % 2001∧(zaN rows less 3 2 k).getD k 0 - less.getD ((((2:Nat):Int)*((3:Nat):Int)+(k:Int)).toNat) 0 % 2001≤9223372036854775807
    rw[zbW (by omega)]
    have g:0≤(zaS rows 2).getD k 0∧(zaS rows 2).getD k 0≤2000:=g
    omega
  · rename_i k hk hlt hc
    rw[zbl];omega
  · rename_i k hk hlt hc
    have e1:(((2:Nat):Int)*((3:Nat):Int)+(k:Int)).toNat=2*3+k:=by omega
    have hv:=@zdh rows less 3 2 k (by omega)
    refine zah.mk ?_
    refine Exists.intro (k+1) ?_
    refine And.intro (Leaf.mk ?_) ?_
    · repeat' first|exact True.intro|refine And.intro ?_ ?_
      all_goals try ((change _=_<;>try dsimp only)<;>try with_reducible rfl)
      all_goals try omega
      all_goals (first|rfl|(refine zeR (by omega) (Eq.trans ?_ hv);rw[←e1];exact congrArg (fun z=>if z - less.getD ((((2:Nat):Int)*((3:Nat):Int)+(k:Int)).toNat) 0 % 2001>0 then z - less.getD ((((2:Nat):Int)*((3:Nat):Int)+(k:Int)).toNat) 0 % 2001 else 0) (zbW (by omega)))|trace_state)
    exact⟨by show k+1≤3;omega,by show 3 - (k+1)<3 - k;omega⟩
  · rename_i k hk hlt hc
    refine zah.mk ?_
    refine Exists.intro (k+1) ?_
    refine And.intro (Leaf.mk ?_) ?_
    · repeat' first|exact True.intro|refine And.intro ?_ ?_
      all_goals try ((change _=_<;>try dsimp only)<;>try with_reducible rfl)
      all_goals try omega
      all_goals (first|rfl|exact zdg (zeS (by omega))|trace_state)
    exact⟨by show k+1≤3;omega,by show 3 - (k+1)<3 - k;omega⟩
  · exact⟨zam.symm,by rw[zam];decide⟩
  · rename_i k hk hlt hc
    have ek:k=3:=by omega
    subst ek
    have e1:zaz rows 3 (2+1)=decide (zav rows 2 3<1000):=by
      show (zaz rows 3 2&&decide (zav rows 2 3<1000))=_
      rw[hc,Bool.true_and]
    refine zah.mk ?_
    refine Exists.intro () ?_
    refine And.intro (Leaf.mk ?_) ?_
    · repeat' first|exact True.intro|refine And.intro ?_ ?_
      all_goals try ((change _=_<;>try dsimp only)<;>try with_reducible rfl)
      all_goals try omega
      all_goals (first|rfl|exact e1.symm|trace_state)
    trivial
  · exact⟨zam.symm,by rw[zam];decide⟩
  · rename_i k hk hlt hc
    have ek:k=3:=by omega
    subst ek
    have e1:zaz rows 3 (2+1)=false:=by
      show (zaz rows 3 2&&decide (zav rows 2 3<1000))=_
      rw[hc,Bool.false_and]
    refine zah.mk ?_
    refine Exists.intro () ?_
    refine And.intro (Leaf.mk ?_) ?_
    · repeat' first|exact True.intro|refine And.intro ?_ ?_
      all_goals try ((change _=_<;>try dsimp only)<;>try with_reducible rfl)
      all_goals try omega
      all_goals (first|rfl|exact e1.symm|trace_state)
    trivial
theorem zsB (rows:List (List Int)) (less:List Int) (hL:Lines rows) (hl:rows.length=4):vc cfL (par cfL) [fun _=>inn rows less 4 0] QB 0 (hd rows less 4 0) (fun e st=>match e with | .normal=>Goal (∃s:Unit,ent st (hd rows less 4 (0+1))∧True) | .ret=>False | _=>False):=by
  have hr:(zaS rows 0).length=4:=(hL.row (by omega)).trans hl
  have hb:=@zhm rows hL 0 (by omega)
  have hg:=fun k hk=>@Lines.get rows hL 0 k (by omega) hk
  have hm:∀z:Int,0≤z % 2001∧z % 2001<2001:=fun z=>⟨Int.emod_nonneg _ (by decide),Int.emod_lt_of_pos _ (by decide)⟩
  repeat' (intro hzz;(try (rename Two=>hq;cases hq));(try dsimp only at hzz);(try simp only[zad,zac,eqD,inR,big,zaa,Bool.not_true,Bool.not_false,Bool.true_eq,decide_eq_true_eq,decide_eq_false_iff_not,Bool.not_eq_true',Bool.not_eq_false',Bool.and_eq_true,Prod.mk.injEq,and_true,true_and,Int.not_lt,Int.not_le,gt_iff_lt,ge_iff_le] at hzz);(try simp only[zad,zac,eqD,inR,big,zaa,Bool.not_true,Bool.not_false,Bool.true_eq,decide_eq_true_eq,decide_eq_false_iff_not,Bool.not_eq_true',Bool.not_eq_false',Bool.and_eq_true,Prod.mk.injEq,and_true,true_and,Int.not_lt,Int.not_le,gt_iff_lt,ge_iff_le,zax,zaj,Int.toNat_natCast] at hzz);(try (revert hzz;intro _)))
  all_goals try (rename Unit=>hq;clear hq)
  all_goals try ((with_reducible refine Held.mk ?_);(with_reducible (first|refine Frz.mk ?_|refine And.intro (Frz.mk ?_) ?_|refine And.intro ?_ (Frz.mk ?_)));repeat' first|exact True.intro|(change _=_;with_reducible rfl)|refine And.intro ?_ ?_|(with_reducible refine Frz.mk ?_))
  all_goals try (refine Held.mk ?_;(try dsimp only at *);(try simp only[zad,zac,eqD,inR,big,zaa,Bool.not_true,Bool.not_false,Bool.true_eq,decide_eq_true_eq,decide_eq_false_iff_not,Bool.not_eq_true',Bool.not_eq_false',Bool.and_eq_true,Prod.mk.injEq,and_true,true_and,Int.not_lt,Int.not_le,gt_iff_lt,ge_iff_le] at *);(try simp only[zad,zac,eqD,inR,big,zaa,Bool.not_true,Bool.not_false,Bool.true_eq,decide_eq_true_eq,decide_eq_false_iff_not,Bool.not_eq_true',Bool.not_eq_false',Bool.and_eq_true,Prod.mk.injEq,and_true,true_and,Int.not_lt,Int.not_le,gt_iff_lt,ge_iff_le,zax,zaj,Int.toNat_natCast] at *))
  all_goals try omega
  ·
    refine zah.mk ?_
    refine Exists.intro (0:Nat) ?_
    refine And.intro (Leaf.mk ?_) ?_
    · repeat' first|exact True.intro|refine And.intro ?_ ?_
      all_goals try ((change _=_<;>try dsimp only)<;>try with_reducible rfl)
      all_goals try omega
      all_goals (rfl)
    exact Nat.zero_le _
  · rename_i k hk hlt
    show (0:Int)≤(k:Int)∧(k:Int)<((zaS rows 0).length:Int)
    rw[hr];omega
  · rename_i k hk hlt
    have b:=hb k (by omega)
    have g:=hg k (by omega)
    show -9223372036854775808≤zav rows 0 k+(rows.getD 0 []).getD k 0∧zav rows 0 k+(rows.getD 0 []).getD k 0≤9223372036854775807
    omega
  · rename_i k hk hlt hc
    rw[zbl];omega
  · decide
  · rename_i k hk hlt hc
    have g:=hg k (by omega)
    have m:=hm (less.getD ((((0:Nat):Int)*((4:Nat):Int)+(k:Int)).toNat) 0)
    show -9223372036854775808≤(zaN rows less 4 0 k).getD k 0 - less.getD ((((0:Nat):Int)*((4:Nat):Int)+(k:Int)).toNat) 0 % 2001∧(zaN rows less 4 0 k).getD k 0 - less.getD ((((0:Nat):Int)*((4:Nat):Int)+(k:Int)).toNat) 0 % 2001≤9223372036854775807
    rw[zbW (by omega)]
    have g:0≤(zaS rows 0).getD k 0∧(zaS rows 0).getD k 0≤2000:=g
    omega
  · rename_i k hk hlt hc
    rw[zbl];omega
  · rename_i k hk hlt hc
    have e1:(((0:Nat):Int)*((4:Nat):Int)+(k:Int)).toNat=0*4+k:=by omega
    have hv:=@zdh rows less 4 0 k (by omega)
    refine zah.mk ?_
    refine Exists.intro (k+1) ?_
    refine And.intro (Leaf.mk ?_) ?_
    · repeat' first|exact True.intro|refine And.intro ?_ ?_
      all_goals try ((change _=_<;>try dsimp only)<;>try with_reducible rfl)
      all_goals try omega
      all_goals (first|rfl|(refine zeR (by omega) (Eq.trans ?_ hv);rw[←e1];exact congrArg (fun z=>if z - less.getD ((((0:Nat):Int)*((4:Nat):Int)+(k:Int)).toNat) 0 % 2001>0 then z - less.getD ((((0:Nat):Int)*((4:Nat):Int)+(k:Int)).toNat) 0 % 2001 else 0) (zbW (by omega)))|trace_state)
    exact⟨by show k+1≤4;omega,by show 4 - (k+1)<4 - k;omega⟩
  · rename_i k hk hlt hc
    refine zah.mk ?_
    refine Exists.intro (k+1) ?_
    refine And.intro (Leaf.mk ?_) ?_
    · repeat' first|exact True.intro|refine And.intro ?_ ?_
      all_goals try ((change _=_<;>try dsimp only)<;>try with_reducible rfl)
      all_goals try omega
      all_goals (first|rfl|exact zdg (zeS (by omega))|trace_state)
    exact⟨by show k+1≤4;omega,by show 4 - (k+1)<4 - k;omega⟩
  · exact⟨zam.symm,by rw[zam];decide⟩
  · rename_i k hk hlt hc
    have ek:k=4:=by omega
    subst ek
    have e1:zaz rows 4 (0+1)=decide (zav rows 0 4<1000):=by
      show (zaz rows 4 0&&decide (zav rows 0 4<1000))=_
      rw[hc,Bool.true_and]
    refine zah.mk ?_
    refine Exists.intro () ?_
    refine And.intro (Leaf.mk ?_) ?_
    · repeat' first|exact True.intro|refine And.intro ?_ ?_
      all_goals try ((change _=_<;>try dsimp only)<;>try with_reducible rfl)
      all_goals try omega
      all_goals (first|rfl|exact e1.symm|trace_state)
    trivial
  · exact⟨zam.symm,by rw[zam];decide⟩
  · rename_i k hk hlt hc
    have ek:k=4:=by omega
    subst ek
    have e1:zaz rows 4 (0+1)=false:=by
      show (zaz rows 4 0&&decide (zav rows 0 4<1000))=_
      rw[hc,Bool.false_and]
    refine zah.mk ?_
    refine Exists.intro () ?_
    refine And.intro (Leaf.mk ?_) ?_
    · repeat' first|exact True.intro|refine And.intro ?_ ?_
      all_goals try ((change _=_<;>try dsimp only)<;>try with_reducible rfl)
      all_goals try omega
      all_goals (first|rfl|exact e1.symm|trace_state)
    trivial
theorem zsA (rows:List (List Int)) (less:List Int) (hL:Lines rows) (hl:rows.length=4):vc cfL (par cfL) [fun _=>inn rows less 4 1] QB 0 (hd rows less 4 1) (fun e st=>match e with | .normal=>Goal (∃s:Unit,ent st (hd rows less 4 (1+1))∧True) | .ret=>False | _=>False):=by
  have hr:(zaS rows 1).length=4:=(hL.row (by omega)).trans hl
  have hb:=@zhm rows hL 1 (by omega)
  have hg:=fun k hk=>@Lines.get rows hL 1 k (by omega) hk
  have hm:∀z:Int,0≤z % 2001∧z % 2001<2001:=fun z=>⟨Int.emod_nonneg _ (by decide),Int.emod_lt_of_pos _ (by decide)⟩
  repeat' (intro hzz;(try (rename Two=>hq;cases hq));(try dsimp only at hzz);(try simp only[zad,zac,eqD,inR,big,zaa,Bool.not_true,Bool.not_false,Bool.true_eq,decide_eq_true_eq,decide_eq_false_iff_not,Bool.not_eq_true',Bool.not_eq_false',Bool.and_eq_true,Prod.mk.injEq,and_true,true_and,Int.not_lt,Int.not_le,gt_iff_lt,ge_iff_le] at hzz);(try simp only[zad,zac,eqD,inR,big,zaa,Bool.not_true,Bool.not_false,Bool.true_eq,decide_eq_true_eq,decide_eq_false_iff_not,Bool.not_eq_true',Bool.not_eq_false',Bool.and_eq_true,Prod.mk.injEq,and_true,true_and,Int.not_lt,Int.not_le,gt_iff_lt,ge_iff_le,zax,zaj,Int.toNat_natCast] at hzz);(try (revert hzz;intro _)))
  all_goals try (rename Unit=>hq;clear hq)
  all_goals try ((with_reducible refine Held.mk ?_);(with_reducible (first|refine Frz.mk ?_|refine And.intro (Frz.mk ?_) ?_|refine And.intro ?_ (Frz.mk ?_)));repeat' first|exact True.intro|(change _=_;with_reducible rfl)|refine And.intro ?_ ?_|(with_reducible refine Frz.mk ?_))
  all_goals try (refine Held.mk ?_;(try dsimp only at *);(try simp only[zad,zac,eqD,inR,big,zaa,Bool.not_true,Bool.not_false,Bool.true_eq,decide_eq_true_eq,decide_eq_false_iff_not,Bool.not_eq_true',Bool.not_eq_false',Bool.and_eq_true,Prod.mk.injEq,and_true,true_and,Int.not_lt,Int.not_le,gt_iff_lt,ge_iff_le] at *);(try simp only[zad,zac,eqD,inR,big,zaa,Bool.not_true,Bool.not_false,Bool.true_eq,decide_eq_true_eq,decide_eq_false_iff_not,Bool.not_eq_true',Bool.not_eq_false',Bool.and_eq_true,Prod.mk.injEq,and_true,true_and,Int.not_lt,Int.not_le,gt_iff_lt,ge_iff_le,zax,zaj,Int.toNat_natCast] at *))
  all_goals try omega
  ·
    refine zah.mk ?_
    refine Exists.intro (0:Nat) ?_
    refine And.intro (Leaf.mk ?_) ?_
    · repeat' first|exact True.intro|refine And.intro ?_ ?_
      all_goals try ((change _=_<;>try dsimp only)<;>try with_reducible rfl)
      all_goals try omega
      all_goals (rfl)
    exact Nat.zero_le _
  · rename_i k hk hlt
    show (0:Int)≤(k:Int)∧(k:Int)<((zaS rows 1).length:Int)
    rw[hr];omega
  · rename_i k hk hlt
    have b:=hb k (by omega)
    have g:=hg k (by omega)
    show -9223372036854775808≤zav rows 1 k+(rows.getD 1 []).getD k 0∧zav rows 1 k+(rows.getD 1 []).getD k 0≤9223372036854775807
    omega
  · rename_i k hk hlt hc
    rw[zbl];omega
  · decide
  · rename_i k hk hlt hc
    have g:=hg k (by omega)
    have m:=hm (less.getD ((((1:Nat):Int)*((4:Nat):Int)+(k:Int)).toNat) 0)
    show -9223372036854775808≤(zaN rows less 4 1 k).getD k 0 - less.getD ((((1:Nat):Int)*((4:Nat):Int)+(k:Int)).toNat) 0 % 2001∧(zaN rows less 4 1 k).getD k 0 - less.getD ((((1:Nat):Int)*((4:Nat):Int)+(k:Int)).toNat) 0 % 2001≤9223372036854775807
    rw[zbW (by omega)]
    have g:0≤(zaS rows 1).getD k 0∧(zaS rows 1).getD k 0≤2000:=g
    omega
  · rename_i k hk hlt hc
    rw[zbl];omega
  · rename_i k hk hlt hc
    have e1:(((1:Nat):Int)*((4:Nat):Int)+(k:Int)).toNat=1*4+k:=by omega
    have hv:=@zdh rows less 4 1 k (by omega)
    refine zah.mk ?_
    refine Exists.intro (k+1) ?_
    refine And.intro (Leaf.mk ?_) ?_
    · repeat' first|exact True.intro|refine And.intro ?_ ?_
      all_goals try ((change _=_<;>try dsimp only)<;>try with_reducible rfl)
      all_goals try omega
      all_goals (first|rfl|(refine zeR (by omega) (Eq.trans ?_ hv);rw[←e1];exact congrArg (fun z=>if z - less.getD ((((1:Nat):Int)*((4:Nat):Int)+(k:Int)).toNat) 0 % 2001>0 then z - less.getD ((((1:Nat):Int)*((4:Nat):Int)+(k:Int)).toNat) 0 % 2001 else 0) (zbW (by omega)))|trace_state)
    exact⟨by show k+1≤4;omega,by show 4 - (k+1)<4 - k;omega⟩
  · rename_i k hk hlt hc
    refine zah.mk ?_
    refine Exists.intro (k+1) ?_
    refine And.intro (Leaf.mk ?_) ?_
    · repeat' first|exact True.intro|refine And.intro ?_ ?_
      all_goals try ((change _=_<;>try dsimp only)<;>try with_reducible rfl)
      all_goals try omega
      all_goals (first|rfl|exact zdg (zeS (by omega))|trace_state)
    exact⟨by show k+1≤4;omega,by show 4 - (k+1)<4 - k;omega⟩
  · exact⟨zam.symm,by rw[zam];decide⟩
  · rename_i k hk hlt hc
    have ek:k=4:=by omega
    subst ek
    have e1:zaz rows 4 (1+1)=decide (zav rows 1 4<1000):=by
      show (zaz rows 4 1&&decide (zav rows 1 4<1000))=_
      rw[hc,Bool.true_and]
    refine zah.mk ?_
    refine Exists.intro () ?_
    refine And.intro (Leaf.mk ?_) ?_
    · repeat' first|exact True.intro|refine And.intro ?_ ?_
      all_goals try ((change _=_<;>try dsimp only)<;>try with_reducible rfl)
      all_goals try omega
      all_goals (first|rfl|exact e1.symm|trace_state)
    trivial
  · exact⟨zam.symm,by rw[zam];decide⟩
  · rename_i k hk hlt hc
    have ek:k=4:=by omega
    subst ek
    have e1:zaz rows 4 (1+1)=false:=by
      show (zaz rows 4 1&&decide (zav rows 1 4<1000))=_
      rw[hc,Bool.false_and]
    refine zah.mk ?_
    refine Exists.intro () ?_
    refine And.intro (Leaf.mk ?_) ?_
    · repeat' first|exact True.intro|refine And.intro ?_ ?_
      all_goals try ((change _=_<;>try dsimp only)<;>try with_reducible rfl)
      all_goals try omega
      all_goals (first|rfl|exact e1.symm|trace_state)
    trivial
theorem zsz (rows:List (List Int)) (less:List Int) (hL:Lines rows) (hl:rows.length=4):vc cfL (par cfL) [fun _=>inn rows less 4 2] QB 0 (hd rows less 4 2) (fun e st=>match e with | .normal=>Goal (∃s:Unit,ent st (hd rows less 4 (2+1))∧True) | .ret=>False | _=>False):=by
  have hr:(zaS rows 2).length=4:=(hL.row (by omega)).trans hl
  have hb:=@zhm rows hL 2 (by omega)
  have hg:=fun k hk=>@Lines.get rows hL 2 k (by omega) hk
  have hm:∀z:Int,0≤z % 2001∧z % 2001<2001:=fun z=>⟨Int.emod_nonneg _ (by decide),Int.emod_lt_of_pos _ (by decide)⟩
  repeat' (intro hzz;(try (rename Two=>hq;cases hq));(try dsimp only at hzz);(try simp only[zad,zac,eqD,inR,big,zaa,Bool.not_true,Bool.not_false,Bool.true_eq,decide_eq_true_eq,decide_eq_false_iff_not,Bool.not_eq_true',Bool.not_eq_false',Bool.and_eq_true,Prod.mk.injEq,and_true,true_and,Int.not_lt,Int.not_le,gt_iff_lt,ge_iff_le] at hzz);(try simp only[zad,zac,eqD,inR,big,zaa,Bool.not_true,Bool.not_false,Bool.true_eq,decide_eq_true_eq,decide_eq_false_iff_not,Bool.not_eq_true',Bool.not_eq_false',Bool.and_eq_true,Prod.mk.injEq,and_true,true_and,Int.not_lt,Int.not_le,gt_iff_lt,ge_iff_le,zax,zaj,Int.toNat_natCast] at hzz);(try (revert hzz;intro _)))
  all_goals try (rename Unit=>hq;clear hq)
  all_goals try ((with_reducible refine Held.mk ?_);(with_reducible (first|refine Frz.mk ?_|refine And.intro (Frz.mk ?_) ?_|refine And.intro ?_ (Frz.mk ?_)));repeat' first|exact True.intro|(change _=_;with_reducible rfl)|refine And.intro ?_ ?_|(with_reducible refine Frz.mk ?_))
  all_goals try (refine Held.mk ?_;(try dsimp only at *);(try simp only[zad,zac,eqD,inR,big,zaa,Bool.not_true,Bool.not_false,Bool.true_eq,decide_eq_true_eq,decide_eq_false_iff_not,Bool.not_eq_true',Bool.not_eq_false',Bool.and_eq_true,Prod.mk.injEq,and_true,true_and,Int.not_lt,Int.not_le,gt_iff_lt,ge_iff_le] at *);(try simp only[zad,zac,eqD,inR,big,zaa,Bool.not_true,Bool.not_false,Bool.true_eq,decide_eq_true_eq,decide_eq_false_iff_not,Bool.not_eq_true',Bool.not_eq_false',Bool.and_eq_true,Prod.mk.injEq,and_true,true_and,Int.not_lt,Int.not_le,gt_iff_lt,ge_iff_le,zax,zaj,Int.toNat_natCast] at *))
  all_goals try omega
  ·
    refine zah.mk ?_
    refine Exists.intro (0:Nat) ?_
    refine And.intro (Leaf.mk ?_) ?_
    · repeat' first|exact True.intro|refine And.intro ?_ ?_
      all_goals try ((change _=_<;>try dsimp only)<;>try with_reducible rfl)
      all_goals try omega
      all_goals (rfl)
    exact Nat.zero_le _
  · rename_i k hk hlt
    show (0:Int)≤(k:Int)∧(k:Int)<((zaS rows 2).length:Int)
    rw[hr];omega
  · rename_i k hk hlt
    have b:=hb k (by omega)
    have g:=hg k (by omega)
    show -9223372036854775808≤zav rows 2 k+(rows.getD 2 []).getD k 0∧zav rows 2 k+(rows.getD 2 []).getD k 0≤9223372036854775807
    omega
  · rename_i k hk hlt hc
    rw[zbl];omega
  · decide
  · rename_i k hk hlt hc
    have g:=hg k (by omega)
    have m:=hm (less.getD ((((2:Nat):Int)*((4:Nat):Int)+(k:Int)).toNat) 0)
    show -9223372036854775808≤(zaN rows less 4 2 k).getD k 0 - less.getD ((((2:Nat):Int)*((4:Nat):Int)+(k:Int)).toNat) 0 % 2001∧(zaN rows less 4 2 k).getD k 0 - less.getD ((((2:Nat):Int)*((4:Nat):Int)+(k:Int)).toNat) 0 % 2001≤9223372036854775807
    rw[zbW (by omega)]
    have g:0≤(zaS rows 2).getD k 0∧(zaS rows 2).getD k 0≤2000:=g
    omega
  · rename_i k hk hlt hc
    rw[zbl];omega
  · rename_i k hk hlt hc
    have e1:(((2:Nat):Int)*((4:Nat):Int)+(k:Int)).toNat=2*4+k:=by omega
    have hv:=@zdh rows less 4 2 k (by omega)
    refine zah.mk ?_
    refine Exists.intro (k+1) ?_
    refine And.intro (Leaf.mk ?_) ?_
    · repeat' first|exact True.intro|refine And.intro ?_ ?_
      all_goals try ((change _=_<;>try dsimp only)<;>try with_reducible rfl)
      all_goals try omega
      all_goals (first|rfl|(refine zeR (by omega) (Eq.trans ?_ hv);rw[←e1];exact congrArg (fun z=>if z - less.getD ((((2:Nat):Int)*((4:Nat):Int)+(k:Int)).toNat) 0 % 2001>0 then z - less.getD ((((2:Nat):Int)*((4:Nat):Int)+(k:Int)).toNat) 0 % 2001 else 0) (zbW (by omega)))|trace_state)
    exact⟨by show k+1≤4;omega,by show 4 - (k+1)<4 - k;omega⟩
  · rename_i k hk hlt hc
    refine zah.mk ?_
    refine Exists.intro (k+1) ?_
    refine And.intro (Leaf.mk ?_) ?_
    · repeat' first|exact True.intro|refine And.intro ?_ ?_
      all_goals try ((change _=_<;>try dsimp only)<;>try with_reducible rfl)
      all_goals try omega
      all_goals (first|rfl|exact zdg (zeS (by omega))|trace_state)
    exact⟨by show k+1≤4;omega,by show 4 - (k+1)<4 - k;omega⟩
  · exact⟨zam.symm,by rw[zam];decide⟩
  · rename_i k hk hlt hc
    have ek:k=4:=by omega
    subst ek
    have e1:zaz rows 4 (2+1)=decide (zav rows 2 4<1000):=by
      show (zaz rows 4 2&&decide (zav rows 2 4<1000))=_
      rw[hc,Bool.true_and]
    refine zah.mk ?_
    refine Exists.intro () ?_
    refine And.intro (Leaf.mk ?_) ?_
    · repeat' first|exact True.intro|refine And.intro ?_ ?_
      all_goals try ((change _=_<;>try dsimp only)<;>try with_reducible rfl)
      all_goals try omega
      all_goals (first|rfl|exact e1.symm|trace_state)
    trivial
  · exact⟨zam.symm,by rw[zam];decide⟩
  · rename_i k hk hlt hc
    have ek:k=4:=by omega
    subst ek
    have e1:zaz rows 4 (2+1)=false:=by
      show (zaz rows 4 2&&decide (zav rows 2 4<1000))=_
      rw[hc,Bool.false_and]
    refine zah.mk ?_
    refine Exists.intro () ?_
    refine And.intro (Leaf.mk ?_) ?_
    · repeat' first|exact True.intro|refine And.intro ?_ ?_
      all_goals try ((change _=_<;>try dsimp only)<;>try with_reducible rfl)
      all_goals try omega
      all_goals (first|rfl|exact e1.symm|trace_state)
    trivial
theorem zsy (rows:List (List Int)) (less:List Int) (hL:Lines rows) (hl:rows.length=4):vc cfL (par cfL) [fun _=>inn rows less 4 3] QB 0 (hd rows less 4 3) (fun e st=>match e with | .normal=>Goal (∃s:Unit,ent st (hd rows less 4 (3+1))∧True) | .ret=>False | _=>False):=by
  have hr:(zaS rows 3).length=4:=(hL.row (by omega)).trans hl
  have hb:=@zhm rows hL 3 (by omega)
  have hg:=fun k hk=>@Lines.get rows hL 3 k (by omega) hk
  have hm:∀z:Int,0≤z % 2001∧z % 2001<2001:=fun z=>⟨Int.emod_nonneg _ (by decide),Int.emod_lt_of_pos _ (by decide)⟩
  repeat' (intro hzz;(try (rename Two=>hq;cases hq));(try dsimp only at hzz);(try simp only[zad,zac,eqD,inR,big,zaa,Bool.not_true,Bool.not_false,Bool.true_eq,decide_eq_true_eq,decide_eq_false_iff_not,Bool.not_eq_true',Bool.not_eq_false',Bool.and_eq_true,Prod.mk.injEq,and_true,true_and,Int.not_lt,Int.not_le,gt_iff_lt,ge_iff_le] at hzz);(try simp only[zad,zac,eqD,inR,big,zaa,Bool.not_true,Bool.not_false,Bool.true_eq,decide_eq_true_eq,decide_eq_false_iff_not,Bool.not_eq_true',Bool.not_eq_false',Bool.and_eq_true,Prod.mk.injEq,and_true,true_and,Int.not_lt,Int.not_le,gt_iff_lt,ge_iff_le,zax,zaj,Int.toNat_natCast] at hzz);(try (revert hzz;intro _)))
  all_goals try (rename Unit=>hq;clear hq)
  all_goals try ((with_reducible refine Held.mk ?_);(with_reducible (first|refine Frz.mk ?_|refine And.intro (Frz.mk ?_) ?_|refine And.intro ?_ (Frz.mk ?_)));repeat' first|exact True.intro|(change _=_;with_reducible rfl)|refine And.intro ?_ ?_|(with_reducible refine Frz.mk ?_))
  all_goals try (refine Held.mk ?_;(try dsimp only at *);(try simp only[zad,zac,eqD,inR,big,zaa,Bool.not_true,Bool.not_false,Bool.true_eq,decide_eq_true_eq,decide_eq_false_iff_not,Bool.not_eq_true',Bool.not_eq_false',Bool.and_eq_true,Prod.mk.injEq,and_true,true_and,Int.not_lt,Int.not_le,gt_iff_lt,ge_iff_le] at *);(try simp only[zad,zac,eqD,inR,big,zaa,Bool.not_true,Bool.not_false,Bool.true_eq,decide_eq_true_eq,decide_eq_false_iff_not,Bool.not_eq_true',Bool.not_eq_false',Bool.and_eq_true,Prod.mk.injEq,and_true,true_and,Int.not_lt,Int.not_le,gt_iff_lt,ge_iff_le,zax,zaj,Int.toNat_natCast] at *))
  all_goals try omega
  ·
    refine zah.mk ?_
    refine Exists.intro (0:Nat) ?_
    refine And.intro (Leaf.mk ?_) ?_
    · repeat' first|exact True.intro|refine And.intro ?_ ?_
      all_goals try ((change _=_<;>try dsimp only)<;>try with_reducible rfl)
      all_goals try omega
      all_goals (rfl)
    exact Nat.zero_le _
  · rename_i k hk hlt
    show (0:Int)≤(k:Int)∧(k:Int)<((zaS rows 3).length:Int)
    rw[hr];omega
  · rename_i k hk hlt
    have b:=hb k (by omega)
    have g:=hg k (by omega)
    show -9223372036854775808≤zav rows 3 k+(rows.getD 3 []).getD k 0∧zav rows 3 k+(rows.getD 3 []).getD k 0≤9223372036854775807
    omega
  · rename_i k hk hlt hc
    rw[zbl];omega
  · decide
  · rename_i k hk hlt hc
    have g:=hg k (by omega)
    have m:=hm (less.getD ((((3:Nat):Int)*((4:Nat):Int)+(k:Int)).toNat) 0)
    show -9223372036854775808≤(zaN rows less 4 3 k).getD k 0 - less.getD ((((3:Nat):Int)*((4:Nat):Int)+(k:Int)).toNat) 0 % 2001∧(zaN rows less 4 3 k).getD k 0 - less.getD ((((3:Nat):Int)*((4:Nat):Int)+(k:Int)).toNat) 0 % 2001≤9223372036854775807
    rw[zbW (by omega)]
    have g:0≤(zaS rows 3).getD k 0∧(zaS rows 3).getD k 0≤2000:=g
    omega
  · rename_i k hk hlt hc
    rw[zbl];omega
  · rename_i k hk hlt hc
    have e1:(((3:Nat):Int)*((4:Nat):Int)+(k:Int)).toNat=3*4+k:=by omega
    have hv:=@zdh rows less 4 3 k (by omega)
    refine zah.mk ?_
    refine Exists.intro (k+1) ?_
    refine And.intro (Leaf.mk ?_) ?_
    · repeat' first|exact True.intro|refine And.intro ?_ ?_
      all_goals try ((change _=_<;>try dsimp only)<;>try with_reducible rfl)
      all_goals try omega
      all_goals (first|rfl|(refine zeR (by omega) (Eq.trans ?_ hv);rw[←e1];exact congrArg (fun z=>if z - less.getD ((((3:Nat):Int)*((4:Nat):Int)+(k:Int)).toNat) 0 % 2001>0 then z - less.getD ((((3:Nat):Int)*((4:Nat):Int)+(k:Int)).toNat) 0 % 2001 else 0) (zbW (by omega)))|trace_state)
    exact⟨by show k+1≤4;omega,by show 4 - (k+1)<4 - k;omega⟩
  · rename_i k hk hlt hc
    refine zah.mk ?_
    refine Exists.intro (k+1) ?_
    refine And.intro (Leaf.mk ?_) ?_
    · repeat' first|exact True.intro|refine And.intro ?_ ?_
      all_goals try ((change _=_<;>try dsimp only)<;>try with_reducible rfl)
      all_goals try omega
      all_goals (first|rfl|exact zdg (zeS (by omega))|trace_state)
    exact⟨by show k+1≤4;omega,by show 4 - (k+1)<4 - k;omega⟩
  · exact⟨zam.symm,by rw[zam];decide⟩
  · rename_i k hk hlt hc
    have ek:k=4:=by omega
    subst ek
    have e1:zaz rows 4 (3+1)=decide (zav rows 3 4<1000):=by
      show (zaz rows 4 3&&decide (zav rows 3 4<1000))=_
      rw[hc,Bool.true_and]
    refine zah.mk ?_
    refine Exists.intro () ?_
    refine And.intro (Leaf.mk ?_) ?_
    · repeat' first|exact True.intro|refine And.intro ?_ ?_
      all_goals try ((change _=_<;>try dsimp only)<;>try with_reducible rfl)
      all_goals try omega
      all_goals (first|rfl|exact e1.symm|trace_state)
    trivial
  · exact⟨zam.symm,by rw[zam];decide⟩
  · rename_i k hk hlt hc
    have ek:k=4:=by omega
    subst ek
    have e1:zaz rows 4 (3+1)=false:=by
      show (zaz rows 4 3&&decide (zav rows 3 4<1000))=_
      rw[hc,Bool.false_and]
    refine zah.mk ?_
    refine Exists.intro () ?_
    refine And.intro (Leaf.mk ?_) ?_
    · repeat' first|exact True.intro|refine And.intro ?_ ?_
      all_goals try ((change _=_<;>try dsimp only)<;>try with_reducible rfl)
      all_goals try omega
      all_goals (first|rfl|exact e1.symm|trace_state)
    trivial
def datH (rows:List (List Int)) (less:List Int) (n:Nat):Nat→Nat→St
  | _,0=>[]
  | j,m+1=>.cell 70000 j (.d (.sl I64) (zaN rows less n j n))::datH rows less n (j+1) m
@[reducible] def zd (rows:List (List Int)) (less:List Int) (n:Nat):St:=[sI 11 n,sB 9 (zaz rows n n),.slot 10 (.one (.o 60010 n)),.row 60010 3 I64 (zh9 n),.slot 8 (.one (.p 8 0)),.cell 8 0 (.o 70000 n),.row 70000 31 (.sl I64) []]++(datH rows less n 0 n++s5 rows less)
theorem zqc {rows:List (List Int)} {less:List Int} {n:Nat} (hr:∀i,i<rows.length→(zaS rows i).length=n):∀(m j:Nat) (ls:List (List Int)),ls.length=m→j+m≤rows.length→(∀t,t<m→ls.getD t []=zaS rows (j+t))→rowF j ls=rowH rows less n 0 j m
  | 0,j,[],_,_,_=>rfl
  | 0,j,_::_,h,_,_=>by simp at h
  | m+1,j,[],h,_,_=>by simp at h
  | m + 1,j,r::ls,h,hj,hg=>by
    have h0:r=zaS rows j:=hg 0 (by omega)
    have ih:=zqc (less:=less) hr m (j+1) ls (by simpa using h) (by omega) fun t ht=>by
      have:=hg (t+1) (by omega)
      rw[show j+1+t=j+(t+1) by omega]
      exact this
    have hl:=hr j (by omega)
    have e2:r=zaN rows less n j 0:=by rw[h0];exact zqX hl
    simp only[rowF,rowH]
    rw[ih,if_neg (Nat.not_lt_zero j),←e2,h0,hl]
theorem zmH {rows:List (List Int)} {less:List Int} {n:Nat} {ls:List (List Int)}:∀(m j:Nat),(∀t,t<m→rowN ls t=zaN rows less n (j+t) n)→ls.length=m→datF j ls=datH rows less n j m:=by
  induction ls with
  | nil=>
    intro m j _ h
    have:m=0:=h.symm
    subst this;rfl
  | cons r ls ih=>
    intro m j hg h
    obtain⟨k,rfl⟩:∃k,m=k+1:=⟨ls.length,h.symm⟩
    have h0:r=zaN rows less n j n:=hg 0 (by omega)
    have h1:=ih k (j+1) (fun t ht=>by
      have:=hg (t+1) (by omega)
      rw[show j+1+t=j+(t+1) by omega]
      exact this) (by simpa using h)
    simp only[datF,datH]
    rw[h1,h0]
theorem zml:∃o,ops9.drop 1=o::ops9.drop 2∧o.dst=some 46∧o.guard=none∧o.op=.call {callee:=.value (.func 42),args:=#[.tmp 45],argTypes:=#[62]}:=⟨_,rfl,rfl,rfl,rfl⟩
theorem zel:∀o∈ops9,∀t,o.dst=some t→t<162:=by
  intro o ho t ht
  have hall:(ops9.all fun o=>match o.dst with|some t=>Nat.blt t 162|none=>true)=true:=by kernel_rfl
  have:=List.all_eq_true.1 hall o ho
  rw[ht] at this
  exact Nat.le_of_ble_eq_true this
theorem zmk {anns:List (St→LoopAnn)} {x y:Code} {st0 target:St} {a:Act} {M:Nat→Prop} {bs:List Nat} {w0 w:World} {Q:Exit→Act→World→Prop} {X:Prop} (hR:RelS (EH M bs w0 true) 162 st0 a w) (hd:zeb 162 x=true) (hnr:za7 x=true) (hnl:zcT x=0)
    (hvc:vc cfL (par cfL) anns (.seq x y) 0 st0 (fun e st=>match e with | .normal=>Goal (∃s:Unit,ent st target∧X) | .ret=>False | _=>False))
    (hQ:∀st a' w',vc cfL (par cfL) anns y 0 st (fun e st=>match e with | .normal=>Goal (∃s:Unit,ent st target∧X) | .ret=>False | _=>False)→RelS (EH M bs w0 true) 162 st a' w'→Q .normal a' w'):x.wpIn (Fw none) 0 Try.prog Q a w:=by
  refine wpIn_mono (za9 zfP (zcR zkq zfP) x 0 st0 _ a w (EH M bs w0 true) none rfl rfl (.inr hnr) hd hvc hR) ?_
  rintro e a' w' ⟨⟨xe,st',h1,h2,h3⟩,hag⟩
  subst h1
  cases xe with
  | normal=>
    simp only[zbN,hnl] at h2
    exact hQ st' a' w' h2 h3
  | exit id=>exact h2.elim
  | ret=>exact h2.elim
theorem zmK {rows:List (List Int)} {less:List Int} {n:Nat} (hL:Lines rows) (hl:rows.length=n) {M:Nat→Prop} {bs:List Nat} {w0 w:World} {a:Act} (hR:RelS (EH M bs w0 true) 162 (.slot 45 (.agg [.d MatT rows])::s5 rows less) a w)
    (hst:∀f∈s5 rows less,Kill.surv {slots:=[46],keys:=70000::zm7 0 n} f=true) {ops:Array Oper} {o:Oper} {rest:List Oper} {Q:Exit→Act→World→Prop} (h1:o.dst=some 46) (h2:o.guard=none) (h3:o.op=.call {callee:=.value (.func 42),args:=#[.tmp 45],argTypes:=#[62]})
    (h:∀a' w',RelS (EH M bs w0 true) 162 (s9 rows less n) a' w'→wpListIn (Fw none) 0 Try.prog ops Q rest a' w'):wpListIn (Fw none) 0 Try.prog ops Q (o::rest) a w:=by
  have hpos:=hL.pos
  have hne:rows≠[]:=by intro e;rw[e] at hpos;simp at hpos
  have hrl:∀i,i<rows.length→(zaS rows i).length=n:=fun i hi=>(hL.row hi).trans hl
  obtain ⟨l,hev,hrep⟩:∃l,a.eval (.tmp 45)=.agg #[l]∧RepV (fun b c=>∃el f,w.heap[b]?=some (.cells c el f)) (.sl (.sl I64)) rows l:=by
    obtain⟨η,g,H⟩:=hR
    have h:=H _ List.mem_cons_self
    simp only[Fact.holds] at h
    rw[zdC (by decide)] at h
    obtain⟨vs,e,hc⟩:=h
    match vs,hc with
    | [l],⟨q1,_,_⟩=>exact⟨l,e,RepV.mono (fun b c q=>q.2.2) q1⟩
  have hcall:=zkS hrep hne (by have:=hL.le;omega) (fun i hi=>by
    have e1:(rowN rows i).length=n:=hrl i hi
    have:=hL.le
    omega)
  obtain⟨args,hargs⟩:∃x,x=(#[.agg #[l]]:Array Value):=⟨_,rfl⟩
  rw[←hargs] at hcall
  refine zaw h2 ?_
  refine zix (f:=42) (args:=args) (by intro d q;rw[h3] at q;cases q) ?_ (hcall.mono ?_)
  · obtain⟨fn,e1,e2,e3⟩:=zpP
    have e2':¬fn.name = "runtime.NumGoroutine" := by simpa using e2
    have e3':¬fn.body=none:=by intro hn;rw[hn] at e3;cases e3
    have evf:∀(a:Act) (t:Nat),a.eval (.func t)=.func (.func t) #[] #[]:=fun a t=>rfl
    rw[hargs]
    simp[execOp,h3,resolve,Deferred.ofValue,hev,evf,invoke,callFunc,e1,e2',e3']
  rintro e w4 ⟨v,bl,us,rfl,hbel,hrows,hout⟩
  refine⟨_,rfl,?_⟩
  have hR4:=zpV (st':=s5 rows less) hR rfl (d:=46) (by decide) hne hbel hrows hout (fun f hf=>⟨List.mem_cons_of_mem _ hf,by rw[hl];exact hst f hf⟩)
  rw[hl,zqc hrl n 0 rows hl (by omega) (fun t _=>by rw[Nat.zero_add])] at hR4
  rw[h1]
  exact h _ _ hR4
theorem frz1 (rows:List (List Int)) (less:List Int):∃p,zb2 [70001] (hd rows less 1 1)=some (p,zd rows less 1)∧p.hold:=by
  refine⟨_,rfl,?_⟩
  have e:∀i k,(zaN rows less 1 i k).length=1:=fun i k=>zbl
  refine ?_
  all_goals (refine Frz.mk ?_;dsimp only;rw[e];repeat' first|exact True.intro|exact rfl|refine And.intro ?_ ?_)
theorem ztc {rows:List (List Int)} {less:List Int} (hL:Lines rows) (hl:rows.length=1) (hc:zai rows=0) (hp:zdn rows) {M:Nat→Prop} {bs:List Nat} {w0 w:World} {a:Act} (hR:RelS (EH M bs w0 true) 162 (s5 rows less) a w) :
    (Code.seq Q9 (.seq Q10 (.seq (.seq Q11 (.block 0 (.loop (.seq (.seq Q12 (.cond (.tmp 51) .skip (.exit 0))) QB)))) QT))).wpIn (Fw none) 0 Try.prog (zii (EH M bs w0 false) 162 fun e st=>match e with | .ret | .normal=>retV st | _=>False) a w:=by
  rw[zpr]
  refine wpIn_seq (wpIn_region_list ?_)
  change wpListIn (Fw none) 0 Try.prog _ _ (ops9.take 1++ops9.drop 1) a w
  refine zeC _ _ _ (zen hR (fun o ho=>List.mem_of_mem_take (i:=1) (show o∈ops9.take 1 from ho)) zel (v9a rows less) fun a1 w1 hR1=>?_)
  obtain⟨o,e9,o1,o2,o3⟩:=zml
  rw[e9]
  refine zmK hL hl hR1 (by intro f hf;simp only[s5,s1,List.mem_cons,List.not_mem_nil,or_false] at hf;rcases hf with rfl|rfl|rfl|rfl|rfl|rfl<;>rfl) o1 o2 o3 fun a2 w2 hR2=>?_
  refine zen hR2 (fun o ho=>List.mem_of_mem_drop (i:=2) (show o∈ops9.drop 2 from ho)) zel (v9b1 rows less) fun a3 w3 hR3=>?_
  refine wpIn_seq (zmk (X:=True) hR3 (by kernel_rfl) (by kernel_rfl) (by kernel_rfl) (vQA1 rows less) (fun st4 a4 w4 hv4 hR4=>?_))
  refine wpIn_seq (wpIn_seq (zbz (X:=True) (R:=fun _=>False) hR4 (by kernel_rfl) (by kernel_rfl) hv4 (fun a5 w5 _ hR5=>?_) (fun _ _ _ h=>h.elim)))
  refine wpIn_block (zb5 (fun m a w=>∃i,i≤1∧m=1 - i∧RelS (EH M bs w0 true) 162 (hd rows less 1 i) a w) ⟨0,Nat.zero_le _,rfl,hR5⟩ ?_)
  rintro m a w ⟨i,hi,rfl,hR⟩
  refine wpIn_seq (wpIn_seq (zbz (X:=True) (R:=fun _=>False) hR (by kernel_rfl) (by kernel_rfl) (zrE rows less i) (fun a1 w1 _ hR1=>?_) (fun _ _ _ h=>h.elim)))
  have hb:=zpm hR1 (by decide)
  have hR1:=zgW hR1
  by_cases hlt:i<1
  · rw[decide_eq_true (by omega)] at hb
    refine wpIn_cond_true hb (wpIn_skip ?_)
    change Code.wpIn (Fw none) 0 Try.prog QB _ a1 w1
    rcases (show i=0 by omega) with rfl
    · exact zbz (X:=True) (R:=fun _=>False) hR1 (by kernel_rfl) (by kernel_rfl) (zsH rows less hL hl) (fun a2 w2 _ hR2=>⟨1 - 1,by decide,1,by decide,rfl,hR2⟩) (fun _ _ _ h=>h.elim)
  · rw [decide_eq_false (by omega)] at hb
    refine wpIn_cond_false hb (wpIn_exit ?_)
    have e:i=1:=by omega
    subst e
    change Code.wpIn (Fw none) 0 Try.prog QT _ a1 w1
    obtain⟨p,f1,f2⟩:=frz1 rows less
    have hR2:=zaT f1 f2 hR1
    have eL:datF 0 (lowM rows less 1)=datH rows less 1 0 1:=zmH 1 0 (fun t ht=>by rw[Nat.zero_add,zmr];exact zbI _ [] 1 t ht) (zar _ _)
    have hR3:RelS (EH M bs w0 true) 162 (sT rows (lowM rows less 1) less 1) a1 w1:=zei (zmb (xss:=lowM rows less 1) (st':=zd rows less 1) hR2 (by intro h;have:=congrArg List.length h;rw[show (lowM rows less 1).length=1 from zar _ _] at this;cases this) (by simp[zd]) ⟨8,by rw[show (lowM rows less 1).length=1 from zar _ _];simp[zd]⟩ (fun f hf=>by rw[eL] at hf;exact List.mem_append_right _ (List.mem_append_left _ hf)) (fun f hf=>hf)) (fun g hg=>by
      simp only[sT,List.cons_append,List.nil_append,List.mem_cons] at hg
      rcases hg with rfl|rfl|rfl|rfl|rfl|rfl|hg
      all_goals first|exact List.mem_cons_self|(refine List.mem_cons_of_mem _ ?_;first|(exact List.mem_append_right _ (List.mem_append_right _ (by simpa only [List.mem_cons] using hg)))|(simp[zd])))
    refine wpIn_mono (za9 zfP (zcR zkq zfP) QT 0 _ _ a1 w1 (EH M bs w0 true) none rfl rfl (.inr (by kernel_rfl)) (by kernel_rfl) (vQT rows (lowM rows less 1) less 1 hL hl hc hp (zar _ _) rfl) hR3) ?_
    rintro e a' w' ⟨⟨xe,st',h1,h2,h3⟩,_⟩
    exact⟨xe,st',h1,by cases xe<;>exact h2,(ziA h3).1⟩
theorem frz2 (rows:List (List Int)) (less:List Int):∃p,zb2 [70001,70002] (hd rows less 2 2)=some (p,zd rows less 2)∧p.hold:=by
  refine⟨_,rfl,?_⟩
  have e:∀i k,(zaN rows less 2 i k).length=2:=fun i k=>zbl
  refine⟨?_,?_⟩
  all_goals (refine Frz.mk ?_;dsimp only;rw[e];repeat' first|exact True.intro|exact rfl|refine And.intro ?_ ?_)
theorem ztb {rows:List (List Int)} {less:List Int} (hL:Lines rows) (hl:rows.length=2) (hc:zai rows=0) (hp:zdn rows) {M:Nat→Prop} {bs:List Nat} {w0 w:World} {a:Act} (hR:RelS (EH M bs w0 true) 162 (s5 rows less) a w) :
    (Code.seq Q9 (.seq Q10 (.seq (.seq Q11 (.block 0 (.loop (.seq (.seq Q12 (.cond (.tmp 51) .skip (.exit 0))) QB)))) QT))).wpIn (Fw none) 0 Try.prog (zii (EH M bs w0 false) 162 fun e st=>match e with | .ret | .normal=>retV st | _=>False) a w:=by
  rw[zpr]
  refine wpIn_seq (wpIn_region_list ?_)
  change wpListIn (Fw none) 0 Try.prog _ _ (ops9.take 1++ops9.drop 1) a w
  refine zeC _ _ _ (zen hR (fun o ho=>List.mem_of_mem_take (i:=1) (show o∈ops9.take 1 from ho)) zel (v9a rows less) fun a1 w1 hR1=>?_)
  obtain⟨o,e9,o1,o2,o3⟩:=zml
  rw[e9]
  refine zmK hL hl hR1 (by intro f hf;simp only[s5,s1,List.mem_cons,List.not_mem_nil,or_false] at hf;rcases hf with rfl|rfl|rfl|rfl|rfl|rfl<;>rfl) o1 o2 o3 fun a2 w2 hR2=>?_
  refine zen hR2 (fun o ho=>List.mem_of_mem_drop (i:=2) (show o∈ops9.drop 2 from ho)) zel (v9b2 rows less) fun a3 w3 hR3=>?_
  refine wpIn_seq (zmk (X:=True) hR3 (by kernel_rfl) (by kernel_rfl) (by kernel_rfl) (vQA2 rows less) (fun st4 a4 w4 hv4 hR4=>?_))
  refine wpIn_seq (wpIn_seq (zbz (X:=True) (R:=fun _=>False) hR4 (by kernel_rfl) (by kernel_rfl) hv4 (fun a5 w5 _ hR5=>?_) (fun _ _ _ h=>h.elim)))
  refine wpIn_block (zb5 (fun m a w=>∃i,i≤2∧m=2 - i∧RelS (EH M bs w0 true) 162 (hd rows less 2 i) a w) ⟨0,Nat.zero_le _,rfl,hR5⟩ ?_)
  rintro m a w ⟨i,hi,rfl,hR⟩
  refine wpIn_seq (wpIn_seq (zbz (X:=True) (R:=fun _=>False) hR (by kernel_rfl) (by kernel_rfl) (zrD rows less i) (fun a1 w1 _ hR1=>?_) (fun _ _ _ h=>h.elim)))
  have hb:=zpm hR1 (by decide)
  have hR1:=zgW hR1
  by_cases hlt:i<2
  · rw[decide_eq_true (by omega)] at hb
    refine wpIn_cond_true hb (wpIn_skip ?_)
    change Code.wpIn (Fw none) 0 Try.prog QB _ a1 w1
    rcases (show i=0∨i=1 by omega) with rfl|rfl
    · exact zbz (X:=True) (R:=fun _=>False) hR1 (by kernel_rfl) (by kernel_rfl) (zsG rows less hL hl) (fun a2 w2 _ hR2=>⟨2 - 1,by decide,1,by decide,rfl,hR2⟩) (fun _ _ _ h=>h.elim)
    · exact zbz (X:=True) (R:=fun _=>False) hR1 (by kernel_rfl) (by kernel_rfl) (zsF rows less hL hl) (fun a2 w2 _ hR2=>⟨2 - 2,by decide,2,by decide,rfl,hR2⟩) (fun _ _ _ h=>h.elim)
  · rw [decide_eq_false (by omega)] at hb
    refine wpIn_cond_false hb (wpIn_exit ?_)
    have e:i=2:=by omega
    subst e
    change Code.wpIn (Fw none) 0 Try.prog QT _ a1 w1
    obtain⟨p,f1,f2⟩:=frz2 rows less
    have hR2:=zaT f1 f2 hR1
    have eL:datF 0 (lowM rows less 2)=datH rows less 2 0 2:=zmH 2 0 (fun t ht=>by rw[Nat.zero_add,zmr];exact zbI _ [] 2 t ht) (zar _ _)
    have hR3:RelS (EH M bs w0 true) 162 (sT rows (lowM rows less 2) less 2) a1 w1:=zei (zmb (xss:=lowM rows less 2) (st':=zd rows less 2) hR2 (by intro h;have:=congrArg List.length h;rw[show (lowM rows less 2).length=2 from zar _ _] at this;cases this) (by simp[zd]) ⟨8,by rw[show (lowM rows less 2).length=2 from zar _ _];simp[zd]⟩ (fun f hf=>by rw[eL] at hf;exact List.mem_append_right _ (List.mem_append_left _ hf)) (fun f hf=>hf)) (fun g hg=>by
      simp only[sT,List.cons_append,List.nil_append,List.mem_cons] at hg
      rcases hg with rfl|rfl|rfl|rfl|rfl|rfl|hg
      all_goals first|exact List.mem_cons_self|(refine List.mem_cons_of_mem _ ?_;first|(exact List.mem_append_right _ (List.mem_append_right _ (by simpa only [List.mem_cons] using hg)))|(simp[zd])))
    refine wpIn_mono (za9 zfP (zcR zkq zfP) QT 0 _ _ a1 w1 (EH M bs w0 true) none rfl rfl (.inr (by kernel_rfl)) (by kernel_rfl) (vQT rows (lowM rows less 2) less 2 hL hl hc hp (zar _ _) rfl) hR3) ?_
    rintro e a' w' ⟨⟨xe,st',h1,h2,h3⟩,_⟩
    exact⟨xe,st',h1,by cases xe<;>exact h2,(ziA h3).1⟩
theorem frz3 (rows:List (List Int)) (less:List Int):∃p,zb2 [70001,70002,70003] (hd rows less 3 3)=some (p,zd rows less 3)∧p.hold:=by
  refine⟨_,rfl,?_⟩
  have e:∀i k,(zaN rows less 3 i k).length=3:=fun i k=>zbl
  refine⟨?_,?_,?_⟩
  all_goals (refine Frz.mk ?_;dsimp only;rw[e];repeat' first|exact True.intro|exact rfl|refine And.intro ?_ ?_)
theorem zta {rows:List (List Int)} {less:List Int} (hL:Lines rows) (hl:rows.length=3) (hc:zai rows=0) (hp:zdn rows) {M:Nat→Prop} {bs:List Nat} {w0 w:World} {a:Act} (hR:RelS (EH M bs w0 true) 162 (s5 rows less) a w) :
    (Code.seq Q9 (.seq Q10 (.seq (.seq Q11 (.block 0 (.loop (.seq (.seq Q12 (.cond (.tmp 51) .skip (.exit 0))) QB)))) QT))).wpIn (Fw none) 0 Try.prog (zii (EH M bs w0 false) 162 fun e st=>match e with | .ret | .normal=>retV st | _=>False) a w:=by
  rw[zpr]
  refine wpIn_seq (wpIn_region_list ?_)
  change wpListIn (Fw none) 0 Try.prog _ _ (ops9.take 1++ops9.drop 1) a w
  refine zeC _ _ _ (zen hR (fun o ho=>List.mem_of_mem_take (i:=1) (show o∈ops9.take 1 from ho)) zel (v9a rows less) fun a1 w1 hR1=>?_)
  obtain⟨o,e9,o1,o2,o3⟩:=zml
  rw[e9]
  refine zmK hL hl hR1 (by intro f hf;simp only[s5,s1,List.mem_cons,List.not_mem_nil,or_false] at hf;rcases hf with rfl|rfl|rfl|rfl|rfl|rfl<;>rfl) o1 o2 o3 fun a2 w2 hR2=>?_
  refine zen hR2 (fun o ho=>List.mem_of_mem_drop (i:=2) (show o∈ops9.drop 2 from ho)) zel (v9b3 rows less) fun a3 w3 hR3=>?_
  refine wpIn_seq (zmk (X:=True) hR3 (by kernel_rfl) (by kernel_rfl) (by kernel_rfl) (vQA3 rows less) (fun st4 a4 w4 hv4 hR4=>?_))
  refine wpIn_seq (wpIn_seq (zbz (X:=True) (R:=fun _=>False) hR4 (by kernel_rfl) (by kernel_rfl) hv4 (fun a5 w5 _ hR5=>?_) (fun _ _ _ h=>h.elim)))
  refine wpIn_block (zb5 (fun m a w=>∃i,i≤3∧m=3 - i∧RelS (EH M bs w0 true) 162 (hd rows less 3 i) a w) ⟨0,Nat.zero_le _,rfl,hR5⟩ ?_)
  rintro m a w ⟨i,hi,rfl,hR⟩
  refine wpIn_seq (wpIn_seq (zbz (X:=True) (R:=fun _=>False) hR (by kernel_rfl) (by kernel_rfl) (zrC rows less i) (fun a1 w1 _ hR1=>?_) (fun _ _ _ h=>h.elim)))
  have hb:=zpm hR1 (by decide)
  have hR1:=zgW hR1
  by_cases hlt:i<3
  · rw[decide_eq_true (by omega)] at hb
    refine wpIn_cond_true hb (wpIn_skip ?_)
    change Code.wpIn (Fw none) 0 Try.prog QB _ a1 w1
    rcases (show i=0∨i=1∨i=2 by omega) with rfl|rfl|rfl
    · exact zbz (X:=True) (R:=fun _=>False) hR1 (by kernel_rfl) (by kernel_rfl) (zsE rows less hL hl) (fun a2 w2 _ hR2=>⟨3 - 1,by decide,1,by decide,rfl,hR2⟩) (fun _ _ _ h=>h.elim)
    · exact zbz (X:=True) (R:=fun _=>False) hR1 (by kernel_rfl) (by kernel_rfl) (zsD rows less hL hl) (fun a2 w2 _ hR2=>⟨3 - 2,by decide,2,by decide,rfl,hR2⟩) (fun _ _ _ h=>h.elim)
    · exact zbz (X:=True) (R:=fun _=>False) hR1 (by kernel_rfl) (by kernel_rfl) (zsC rows less hL hl) (fun a2 w2 _ hR2=>⟨3 - 3,by decide,3,by decide,rfl,hR2⟩) (fun _ _ _ h=>h.elim)
  · rw [decide_eq_false (by omega)] at hb
    refine wpIn_cond_false hb (wpIn_exit ?_)
    have e:i=3:=by omega
    subst e
    change Code.wpIn (Fw none) 0 Try.prog QT _ a1 w1
    obtain⟨p,f1,f2⟩:=frz3 rows less
    have hR2:=zaT f1 f2 hR1
    have eL:datF 0 (lowM rows less 3)=datH rows less 3 0 3:=zmH 3 0 (fun t ht=>by rw[Nat.zero_add,zmr];exact zbI _ [] 3 t ht) (zar _ _)
    have hR3:RelS (EH M bs w0 true) 162 (sT rows (lowM rows less 3) less 3) a1 w1:=zei (zmb (xss:=lowM rows less 3) (st':=zd rows less 3) hR2 (by intro h;have:=congrArg List.length h;rw[show (lowM rows less 3).length=3 from zar _ _] at this;cases this) (by simp[zd]) ⟨8,by rw[show (lowM rows less 3).length=3 from zar _ _];simp[zd]⟩ (fun f hf=>by rw[eL] at hf;exact List.mem_append_right _ (List.mem_append_left _ hf)) (fun f hf=>hf)) (fun g hg=>by
      simp only[sT,List.cons_append,List.nil_append,List.mem_cons] at hg
      rcases hg with rfl|rfl|rfl|rfl|rfl|rfl|hg
      all_goals first|exact List.mem_cons_self|(refine List.mem_cons_of_mem _ ?_;first|(exact List.mem_append_right _ (List.mem_append_right _ (by simpa only [List.mem_cons] using hg)))|(simp[zd])))
    refine wpIn_mono (za9 zfP (zcR zkq zfP) QT 0 _ _ a1 w1 (EH M bs w0 true) none rfl rfl (.inr (by kernel_rfl)) (by kernel_rfl) (vQT rows (lowM rows less 3) less 3 hL hl hc hp (zar _ _) rfl) hR3) ?_
    rintro e a' w' ⟨⟨xe,st',h1,h2,h3⟩,_⟩
    exact⟨xe,st',h1,by cases xe<;>exact h2,(ziA h3).1⟩
theorem frz4 (rows:List (List Int)) (less:List Int):∃p,zb2 [70001,70002,70003,70004] (hd rows less 4 4)=some (p,zd rows less 4)∧p.hold:=by
  refine⟨_,rfl,?_⟩
  have e:∀i k,(zaN rows less 4 i k).length=4:=fun i k=>zbl
  refine⟨?_,?_,?_,?_⟩
  all_goals (refine Frz.mk ?_;dsimp only;rw[e];repeat' first|exact True.intro|exact rfl|refine And.intro ?_ ?_)
theorem zs9 {rows:List (List Int)} {less:List Int} (hL:Lines rows) (hl:rows.length=4) (hc:zai rows=0) (hp:zdn rows) {M:Nat→Prop} {bs:List Nat} {w0 w:World} {a:Act} (hR:RelS (EH M bs w0 true) 162 (s5 rows less) a w) :
    (Code.seq Q9 (.seq Q10 (.seq (.seq Q11 (.block 0 (.loop (.seq (.seq Q12 (.cond (.tmp 51) .skip (.exit 0))) QB)))) QT))).wpIn (Fw none) 0 Try.prog (zii (EH M bs w0 false) 162 fun e st=>match e with | .ret | .normal=>retV st | _=>False) a w:=by
  rw[zpr]
  refine wpIn_seq (wpIn_region_list ?_)
  change wpListIn (Fw none) 0 Try.prog _ _ (ops9.take 1++ops9.drop 1) a w
  refine zeC _ _ _ (zen hR (fun o ho=>List.mem_of_mem_take (i:=1) (show o∈ops9.take 1 from ho)) zel (v9a rows less) fun a1 w1 hR1=>?_)
  obtain⟨o,e9,o1,o2,o3⟩:=zml
  rw[e9]
  refine zmK hL hl hR1 (by intro f hf;simp only[s5,s1,List.mem_cons,List.not_mem_nil,or_false] at hf;rcases hf with rfl|rfl|rfl|rfl|rfl|rfl<;>rfl) o1 o2 o3 fun a2 w2 hR2=>?_
  refine zen hR2 (fun o ho=>List.mem_of_mem_drop (i:=2) (show o∈ops9.drop 2 from ho)) zel (v9b4 rows less) fun a3 w3 hR3=>?_
  refine wpIn_seq (zmk (X:=True) hR3 (by kernel_rfl) (by kernel_rfl) (by kernel_rfl) (vQA4 rows less) (fun st4 a4 w4 hv4 hR4=>?_))
  refine wpIn_seq (wpIn_seq (zbz (X:=True) (R:=fun _=>False) hR4 (by kernel_rfl) (by kernel_rfl) hv4 (fun a5 w5 _ hR5=>?_) (fun _ _ _ h=>h.elim)))
  refine wpIn_block (zb5 (fun m a w=>∃i,i≤4∧m=4 - i∧RelS (EH M bs w0 true) 162 (hd rows less 4 i) a w) ⟨0,Nat.zero_le _,rfl,hR5⟩ ?_)
  rintro m a w ⟨i,hi,rfl,hR⟩
  refine wpIn_seq (wpIn_seq (zbz (X:=True) (R:=fun _=>False) hR (by kernel_rfl) (by kernel_rfl) (zrB rows less i) (fun a1 w1 _ hR1=>?_) (fun _ _ _ h=>h.elim)))
  have hb:=zpm hR1 (by decide)
  have hR1:=zgW hR1
  by_cases hlt:i<4
  · rw[decide_eq_true (by omega)] at hb
    refine wpIn_cond_true hb (wpIn_skip ?_)
    change Code.wpIn (Fw none) 0 Try.prog QB _ a1 w1
    rcases (show i=0∨i=1∨i=2∨i=3 by omega) with rfl|rfl|rfl|rfl
    · exact zbz (X:=True) (R:=fun _=>False) hR1 (by kernel_rfl) (by kernel_rfl) (zsB rows less hL hl) (fun a2 w2 _ hR2=>⟨4 - 1,by decide,1,by decide,rfl,hR2⟩) (fun _ _ _ h=>h.elim)
    · exact zbz (X:=True) (R:=fun _=>False) hR1 (by kernel_rfl) (by kernel_rfl) (zsA rows less hL hl) (fun a2 w2 _ hR2=>⟨4 - 2,by decide,2,by decide,rfl,hR2⟩) (fun _ _ _ h=>h.elim)
    · exact zbz (X:=True) (R:=fun _=>False) hR1 (by kernel_rfl) (by kernel_rfl) (zsz rows less hL hl) (fun a2 w2 _ hR2=>⟨4 - 3,by decide,3,by decide,rfl,hR2⟩) (fun _ _ _ h=>h.elim)
    · exact zbz (X:=True) (R:=fun _=>False) hR1 (by kernel_rfl) (by kernel_rfl) (zsy rows less hL hl) (fun a2 w2 _ hR2=>⟨4 - 4,by decide,4,by decide,rfl,hR2⟩) (fun _ _ _ h=>h.elim)
  · rw [decide_eq_false (by omega)] at hb
    refine wpIn_cond_false hb (wpIn_exit ?_)
    have e:i=4:=by omega
    subst e
    change Code.wpIn (Fw none) 0 Try.prog QT _ a1 w1
    obtain⟨p,f1,f2⟩:=frz4 rows less
    have hR2:=zaT f1 f2 hR1
    have eL:datF 0 (lowM rows less 4)=datH rows less 4 0 4:=zmH 4 0 (fun t ht=>by rw[Nat.zero_add,zmr];exact zbI _ [] 4 t ht) (zar _ _)
    have hR3:RelS (EH M bs w0 true) 162 (sT rows (lowM rows less 4) less 4) a1 w1:=zei (zmb (xss:=lowM rows less 4) (st':=zd rows less 4) hR2 (by intro h;have:=congrArg List.length h;rw[show (lowM rows less 4).length=4 from zar _ _] at this;cases this) (by simp[zd]) ⟨8,by rw[show (lowM rows less 4).length=4 from zar _ _];simp[zd]⟩ (fun f hf=>by rw[eL] at hf;exact List.mem_append_right _ (List.mem_append_left _ hf)) (fun f hf=>hf)) (fun g hg=>by
      simp only[sT,List.cons_append,List.nil_append,List.mem_cons] at hg
      rcases hg with rfl|rfl|rfl|rfl|rfl|rfl|hg
      all_goals first|exact List.mem_cons_self|(refine List.mem_cons_of_mem _ ?_;first|(exact List.mem_append_right _ (List.mem_append_right _ (by simpa only [List.mem_cons] using hg)))|(simp[zd])))
    refine wpIn_mono (za9 zfP (zcR zkq zfP) QT 0 _ _ a1 w1 (EH M bs w0 true) none rfl rfl (.inr (by kernel_rfl)) (by kernel_rfl) (vQT rows (lowM rows less 4) less 4 hL hl hc hp (zar _ _) rfl) hR3) ?_
    rintro e a' w' ⟨⟨xe,st',h1,h2,h3⟩,_⟩
    exact⟨xe,st',h1,by cases xe<;>exact h2,(ziA h3).1⟩
theorem zqi:Ok 12 zeA:=by
  refine⟨zq8 (c:=cfL) zfP Try.func12 zsq rfl (by decide) (by decide) (by decide) rfl ?_,Try.f12,Try.func12,by kernel_rfl,by kernel_rfl⟩
  rintro⟨⟨(rows:List (List Int)),⟨⟩⟩,(less:List Int),⟨⟩⟩ _ M bs w0 a hd hR
  have hR:RelS (EH M bs w0 true) 162 (s0 rows less) a w0:=zs6 hR hd
  refine wpIn_seq (zbz (X:=True) (R:=fun _=>False) hR (by kernel_rfl) (by kernel_rfl) (vQ0 rows less) (fun a1 w1 _ hR1=>?_) (fun _ _ _ h=>h.elim))
  refine wpIn_seq (zbz (X:=True) (R:=fun _=>False) hR1 (by kernel_rfl) (by kernel_rfl) (vQ1 rows less) (fun a2 w2 _ hR2=>?_) (fun _ _ _ h=>h.elim))
  refine wpIn_seq (zbz (R:=retV) hR2 (by kernel_rfl) (by kernel_rfl) (vQ3 rows less) (fun a3 w3 hx hR3=>?_) (fun st a' w' h h2=>⟨.ret,st,rfl,h,(ziA h2).1⟩))
  have hp:=zhf hx.1
  refine wpIn_seq (zbz (X:=True) (R:=fun _=>False) hR3 (by kernel_rfl) (by kernel_rfl) (vQ5 rows less hp) (fun a4 w4 _ hR4=>?_) (fun _ _ _ h=>h.elim))
  refine wpIn_seq (zbz (R:=retV) hR4 (by kernel_rfl) (by kernel_rfl) (vQ6 rows less) (fun a5 w5 hc hR5=>?_) (fun st a' w' h h2=>⟨.ret,st,rfl,h,(ziA h2).1⟩))
  have hL:=zcj hc
  have h1:=hL.pos
  have h2:=hL.le
  rcases (show rows.length=1∨rows.length=2∨rows.length=3∨rows.length=4 by omega) with h|h|h|h
  · exact ztc hL h hc hp hR5
  · exact ztb hL h hc hp hR5
  · exact zta hL h hc hp hR5
  · exact zs9 hL h hc hp hR5
end Go.Eng.Lp
