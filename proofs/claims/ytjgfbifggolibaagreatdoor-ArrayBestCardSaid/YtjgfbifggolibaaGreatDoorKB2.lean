/- Texts LP7 LP8 D9 W11, as far as they are used. Conditions: each lemma's own. -/
import Derived.Test.YtjgfbifggolibaaGreatDoorKB1
namespace Go.Eng.Ar
open Go.Eng Go.Proofs Go.Eng.LP
set_option linter.all false
set_option maxRecDepth 100000
set_option maxHeartbeats 4000000
/-! ### The walls -/
theorem zkd {n k s j:Nat} (hk:k<n) (hj:j<n+2):vI (u2 n k s) j=if j=n+1 then (s:Int) else if j=k then 1 else 0:=by
  have l0:(repl ((n:Int)+2) (0:Int)).length=n+2:=by rw[zbl];omega
  have z:∀j,vI (repl ((n:Int)+2) (0:Int)) j=0:=fun j=>by
    have:=@zi6 (n+2) j
    rw[show ((n+2:Nat):Int)=(n:Int)+2 by omega] at this;exact this
  unfold u2
  rw[zeK (by rw[List.length_set,l0];omega),zeK (by rw[l0];omega),z]
theorem zur {n k s:Nat}:(u2 n k s).length=n+2:=by
  unfold u2;rw[List.length_set,List.length_set,zbl];omega
theorem zis {row:List Int} {n:Nat} {a b:Int} {j:Nat} (hl:row.length=n) (hj:j<n+2):vI (row++[a,b]) j=if j=n+1 then b else if j=n then a else vI row j:=by
  by_cases e:j<n
  · rw[if_neg (by omega),if_neg (by omega)]
    show (row++[a,b]).getD j 0=_
    rw[zj0 (by omega)]
  · show (row++[a,b]).getD j 0=_
    rw[zn2 (by omega),hl]
    by_cases e2:j=n
    · rw[if_neg (by omega),if_pos e2,show j - n=0 by omega];rfl
    · rw[if_pos (by omega),show j - n=1 by omega];rfl
theorem zmf {t:List (List Int)} {cap:Int} (h:goodT t cap) {q:Nat} (hq:q<nW t):(zbj t cap q).length=ncol t+2:=by
  unfold zbj
  split
  · have:=h.rows (q / 2) (by omega)
    split
    · rw[List.length_append,this];rfl
    · rw[List.length_append,this];rfl
  · exact zur
theorem zn5 {t:List (List Int)} {cap:Int} {q:Nat} (hq:q<nW t):rowN (zig t cap) q=zbj t cap q:=zaB (zbj t cap) [] _ q hq
theorem zn7 {t:List (List Int)} {cap:Int} (h:goodT t cap) {q j:Nat} (hq:q<nW t) (hj:j<ncol t+2):(-2000≤vI (zbj t cap q) j∧vI (zbj t cap q) j≤2000)∧(j<ncol t+1→-100≤vI (zbj t cap q) j∧vI (zbj t cap q) j≤100):=by
  have hc:=h.cap0
  unfold zbj
  split
  · have hl:=h.rows (q / 2) (by omega)
    split
    · rw [zis hl hj]
      split
      · omega
      · split
        · omega
        · have:=h.vals (q / 2) j (by omega) (by omega);omega
    · rw [zis hl hj]
      split
      · omega
      · split
        · omega
        · have:=h.vals (q / 2) j (by omega) (by omega);omega
  · have e:nW t=2*t.length+2*ncol t:=rfl
    rw[zkd (by omega) hj]
    split
    · omega
    · split<;>omega
/-! ### Corners of walls -/
def lP (t:List (List Int)) (cap:Int) (p:List Int) (k:Nat):List (List Int):=tab (fun i=>rowN (zig t cap) (vI p i).toNat) k
abbrev crn (t:List (List Int)) (cap:Int) (p:List Int):List Int×Int×Bool×Unit:=zau (mL (lP t cap p (ncol t+1))) (rL (lP t cap p (ncol t+1)))
def accP (t:List (List Int)) (cap:Int) (p:List Int):Bool:=(crn t cap p).2.2.1&&mayB t cap (crn t cap p).1 (crn t cap p).2.1
theorem zc1 {t cap p k}:(lP t cap p k).length=k:=zal _ _
theorem zvH {t:List (List Int)} {cap:Int} {p:List Int} {k i:Nat} (h:i<k):rowN (lP t cap p k) i=rowN (zig t cap) (vI p i).toNat:=zaB (fun i=>rowN (zig t cap) (vI p i).toNat) [] _ i h
theorem ziD {t:List (List Int)} {cap:Int} (h:goodT t cap) {p:List Int} (hp:okC (nW t) (ncol t+1) p) {i:Nat} (hi:i<ncol t+1):rowN (lP t cap p (ncol t+1)) i=zbj t cap (vI p i).toNat∧(vI p i).toNat<nW t:=by
  have hq:okQ (nW t) (ncol t+1) p:=⟨hp.len,hp.asc,hp.lo,by
    have up:∀i,i<ncol t+1→vI p 0+i≤vI p i:=fun i=>by
      induction i with
      | zero=>intro _;simp
      | succ i ih=>intro hi;have q1:=ih (by omega);have q2:=hp.asc i hi;omega
    have:=up (ncol t) (by omega)
    have h2:=hp.hi
    rw[show ncol t+1 - 1=ncol t by omega] at h2
    omega,Int.le_of_lt hp.hi,fun _=>hp.hi⟩
  have e:vI p 0≤(nW t:Int) - ((ncol t+1:Nat):Int):=by
    have up:∀i,i<ncol t+1→vI p 0+i≤vI p i:=fun i=>by
      induction i with
      | zero=>intro _;simp
      | succ i ih=>intro hi;have q1:=ih (by omega);have q2:=hp.asc i hi;omega
    have:=up (ncol t) (by omega)
    have h2:=hp.hi
    rw[show ncol t+1 - 1=ncol t by omega] at h2
    omega
  have b:=zmz hq e i hi
  have hb:(vI p i).toNat<nW t:=by omega
  exact⟨by rw[zvH hi,zn5 hb],hb⟩
theorem zpA {t:List (List Int)} {cap:Int} (h:goodT t cap) {p:List Int} (hp:okC (nW t) (ncol t+1) p):pCorn (lP t cap p (ncol t+1)):=by
  have hc:=h.cle
  refine⟨by rw[zc1];omega,fun i hi=>?_,fun i j hi hj=>?_⟩
  · rw[zc1] at hi ⊢
    obtain⟨e1,e2⟩:=ziD h hp hi
    rw[e1,zmf h e2]
  · rw[zc1] at hi hj
    obtain⟨e1,e2⟩:=ziD h hp hi
    rw[e1];exact (zn7 h e2 (by omega)).1
theorem zsi {t:List (List Int)} {cap:Int} (h:goodT t cap) {p:List Int} (hp:okC (nW t) (ncol t+1) p) {i j:Nat} (hi:i<ncol t+1) (hj:j<ncol t+1):vI (rowN (mL (lP t cap p (ncol t+1))) i) j=vI (zbj t cap (vI p i).toNat) j:=by
  rw[zpo (by rw[zc1];exact hi),zc1,zdx hj,(ziD h hp hi).1]
theorem zvE {t:List (List Int)} {cap:Int} (h:goodT t cap) {p:List Int} (hp:okC (nW t) (ncol t+1) p):sqB 100 (ncol t+1) (mL (lP t cap p (ncol t+1))):=by
  have hl:(mL (lP t cap p (ncol t+1))).length=ncol t+1:=by rw[zdk,zc1]
  refine⟨hl,fun r hr=>?_⟩
  obtain⟨i,hi,rfl⟩:=zmG hr
  rw[hl] at hi
  have hrl:(rowN (mL (lP t cap p (ncol t+1))) i).length=ncol t+1:=by
    rw[zpo (by rw[zc1];exact hi),List.length_take,zc1]
    obtain⟨e1,e2⟩:=ziD h hp hi
    rw[e1,zmf h e2];omega
  refine⟨hrl,fun x hx=>?_⟩
  obtain⟨j,hj,rfl⟩:=ziB hx
  rw[hrl] at hj
  rw[zsi h hp hi hj]
  exact (zn7 h (ziD h hp hi).2 (by omega)).2 hj
theorem zfL {t:List (List Int)} {cap:Int} (h:goodT t cap) {p:List Int} (hp:okC (nW t) (ncol t+1) p) (hd:(crn t cap p).2.2.1=true) :
    (crn t cap p).1.length=ncol t+1∧(0<(crn t cap p).2.1∧(crn t cap p).2.1≤1000000000000)∧∀i,i<ncol t+1→-400000000000000≤vI (crn t cap p).1 i∧vI (crn t cap p).1 i≤400000000000000:=by
  have hdet:=zij hd
  have hl:(mL (lP t cap p (ncol t+1))).length=ncol t+1:=by rw[zdk,zc1]
  have hc:=h.cle
  have hC:=zpA h hp
  have hs:ziw (mL (lP t cap p (ncol t+1))) (rL (lP t cap p (ncol t+1))):=by
    refine⟨⟨ncol t+1,by omega,?_⟩,by rw[zvk,zdk],zs6 hC⟩
    have:=zq3 hC
    rw[zc1] at this;exact this
  refine⟨by rw[zg4 hdet,hl],⟨(zfi hs hdet).1,?_⟩,fun i hi=>zgJ hs hdet (by omega)⟩
  have:=zmX (by omega) (zvE h hp)
  show (zau _ _).2.1≤_
  unfold zau
  rw[if_neg hdet]
  split
  · show -detA _≤_;omega
  · show detA _≤_;omega
theorem ziC {t:List (List Int)} {cap d:Int} {x:List Int}:∀ {n:Nat},zeQ t cap x d n=true→∀k,k<n→dotX t x k≤cap*d∧vI x (ncol t)≤dotX t x k
  | n + 1,h,k,hk=>by
    simp only[zeQ,Bool.and_eq_true] at h
    by_cases e:k=n
    · subst e
      have:=h.2
      unfold zhq at this
      simp only[Bool.and_eq_true] at this
      exact⟨of_decide_eq_true this.1,of_decide_eq_true this.2⟩
    · exact ziC h.1 k (by omega)
theorem zkM {t:List (List Int)} {cap d:Int} {x:List Int}:∀ {n:Nat},(∀k,k<n→dotX t x k≤cap*d∧vI x (ncol t)≤dotX t x k)→zeQ t cap x d n=true
  | 0,_=>rfl
  | n+1,h=>by
    simp only[zeQ]
    rw[zkM fun k hk=>h k (by omega)]
    unfold zhq
    rw[decide_eq_true (h n (by omega)).1,decide_eq_true (h n (by omega)).2];rfl
theorem zwl {t:List (List Int)} {cap:Int} (h:goodT t cap) {p:List Int} (hp:okC (nW t) (ncol t+1) p) (ha:accP t cap p=true) :
    vI (crn t cap p).1 (ncol t)*(bV (bX t cap) (ncol t)).2.1≤(bV (bX t cap) (ncol t)).1*(crn t cap p).2.1:=by
  unfold accP at ha
  simp only[Bool.and_eq_true] at ha
  obtain⟨hd,hm⟩:=ha
  obtain⟨b1,b2,b3⟩:=zfL h hp hd
  generalize (crn t cap p).1=X at *
  generalize (crn t cap p).2.1=D at *
  unfold mayB at hm
  simp only[Bool.and_eq_true] at hm
  have hM:pMay t cap X D:=⟨h,b1,by omega⟩
  have hA:=ziC hm.2
  have hp0:=h.pos
  have tl:(X.take (ncol t)).length=ncol t:=by rw[List.length_take];omega
  have dt:∀i,i<t.length→dotI (rowN t i) (X.take (ncol t))=dotX t X i:=fun i hi=>by
    unfold dotI dotX
    rw[h.rows i hi]
    exact zap _ fun j hj=>by rw[zdx hj]
  have HO:opE t cap D (X.take (ncol t))=0:=by
    refine zsa hp0 ⟨by omega,b2.2⟩ tl (fun j hj=>?_) fun i hi=>?_
    · rw[tl] at hj
      rw[zdx hj];exact zpm hM hm.1 hj
    · rw[dt i hi];exact (hA i hi).1
  have f:=zdu h
  have w:=weak h HO f.wt
  obtain⟨i,hi,e⟩:=ztl (xs:=gets t (X.take (ncol t)) t.length) (k:=t.length - 1)
  rw[e,zbU (by omega),dt i (by omega)] at w
  have q:=(hA i (by omega)).2
  have hw:=(zaZ (zn4 f.wt).1).1
  obtain⟨g,hg0,e1,e2,_⟩:=zez (a:=sumI (bW (bX t cap) t.length (ncol t)).2.2.1*cap+sumI (bW (bX t cap) t.length (ncol t)).2.2.2.1) (b:=(bW (bX t cap) t.length (ncol t)).1) (by omega)
  have v1:lowA (sumI (bW (bX t cap) t.length (ncol t)).2.2.1*cap+sumI (bW (bX t cap) t.length (ncol t)).2.2.2.1) (bW (bX t cap) t.length (ncol t)).1=(bV (bX t cap) (ncol t)).1:=f.vw.1
  have v2:lowC (sumI (bW (bX t cap) t.length (ncol t)).2.2.1*cap+sumI (bW (bX t cap) t.length (ncol t)).2.2.2.1) (bW (bX t cap) t.length (ncol t)).1=(bV (bX t cap) (ncol t)).2.1:=f.vw.2
  rw[v1] at e1
  rw[v2] at e2
  refine zaQ hg0 ?_
  rw[e1] at w
  have w2:dotX t X i*((bV (bX t cap) (ncol t)).2.1*g)≤(bV (bX t cap) (ncol t)).1*g*D:=by rw[←e2];exact w
  have q2:=Int.mul_le_mul_of_nonneg_right q (show 0≤(bV (bX t cap) (ncol t)).2.1*g by rw[←e2];exact Int.le_trans (by decide) hw.1)
  rw[Int.mul_assoc,Int.mul_assoc,Int.mul_comm D g,←Int.mul_assoc (bV (bX t cap) (ncol t)).1]
  exact Int.le_trans q2 w2
end Go.Eng.Ar
namespace Go.Eng.LP
set_option linter.all false
set_option maxRecDepth 100000
set_option maxHeartbeats 4000000
def swL (B:List Nat) (k:Nat):List Nat:=(B.set k (bN B (k+1))).set (k+1) (bN B k)
theorem zod {B:List Nat} {k:Nat} (hk:k+1<B.length) (i:Nat):bN (swL B k) i=if i=k then bN B (k+1) else if i=k+1 then bN B k else bN B i:=by
  unfold swL
  rw[zhR (by rw[List.length_set];omega),zhR (by omega)]
  by_cases e:i=k
  · subst e;rw[if_neg (by omega),if_pos rfl,if_pos rfl]
  · rw[if_neg e,if_neg e]
theorem zrH {B:List Nat} {k n:Nat} (hl:B.length=n) (hk:k+1<n) (hn:n≤4) (q:bN B (k+1)<bN B k):mu (swL B k) n<mu B n:=by
  have hb:=fun i=>zod (B:=B) (k:=k) (by omega) i
  have q1:∀m,m≤k→mu (swL B k) m=mu B m:=fun m hm=>zjw m fun i hi=>by rw[hb,if_neg (by omega),if_neg (by omega)]
  have q2:mu (swL B k) (k+1+1)<mu B (k+1+1):=by
    simp only[mu]
    rw[q1 k (Nat.le_refl _),hb k,hb (k+1),if_pos rfl,if_neg (by omega),if_pos rfl]
    obtain⟨z,hz⟩:∃z,4 - k=z+1∧4 - (k+1)=z:=⟨4 - (k+1),by omega,rfl⟩
    rw[hz.1,hz.2,Nat.add_mul,Nat.add_mul]
    obtain⟨d,hd⟩:∃d,bN B k=bN B (k+1)+d:=⟨bN B k - bN B (k+1),by omega⟩
    rw[hd,Nat.mul_add];omega
  have q3:∀m,k+1+1≤m→mu (swL B k) m<mu B m:=fun m=>by
    induction m with
    | zero=>intro hm;omega
    | succ m ih=>
      intro hm
      by_cases e:k+1+1=m+1
      · rw[←e];exact q2
      · have:=ih (by omega)
        simp only[mu]
        rw[hb m,if_neg (by omega),if_neg (by omega)];omega
  exact q3 n (by omega)
theorem zqG {n:Nat} (hn:n≤4) {Q:List Nat→Prop} (hl:∀l,Q l→l.length=n) (hs:∀l k,k+1<n→Q l→Q (swL l k)) (hne:∀l k,k+1<n→Q l→bN l k≠bN l (k+1)) :
    ∀(M:Nat) l,Q l→mu l n≤M→∃l',Q l'∧∀k,k+1<n→bN l' k<bN l' (k+1):=by
  intro M
  induction M with
  | zero=>
    intro l h hM
    refine⟨l,h,fun k hk=>?_⟩
    rcases Nat.lt_trichotomy (bN l k) (bN l (k+1)) with q|q|q
    · exact q
    · exact absurd q (hne l k hk h)
    · have:=zrH (hl l h) hk hn q
      omega
  | succ M ih=>
    intro l h hM
    by_cases hx:∃k,k+1<n∧bN l (k+1)<bN l k
    · obtain⟨k,hk,q⟩:=hx
      have:=zrH (hl l h) hk hn q
      exact ih _ (hs l k hk h) (by omega)
    · refine⟨l,h,fun k hk=>?_⟩
      rcases Nat.lt_trichotomy (bN l k) (bN l (k+1)) with q|q|q
      · exact q
      · exact absurd q (hne l k hk h)
      · exact absurd ⟨k,hk,q⟩ hx
def pr (e:Nat→Rat):Nat→Rat
  | 0=>1
  | n+1=>pr e n*e n
theorem zxo {n:Nat} (hn:n≤4) (e:Nat→Rat) (A:Nat→Nat→Rat):D n (fun i j=>e i*A i j)=pr e n*D n A:=by
  match n,hn with
  | 0,_=>simp[D,pr]
  | 1,_=>rw[D1,D1];simp[pr]
  | 2,_=>rw[D2,D2];simp[pr];grind
  | 3,_=>rw[D3,D3];simp[pr];grind
  | 4,_=>rw[D4,D4];simp[pr];grind
end Go.Eng.LP
namespace Go.Eng.Ar
open Go.Eng Go.Proofs Go.Eng.LP
theorem ztT {t:List (List Int)} {cap:Int} {x:zcg} (h:goodT t cap) (hx:zfd t cap=some x):∃c:List Int,goodA (zbR t cap (ncol t)) c∧c.length=ncol t+1∧detA (zaz (zbR t cap (ncol t)) c c.length)≠0∧
    ∀i,i<ncol t+1→sm (fun j=>vI (bdN (zbR t cap (ncol t)) (vI c i).toNat).1 j*vI x.1 j) (ncol t+1)=zbK (zbR t cap (ncol t)) (vI c i).toNat*x.2.1:=by
  obtain⟨c,hc,h1,h2⟩:=zfN hx
  have hg:=zel h c hc
  have hcl:=(zcQ _ _ _ c hc).1
  have g2:=h.cle
  generalize zbR t cap (ncol t)=b at *
  have hX:(atX b c).2.2.1=true:=by
    cases e:(atX b c).2.2.1 with
    | true=>rfl
    | false=>rw[at_1 e] at h1;cases h1
  have hO:zdh b (atX b c).1 (atX b c).2.1 b.length=true:=by
    cases e:zdh b (atX b c).1 (atX b c).2.1 b.length with
    | true=>rfl
    | false=>rw[at_2 hX e] at h1;cases h1
  have hM:¬mn (atY b c).1 (c.length - 1)<0:=fun e=>by rw[at_3 hX hO e] at h1;cases h1
  rw[at_4 hX hO hM] at h2
  have hdet:=zj9 hX
  obtain⟨eX,pD⟩:=zjd (N:=ncol t+1) (by omega) (right:=rhsP b c c.length) (by rw[zaG,hcl]) (fun i hi=>by rw[zcU (by omega),←hcl];exact hg.len _ (hg.idx i (by omega)).2) hdet
  refine⟨c,hg,hcl,hdet,fun i hi=>?_⟩
  have:=eX i hi
  rw[zcU (by omega),zjm (by omega)] at this
  subst h2
  exact this
def sgW (m n k:Nat):Nat:=if k<m then 2*k else if k<m+m then 2*(k - m)+1 else if k<m+m+n then 2*m+2*(k - (m+m))+1 else 2*m+2*(k - (m+m+n))+0
def epW (m n k:Nat):Int:=if k<m then -1 else if k<m+m+n then 1 else -1
theorem zw9 {m n k:Nat}:epW m n k*epW m n k=1:=by unfold epW;split<;>(try split)<;>rfl
theorem zt5 {t:List (List Int)} {cap:Int} (h:goodT t cap) {k:Nat} (hk:k<(zbR t cap (ncol t)).length):sgW t.length (ncol t) k<nW t∧
    (∀j,j<ncol t+1→vI (bdN (zbR t cap (ncol t)) k).1 j=epW t.length (ncol t) k*vI (zbj t cap (sgW t.length (ncol t) k)) j)∧zbK (zbR t cap (ncol t)) k=epW t.length (ncol t) k*vI (zbj t cap (sgW t.length (ncol t) k)) (ncol t+1):=by
  have hl:=@zeF t cap (ncol t)
  have hn:nW t=2*t.length+2*ncol t:=rfl
  by_cases e1:k<t.length
  · have es:sgW t.length (ncol t) k=2*k:=if_pos e1
    have ee:epW t.length (ncol t) k = -1:=if_pos e1
    have hr:=h.rows k e1
    rw[es,ee,zrD e1,znb e1]
    refine⟨by omega,fun j hj=>?_,?_⟩
    · rw[ze7 hr hj,zis hr (by omega),if_neg (show ¬j=ncol t+1 by omega)]
      split
      · rfl
      · rw[Int.neg_mul,Int.one_mul]
    · rw[zbK,znb e1,zis hr (by omega),if_pos rfl];rfl
  by_cases e2:k<t.length+t.length
  · have es:sgW t.length (ncol t) k=2*(k - t.length)+1:=(if_neg e1).trans (if_pos e2)
    have ee:epW t.length (ncol t) k=1:=(if_neg e1).trans (if_pos (by omega))
    obtain⟨i,rfl⟩:∃i,k=t.length+i:=⟨k - t.length,by omega⟩
    have hi:i<t.length:=by omega
    have hr:=h.rows i hi
    rw[es,ee,show t.length+i - t.length=i by omega,zrC hi,zma hi]
    refine⟨by omega,fun j hj=>?_,?_⟩
    · rw[zeC hr hj,zis hr (by omega),if_neg (show ¬j=ncol t+1 by omega),Int.one_mul]
    · rw[zbK,zma hi,zis hr (by omega),if_pos rfl,Int.one_mul];rfl
  by_cases e3:k<t.length+t.length+ncol t
  · have es:sgW t.length (ncol t) k=2*t.length+2*(k - (t.length+t.length))+1:=(if_neg e1).trans ((if_neg e2).trans (if_pos e3))
    have ee:epW t.length (ncol t) k=1:=(if_neg e1).trans (if_pos e3)
    obtain⟨i,rfl⟩:∃i,k=t.length+t.length+i:=⟨k - (t.length+t.length),by omega⟩
    have hi:i<ncol t:=by omega
    rw[es,ee,show t.length+t.length+i - (t.length+t.length)=i by omega,zn6 (by omega),zjY hi]
    refine⟨by omega,fun j hj=>?_,?_⟩
    · rw[zdF hj,zkd hi (by omega),if_neg (show ¬j=ncol t+1 by omega),Int.one_mul]
    · rw[zbK,zjY hi,zkd hi (by omega),if_pos rfl,Int.one_mul];rfl
  · have es:sgW t.length (ncol t) k=2*t.length+2*(k - (t.length+t.length+ncol t))+0:=(if_neg e1).trans ((if_neg e2).trans (if_neg e3))
    have ee:epW t.length (ncol t) k = -1:=(if_neg e1).trans (if_neg e3)
    obtain⟨i,rfl⟩:∃i,k=t.length+t.length+ncol t+i:=⟨k - (t.length+t.length+ncol t),by omega⟩
    have hi:i<ncol t:=by omega
    rw[es,ee,show t.length+t.length+ncol t+i - (t.length+t.length+ncol t)=i by omega,zn6 (by omega),zl9 hi]
    refine⟨by omega,fun j hj=>?_,?_⟩
    · rw[zev hj,zkd hi (by omega),if_neg (show ¬j=ncol t+1 by omega)]
      split<;>rfl
    · rw[zbK,zl9 hi,zkd hi (by omega),if_pos rfl];rfl
abbrev wQ (t:List (List Int)) (cap:Int) (q j:Nat):Rat:=qI (vI (zbj t cap q) j)
theorem zng {t:List (List Int)} {cap:Int} {x:zcg} (h:goodT t cap) (hx:zfd t cap=some x):∃l:List Nat,l.length=ncol t+1∧(∀i,i<ncol t+1→bN l i<nW t)∧D (ncol t+1) (fun i=>wQ t cap (bN l i))≠0∧
    (∀i,i<ncol t+1→sm (fun j=>vI (zbj t cap (bN l i)) j*vI x.1 j) (ncol t+1)=vI (zbj t cap (bN l i)) (ncol t+1)*x.2.1)∧∀k,k+1<ncol t+1→bN l k<bN l (k+1):=by
  obtain⟨c,hg,hcl,hdet,heq⟩:=ztT h hx
  have g2:=h.cle
  have hb:=fun k hk=>zt5 h (k:=k) hk
  obtain⟨l0,hl0⟩:∃l0:List Nat,l0=tab (fun i=>sgW t.length (ncol t) (vI c i).toNat) (ncol t+1):=⟨_,rfl⟩
  have b0:∀i,i<ncol t+1→bN l0 i=sgW t.length (ncol t) (vI c i).toNat:=fun i hi=>by rw[hl0];exact zaB _ _ _ _ hi
  have hid:∀i,i<ncol t+1→(vI c i).toNat<(zbR t cap (ncol t)).length:=fun i hi=>(hg.idx i (by omega)).2
  have hD0:D (ncol t+1) (fun i=>wQ t cap (bN l0 i))≠0:=by
    have r1:(zaz (zbR t cap (ncol t)) c c.length).length=ncol t+1:=by rw[zaG,hcl]
    have r2:∀i,i<ncol t+1→(rowN (zaz (zbR t cap (ncol t)) c c.length) i).length=ncol t+1:=fun i hi=>by rw[zcU (by omega),←hcl];exact hg.len _ (hid i hi)
    have d1:D (ncol t+1) (mQ (zaz (zbR t cap (ncol t)) c c.length))≠0:=by rw[←znK (by omega) r1 (zew r1 r2)];exact zoU.2 hdet
    have d2:D (ncol t+1) (mQ (zaz (zbR t cap (ncol t)) c c.length))=D (ncol t+1) (fun i j=>qI (epW t.length (ncol t) (vI c i).toNat)*wQ t cap (bN l0 i) j):=zdZ _ fun i j hi hj=>by
      show qI (vI (rowN _ i) j)=_
      rw[zcU (by omega),b0 i hi,←zfp]
      exact congrArg qI ((hb _ (hid i hi)).2.1 j hj)
    rw[d2,zxo (by omega)] at d1
    intro e
    rw[e] at d1
    exact d1 (by grind)
  have hE0:∀i,i<ncol t+1→sm (fun j=>vI (zbj t cap (bN l0 i)) j*vI x.1 j) (ncol t+1)=vI (zbj t cap (bN l0 i)) (ncol t+1)*x.2.1:=fun i hi=>by
    have q:=heq i hi
    obtain⟨w1,w2,w3⟩:=hb _ (hid i hi)
    rw[w3,zap (g:=fun j=>epW t.length (ncol t) (vI c i).toNat*(vI (zbj t cap (bN l0 i)) j*vI x.1 j)) (ncol t+1) (fun j hj=>by rw[w2 j hj,b0 i hi,Int.mul_assoc]),zkk,Int.mul_assoc] at q
    have q2:=congrArg (fun z=>epW t.length (ncol t) (vI c i).toNat*z) q
    simp only[←Int.mul_assoc,zw9,Int.one_mul] at q2
    rw[b0 i hi] at q2 ⊢
    exact q2
  have hs := zqG (n:=ncol t+1) (by omega) (Q:=fun l=>l.length=ncol t+1∧(∀i,i<ncol t+1→bN l i<nW t)∧D (ncol t+1) (fun i=>wQ t cap (bN l i))≠0∧
      ∀i,i<ncol t+1→sm (fun j=>vI (zbj t cap (bN l i)) j*vI x.1 j) (ncol t+1)=vI (zbj t cap (bN l i)) (ncol t+1)*x.2.1) (fun l q=>q.1)
    (fun l k hk q=>by
      obtain⟨q1,q2,q3,q4⟩:=q
      have hb:=fun i=>zod (B:=l) (k:=k) (by omega) i
      have pick:∀i,i<ncol t+1→∃i',i'<ncol t+1∧bN (swL l k) i=bN l i':=fun i hi=>by
        rw[hb]
        by_cases e:i=k
        · rw[if_pos e];exact⟨k+1,hk,rfl⟩
        · rw[if_neg e]
          by_cases e2:i=k+1
          · rw[if_pos e2];exact⟨k,by omega,rfl⟩
          · rw[if_neg e2];exact⟨i,hi,rfl⟩
      refine⟨by unfold swL;rw[List.length_set,List.length_set];exact q1,fun i hi=>?_,?_,fun i hi=>?_⟩
      · obtain⟨i',hi',e⟩:=pick i hi
        rw[e];exact q2 i' hi'
      · have hr:(fun i=>wQ t cap (bN (swL l k) i))=swA (fun i=>wQ t cap (bN l i)) k:=by
          funext i
          simp only[swA]
          rw[hb]
          by_cases e:i=k
          · rw[if_pos e,if_pos e]
          · rw[if_neg e,if_neg e]
            by_cases e2:i=k+1
            · rw[if_pos e2,if_pos e2]
            · rw[if_neg e2,if_neg e2]
        rw[hr,D_sw (by omega) hk]
        grind
      · obtain⟨i',hi',e⟩:=pick i hi
        rw[e];exact q4 i' hi')
    (fun l k hk q e=>by
      obtain⟨q1,q2,q3,q4⟩:=q
      have hr:swA (fun i=>wQ t cap (bN l i)) k=(fun i=>wQ t cap (bN l i)):=by
        funext i
        simp only[swA]
        by_cases e1:i=k
        · rw[if_pos e1,e1,e]
        · rw[if_neg e1]
          by_cases e2:i=k+1
          · rw[if_pos e2,e2,e]
          · rw[if_neg e2]
      have:=D_sw (n:=ncol t+1) (by omega) hk (fun i=>wQ t cap (bN l i))
      rw[hr] at this
      exact q3 (by grind))
    (mu l0 (ncol t+1)) l0 ⟨by rw[hl0,zal],fun i hi=>by rw[b0 i hi];exact (hb _ (hid i hi)).1,hD0,hE0⟩ (Nat.le_refl _)
  obtain⟨l,⟨h1,h2,h3,h4⟩,h5⟩:=hs
  exact⟨l,h1,h2,h3,h4,h5⟩
theorem zp8 {t:List (List Int)} {cap:Int} (h:goodT t cap):∃p,okC (nW t) (ncol t+1) p∧accP t cap p=true∧vI (crn t cap p).1 (ncol t)*(bV (bX t cap) (ncol t)).2.1=(bV (bX t cap) (ncol t)).1*(crn t cap p).2.1:=by
  obtain⟨x,hx⟩:=Option.isSome_iff_exists.1 (zjX h)
  have eb:bX t cap=x:=by show (zfd t cap).getD zgf=x;rw[hx];rfl
  have V:=zp9 h hx
  obtain⟨l,h1,h2,h3,h4,h5⟩:=zng h hx
  have g2:=h.cle
  have hp0:=h.pos
  have hv:∀i,i<ncol t+1→vI (l.map Int.ofNat) i=(bN l i:Int):=fun i hi=>by
    simp[vI,bN,List.getD,List.getElem?_eq_getElem (show i<l.length by omega)]
  have hc:okC (nW t) (ncol t+1) (l.map Int.ofNat):=by
    refine⟨by rw[List.length_map];exact h1,fun i hi=>?_,?_,?_⟩
    · rw[hv i (by omega),hv (i+1) hi]
      have:=h5 i hi;omega
    · rw[hv 0 (by omega)];omega
    · rw[show ncol t+1 - 1=ncol t by omega,hv (ncol t) (by omega)]
      have:=h2 (ncol t) (by omega);omega
  have hvn:∀i,i<ncol t+1→(vI (l.map Int.ofNat) i).toNat=bN l i:=fun i hi=>by rw[hv i hi];rfl
  have hml:(mL (lP t cap (l.map Int.ofNat) (ncol t+1))).length=ncol t+1:=by rw[zdk,zc1]
  have hsq:=zvE h hc
  have hrl:∀i,i<ncol t+1→(rowN (mL (lP t cap (l.map Int.ofNat) (ncol t+1))) i).length=ncol t+1:=fun i hi=>(hsq.2 _ (by
    rw[rowN,List.getD_eq_getElem?_getD,List.getElem?_eq_getElem (by omega)];exact List.getElem_mem _)).1
  have hmq:∀i j,i<ncol t+1→j<ncol t+1→mQ (mL (lP t cap (l.map Int.ofNat) (ncol t+1))) i j=wQ t cap (bN l i) j:=fun i j hi hj=>by
    show qI (vI (rowN _ i) j)=_
    rw[zsi h hc hi hj,hvn i hi]
  have hdet:detA (mL (lP t cap (l.map Int.ofNat) (ncol t+1)))≠0:=by
    rw[←zoU,znK (by omega) hml (zew hml hrl),zdZ (ncol t+1) (fun i j hi hj=>hmq i j hi hj)]
    exact h3
  have hok:(crn t cap (l.map Int.ofNat)).2.2.1=true:=zml hdet
  obtain⟨X,D0,W,E,⟨⟩⟩:=x
  obtain⟨hXl,_,⟨hD1,hD2⟩,_,low,high,box,_,_,_,_⟩:=V
  have hD1:(0:Int)<D0:=hD1
  have hDq:qI D0≠0:=zoU.2 (by omega)
  -- the same point
  obtain ⟨sx,sd⟩:=zjc (N:=ncol t+1) (by omega) (right:=rL (lP t cap (l.map Int.ofNat) (ncol t+1))) hml hrl hdet (x:=fun j=>qI (vI X j)*(qI D0)⁻¹) (fun i hi=>by
    rw[zas (ncol t+1) (g:=fun j=>qI (vI (zbj t cap (bN l i)) j*vI X j)*(qI D0)⁻¹) (fun j hj=>by rw[hmq i j hi hj,zfp];grind),zdv,←zqO,h4 i hi,zfp,zoS (by rw[zc1];exact hi),(ziD h hc hi).1,hvn i hi,zc1]
    have:=Rat.mul_inv_cancel _ hDq
    show qI _*qI D0*(qI D0)⁻¹=qI _
    grind)
  obtain⟨⟨b1,b2,b3⟩⟩:Nonempty _:=⟨zfL h hc hok⟩
  obtain⟨X',hX'⟩:∃X',X'=(crn t cap (l.map Int.ofNat)).1:=⟨_,rfl⟩
  obtain⟨D',hD'⟩:∃D',D'=(crn t cap (l.map Int.ofNat)).2.1:=⟨_,rfl⟩
  have sx:∀j,j<ncol t+1→qI (vI X' j)=qI D'*(qI (vI X j)*(qI D0)⁻¹):=fun j hj=>by rw[hX',hD'];exact sx j hj
  rw[←hX'] at b1
  rw[←hD'] at b2
  have key:∀j,j<ncol t+1→vI X' j*D0=vI X j*D':=fun j hj=>zr7 (by
    rw[zfp,zfp,sx j hj]
    have:=Rat.mul_inv_cancel _ hDq
    grind)
  have scale:∀ {a b a' b':Int},a'*D0=a*D'→b'*D0=b*D'→a≤b→a'≤b':=fun {a b a' b'} e1 e2 hab=>by
    refine zaQ hD1 ?_
    rw[e1,e2];exact Int.mul_le_mul_of_nonneg_right hab (by omega)
  have hdx:∀i,i<t.length→dotX t X' i*D0=sm (fun j=>vI (rowN t i) j*vI X j) (ncol t)*D':=fun i hi=>by
    unfold dotX
    rw[←zbV,←zbV]
    exact zap _ fun j hj=>by rw[Int.mul_assoc,key j (by omega),Int.mul_assoc]
  refine⟨l.map Int.ofNat,hc,?_,?_⟩
  · unfold accP
    rw[hok,←hX',←hD']
    show mayB t cap X' D'=true
    unfold mayB
    have w1:zeW (X'.take (ncol t)) D'=true:=by
      refine decide_eq_true (zdX fun j hj=>?_)
      have hj:j<ncol t:=by rw[List.length_take] at hj;omega
      rw[zdx hj]
      have q:=box j hj
      exact⟨scale (a:=0) (b:=vI X j) (by rw[Int.zero_mul,Int.zero_mul]) (key j (by omega)) q.1,scale (a:=vI X j) (b:=D0) (key j (by omega)) (Int.mul_comm _ _) q.2⟩
    rw[w1,zkM fun i hi=>⟨scale (hdx i hi) (show cap*D'*D0=cap*D0*D' by rw[Int.mul_assoc,Int.mul_comm D',←Int.mul_assoc]) (high i hi),scale (key (ncol t) (by omega)) (hdx i hi) (low i hi)⟩];rfl
  · rw[←hX',←hD',eb]
    obtain⟨g,hg0,e1,e2,_⟩:=zez (a:=vI X (ncol t)) hD1
    have v1:(bV (X,D0,W,E,()) (ncol t)).1=lowA (vI X (ncol t)) D0:=rfl
    have v2:(bV (X,D0,W,E,()) (ncol t)).2.1=lowC (vI X (ncol t)) D0:=rfl
    rw[v1,v2]
    refine Int.eq_of_mul_eq_mul_right (show g≠0 by omega) ?_
    have q:=key (ncol t) (by omega)
    rw[Int.mul_assoc,←e2,q,Int.mul_assoc,Int.mul_comm D' g,←Int.mul_assoc,←e1]
end Go.Eng.Ar
namespace Go.Eng.Ar
open Go.Eng Go.Proofs
set_option linter.all false
set_option maxRecDepth 100000
set_option maxHeartbeats 8000000
/-! ### What the search keeps -/
abbrev bv1 (t:List (List Int)) (cap:Int):Int:=(bV (bX t cap) (ncol t)).1
abbrev bv2 (t:List (List Int)) (cap:Int):Int:=(bV (bX t cap) (ncol t)).2.1
structure bI (t:List (List Int)) (cap:Int) (p:List Int) (b1 b2:Int):Prop where
  pk:okQ (nW t) (ncol t+1) p
  low:∃a b:Int,0<b∧b1=lowA a b∧b2=lowC a b
  bd:(-400000000000000≤b1∧b1≤400000000000000)∧0<b2∧b2≤1000000000000
  le:b1*bv2 t cap≤bv1 t cap*b2
  all:∀c,okC (nW t) (ncol t+1) c→keyP c<keyP p→accP t cap c=true→vI (crn t cap c).1 (ncol t)*b2≤b1*(crn t cap c).2.1
theorem zlL {t:List (List Int)} {cap:Int} (h:goodT t cap):ncol t+1≤nW t∧nW t≤14∧2≤ncol t+1∧ncol t+1≤4:=by
  have g1:=h.pos
  have g2:=h.le
  have g3:=h.cpos
  have g4:=h.cle
  have e:nW t=2*t.length+2*ncol t:=rfl
  omega
theorem zwg {t:List (List Int)} {cap:Int} (h:goodT t cap):0≤bv1 t cap:=by
  have f:=zdu h
  have hp:=h.pos
  have q:=zmF (xs:=gets t (bO (bX t cap) (ncol t)).2.1 t.length) (A:=0) (B:=300000000000000) (k:=t.length - 1) fun i hi=>by
    rw[zbU (by omega)];exact (zkW h (zlI f.op).1 (by omega)).1
  have hd:=(zcY (zlI f.op).1).1
  obtain⟨g,hg0,e1,e2,_⟩:=zez (a:=mn (gets t (bO (bX t cap) (ncol t)).2.1 t.length) (t.length - 1)) (b:=(bO (bX t cap) (ncol t)).1) (Int.lt_of_lt_of_le (by decide) hd.1)
  have e3:lowA (mn (gets t (bO (bX t cap) (ncol t)).2.1 t.length) (t.length - 1)) (bO (bX t cap) (ncol t)).1=bv1 t cap:=f.vo.1
  rw[e3] at e1
  refine zaQ hg0 ?_
  rw[Int.zero_mul,←e1];exact q.1
theorem zru {t:List (List Int)} {cap:Int} (h:goodT t cap):bI t cap (tab (fun i=>(i:Int)) (ncol t+1)) 0 1:=by
  have hn:=zlL h
  have hf:=znt (K:=nW t) (N:=ncol t+1) ⟨hn.2.2.1,hn.2.2.2⟩ ⟨hn.1,hn.2.1⟩
  refine⟨hf.1,⟨0,1,by decide,by decide,by decide⟩,by decide,?_,fun c hc hk=>?_⟩
  · rw[Int.zero_mul,Int.mul_one];exact zwg h
  · have:=hf.2 c hc;omega
theorem zwk {t:List (List Int)} {cap:Int} (h:goodT t cap) {p:List Int} {b1 b2:Int} (H:bI t cap p b1 b2) (hp:(nW t:Int) - ((ncol t+1:Nat):Int)<vI p 0):b1=bv1 t cap∧b2=bv2 t cap:=by
  have hn:=zlL h
  obtain⟨c,hc,ha,hv⟩:=zp8 h
  have hk:=zqT ⟨hn.2.2.1,hn.2.2.2⟩ hn.2.1 H.pk hp hc
  have q:=H.all c hc hk ha
  have ha2:=ha
  unfold accP at ha2
  simp only[Bool.and_eq_true] at ha2
  obtain⟨_,⟨d0,_⟩,_⟩:=zfL h hc ha2.1
  generalize vI (crn t cap c).1 (ncol t)=X at *
  generalize (crn t cap c).2.1=D at *
  have v2:0<bv2 t cap:=(zqf h).2.1
  have hb2:=H.bd.2.1
  have le2:bv1 t cap*b2≤b1*bv2 t cap:=by
    refine zaQ d0 ?_
    have q2:=Int.mul_le_mul_of_nonneg_right q (Int.le_of_lt v2)
    have e1:X*b2*bv2 t cap=bv1 t cap*b2*D:=by
      rw[Int.mul_assoc,Int.mul_comm b2,←Int.mul_assoc,hv,Int.mul_assoc,Int.mul_comm D,←Int.mul_assoc]
    have e2:b1*D*bv2 t cap=b1*bv2 t cap*D:=by rw[Int.mul_assoc,Int.mul_comm D,←Int.mul_assoc]
    rw[←e1,←e2];exact q2
  have heq:b1*bv2 t cap=bv1 t cap*b2:=Int.le_antisymm H.le le2
  obtain⟨a,b,hb,e1,e2⟩:=H.low
  have f:=zdu h
  have hd:=(zcY (zlI f.op).1).1
  have idem:∀ {a b:Int},0<b→lowA (lowA a b) (lowC a b)=lowA a b∧lowC (lowA a b) (lowC a b)=lowC a b:=fun {a b} hb=>by
    obtain⟨g,hg0,z1,z2,z3⟩:=zez (a:=a) hb
    have:=zgL (a:=lowA a b) (b:=lowC a b) (c:=a) (d:=b) z3 hb (by
      have y1:lowA a b*b=lowA a b*(lowC a b*g):=by rw[←z2]
      have y2:a*lowC a b=lowA a b*g*lowC a b:=by rw[←z1]
      rw[y1,y2,Int.mul_assoc,Int.mul_comm g])
    exact this
  have s:=zgL hb2 v2 heq
  have i1:=idem (a:=a) hb
  rw[←e1,←e2] at i1
  have i2:=idem (a:=mn (gets t (bO (bX t cap) (ncol t)).2.1 t.length) (t.length - 1)) (b:=(bO (bX t cap) (ncol t)).1) (Int.lt_of_lt_of_le (by decide) hd.1)
  have e3:lowA (mn (gets t (bO (bX t cap) (ncol t)).2.1 t.length) (t.length - 1)) (bO (bX t cap) (ncol t)).1=bv1 t cap:=f.vo.1
  have e4:lowC (mn (gets t (bO (bX t cap) (ncol t)).2.1 t.length) (t.length - 1)) (bO (bX t cap) (ncol t)).1=bv2 t cap:=f.vo.2
  rw[e3,e4] at i2
  exact⟨i1.1.symm.trans (s.1.trans i2.1),i1.2.symm.trans (s.2.trans i2.2)⟩
theorem znZ {t:List (List Int)} {cap:Int} (h:goodT t cap) {p p':List Int} {b1 b2:Int} (H:bI t cap p b1 b2) (hp:vI p 0≤(nW t:Int) - ((ncol t+1:Nat):Int)) (hk':okQ (nW t) (ncol t+1) p') (hn:∀c,okC (nW t) (ncol t+1) c→keyP p<keyP c→keyP p'≤keyP c)
    (hx:accP t cap p=true→vI (crn t cap p).1 (ncol t)*b2≤b1*(crn t cap p).2.1):bI t cap p' b1 b2:=by
  have hw:=zlL h
  refine⟨hk',H.low,H.bd,H.le,fun c hc hk ha=>?_⟩
  rcases Int.lt_trichotomy (keyP c) (keyP p) with q|q|q
  · exact H.all c hc q ha
  · rw[zpB ⟨hw.2.2.1,hw.2.2.2⟩ hw.2.1 (zhk H.pk hp) hc q] at ha ⊢
    exact hx ha
  · have:=hn c hc q;omega
theorem zsA {t:List (List Int)} {cap:Int} (h:goodT t cap) {p p':List Int} {b1 b2:Int} (H:bI t cap p b1 b2) (hp:vI p 0≤(nW t:Int) - ((ncol t+1:Nat):Int)) (hk':okQ (nW t) (ncol t+1) p') (hn:∀c,okC (nW t) (ncol t+1) c→keyP p<keyP c→keyP p'≤keyP c)
    (ha:accP t cap p=true) (hx:b1*(crn t cap p).2.1≤vI (crn t cap p).1 (ncol t)*b2):bI t cap p' (lowA (vI (crn t cap p).1 (ncol t)) (crn t cap p).2.1) (lowC (vI (crn t cap p).1 (ncol t)) (crn t cap p).2.1):=by
  have hw:=zlL h
  have hc0:=zhk H.pk hp
  have hl:=zwl h hc0 ha
  have ha2:=ha
  unfold accP at ha2
  simp only[Bool.and_eq_true] at ha2
  obtain⟨_,⟨d0,d1⟩,xb⟩:=zfL h hc0 ha2.1
  have xb:=xb (ncol t) (by omega)
  generalize hX:vI (crn t cap p).1 (ncol t)=X at *
  generalize hD:(crn t cap p).2.1=D at *
  obtain⟨g,hg0,e1,e2,e3⟩:=zez (a:=X) d0
  refine⟨hk',⟨X,D,d0,rfl,rfl⟩,zpq xb ⟨d0,d1⟩,?_,fun c hc hk hca=>?_⟩
  · refine zaQ hg0 ?_
    have y1:lowA X D*bv2 t cap*g=X*bv2 t cap:=by rw[Int.mul_assoc,Int.mul_comm _ g,←Int.mul_assoc,←e1]
    have y2:bv1 t cap*lowC X D*g=bv1 t cap*D:=by rw[Int.mul_assoc,←e2]
    rw[y1,y2];exact hl
  · rcases Int.lt_trichotomy (keyP c) (keyP p) with q|q|q
    · have z:=H.all c hc q hca
      have hca2:=hca
      unfold accP at hca2
      simp only[Bool.and_eq_true] at hca2
      obtain⟨_,⟨c0,_⟩,_⟩:=zfL h hc hca2.1
      generalize vI (crn t cap c).1 (ncol t)=Y at *
      generalize (crn t cap c).2.1=E at *
      have hb2:=H.bd.2.1
      have w:Y*D≤X*E:=by
        refine zaQ hb2 ?_
        have w1:=Int.mul_le_mul_of_nonneg_right z (Int.le_of_lt d0)
        have w2:=Int.mul_le_mul_of_nonneg_right hx (Int.le_of_lt c0)
        have f1:Y*D*b2=Y*b2*D:=by rw[Int.mul_assoc,Int.mul_comm D,←Int.mul_assoc]
        have f2:X*E*b2=X*b2*E:=by rw[Int.mul_assoc,Int.mul_comm E,←Int.mul_assoc]
        have f3:b1*E*D=b1*D*E:=by rw[Int.mul_assoc,Int.mul_comm E,←Int.mul_assoc]
        rw[f1,f2]
        rw[f3] at w1
        exact Int.le_trans w1 w2
      refine zaQ hg0 ?_
      have y1:Y*lowC X D*g=Y*D:=by rw[Int.mul_assoc,←e2]
      have y2:lowA X D*E*g=X*E:=by rw[Int.mul_assoc,Int.mul_comm E,←Int.mul_assoc,←e1]
      rw[y1,y2];exact w
    · have ec:=zpB ⟨hw.2.2.1,hw.2.2.2⟩ hw.2.1 hc0 hc q
      rw[ec,hX,hD]
      refine zaQ hg0 (Int.le_of_eq ?_)
      have y1:X*lowC X D*g=X*D:=by rw[Int.mul_assoc,←e2]
      have y2:lowA X D*D*g=X*D:=by rw[Int.mul_assoc,Int.mul_comm D,←Int.mul_assoc,←e1]
      rw[y1,y2]
    · have:=hn c hc q;omega
/-! ### The loops -/
def iniP (n k:Nat):List Int:=tab (fun j=>if j<k then (j:Int) else 0) n
def nxP (q:List Int) (i k:Nat):List Int:=tab (fun j=>if i<j∧j<k then vI q i+((j:Int) - i) else vI q j) q.length
theorem zvI {n:Nat}:iniP n 0=repl (n:Int) (0:Int):=by
  rw[zef]
  exact zih 0 (by simp) fun i hi=>by rw[if_neg (Nat.not_lt_zero _)];simp[List.getD,hi]
theorem zrc {n k:Nat} (hk:k<n):(iniP n k).set k (k:Int)=iniP n (k+1):=by
  unfold iniP
  rw[zgZ]
  refine zbS _ fun j hj=>?_
  by_cases e:j=k
  · subst e;rw[if_pos rfl,if_pos (by omega)]
  · rw[if_neg e]
    by_cases e2:j<k
    · rw[if_pos e2,if_pos (by omega)]
    · rw[if_neg e2,if_neg (by omega)]
theorem ztD {n:Nat}:iniP n n=tab (fun i=>(i:Int)) n:=zbS _ fun j hj=>if_pos hj
theorem nx_0 {q:List Int} {i:Nat}:nxP q i (i+1)=q:=zih 0 rfl fun j hj=>by rw[if_neg (by omega)]
theorem zsd {q:List Int} {i k j:Nat} (hj:j<q.length):vI (nxP q i k) j=if i<j∧j<k then vI q i+((j:Int) - i) else vI q j:=zaB (fun j=>if i<j∧j<k then vI q i+((j:Int) - i) else vI q j) 0 _ j hj
theorem ztg {q:List Int} {i k:Nat} (hi:i<k) (hk:k<q.length):(nxP q i k).set k (vI (nxP q i k) (k - 1)+1)=nxP q i (k+1):=by
  have e:vI (nxP q i k) (k - 1)+1=vI q i+((k:Int) - i):=by
    rw[zsd (by omega)]
    by_cases e:i<k - 1
    · rw[if_pos ⟨e,by omega⟩];omega
    · rw[if_neg (by omega),show k - 1=i by omega];omega
  rw[e]
  unfold nxP
  rw[zgZ]
  refine zbS _ fun j hj=>?_
  by_cases e:j=k
  · subst e;rw[if_pos rfl,if_pos ⟨hi,by omega⟩]
  · rw[if_neg e]
    by_cases e2:i<j∧j<k
    · rw[if_pos e2,if_pos ⟨e2.1,by omega⟩]
    · rw[if_neg e2,if_neg (by omega)]
theorem zgw {p:List Int} {i:Nat} (hi:i<p.length):nxP (p.set i (vI p i+1)) i p.length=pkP p i p.length:=by
  unfold nxP pkP
  rw[List.length_set]
  refine zbS _ fun j hj=>?_
  rw[zeK hi,zeK hi,if_pos rfl]
  by_cases e:i<j∧j<p.length
  · rw[if_pos e,if_neg (by omega),if_pos e.2]
  · rw[if_neg e]
    by_cases e2:j=i
    · subst e2;rw[if_pos rfl,if_neg (by omega),if_pos hj];omega
    · rw[if_neg e2,if_pos (by omega)]
def beA1 (n:Nat):LoopAnn:={σ:=Nat,pat:=fun i=>[sI 7 i,.row 25 3 I64 (iniP n i)],inv:=fun i=>i≤n,meas:=fun i=>n - i}
def beA2 (t:List (List Int)) (cap:Int):LoopAnn:={σ:=List Int×Int×Int,pat:=fun s=>[.row 25 3 I64 s.1,cI 5 0 s.2.1,cI 5 1 s.2.2],inv:=fun s=>bI t cap s.1 s.2.1 s.2.2,meas:=fun s=>(100000000 - keyP s.1).toNat}
def beA3 (t:List (List Int)) (cap:Int) (st:St):LoopAnn:=zsH 25 st fun p=>{σ:=Nat,pat:=fun i=>sI 9 i::zg8 8 60008 76 (lP t cap p i),inv:=fun i=>i≤ncol t+1,meas:=fun i=>ncol t+1 - i}
def beA4 (t:List (List Int)) (st:St):LoopAnn:=zsH 25 st fun p=>{σ:=Nat,pat:=fun i=>[sI 13 i],inv:=fun i=>i<ncol t+1∧∀j,i<j→j<ncol t+1→vI p j=(nW t:Int) - ((ncol t+1:Nat):Int)+j,meas:=fun i=>i}
def beA5 (t:List (List Int)) (st:St):LoopAnn:=zsH 25 st fun q=>zfS 13 st fun i=>{σ:=Nat,pat:=fun k=>[sI 14 k,.row 25 3 I64 (nxP q i.toNat k)],inv:=fun k=>i.toNat<k∧k≤ncol t+1,meas:=fun k=>ncol t+1 - k}
@[reducible] def zrY:Spec:={pats:=[.dat zeI],res:=[{t:=zbY}],pre:=fun x=>goodT x.1.1 x.1.2.1,f:=fun x=>((bv1 x.1.1 x.1.2.1,bv2 x.1.1 x.1.2.1,()),())}
theorem zsc {q:List Int} {i k:Nat}:(nxP q i k).length=q.length:=zal _ _
theorem zmD {p:List Int} {n i q:Nat} (hl:p.length=n+1) (hq:i<q∧q≤n+1) (hq2:(q:Int)<(n:Int)+1):(nxP (p.set i (p.getD i 0+1)) i q).set q ((nxP (p.set i (p.getD i 0+1)) i q).getD ((q:Int) - 1).toNat 0+1)=nxP (p.set i (p.getD i 0+1)) i (q+1):=by
  rw[show ((q:Int) - 1).toNat=q - 1 by omega]
  exact ztg hq.1 (by rw[List.length_set,hl];omega)
theorem ztC {n k:Nat}:(iniP n k).length=n:=zal _ _
theorem zwW {t:List (List Int)} {p:List Int} (h:p.getD 0 0≤(nW t:Int) - (((t.getD 0 []).length:Int)+1)):vI p 0≤(nW t:Int) - ((ncol t+1:Nat):Int):=by
  show p.getD 0 0≤_
  have e:((ncol t+1:Nat):Int)=((t.getD 0 []).length:Int)+1:=rfl
  omega
theorem rng1 {x:Int} {K:Nat} (h:0≤x∧x<K) (hK:K≤14) : -9223372036854775808≤x+1∧x+1≤9223372036854775807:=by omega
theorem zvA {p:List Int} {N K:Nat} (hl:p.length=N) (b:∀i,i<N→0≤vI p i∧vI p i<K) (hK:K≤14) (hN:N≤4) {i k:Nat} (hi:i<N) (j:Nat) : -9223372036854775808≤(nxP (p.set i (p.getD i 0+1)) i k).getD j 0+1∧(nxP (p.set i (p.getD i 0+1)) i k).getD j 0+1≤9223372036854775807:=by
  have hi':i<p.length:=by omega
  show -9223372036854775808≤vI (nxP (p.set i (vI p i+1)) i k) j+1∧vI (nxP (p.set i (vI p i+1)) i k) j+1≤9223372036854775807
  by_cases hj:j<N
  · have q:=b i hi
    have q2:=b j hj
    rw[zsd (by rw[List.length_set];omega),zeK hi',zeK hi',if_pos rfl]
    split
    · omega
    · split<;>omega
  · have e:vI (nxP (p.set i (vI p i+1)) i k) j=0:=by
      simp only[vI,List.getD_eq_getElem?_getD]
      rw[List.getElem?_eq_none (by rw[zsc,List.length_set];omega)];rfl
    rw[e];decide
theorem ztn {t:List (List Int)} {cap:Int} (h:goodT t cap) {p:List Int} (hc:okC (nW t) (ncol t+1) p) (hz:(crn t cap p).2.2.1=true):pMay t cap (crn t cap p).1 (crn t cap p).2.1:=by
  obtain⟨b1,b2,b3⟩:=zfL h hc hz
  exact⟨h,b1,b2.1,Int.le_trans b2.2 (by decide)⟩
theorem ztH {t:List (List Int)} {cap:Int} (h:goodT t cap) {p:List Int} (hc:okC (nW t) (ncol t+1) p) (hz:(crn t cap p).2.2.1=true):0≤((t.getD 0 []).length:Int)+1 - 1∧((t.getD 0 []).length:Int)+1 - 1<((crn t cap p).1.length:Int):=by
  obtain⟨b1,b2,b3⟩:=zfL h hc hz
  have e:(t.getD 0 []).length=ncol t:=rfl
  rw[b1,e];omega
theorem ztV {t:List (List Int)} {cap:Int} (h:goodT t cap) {p:List Int} (hc:okC (nW t) (ncol t+1) p) (hz:(crn t cap p).2.2.1=true) {b1 b2:Int} (hb:(-400000000000000≤b1∧b1≤400000000000000)∧0<b2∧b2≤1000000000000):pCmp ((crn t cap p).1.getD (ncol t) 0) (crn t cap p).2.1 b1 b2:=by
  obtain⟨_,c2,c3⟩:=zfL h hc hz
  have c3 : -400000000000000≤(crn t cap p).1.getD (ncol t) 0∧(crn t cap p).1.getD (ncol t) 0≤400000000000000:=c3 (ncol t) (by omega)
  exact⟨by omega,by omega,by omega,by omega,by omega⟩
theorem zts {t:List (List Int)} {cap:Int} (h:goodT t cap) {p:List Int} (hc:okC (nW t) (ncol t+1) p) (hz:(crn t cap p).2.2.1=true):zvv ((crn t cap p).1.getD (ncol t) 0) (crn t cap p).2.1:=by
  obtain⟨_,c2,c3⟩:=zfL h hc hz
  have c3 : -400000000000000≤(crn t cap p).1.getD (ncol t) 0∧(crn t cap p).1.getD (ncol t) 0≤400000000000000:=c3 (ncol t) (by omega)
  exact⟨by omega,by omega,c2.1⟩
theorem zsv {a b c d:Int} (h:0<cmpI a b c d):c*b≤a*d:=by
  unfold cmpI at h
  split at h
  · cases h
  · split at h
    · omega
    · cases h
theorem zsx {a b c d:Int} (h:cmpI a b c d≤0):a*d≤c*b:=by
  unfold cmpI at h
  split at h
  · omega
  · split at h
    · exact absurd h (by decide)
    · omega
theorem zsD {t:List (List Int)} {cap:Int} {p:List Int} {P:Prop} (h:(crn t cap p).2.2.1=false):accP t cap p=true→P:=fun q=>by
  unfold accP at q;rw[h] at q;cases q
theorem zqp {t:List (List Int)} {cap:Int} {p:List Int} {P:Prop} (h:mayB t cap (crn t cap p).1 (crn t cap p).2.1=false):accP t cap p=true→P:=fun q=>by
  unfold accP at q;rw[h,Bool.and_false] at q;cases q
theorem zqo {t:List (List Int)} {cap:Int} {p:List Int} (hz:(crn t cap p).2.2.1=true) (hm:mayB t cap (crn t cap p).1 (crn t cap p).2.1=true):accP t cap p=true:=by
  unfold accP;rw[hz,hm];rfl
theorem zei {t:List (List Int)} {cap:Int} (h:goodT t cap) {p:List Int} {b1 b2:Int} (H:bI t cap p b1 b2) (hp:vI p 0≤(nW t:Int) - ((ncol t+1:Nat):Int)) {i:Nat} (hi:i<ncol t+1∧∀j,i<j→j<ncol t+1→vI p j=(nW t:Int) - ((ncol t+1:Nat):Int)+j) (h0:i=0∨vI p i≠(nW t:Int) - ((ncol t+1:Nat):Int)+i) :
    okQ (nW t) (ncol t+1) (pkP p i (ncol t+1))∧keyP p<keyP (pkP p i (ncol t+1))∧∀c,okC (nW t) (ncol t+1) c→keyP p<keyP c→keyP (pkP p i (ncol t+1))≤keyP c:=by
  have hw:=zlL h
  exact zo0 ⟨hw.2.2.1,hw.2.2.2⟩ hw.2.1 H.pk hp hi.1 h0 hi.2
theorem zej {t:List (List Int)} {cap:Int} (h:goodT t cap) {p p':List Int} (hk:okQ (nW t) (ncol t+1) p) (hk':okQ (nW t) (ncol t+1) p') (hlt:keyP p<keyP p'):(100000000 - keyP p').toNat<(100000000 - keyP p).toNat:=by
  have hw:=zlL h
  have q1:=zsk ⟨hw.2.2.1,hw.2.2.2⟩ hw.2.1 hk
  have q2:=zsk ⟨hw.2.2.1,hw.2.2.2⟩ hw.2.1 hk'
  omega
theorem zka {t:List (List Int)} {cap:Int}:(zig t cap).length=nW t:=zal _ _
theorem h54:Ok 54 zrY:=by
  refine mk (ctr:=[(45,zjk),(116,znl),(117,zrJ),(118,zoy),(119,sMay)]) ⟨h45,h116,h117,h118,h119,trivial⟩ (nt:=136) Tryz.func54 rfl rfl rfl rfl (by kernel_rfl) (by kernel_rfl) (fun x=>[fun _=>beA1 (ncol x.1.1+1),fun _=>beA2 x.1.1 x.1.2.1,beA3 x.1.1 x.1.2.1,beA4 x.1.1,beA5 x.1.1]) ?_
  rintro⟨⟨(t:List (List Int)),(cap:Int),⟨⟩⟩,⟨⟩⟩ (h:goodT t cap)
  have g1:=h.pos
  have g2:=h.le
  have g3:=h.cpos
  have g4:=h.cle
  have eN:(((t.getD 0 []).length:Int)+1 - 1).toNat=ncol t:=by
    have e:(t.getD 0 []).length=ncol t:=rfl
    omega
  repeat' (intro hzz;(try (rename Two=>hq;cases hq));(try dsimp only at hzz);(try simp only[zad,zac,eqD,inR,big,zab,zB] at hzz);(try simp only[zad,zac,eqD,inR,big,zab,zB,zaS,zav,zbb,zbz,zbA,Int.toNat_natCast,zal,zaR,zbv,zka,eN] at hzz);(try (revert hzz;intro _)))
  all_goals try (rename Unit=>hq;clear hq)
  all_goals try ((with_reducible refine Held.mk ?_);(with_reducible (first|refine Frz.mk ?_|refine And.intro (Frz.mk ?_) ?_|refine And.intro ?_ (Frz.mk ?_)));repeat' first|exact True.intro|(change _=_;with_reducible rfl)|refine And.intro ?_ ?_|(with_reducible refine Frz.mk ?_))
  all_goals try (refine Held.mk ?_;(try dsimp only at *);(try simp only[zad,zac,eqD,inR,big,zab,zB] at *);(try simp only[zad,zac,eqD,inR,big,zab,zB,zaS,zav,zbb,zbz,zbA,Int.toNat_natCast,zal,zaR,zbv,zka,eN] at *))
  all_goals try omega
  all_goals have g6:(t.getD 0 []).length=ncol t:=rfl
  all_goals have hw:=zlL h
  all_goals try (rename bI t cap _ _ _=>H;have hl:=H.pk.len)
  all_goals try (rename List.getD _ 0 0≤_=>hp0;have hp:=zwW hp0;have b:=zmz H.pk hp)
  all_goals try (rename (_<ncol t+1∧∀_,_)=>i4;have i1:=i4.1)
  all_goals try omega
  all_goals try (rw[zbl];omega)
  all_goals try (rw[ztC];omega)
  all_goals try (rw[hl];omega)
  all_goals try exact b _ (by omega)
  all_goals try exact rng1 (b _ (by omega)) hw.2.1
  all_goals try (rw[zsc,List.length_set,hl];omega)
  all_goals try exact zvA hl b hw.2.1 hw.2.2.2 i1 _
  all_goals try (rename _≤ncol t+1=>hk;have ek:=Nat.le_antisymm hk (by omega);subst ek)
  all_goals try exact zpA h (zhk H.pk hp)
  all_goals try exact ztn h (zhk H.pk hp) (by assumption)
  all_goals try exact ztH h (zhk H.pk hp) (by assumption)
  all_goals try exact ztV h (zhk H.pk hp) (by assumption) H.bd
  all_goals try exact zts h (zhk H.pk hp) (by assumption)
  all_goals try (show (lP _ _ _ _).length+1≤2147483648;rw[zc1];omega)
  ·
    have e:=(zvI (n:=ncol t+1)).symm
    have e1:repl (((t.getD 0 []).length:Int)+1) (0:Int)=iniP (ncol t+1) 0:=by
      rw[zvI];rfl
    refine zaj.mk ?_
    refine Exists.intro (0:Nat) ?_
    refine And.intro (Leaf.mk ?_) ?_
    · repeat' first|exact True.intro|refine And.intro ?_ ?_
      all_goals try ((change _=_<;>try dsimp only)<;>try with_reducible rfl)
      all_goals try omega
      all_goals (first|rfl|exact e1|exact e1.symm)
    exact Nat.zero_le _
  · rename_i i hi hlt
    have e:=zrc (n:=ncol t+1) (k:=i) (by omega)
    refine zaj.mk ?_
    refine Exists.intro (i+1) ?_
    refine And.intro (Leaf.mk ?_) ?_
    · repeat' first|exact True.intro|refine And.intro ?_ ?_
      all_goals try ((change _=_<;>try dsimp only)<;>try with_reducible rfl)
      all_goals try omega
      all_goals (first|rfl|exact e|exact e.symm)
    exact⟨by show i+1≤ncol t+1;omega,by show ncol t+1 - (i+1)<ncol t+1 - i;omega⟩
  ·
    refine zaj.mk ?_
    refine Exists.intro ((iniP (ncol t+1) (ncol t+1),(0:Int),(1:Int)):List Int×Int×Int) ?_
    refine And.intro (Leaf.mk ?_) ?_
    · repeat' first|exact True.intro|refine And.intro ?_ ?_
      all_goals try ((change _=_<;>try dsimp only)<;>try with_reducible rfl)
      all_goals try omega
      all_goals (rfl)
    show bI t cap (iniP (ncol t+1) (ncol t+1)) 0 1
    rw[ztD];exact zru h
  · rename_i s hg0
    refine zaj.mk ?_
    refine Exists.intro (0:Nat) ?_
    refine And.intro (Leaf.mk ?_) ?_
    · repeat' first|exact True.intro|refine And.intro ?_ ?_
      all_goals try ((change _=_<;>try dsimp only)<;>try with_reducible rfl)
      all_goals try omega
      all_goals (rfl)
    exact Nat.zero_le _
  · rename_i n0 hn0 hg0 s k hk hkl
    refine zaj.mk ?_
    refine Exists.intro (k+1) ?_
    refine And.intro (Leaf.mk ?_) ?_
    · repeat' first|exact True.intro|refine And.intro ?_ ?_
      all_goals try ((change _=_<;>try dsimp only)<;>try with_reducible rfl)
      all_goals try omega
      all_goals (rfl)
    exact⟨by show k+1≤ncol t+1;omega,by show ncol t+1 - (k+1)<ncol t+1 - k;omega⟩
  all_goals try (rename_i i hi0 hne;rename List Int×Int×Int=>s;have e:=(nx_0 (q:=s.1.set i (s.1.getD i 0+1)) (i:=i)).symm;refine zaj.mk ?_;refine Exists.intro (i+1) ?_;refine And.intro (Leaf.mk ?_) ?_;(focus ((repeat' first|exact True.intro|refine And.intro ?_ ?_);(all_goals try ((change _=_<;>try dsimp only)<;>try with_reducible rfl));(all_goals try omega);(all_goals ((first|rfl|exact e|exact e.symm|(symm;assumption))))));(exact⟨(show i<i+1 by omega),(show i+1≤ncol t+1 by omega)⟩))
  all_goals try (rename_i i hi0;rename List Int×Int×Int=>s;have e:=(nx_0 (q:=s.1.set i (s.1.getD i 0+1)) (i:=i)).symm;refine zaj.mk ?_;refine Exists.intro (i+1) ?_;refine And.intro (Leaf.mk ?_) ?_;(focus ((repeat' first|exact True.intro|refine And.intro ?_ ?_);(all_goals try ((change _=_<;>try dsimp only)<;>try with_reducible rfl));(all_goals try omega);(all_goals ((first|rfl|exact e|exact e.symm|(symm;assumption))))));(exact⟨(show i<i+1 by omega),(show i+1≤ncol t+1 by omega)⟩))
  all_goals try (rename_i i hi0 hne q hq hq2;rename List Int×Int×Int=>s;have e:=zmD (p:=s.1) hl hq hq2;refine zaj.mk ?_;refine Exists.intro (q+1) ?_;refine And.intro (Leaf.mk ?_) ?_;(focus ((repeat' first|exact True.intro|refine And.intro ?_ ?_);(all_goals try ((change _=_<;>try dsimp only)<;>try with_reducible rfl));(all_goals try omega);(all_goals ((first|rfl|exact e|exact e.symm|(symm;assumption))))));(exact⟨⟨(show i<q+1 by omega),(show q+1≤ncol t+1 by omega)⟩,(show ncol t+1 - (q+1)<ncol t+1 - q by omega)⟩))
  all_goals try (rename_i i hi0 q hq hq2;rename List Int×Int×Int=>s;have e:=zmD (p:=s.1) hl hq hq2;refine zaj.mk ?_;refine Exists.intro (q+1) ?_;refine And.intro (Leaf.mk ?_) ?_;(focus ((repeat' first|exact True.intro|refine And.intro ?_ ?_);(all_goals try ((change _=_<;>try dsimp only)<;>try with_reducible rfl));(all_goals try omega);(all_goals ((first|rfl|exact e|exact e.symm|(symm;assumption))))));(exact⟨⟨(show i<q+1 by omega),(show q+1≤ncol t+1 by omega)⟩,(show ncol t+1 - (q+1)<ncol t+1 - q by omega)⟩))
  · rename_i n0 hn0 hg0 s hk2 hz hm hc
    have e:((t.getD 0 []).length:Int)+1 - 1=(ncol t:Int):=by omega
    refine zaj.mk ?_
    refine Exists.intro (ncol t) ?_
    refine And.intro (Leaf.mk ?_) ?_
    · repeat' first|exact True.intro|refine And.intro ?_ ?_
      all_goals try ((change _=_<;>try dsimp only)<;>try with_reducible rfl)
      all_goals try omega
      all_goals (first|rfl|exact e|exact e.symm|exact hz.symm|exact hm.symm)
    exact⟨(show ncol t<ncol t+1 by omega),fun j h1 h2=>absurd (show j<ncol t+1 from h2) (by have h1:ncol t<j:=h1;omega)⟩
  · rename_i n0 hn0 hg0 s k hk hk2 hz hm hc i hi0 heq
    have e:(i:Int) - 1=((i - 1:Nat):Int):=by omega
    refine zaj.mk ?_
    refine Exists.intro (i - 1) ?_
    refine And.intro (Leaf.mk ?_) ?_
    · repeat' first|exact True.intro|refine And.intro ?_ ?_
      all_goals try ((change _=_<;>try dsimp only)<;>try with_reducible rfl)
      all_goals try omega
      all_goals (first|rfl|exact e|exact e.symm|exact hz.symm|exact hm.symm)
    refine⟨⟨(show i - 1<ncol t+1 by omega),fun j h1 h2=>?_⟩,(show i - 1<i by omega)⟩
    have h1:i - 1<j:=h1
    show s.1.getD j 0=(nW t:Int) - ((ncol t+1:Nat):Int)+(j:Int)
    by_cases ej:j=i
    · subst ej
      rw[heq,g6];omega
    · exact i4.2 j (by omega) h2
  · rename_i n0 hn0 hg0 s k hk hk2 hz hm hc i hi0 hne q hq hq2
    obtain rfl:k=ncol t+1:=by omega
    have hqn:q=s.1.length:=by have:=hq.2;omega
    have e:nxP (s.1.set i (s.1.getD i 0+1)) i q=pkP s.1 i (ncol t+1):=by
      rw[hqn,←hl];exact zgw (by omega)
    have nx:=zei h H hp i4 (.inr (fun q=>hne (by show vI s.1 i=_;rw[q,g6];omega)))
    have eN':(((t.getD 0 []).length:Int)+1 - 1).toNat=ncol t:=by omega
    have e5:lowA ((crn t cap s.1).1.getD (((t.getD 0 []).length:Int)+1 - 1).toNat 0) (crn t cap s.1).2.1=lowA (vI (crn t cap s.1).1 (ncol t)) (crn t cap s.1).2.1:=by rw[eN']
    have e6:lowC ((crn t cap s.1).1.getD (((t.getD 0 []).length:Int)+1 - 1).toNat 0) (crn t cap s.1).2.1=lowC (vI (crn t cap s.1).1 (ncol t)) (crn t cap s.1).2.1:=by rw[eN']
    refine zaj.mk ?_
    refine Exists.intro ((pkP s.1 i (ncol t+1),lowA (vI (crn t cap s.1).1 (ncol t)) (crn t cap s.1).2.1,lowC (vI (crn t cap s.1).1 (ncol t)) (crn t cap s.1).2.1):List Int×Int×Int) ?_
    refine And.intro (Leaf.mk ?_) ?_
    · repeat' first|exact True.intro|refine And.intro ?_ ?_
      all_goals try ((change _=_<;>try dsimp only)<;>try with_reducible rfl)
      all_goals try omega
      all_goals (first|rfl|exact e|exact e.symm|exact e5|exact e6|exact e5.symm|exact e6.symm|exact hz.symm|exact hm.symm)
    exact⟨zsA h H hp nx.1 nx.2.2 (zqo hz hm) (zsv hc),zej h H.pk nx.1 nx.2.1⟩
  · rename_i n0 hn0 hg0 s k hk hk2 hz hm hc i hi0 q hq hq2
    obtain rfl:k=ncol t+1:=by omega
    have hqn:q=s.1.length:=by have:=hq.2;omega
    have e:nxP (s.1.set i (s.1.getD i 0+1)) i q=pkP s.1 i (ncol t+1):=by
      rw[hqn,←hl];exact zgw (by omega)
    have nx:=zei h H hp i4 (.inl (by omega))
    have eN':(((t.getD 0 []).length:Int)+1 - 1).toNat=ncol t:=by omega
    have e5:lowA ((crn t cap s.1).1.getD (((t.getD 0 []).length:Int)+1 - 1).toNat 0) (crn t cap s.1).2.1=lowA (vI (crn t cap s.1).1 (ncol t)) (crn t cap s.1).2.1:=by rw[eN']
    have e6:lowC ((crn t cap s.1).1.getD (((t.getD 0 []).length:Int)+1 - 1).toNat 0) (crn t cap s.1).2.1=lowC (vI (crn t cap s.1).1 (ncol t)) (crn t cap s.1).2.1:=by rw[eN']
    refine zaj.mk ?_
    refine Exists.intro ((pkP s.1 i (ncol t+1),lowA (vI (crn t cap s.1).1 (ncol t)) (crn t cap s.1).2.1,lowC (vI (crn t cap s.1).1 (ncol t)) (crn t cap s.1).2.1):List Int×Int×Int) ?_
    refine And.intro (Leaf.mk ?_) ?_
    · repeat' first|exact True.intro|refine And.intro ?_ ?_
      all_goals try ((change _=_<;>try dsimp only)<;>try with_reducible rfl)
      all_goals try omega
      all_goals (first|rfl|exact e|exact e.symm|exact e5|exact e6|exact e5.symm|exact e6.symm|exact hz.symm|exact hm.symm)
    exact⟨zsA h H hp nx.1 nx.2.2 (zqo hz hm) (zsv hc),zej h H.pk nx.1 nx.2.1⟩
  · rename_i n0 hn0 hg0 s hk2 hz hm hc
    have e:((t.getD 0 []).length:Int)+1 - 1=(ncol t:Int):=by omega
    refine zaj.mk ?_
    refine Exists.intro (ncol t) ?_
    refine And.intro (Leaf.mk ?_) ?_
    · repeat' first|exact True.intro|refine And.intro ?_ ?_
      all_goals try ((change _=_<;>try dsimp only)<;>try with_reducible rfl)
      all_goals try omega
      all_goals (first|rfl|exact e|exact e.symm|exact hz.symm|exact hm.symm)
    exact⟨(show ncol t<ncol t+1 by omega),fun j h1 h2=>absurd (show j<ncol t+1 from h2) (by have h1:ncol t<j:=h1;omega)⟩
  · rename_i n0 hn0 hg0 s k hk hk2 hz hm hc i hi0 heq
    have e:(i:Int) - 1=((i - 1:Nat):Int):=by omega
    refine zaj.mk ?_
    refine Exists.intro (i - 1) ?_
    refine And.intro (Leaf.mk ?_) ?_
    · repeat' first|exact True.intro|refine And.intro ?_ ?_
      all_goals try ((change _=_<;>try dsimp only)<;>try with_reducible rfl)
      all_goals try omega
      all_goals (first|rfl|exact e|exact e.symm|exact hz.symm|exact hm.symm)
    refine⟨⟨(show i - 1<ncol t+1 by omega),fun j h1 h2=>?_⟩,(show i - 1<i by omega)⟩
    have h1:i - 1<j:=h1
    show s.1.getD j 0=(nW t:Int) - ((ncol t+1:Nat):Int)+(j:Int)
    by_cases ej:j=i
    · subst ej
      rw[heq,g6];omega
    · exact i4.2 j (by omega) h2
  · rename_i n0 hn0 hg0 s k hk hk2 hz hm hc i hi0 hne q hq hq2
    obtain rfl:k=ncol t+1:=by omega
    have hqn:q=s.1.length:=by have:=hq.2;omega
    have e:nxP (s.1.set i (s.1.getD i 0+1)) i q=pkP s.1 i (ncol t+1):=by
      rw[hqn,←hl];exact zgw (by omega)
    have nx:=zei h H hp i4 (.inr (fun q=>hne (by show vI s.1 i=_;rw[q,g6];omega)))
    refine zaj.mk ?_
    refine Exists.intro ((pkP s.1 i (ncol t+1),s.2.1,s.2.2):List Int×Int×Int) ?_
    refine And.intro (Leaf.mk ?_) ?_
    · repeat' first|exact True.intro|refine And.intro ?_ ?_
      all_goals try ((change _=_<;>try dsimp only)<;>try with_reducible rfl)
      all_goals try omega
      all_goals (first|rfl|exact e|exact e.symm|exact hz.symm|exact hm.symm)
    exact⟨znZ h H hp nx.1 nx.2.2 (fun _=>zsx hc),zej h H.pk nx.1 nx.2.1⟩
  · rename_i n0 hn0 hg0 s k hk hk2 hz hm hc i hi0 q hq hq2
    obtain rfl:k=ncol t+1:=by omega
    have hqn:q=s.1.length:=by have:=hq.2;omega
    have e:nxP (s.1.set i (s.1.getD i 0+1)) i q=pkP s.1 i (ncol t+1):=by
      rw[hqn,←hl];exact zgw (by omega)
    have nx:=zei h H hp i4 (.inl (by omega))
    refine zaj.mk ?_
    refine Exists.intro ((pkP s.1 i (ncol t+1),s.2.1,s.2.2):List Int×Int×Int) ?_
    refine And.intro (Leaf.mk ?_) ?_
    · repeat' first|exact True.intro|refine And.intro ?_ ?_
      all_goals try ((change _=_<;>try dsimp only)<;>try with_reducible rfl)
      all_goals try omega
      all_goals (first|rfl|exact e|exact e.symm|exact hz.symm|exact hm.symm)
    exact⟨znZ h H hp nx.1 nx.2.2 (fun _=>zsx hc),zej h H.pk nx.1 nx.2.1⟩
  · rename_i n0 hn0 hg0 s hk2 hz hm
    have e:((t.getD 0 []).length:Int)+1 - 1=(ncol t:Int):=by omega
    refine zaj.mk ?_
    refine Exists.intro (ncol t) ?_
    refine And.intro (Leaf.mk ?_) ?_
    · repeat' first|exact True.intro|refine And.intro ?_ ?_
      all_goals try ((change _=_<;>try dsimp only)<;>try with_reducible rfl)
      all_goals try omega
      all_goals (first|rfl|exact e|exact e.symm|exact hz.symm|exact hm.symm)
    exact⟨(show ncol t<ncol t+1 by omega),fun j h1 h2=>absurd (show j<ncol t+1 from h2) (by have h1:ncol t<j:=h1;omega)⟩
  · rename_i n0 hn0 hg0 s k hk hk2 hz hm i hi0 heq
    have e:(i:Int) - 1=((i - 1:Nat):Int):=by omega
    refine zaj.mk ?_
    refine Exists.intro (i - 1) ?_
    refine And.intro (Leaf.mk ?_) ?_
    · repeat' first|exact True.intro|refine And.intro ?_ ?_
      all_goals try ((change _=_<;>try dsimp only)<;>try with_reducible rfl)
      all_goals try omega
      all_goals (first|rfl|exact e|exact e.symm|exact hz.symm|exact hm.symm)
    refine⟨⟨(show i - 1<ncol t+1 by omega),fun j h1 h2=>?_⟩,(show i - 1<i by omega)⟩
    have h1:i - 1<j:=h1
    show s.1.getD j 0=(nW t:Int) - ((ncol t+1:Nat):Int)+(j:Int)
    by_cases ej:j=i
    · subst ej
      rw[heq,g6];omega
    · exact i4.2 j (by omega) h2
  · rename_i n0 hn0 hg0 s k hk hk2 hz hm i hi0 hne q hq hq2
    obtain rfl:k=ncol t+1:=by omega
    have hqn:q=s.1.length:=by have:=hq.2;omega
    have e:nxP (s.1.set i (s.1.getD i 0+1)) i q=pkP s.1 i (ncol t+1):=by
      rw[hqn,←hl];exact zgw (by omega)
    have nx:=zei h H hp i4 (.inr (fun q=>hne (by show vI s.1 i=_;rw[q,g6];omega)))
    refine zaj.mk ?_
    refine Exists.intro ((pkP s.1 i (ncol t+1),s.2.1,s.2.2):List Int×Int×Int) ?_
    refine And.intro (Leaf.mk ?_) ?_
    · repeat' first|exact True.intro|refine And.intro ?_ ?_
      all_goals try ((change _=_<;>try dsimp only)<;>try with_reducible rfl)
      all_goals try omega
      all_goals (first|rfl|exact e|exact e.symm|exact hz.symm|exact hm.symm)
    exact⟨znZ h H hp nx.1 nx.2.2 (zqp hm),zej h H.pk nx.1 nx.2.1⟩
  · rename_i n0 hn0 hg0 s k hk hk2 hz hm i hi0 q hq hq2
    obtain rfl:k=ncol t+1:=by omega
    have hqn:q=s.1.length:=by have:=hq.2;omega
    have e:nxP (s.1.set i (s.1.getD i 0+1)) i q=pkP s.1 i (ncol t+1):=by
      rw[hqn,←hl];exact zgw (by omega)
    have nx:=zei h H hp i4 (.inl (by omega))
    refine zaj.mk ?_
    refine Exists.intro ((pkP s.1 i (ncol t+1),s.2.1,s.2.2):List Int×Int×Int) ?_
    refine And.intro (Leaf.mk ?_) ?_
    · repeat' first|exact True.intro|refine And.intro ?_ ?_
      all_goals try ((change _=_<;>try dsimp only)<;>try with_reducible rfl)
      all_goals try omega
      all_goals (first|rfl|exact e|exact e.symm|exact hz.symm|exact hm.symm)
    exact⟨znZ h H hp nx.1 nx.2.2 (zqp hm),zej h H.pk nx.1 nx.2.1⟩
  · rename_i n0 hn0 hg0 s hk2 hz
    have e:((t.getD 0 []).length:Int)+1 - 1=(ncol t:Int):=by omega
    refine zaj.mk ?_
    refine Exists.intro (ncol t) ?_
    refine And.intro (Leaf.mk ?_) ?_
    · repeat' first|exact True.intro|refine And.intro ?_ ?_
      all_goals try ((change _=_<;>try dsimp only)<;>try with_reducible rfl)
      all_goals try omega
      all_goals (first|rfl|exact e|exact e.symm|exact hz.symm)
    exact⟨(show ncol t<ncol t+1 by omega),fun j h1 h2=>absurd (show j<ncol t+1 from h2) (by have h1:ncol t<j:=h1;omega)⟩
  · rename_i n0 hn0 hg0 s k hk hk2 hz i hi0 heq
    have e:(i:Int) - 1=((i - 1:Nat):Int):=by omega
    refine zaj.mk ?_
    refine Exists.intro (i - 1) ?_
    refine And.intro (Leaf.mk ?_) ?_
    · repeat' first|exact True.intro|refine And.intro ?_ ?_
      all_goals try ((change _=_<;>try dsimp only)<;>try with_reducible rfl)
      all_goals try omega
      all_goals (first|rfl|exact e|exact e.symm|exact hz.symm)
    refine⟨⟨(show i - 1<ncol t+1 by omega),fun j h1 h2=>?_⟩,(show i - 1<i by omega)⟩
    have h1:i - 1<j:=h1
    show s.1.getD j 0=(nW t:Int) - ((ncol t+1:Nat):Int)+(j:Int)
    by_cases ej:j=i
    · subst ej
      rw[heq,g6];omega
    · exact i4.2 j (by omega) h2
  · rename_i n0 hn0 hg0 s k hk hk2 hz i hi0 hne q hq hq2
    obtain rfl:k=ncol t+1:=by omega
    have hqn:q=s.1.length:=by have:=hq.2;omega
    have e:nxP (s.1.set i (s.1.getD i 0+1)) i q=pkP s.1 i (ncol t+1):=by
      rw[hqn,←hl];exact zgw (by omega)
    have nx:=zei h H hp i4 (.inr (fun q=>hne (by show vI s.1 i=_;rw[q,g6];omega)))
    refine zaj.mk ?_
    refine Exists.intro ((pkP s.1 i (ncol t+1),s.2.1,s.2.2):List Int×Int×Int) ?_
    refine And.intro (Leaf.mk ?_) ?_
    · repeat' first|exact True.intro|refine And.intro ?_ ?_
      all_goals try ((change _=_<;>try dsimp only)<;>try with_reducible rfl)
      all_goals try omega
      all_goals (first|rfl|exact e|exact e.symm|exact hz.symm)
    exact⟨znZ h H hp nx.1 nx.2.2 (zsD hz),zej h H.pk nx.1 nx.2.1⟩
  · rename_i n0 hn0 hg0 s k hk hk2 hz i hi0 q hq hq2
    obtain rfl:k=ncol t+1:=by omega
    have hqn:q=s.1.length:=by have:=hq.2;omega
    have e:nxP (s.1.set i (s.1.getD i 0+1)) i q=pkP s.1 i (ncol t+1):=by
      rw[hqn,←hl];exact zgw (by omega)
    have nx:=zei h H hp i4 (.inl (by omega))
    refine zaj.mk ?_
    refine Exists.intro ((pkP s.1 i (ncol t+1),s.2.1,s.2.2):List Int×Int×Int) ?_
    refine And.intro (Leaf.mk ?_) ?_
    · repeat' first|exact True.intro|refine And.intro ?_ ?_
      all_goals try ((change _=_<;>try dsimp only)<;>try with_reducible rfl)
      all_goals try omega
      all_goals (first|rfl|exact e|exact e.symm|exact hz.symm)
    exact⟨znZ h H hp nx.1 nx.2.2 (zsD hz),zej h H.pk nx.1 nx.2.1⟩
  · rename_i s hx hg0
    refine zwk h H ?_
    show _<s.1.getD 0 0
    have e:((ncol t+1:Nat):Int)=((t.getD 0 []).length:Int)+1:=by rw[g6];omega
    omega
theorem zkQ {t:List (List Int)} (h:smT t=true):zkE t:=by
  unfold smT at h
  simp only[Bool.and_eq_true] at h
  have h1:t.length≤6:=of_decide_eq_true h.1
  exact⟨by show t.length≤1000;omega,fun i hi=>by have:=zio h.2 i hi;show (rowN t i).length≤1000;omega⟩
theorem zcB (a b:Int):(zbh (List.replicate 2 I64)).beq (a,b,()) (a,b,())=true:=by
  show (decide (a=a)&&(decide (b=b)&&true))=true
  simp
theorem zqa {b1 b2 n:Int}:0≤cmpI b1 b2 n 1↔n*b2≤b1:=by
  unfold cmpI
  rw[Int.mul_one]
  by_cases h:b1<n*b2
  · rw[if_pos h];exact⟨fun q=>absurd q (by decide),fun q=>by omega⟩
  · rw[if_neg h]
    refine⟨fun _=>by omega,fun _=>?_⟩
    split<;>decide
theorem zvz {t:List (List Int)} {cap d:Int} {l:List Int} (h:opE t cap d l=0):opR t cap d l=((opV1 t d l,opV2 t d l,()),0,()):=if_pos h
structure BestF (t:List (List Int)) (cap:Int):Type where
  od:Int
  ol:List Int
  wd:Int
  lo:List Int
  hi:List Int
  cs:List Int
  v1:Int
  v2:Int
  e1:zhQ t cap=((od,ol,()),(wd,lo,hi,cs,()),(v1,v2,()),0,())
  b:(-300000000000000≤v1∧v1≤300000000000000)∧0<v2∧v2≤1000000000000
  f1:opR t cap od ol=((v1,v2,()),0,())
  f2:wtR t cap wd lo hi cs=((v1,v2,()),0,())
  wt:wtE t wd lo hi cs=0
  w1:wtV1 cap wd hi cs=v1
  w2:wtV2 cap wd hi cs=v2
  l1:ol.length≤9
  l2:lo.length≤9
  l3:hi.length≤9
  l4:cs.length≤9
  z1:bv1 t cap=v1
  z2:bv2 t cap=v2
  z:bV (bX t cap) (ncol t)=(v1,v2,())
theorem znY {t:List (List Int)} {cap:Int} (h0:chkT t cap=0):Nonempty (BestF t cap):=by
  have hg:=zdP h0
  have f:=zdu hg
  have hp:=zqf hg
  have q1:=(zcY (zlI f.op).1).2.1
  obtain⟨_,⟨q2,q3,q4⟩,_⟩:=zaZ (zn4 f.wt).1
  have g1:=hg.le
  have g2:=hg.cle
  have o1:=zvz (cap:=cap) f.op
  have o2:=zun (cap:=cap) f.wt
  rw[f.vo.1,f.vo.2] at o1
  rw[f.vw.1,f.vw.2] at o2
  exact⟨⟨_,_,_,_,_,_,_,_,if_pos h0,hp,o1,o2,f.wt,f.vw.1,f.vw.2,Nat.le_trans (Nat.le_of_eq q1) (by omega),Nat.le_trans (Nat.le_of_eq q2) (by omega),Nat.le_trans (Nat.le_of_eq q3) (by omega),Nat.le_trans (Nat.le_of_eq q4) (by omega),rfl,rfl,rfl⟩⟩
@[reducible] def zrX:Spec:={pats:=[.dat zeI,.dat I64,.gw 3 .err,.gw 4 .err,.gw 2 PowT,.gw 1 I64],res:=[{t:=.bool}],pre:=fun x=>x.2.2.2.2.1=powD,f:=fun _=>(true,())}
theorem zwY:Ok 9 zrX:=by
  refine mk (ctr:=[(14,zrZ),(29,zbH),(40,zou),(41,zha),(42,zrT),(45,zjk),(50,zrQ),(51,zls),(52,zmt),(53,zms),(54,zrY),(55,zoB),(56,zrS)]) ⟨h14,h29,h40,h41,h42,h45,h50,h51,h52,h53,h54,h55,h56,trivial⟩ (nt:=157) Tryz.func9 rfl rfl rfl rfl (by kernel_rfl) (by kernel_rfl) (fun _=>[]) ?_
  rintro⟨⟨(t:List (List Int)),(cap:Int),⟨⟩⟩,(n:Int),(b0:Bool),(b1:Bool),(pw:PowT.Den),(m:Int),⟨⟩⟩ (hpw:pw=powD)
  by_cases hs:smT t=true
  · have hL:Hid (zkE t):=zkQ hs
    have hB:Hid (zr9 t cap):=fun h=>zjX (zdP h)
    by_cases h0:chkT t cap=0
    · have hg:Hid (goodT t cap):=zdP h0
      obtain⟨F⟩:=znY h0
      obtain⟨od,ol,wd,lo,hi,cs,v1,v2,e1,b,f1,f2,wt,w1,w2,l1,l2,l3,l4,z1,z2,z⟩:=F
      have hO:Hid (goodT t cap∧pLen ol.length):=⟨hg,by show (ol.length:Int)≤4611686018427387904;omega⟩
      have hW3:Hid (pW3 lo.length hi.length cs.length):=⟨by show (lo.length:Int)≤4611686018427387904;omega,by show (hi.length:Int)≤4611686018427387904;omega,by show (cs.length:Int)≤4611686018427387904;omega⟩
      have hW:Hid (goodT t cap∧pW3 lo.length hi.length cs.length):=⟨hg,hW3⟩
      have hW2:Hid (pWgt lo.length hi.length cs.length):=⟨by show lo.length≤1000;omega,by show hi.length≤1000;omega,by show cs.length≤1000;omega⟩
      have ps:=zcB v1 v2
      by_cases hn:0≤n∧n≤1000
      · have hl0:lvE n=0:=if_pos hn
        have hpc:Hid (pCmp v1 v2 n 1):=⟨by omega,by omega,by omega,by omega,by omega⟩
        clear b l1 l2 l3 l4
        by_cases hq:n*v2≤v1
        · have e3:crR t cap n wd lo hi cs=20:=by unfold crR;rw[if_pos h0,if_pos hl0,if_pos wt,w1,w2,if_neg (by omega)]
          have e4:reR t cap n=(true,0,()):=by unfold reR;rw[if_pos h0,if_pos hl0,z];show (decide (n*v2≤v1),_)=_;rw[decide_eq_true hq]
          have c1:0≤cmpI v1 v2 n 1:=zqa.2 hq
          clear wt w1 w2 z hl0
          repeat' (intro hzz;(try (rename Two=>hq;cases hq));(try dsimp only at hzz);(try simp only[zad,zac,eqD,inR,big,zab,zB] at hzz);(try simp only[zad,zac,eqD,inR,big,zab,zB,hs,h0,e1,e3,e4,f1,f2,z1,z2,ps,zaq,hn,c1,hpw,Bool.false_eq_true,not_true_eq_false,not_false_eq_true] at hzz);(try (revert hzz;intro _)))
          all_goals try (rename Unit=>hq;clear hq)
          all_goals try ((with_reducible refine Held.mk ?_);(with_reducible (first|refine Frz.mk ?_|refine And.intro (Frz.mk ?_) ?_|refine And.intro ?_ (Frz.mk ?_)));repeat' first|exact True.intro|(change _=_;with_reducible rfl)|refine And.intro ?_ ?_|(with_reducible refine Frz.mk ?_))
          all_goals try (refine Held.mk ?_;(try dsimp only at *);(try simp only[zad,zac,eqD,inR,big,zab,zB] at *);(try simp only[zad,zac,eqD,inR,big,zab,zB,hs,h0,e1,e3,e4,f1,f2,z1,z2,ps,zaq,hn,c1,hpw,Bool.false_eq_true,not_true_eq_false,not_false_eq_true] at *))
          all_goals try omega
          all_goals first|exact hL|exact hB|exact hO|exact hW|exact hW2|exact hW3|exact hg|exact hpc|rfl|decide|(rename (zbh _).beq _ _=false=>hx;exact absurd ((zcB _ _).symm.trans hx) (by decide))|(rename (_ == decide _)=false=>hx;simp at hx)|trace_state
        · have e3:crR t cap n wd lo hi cs=0:=by unfold crR;rw[if_pos h0,if_pos hl0,if_pos wt,w1,w2,if_pos (by omega)]
          have e4:reR t cap n=(false,0,()):=by unfold reR;rw[if_pos h0,if_pos hl0,z];show (decide (n*v2≤v1),_)=_;rw[decide_eq_false hq]
          have c1:¬0≤cmpI v1 v2 n 1:=fun q=>hq (zqa.1 q)
          clear wt w1 w2 z hl0
          repeat' (intro hzz;(try (rename Two=>hq;cases hq));(try dsimp only at hzz);(try simp only[zad,zac,eqD,inR,big,zab,zB] at hzz);(try simp only[zad,zac,eqD,inR,big,zab,zB,hs,h0,e1,e3,e4,f1,f2,z1,z2,ps,zaq,hn,c1,hpw,Bool.false_eq_true,not_true_eq_false,not_false_eq_true] at hzz);(try (revert hzz;intro _)))
          all_goals try (rename Unit=>hq;clear hq)
          all_goals try ((with_reducible refine Held.mk ?_);(with_reducible (first|refine Frz.mk ?_|refine And.intro (Frz.mk ?_) ?_|refine And.intro ?_ (Frz.mk ?_)));repeat' first|exact True.intro|(change _=_;with_reducible rfl)|refine And.intro ?_ ?_|(with_reducible refine Frz.mk ?_))
          all_goals try (refine Held.mk ?_;(try dsimp only at *);(try simp only[zad,zac,eqD,inR,big,zab,zB] at *);(try simp only[zad,zac,eqD,inR,big,zab,zB,hs,h0,e1,e3,e4,f1,f2,z1,z2,ps,zaq,hn,c1,hpw,Bool.false_eq_true,not_true_eq_false,not_false_eq_true] at *))
          all_goals try omega
          all_goals first|exact hL|exact hB|exact hO|exact hW|exact hW2|exact hW3|exact hg|exact hpc|rfl|decide|(rename (zbh _).beq _ _=false=>hx;exact absurd ((zcB _ _).symm.trans hx) (by decide))|(rename (_ == decide _)=false=>hx;simp at hx)|trace_state
      · have hl2:lvE n=2:=if_neg hn
        have e4:reR t cap n=(false,2,()):=by unfold reR;rw[if_pos h0,hl2,if_neg (by decide)]
        clear b l1 l2 l3 l4 wt w1 w2 z hl2
        repeat' (intro hzz;(try (rename Two=>hq;cases hq));(try dsimp only at hzz);(try simp only[zad,zac,eqD,inR,big,zab,zB] at hzz);(try simp only[zad,zac,eqD,inR,big,zab,zB,hs,h0,e1,e4,f1,f2,z1,z2,ps,zaq,hn,hpw,Bool.false_eq_true,not_true_eq_false,not_false_eq_true] at hzz);(try (revert hzz;intro _)))
        all_goals try (rename Unit=>hq;clear hq)
        all_goals try ((with_reducible refine Held.mk ?_);(with_reducible (first|refine Frz.mk ?_|refine And.intro (Frz.mk ?_) ?_|refine And.intro ?_ (Frz.mk ?_)));repeat' first|exact True.intro|(change _=_;with_reducible rfl)|refine And.intro ?_ ?_|(with_reducible refine Frz.mk ?_))
        all_goals try (refine Held.mk ?_;(try dsimp only at *);(try simp only[zad,zac,eqD,inR,big,zab,zB] at *);(try simp only[zad,zac,eqD,inR,big,zab,zB,hs,h0,e1,e4,f1,f2,z1,z2,ps,zaq,hn,hpw,Bool.false_eq_true,not_true_eq_false,not_false_eq_true] at *))
        all_goals try omega
        all_goals first|exact hL|exact hB|exact hO|exact hW|exact hW2|exact hW3|exact hg|rfl|decide|(rename (zbh _).beq _ _=false=>hx;exact absurd ((zcB _ _).symm.trans hx) (by decide))|(rename (_ == decide _)=false=>hx;simp at hx)|trace_state
    · have e1:zhQ t cap=((0,[],()),(0,[],[],[],()),(0,0,()),chkT t cap,()):=if_neg h0
      have e4:reR t cap n=(false,chkT t cap,()):=if_neg h0
      have ps:=zcB 0 0
      repeat' (intro hzz;(try (rename Two=>hq;cases hq));(try dsimp only at hzz);(try simp only[zad,zac,eqD,inR,big,zab,zB] at hzz);(try simp only[zad,zac,eqD,inR,big,zab,zB,hs,h0,e1,e4,ps,hpw,List.length_nil,Bool.false_eq_true,not_true_eq_false,not_false_eq_true] at hzz);(try (revert hzz;intro _)))
      all_goals try (rename Unit=>hq;clear hq)
      all_goals try ((with_reducible refine Held.mk ?_);(with_reducible (first|refine Frz.mk ?_|refine And.intro (Frz.mk ?_) ?_|refine And.intro ?_ (Frz.mk ?_)));repeat' first|exact True.intro|(change _=_;with_reducible rfl)|refine And.intro ?_ ?_|(with_reducible refine Frz.mk ?_))
      all_goals try (refine Held.mk ?_;(try dsimp only at *);(try simp only[zad,zac,eqD,inR,big,zab,zB] at *);(try simp only[zad,zac,eqD,inR,big,zab,zB,hs,h0,e1,e4,ps,hpw,List.length_nil,Bool.false_eq_true,not_true_eq_false,not_false_eq_true] at *))
      all_goals try omega
      all_goals first|exact hL|exact hB|rfl|decide|(rename (zbh _).beq _ _=false=>hx;exact absurd ((zcB _ _).symm.trans hx) (by decide))|(rename (_ == decide _)=false=>hx;simp at hx)|trace_state
  · have hs':smT t=false:=by simpa using hs
    clear hs
    repeat' (intro hzz;(try (rename Two=>hq;cases hq));(try dsimp only at hzz);(try simp only[zad,zac,eqD,inR,big,zab,zB] at hzz);(try simp only[zad,zac,eqD,inR,big,zab,zB,hs',hpw,Bool.false_eq_true,not_true_eq_false,not_false_eq_true] at hzz);(try (revert hzz;intro _)))
    all_goals try (rename Unit=>hq;clear hq)
    all_goals try ((with_reducible refine Held.mk ?_);(with_reducible (first|refine Frz.mk ?_|refine And.intro (Frz.mk ?_) ?_|refine And.intro ?_ (Frz.mk ?_)));repeat' first|exact True.intro|(change _=_;with_reducible rfl)|refine And.intro ?_ ?_|(with_reducible refine Frz.mk ?_))
    all_goals try (refine Held.mk ?_;(try dsimp only at *);(try simp only[zad,zac,eqD,inR,big,zab,zB] at *);(try simp only[zad,zac,eqD,inR,big,zab,zB,hs',hpw,Bool.false_eq_true,not_true_eq_false,not_false_eq_true] at *))
    all_goals try omega
    all_goals first|exact zkQ (by assumption)|trace_state
end Go.Eng.Ar
