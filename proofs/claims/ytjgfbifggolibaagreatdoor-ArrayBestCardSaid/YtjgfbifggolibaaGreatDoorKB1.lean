/- Texts LP1 LP2 LP3 D2 D3 D4 D5 D6 LP4 LP5 D7 D8 LP6, as far as they are used. Conditions: each lemma's own. -/
import Derived.Test.YtjgfbifggolibaaGreatDoorKN6
import Derived.WalkKit
namespace Go.Eng.LP
set_option linter.all false
set_option maxRecDepth 100000
def S (f:Nat→Rat):Nat→Rat
  | 0=>0
  | k+1=>S f k+f k
theorem zas {f g:Nat→Rat}:∀n,(∀i,i<n→f i=g i)→S f n=S g n
  | 0,_=>rfl
  | n+1,h=>by simp only[S];rw[zas n (fun i hi=>h i (by omega)),h n (by omega)]
theorem zmd (f g:Nat→Rat):∀n,S (fun i=>f i+g i) n=S f n+S g n
  | 0=>by simp only[S];grind
  | n+1=>by simp only[S,zmd f g n];grind
theorem zic (c:Rat) (f:Nat→Rat):∀n,S (fun i=>c*f i) n=c*S f n
  | 0=>by simp only[S];grind
  | n+1=>by simp only[S,zic c f n];grind
theorem zdv (c:Rat) (f:Nat→Rat) (n:Nat):S (fun i=>f i*c) n=S f n*c:=by
  rw[zas n (g:=fun i=>c*f i) (fun i _=>by grind),zic];grind
theorem zqq:∀n,S (fun _=>0) n=0
  | 0=>rfl
  | n+1=>by simp only[S,zqq n];grind
theorem S_z {f:Nat→Rat} {n:Nat} (h:∀i,i<n→f i=0):S f n=0:=(zas n h).trans (zqq n)
theorem zhX (f:Nat→Nat→Rat) (m:Nat):∀n,S (fun i=>S (fun j=>f i j) m) n=S (fun j=>S (fun i=>f i j) n) m
  | 0=>by simp only[S];exact (zqq m).symm
  | n+1=>by simp only[S];rw[zhX f m n,zmd]
theorem zeJ {f:Nat→Rat} {p:Nat}:∀ {n},p<n→(∀i,i<n→i≠p→f i=0)→S f n=f p
  | n + 1,hp,h=>by
    simp only[S]
    by_cases e:p=n
    · subst e
      rw[S_z (fun i hi=>h i (by omega) (by omega))];grind
    · rw[zeJ (n:=n) (by omega) (fun i hi hq=>h i (by omega) hq),h n (by omega) (by omega)];grind
theorem S_le {f g:Nat→Rat}:∀n,(∀i,i<n→f i≤g i)→S f n≤S g n
  | 0,_=>by simp only[S];grind
  | n+1,h=>by
    have h1:=S_le n (fun i hi=>h i (by omega))
    have h2:=h n (by omega)
    simp only[S];grind
def dl (i j:Nat):Rat:=if i=j then 1 else 0
theorem zdg (i:Nat):dl i i=1:=if_pos rfl
theorem zcr {i j:Nat} (h:i≠j):dl i j=0:=if_neg h
structure Inv (n:Nat) (A G:Nat→Nat→Rat):Prop where
  ga:∀i j,i<n→j<n→S (fun k=>G i k*A k j) n=dl i j
  ag:∀k l,k<n→l<n→S (fun j=>A k j*G j l) n=dl k l
abbrev lam (n:Nat) (G:Nat→Nat→Rat) (v:Nat→Rat) (k:Nat):Rat:=S (fun i=>v i*G i k) n
theorem co {n:Nat} {A G:Nat→Nat→Rat} (h:Inv n A G) (v:Nat→Rat) {j:Nat} (hj:j<n):S (fun k=>lam n G v k*A k j) n=v j:=by
  have e1:S (fun k=>lam n G v k*A k j) n=S (fun k=>S (fun i=>v i*G i k*A k j) n) n:=
    zas n fun k _=>(zdv (A k j) (fun i=>v i*G i k) n).symm
  rw[e1,zhX]
  have e2:S (fun i=>S (fun k=>v i*G i k*A k j) n) n=S (fun i=>v i*dl i j) n:=zas n fun i hi=>by
    rw[←h.ga i j hi hj,←zic]
    exact zas n fun k _=>by grind
  rw[e2,zeJ hj (fun i hi hne=>by rw[zcr hne];grind),zdg];grind
theorem zrb {n:Nat} {A G G':Nat→Nat→Rat} (h:Inv n A G) (h':Inv n A G') {i k:Nat} (hi:i<n) (hk:k<n):G i k=G' i k:=by
  have e1:S (fun l=>G i l*S (fun j=>A l j*G' j k) n) n=G i k:=by
    rw[zeJ (p:=k) hk (fun l hl hne=>by rw[h'.ag l k hl hk,zcr hne];grind),h'.ag k k hk hk,zdg];grind
  have e2:S (fun l=>G i l*S (fun j=>A l j*G' j k) n) n=S (fun j=>S (fun l=>G i l*A l j) n*G' j k) n:=by
    rw[zas n (g:=fun l=>S (fun j=>G i l*(A l j*G' j k)) n) (fun l _=>(zic _ _ n).symm),zhX]
    exact zas n fun j _=>by
      rw[←zdv];exact zas n fun l _=>by grind
  rw[←e1,e2,zeJ (p:=i) hi (fun j hj hne=>by rw[h.ga i j hi hj,zcr (Ne.symm hne)];grind),h.ga i i hi hi,zdg];grind
def pivA (A:Nat→Nat→Rat) (p:Nat) (v:Nat→Rat) (k:Nat):Nat→Rat:=if k=p then v else A k
def pivG (n:Nat) (G:Nat→Nat→Rat) (p:Nat) (v:Nat→Rat) (j k:Nat):Rat:=
  if k=p then G j p*(lam n G v p)⁻¹ else G j k - lam n G v k*(G j p*(lam n G v p)⁻¹)
theorem zuc (f g:Nat→Rat) (n:Nat):S (fun i=>f i - g i) n=S f n - S g n:=by
  have h1:=zmd f (fun i=>(-1)*g i) n
  rw[zic] at h1
  rw[zas n (g:=fun i=>f i+(-1)*g i) (fun i _=>by grind),h1];grind
theorem zoY {n:Nat} {G:Nat→Nat→Rat} {p:Nat} {v:Nat→Rat} (u:Nat→Rat) (k:Nat) :
    S (fun j=>u j*pivG n G p v j k) n=if k=p then lam n G u p*(lam n G v p)⁻¹ else lam n G u k - lam n G v k*(lam n G u p*(lam n G v p)⁻¹):=by
  by_cases hk:k=p
  · rw[if_pos hk,zas n (g:=fun j=>(u j*G j p)*(lam n G v p)⁻¹) (fun j _=>by simp only[pivG];rw[if_pos hk];grind),zdv]
  · rw[if_neg hk,zas n (g:=fun j=>u j*G j k - (u j*G j p)*(lam n G v k*(lam n G v p)⁻¹)) (fun j _=>by simp only[pivG];rw[if_neg hk];grind),zuc,zdv]
    simp only[lam];grind
theorem piv {n:Nat} {A G:Nat→Nat→Rat} (h:Inv n A G) {p:Nat} (hp:p<n) {v:Nat→Rat} (hl:lam n G v p≠0):Inv n (pivA A p v) (pivG n G p v):=by
  have hli:lam n G v p*(lam n G v p)⁻¹=1:=Rat.mul_inv_cancel _ hl
  refine⟨fun i j hi hj=>?_,fun k l hk hln=>?_⟩
  · have e:∀k,k<n→pivG n G p v i k*pivA A p v k j=(G i k*A k j - (lam n G v k*A k j)*(G i p*(lam n G v p)⁻¹))+(if k=p then (G i p*(lam n G v p)⁻¹)*v j else 0):=fun k hk=>by
      simp only[pivG,pivA]
      by_cases e:k=p
      · subst e
        rw[if_pos rfl,if_pos rfl,if_pos rfl]
        have:lam n G v k*A k j*(G i k*(lam n G v k)⁻¹)=(lam n G v k*(lam n G v k)⁻¹)*(A k j*G i k):=by grind
        rw[this,hli];grind
      · rw[if_neg e,if_neg e,if_neg e];grind
    rw[zas n e,zmd,zuc,zdv,h.ga i j hi hj,co h v hj,zeJ (p:=p) hp (fun k _ hne=>if_neg hne),if_pos rfl];grind
  · have hd:S (fun j=>pivA A p v k j*pivG n G p v j l) n=_:=zoY (pivA A p v k) l
    rw[hd]
    have hkp:lam n G (pivA A p v k) p=if k=p then lam n G v p else 0:=by
      by_cases e:k=p
      · rw[if_pos e];simp only[lam,pivA];rw[if_pos e]
      · rw[if_neg e];simp only[lam,pivA];rw[if_neg e]
        exact (h.ag k p hk hp).trans (zcr e)
    have hkl:l≠p→lam n G (pivA A p v k) l=if k=p then lam n G v l else dl k l:=fun hlp=>by
      by_cases e:k=p
      · rw[if_pos e];simp only[lam,pivA];rw[if_pos e]
      · rw[if_neg e];simp only[lam,pivA];rw[if_neg e]
        exact h.ag k l hk hln
    by_cases el:l=p
    · rw[if_pos el,hkp]
      by_cases e:k=p
      · rw[if_pos e,hli,e,el,zdg]
      · rw[if_neg e,el,zcr e];grind
    · rw[if_neg el,hkp,hkl el]
      by_cases e:k=p
      · rw[if_pos e,if_pos e,hli,e,zcr (Ne.symm el)];grind
      · rw[if_neg e,if_neg e];grind
/-! ### The order of lists -/
def lpos (m:Nat) (v:Nat→Rat):Prop:=∃t,t<m∧(∀s,s<t→v s=0)∧0<v t
def lnn (m:Nat) (v:Nat→Rat):Prop:=(∀t,t<m→v t=0)∨lpos m v
theorem zey {m:Nat} {u v:Nat→Rat} (h:∀t,t<m→u t=v t) (hu:lpos m u):lpos m v:=by
  obtain⟨t,h1,h2,h3⟩:=hu
  exact⟨t,h1,fun s hs=>by rw[←h s (by omega)];exact h2 s hs,by rw[←h t h1];exact h3⟩
theorem zfw {m:Nat} {u v:Nat→Rat} (h:∀t,t<m→u t=v t) (hu:lnn m u):lnn m v:=by
  rcases hu with hu|hu
  · exact .inl fun t ht=>by rw[←h t ht];exact hu t ht
  · exact .inr (zey h hu)
theorem zmI {m:Nat} {u v:Nat→Rat} (hu:lpos m u) (hv:lnn m v):lpos m (fun t=>u t+v t):=by
  obtain⟨t,h1,h2,h3⟩:=hu
  rcases hv with hv|⟨s,g1,g2,g3⟩
  · exact⟨t,h1,fun s hs=>by show u s+v s=0;rw[h2 s hs,hv s (by omega)];grind,by show 0<u t+v t;rw[hv t h1];grind⟩
  · rcases Nat.lt_trichotomy s t with h|h|h
    · exact⟨s,g1,fun r hr=>by show u r+v r=0;rw[h2 r (by omega),g2 r hr];grind,by show 0<u s+v s;rw[h2 s h];grind⟩
    · subst h
      exact⟨s,g1,fun r hr=>by show u r+v r=0;rw[h2 r hr,g2 r hr];grind,by show 0<u s+v s;grind⟩
    · exact⟨t,h1,fun r hr=>by show u r+v r=0;rw[h2 r hr,g2 r (by omega)];grind,by show 0<u t+v t;rw[g2 t h];grind⟩
theorem ztt {m:Nat} {u v:Nat→Rat} (hu:lnn m u) (hv:lnn m v):lnn m (fun t=>u t+v t):=by
  rcases hu with hu|hu
  · exact zfw (fun t ht=>by show v t=u t+v t;rw[hu t ht];grind) hv
  · exact .inr (zmI hu hv)
theorem zjy {m:Nat} {c:Rat} {v:Nat→Rat} (hc:0<c) (hv:lpos m v):lpos m (fun t=>c*v t):=by
  obtain⟨t,h1,h2,h3⟩:=hv
  exact⟨t,h1,fun s hs=>by show c*v s=0;rw[h2 s hs];grind,Rat.mul_pos hc h3⟩
theorem zlN {m:Nat} {c:Rat} {v:Nat→Rat} (hc:0≤c) (hv:lnn m v):lnn m (fun t=>c*v t):=by
  rcases Rat.le_iff_lt_or_eq.1 hc with h|h
  · rcases hv with hv|hv
    · exact .inl fun t ht=>by show c*v t=0;rw[hv t ht];grind
    · exact .inr (zjy h hv)
  · exact .inl fun t ht=>by show c*v t=0;rw[←h];grind
theorem zpz:∀(m:Nat) (v:Nat→Rat),lnn m v∨lpos m (fun t=>- v t)
  | 0,v=>.inl (.inl fun t ht=>absurd ht (Nat.not_lt_zero t))
  | m + 1, v=>by
    rcases zpz m v with (h|⟨t,h1,h2,h3⟩)|⟨t,h1,h2,h3⟩
    · have e:v m<0∨v m=0∨0<v m:=by grind
      rcases e with e|e|e
      · exact .inr ⟨m,Nat.lt_succ_self m,fun s hs=>by show - v s=0;rw[h s hs];grind,by show 0 < - v m;grind⟩
      · exact .inl (.inl fun t ht=>by
          by_cases q:t=m
          · rw[q];exact e
          · exact h t (by omega))
      · exact .inl (.inr ⟨m,Nat.lt_succ_self m,h,e⟩)
    · exact .inl (.inr ⟨t,by omega,h2,h3⟩)
    · exact .inr ⟨t,by omega,h2,h3⟩
theorem ztp {m:Nat} {v:Nat→Rat} (h:lpos m v):∃t,t<m∧v t≠0:=by
  obtain⟨t,h1,_,h3⟩:=h
  exact⟨t,h1,by grind⟩
def llt (m:Nat) (u v:Nat→Rat):Prop:=lpos m (fun t=>v t - u t)
theorem zps {m:Nat} {u:Nat→Rat}:¬llt m u u:=fun h=>by
  obtain⟨t,_,h2⟩:=ztp h
  exact h2 (by grind)
theorem zpr {m:Nat} {u v w:Nat→Rat} (h1:llt m u v) (h2:llt m v w):llt m u w:=
  zey (fun t _=>by show (v t - u t)+(w t - v t)=w t - u t;grind) (zmI h1 (.inr h2))
theorem ztv {α:Type} {m:Nat} (val:α→Nat→Rat):∀(l:List α),l≠[]→∃x∈l,∀y∈l,¬llt m (val y) (val x)
  | [],h=>absurd rfl h
  | [x],_=>⟨x,List.mem_cons_self,fun y hy=>by
      rcases List.mem_cons.1 hy with rfl|hy
      · exact zps
      · cases hy⟩
  | x :: z::r,_=>by
    obtain⟨y,hy,hm⟩:=ztv (m:=m) val (z::r) (by simp)
    by_cases h:llt m (val x) (val y)
    · refine⟨x,List.mem_cons_self,fun w hw=>?_⟩
      rcases List.mem_cons.1 hw with rfl|hw
      · exact zps
      · exact fun h2=>hm w hw (zpr h2 h)
    · refine⟨y,List.mem_cons_of_mem _ hy,fun w hw=>?_⟩
      rcases List.mem_cons.1 hw with rfl|hw
      · exact h
      · exact hm w hw
/-! ### Bases -/
def allB:Nat→Nat→List (List Nat)
  | 0,_=>[[]]
  | n+1,M=>(List.range M).flatMap fun r=>(allB n M).map (r :: ·)
theorem zfQ:∀ {n M:Nat} {l:List Nat},l∈allB n M↔l.length=n∧∀x∈l,x<M
  | 0,M,l=>by
    simp only[allB,List.mem_singleton]
    constructor
    · rintro rfl;exact⟨rfl,fun x hx=>by cases hx⟩
    · exact fun h=>List.length_eq_zero_iff.1 h.1
  | n + 1,M,l=>by
    simp only[allB,List.mem_flatMap,List.mem_range,List.mem_map]
    constructor
    · rintro⟨r,hr,t,ht,rfl⟩
      obtain⟨h1,h2⟩:=zfQ.1 ht
      refine⟨by simp[h1],fun x hx=>?_⟩
      rcases List.mem_cons.1 hx with rfl|hx
      · exact hr
      · exact h2 x hx
    · rintro⟨h1,h2⟩
      match l,h1 with
      | r::t,h1=>exact⟨r,h2 r List.mem_cons_self,t,zfQ.2 ⟨by simpa using h1,fun x hx=>h2 x (List.mem_cons_of_mem _ hx)⟩,rfl⟩
abbrev bN (B:List Nat) (k:Nat):Nat:=B.getD k 0
abbrev rw' (a:Nat→Nat→Rat) (B:List Nat) (k:Nat):Nat→Rat:=a (bN B k)
theorem zhR {B:List Nat} {p r k:Nat} (hp:p<B.length):bN (B.set p r) k=if k=p then r else bN B k:=by
  simp only[bN,List.getD_eq_getElem?_getD,List.getElem?_set]
  by_cases e:p=k
  · subst e;simp[hp]
  · rw[if_neg e,if_neg (fun h=>e h.symm)]
abbrev ptX (n:Nat) (b:Nat→Rat) (B:List Nat) (G:Nat→Nat→Rat) (j:Nat):Rat:=S (fun k=>G j k*b (bN B k)) n
theorem zr8 {n:Nat} {b:Nat→Rat} {B:List Nat} {G:Nat→Nat→Rat} (u:Nat→Rat):S (fun j=>u j*ptX n b B G j) n=S (fun k=>lam n G u k*b (bN B k)) n:=by
  rw[zas n (g:=fun j=>S (fun k=>u j*(G j k*b (bN B k))) n) (fun j _=>(zic _ _ n).symm),zhX]
  exact zas n fun k _=>by
    rw[←zdv];exact zas n fun j _=>by grind
theorem lp {n M:Nat} {a:Nat→Nat→Rat} {b c x0:Nat→Rat} {B0:List Nat} {G0:Nat→Nat→Rat} {Q:List Nat→Prop} (hl0:B0.length=n) (hm0:∀x∈B0,x<M)
    (h0:Inv n (rw' a B0) G0) (hy0:∀k,k<n→0≤lam n G0 c k) (hQ0:Q B0) (hf:∀i,i<M→S (fun j=>a i j*x0 j) n≤b i)
    (hQ:∀B G p r,B.length=n→Inv n (rw' a B) G→p<n→r<M→lam n G (a r) p≠0→Q B→Q (B.set p r)) :
    ∃B G,B.length=n∧(∀x∈B,x<M)∧Inv n (rw' a B) G∧Q B∧(∀k,k<n→0≤lam n G c k)∧∀i,i<M→S (fun j=>a i j*ptX n b B G j) n≤b i:=by
  -- the lists that are compared: the weights of c, then those of the rows of the first basis
  obtain⟨ct,hct⟩:∃ct:Nat→Nat→Rat,ct=fun t=>match t with|0=>c|t+1=>rw' a B0 t:=⟨_,rfl⟩
  have ct0:ct 0=c:=by rw[hct]
  have ctS:∀t,ct (t+1)=rw' a B0 t:=fun t=>by rw[hct]
  obtain⟨good,hgood⟩:∃good:List Nat→(Nat→Nat→Rat)→Prop,good=fun B G=>Inv n (rw' a B) G∧Q B∧∀k,k<n→lnn (n+1) (fun t=>lam n G (ct t) k):=⟨_,rfl⟩
  have g0:good B0 G0:=by
    rw[hgood]
    refine⟨h0,hQ0,fun k hk=>?_⟩
    have e:∀t,t<n→lam n G0 (ct (t+1)) k=dl t k:=fun t ht=>by rw[ctS];exact h0.ag t k ht hk
    have h1:=hy0 k hk
    rw[←ct0] at h1
    rcases Rat.le_iff_lt_or_eq.1 h1 with h|h
    · exact .inr ⟨0,by omega,fun s hs=>absurd hs (Nat.not_lt_zero s),h⟩
    · refine .inr ⟨k+1,by omega,fun s hs=>?_,?_⟩
      · match s,hs with
        | 0,_=>exact h.symm
        | s+1,hs=>show lam n G0 (ct (s+1)) k=0;rw[e s (by omega)];exact zcr (by omega)
      · show 0<lam n G0 (ct (k+1)) k
        rw[e k hk,zdg];decide
  open Classical in
  obtain ⟨gof,hgof⟩:∃gof:List Nat→Nat→Nat→Rat,∀B,(∃G,good B G)→good B (gof B):=
    ⟨fun B=>if h:∃G,good B G then Classical.choose h else fun _ _=>0,fun B h=>by
      simp only[dif_pos h];exact Classical.choose_spec h⟩
  obtain⟨val,hval⟩:∃val:List Nat→Nat→Rat,val=fun B t=>S (fun k=>lam n (gof B) (ct t) k*b (bN B k)) n:=⟨_,rfl⟩
  open Classical in
  obtain ⟨B,hB,hmin⟩:=ztv (m:=n+1) val ((allB n M).filter fun B=>decide (∃G,good B G)) (fun h=>by
    have:B0∈(allB n M).filter fun B=>decide (∃G,good B G):=List.mem_filter.2 ⟨zfQ.2 ⟨hl0,hm0⟩,decide_eq_true ⟨G0,g0⟩⟩
    rw[h] at this;cases this)
  open Classical in
  have hB':=List.mem_filter.1 hB
  obtain⟨hBl,hBm⟩:=zfQ.1 hB'.1
  have hg:=hgof B (of_decide_eq_true hB'.2)
  obtain⟨G,hG⟩:∃G,G=gof B:=⟨_,rfl⟩
  rw[←hG] at hg
  have hg':=hg
  rw[hgood] at hg'
  obtain⟨hI,hQB,hY⟩:=hg'
  refine⟨B,G,hBl,hBm,hI,hQB,fun k hk=>?_,fun r hr=>?_⟩
  · have := hY k hk
    rw[←ct0]
    rcases this with h|⟨t,h1,h2,h3⟩
    · have e:lam n G (ct 0) k=0:=h 0 (by omega)
      rw[e];grind
    · match t,h1,h2,h3 with
      | 0,_,_,h3=>exact Rat.le_of_lt h3
      | t+1,_,h2,_=>
        have:=h2 0 (by omega)
        have e:lam n G (ct 0) k=0:=this
        rw[e];grind
  · rw [zr8]
    apply Classical.byContradiction
    intro hv
    have hv:b r<S (fun k=>lam n G (a r) k*b (bN B k)) n:=Rat.not_le.1 hv
    -- some weight of the row is above 0
    by_cases hK:∃k,k<n∧0<lam n G (a r) k
    · -- the one that leaves
      obtain⟨k0,hk0,hk1⟩:=hK
      obtain ⟨p,hp,hpm⟩:=ztv (m:=n+1) (fun k t=>(lam n G (a r) k)⁻¹*lam n G (ct t) k) ((List.range n).filter fun k=>decide (0<lam n G (a r) k)) (fun h=>by
        have:k0∈(List.range n).filter fun k=>decide (0<lam n G (a r) k):=List.mem_filter.2 ⟨List.mem_range.2 hk0,decide_eq_true hk1⟩
        rw[h] at this;cases this)
      have hp':=List.mem_filter.1 hp
      have hpn:p<n:=List.mem_range.1 hp'.1
      have hlp:0<lam n G (a r) p:=of_decide_eq_true hp'.2
      have hlp0:lam n G (a r) p≠0:=by grind
      have hli:0<(lam n G (a r) p)⁻¹:=Rat.inv_pos.2 hlp
      obtain⟨G',hG'⟩:∃G',G'=pivG n G p (a r):=⟨_,rfl⟩
      have hset:∀k,rw' a (B.set p r) k=pivA (rw' a B) p (a r) k:=fun k=>by
        simp only[rw',pivA]
        rw[zhR (by omega)]
        by_cases e:k=p
        · rw[if_pos e,if_pos e]
        · rw[if_neg e,if_neg e]
      have hset':rw' a (B.set p r)=pivA (rw' a B) p (a r):=funext hset
      have hI':Inv n (rw' a (B.set p r)) G':=by rw[hset',hG'];exact piv hI hpn hlp0
      have hY':∀t k,lam n G' (ct t) k=if k=p then lam n G (ct t) p*(lam n G (a r) p)⁻¹ else lam n G (ct t) k - lam n G (a r) k*(lam n G (ct t) p*(lam n G (a r) p)⁻¹):=fun t k=>by
        rw[hG'];exact zoY (ct t) k
      have hYp:=zlN (Rat.le_of_lt hli) (hY p hpn)
      have hgd : good (B.set p r) G':=by
        rw[hgood]
        refine⟨hI',hQ B G p r hBl hI hpn hr hlp0 hQB,fun k hk=>?_⟩
        by_cases e:k=p
        · refine zfw (fun t _=>?_) hYp
          show (lam n G (a r) p)⁻¹*lam n G (ct t) p=_
          rw[hY' t k,if_pos e];grind
        · by_cases hlk:0<lam n G (a r) k
          · have h1:¬llt (n+1) (fun t=>(lam n G (a r) k)⁻¹*lam n G (ct t) k) (fun t=>(lam n G (a r) p)⁻¹*lam n G (ct t) p):=hpm k (List.mem_filter.2 ⟨List.mem_range.2 hk,decide_eq_true hlk⟩)
            rcases zpz (n+1) (fun t=>(lam n G (a r) k)⁻¹*lam n G (ct t) k - (lam n G (a r) p)⁻¹*lam n G (ct t) p) with h2|h2
            · refine zfw (fun t _=>?_) (zlN (Rat.le_of_lt hlk) h2)
              show lam n G (a r) k*((lam n G (a r) k)⁻¹*lam n G (ct t) k - (lam n G (a r) p)⁻¹*lam n G (ct t) p)=_
              rw[hY' t k,if_neg e]
              have e2:lam n G (a r) k*(lam n G (a r) k)⁻¹=1:=Rat.mul_inv_cancel _ (by grind)
              have e3:lam n G (a r) k*((lam n G (a r) k)⁻¹*lam n G (ct t) k - (lam n G (a r) p)⁻¹*lam n G (ct t) p)=(lam n G (a r) k*(lam n G (a r) k)⁻¹)*lam n G (ct t) k - lam n G (a r) k*((lam n G (a r) p)⁻¹*lam n G (ct t) p):=by grind
              rw[e3,e2];grind
            · exact absurd (zey (fun t _=>by show -((lam n G (a r) k)⁻¹*lam n G (ct t) k - (lam n G (a r) p)⁻¹*lam n G (ct t) p)=_;grind) h2) h1
          · have hlk:0≤- lam n G (a r) k:=by have:=Rat.not_lt.1 hlk;grind
            refine zfw (fun t _=>?_) (ztt (hY k hk) (zlN hlk hYp))
            show lam n G (ct t) k+(-lam n G (a r) k)*((lam n G (a r) p)⁻¹*lam n G (ct t) p)=_
            rw[hY' t k,if_neg e];grind
      have hmem:B.set p r∈(allB n M).filter fun B=>decide (∃G,good B G):=List.mem_filter.2 ⟨zfQ.2 ⟨by rw[List.length_set];exact hBl,fun x hx=>by
        rcases List.mem_or_eq_of_mem_set hx with h|h
        · exact hBm x h
        · rw[h];exact hr⟩,decide_eq_true ⟨G',hgd⟩⟩
      refine hmin _ hmem ?_
      -- its value is less
      have hgf:=hgof (B.set p r) ⟨G',hgd⟩
      rw[hgood] at hgf
      have hu:∀i k,i<n→k<n→gof (B.set p r) i k=G' i k:=fun i k hi hk=>zrb hgf.1 hI' hi hk
      have e1:∀t,val (B.set p r) t=S (fun k=>lam n G' (ct t) k*b (bN (B.set p r) k)) n:=fun t=>by
        rw[hval]
        refine zas n fun k hk=>?_
        have:lam n (gof (B.set p r)) (ct t) k=lam n G' (ct t) k:=zas n fun i hi=>by rw[hu i k hi hk]
        rw[this]
      have e2:∀t,val B t=S (fun k=>lam n G (ct t) k*b (bN B k)) n:=fun t=>by rw[hval,hG]
      have e3:∀t,val B t - val (B.set p r) t=(S (fun k=>lam n G (a r) k*b (bN B k)) n - b r)*((lam n G (a r) p)⁻¹*lam n G (ct t) p):=fun t=>by
        rw [e1,e2,zas n (g:=fun k=>(lam n G (ct t) k*b (bN B k) - (lam n G (a r) k*b (bN B k))*(lam n G (ct t) p*(lam n G (a r) p)⁻¹))+(if k=p then (lam n G (ct t) p*(lam n G (a r) p)⁻¹)*b r else 0)) (f:=fun k=>lam n G' (ct t) k*b (bN (B.set p r) k)) (fun k hk=>by
          rw[hY' t k,zhR (by omega)]
          by_cases e:k=p
          · subst e
            rw[if_pos rfl,if_pos rfl,if_pos rfl]
            have:lam n G (a r) k*b (bN B k)*(lam n G (ct t) k*(lam n G (a r) k)⁻¹)=(lam n G (a r) k*(lam n G (a r) k)⁻¹)*(b (bN B k)*lam n G (ct t) k):=by grind
            rw[this,Rat.mul_inv_cancel _ hlp0];grind
          · rw[if_neg e,if_neg e,if_neg e];grind),zmd,zuc,zdv,zeJ (p:=p) hpn (fun k _ hne=>if_neg hne),if_pos rfl]
        grind
      refine zey (fun t _=>(e3 t).symm) (zjy (by grind) (zjy hli ?_))
      rcases hY p hpn with hz|hz
      · exfalso
        have q1:∀j,j<n→G j p=0:=fun j hj=>by
          have q2:S (fun t=>G0 j t*lam n G (ct (t+1)) p) n=0:=S_z fun t ht=>by
            have:lam n G (ct (t+1)) p=0:=hz (t+1) (by omega)
            rw[this];grind
          have q3:S (fun t=>G0 j t*lam n G (ct (t+1)) p) n=S (fun i=>S (fun t=>G0 j t*rw' a B0 t i) n*G i p) n:=by
            rw[zas n (g:=fun t=>S (fun i=>G0 j t*(rw' a B0 t i*G i p)) n) (fun t _=>by rw[ctS];exact (zic _ _ n).symm),zhX]
            exact zas n fun i _=>by rw[←zdv];exact zas n fun t _=>by grind
          rw[q3,zeJ (p:=j) hj (fun i hi hne=>by rw[h0.ga j i hj hi,zcr (Ne.symm hne)];grind),h0.ga j j hj hj,zdg] at q2
          grind
        have q4:=hI.ag p p hpn hpn
        rw[S_z (fun j hj=>by rw[q1 j hj];grind),zdg] at q4
        exact absurd q4 (by decide)
      · exact hz
    · -- otherwise no point is within the bounds
      have h1:=hf r hr
      have h2:S (fun j=>a r j*x0 j) n=S (fun k=>lam n G (a r) k*S (fun j=>rw' a B k j*x0 j) n) n:=by
        rw [zas n (g:=fun j=>S (fun k=>lam n G (a r) k*(rw' a B k j*x0 j)) n) (fun j hj=>by
          show a r j*x0 j=S (fun k=>lam n G (a r) k*(rw' a B k j*x0 j)) n
          have:S (fun k=>lam n G (a r) k*(rw' a B k j*x0 j)) n=S (fun k=>lam n G (a r) k*rw' a B k j) n*x0 j:=by
            rw[←zdv];exact zas n fun k _=>by grind
          rw[this,co hI (a r) hj]),zhX]
        exact zas n fun k _=>zic _ _ n
      have h3:S (fun k=>lam n G (a r) k*b (bN B k)) n≤S (fun k=>lam n G (a r) k*S (fun j=>rw' a B k j*x0 j) n) n:=S_le n fun k hk=>by
        have h4:lam n G (a r) k≤0:=Rat.not_lt.1 fun h=>hK ⟨k,hk,h⟩
        have h5:S (fun j=>rw' a B k j*x0 j) n≤b (bN B k):=hf (bN B k) (hBm _ (by
          have:bN B k=B[k]'(by omega):=by simp[bN,List.getD,List.getElem?_eq_getElem (show k<B.length by omega)]
          rw[this];exact List.getElem_mem _))
        have h6:0≤(-lam n G (a r) k)*(b (bN B k) - S (fun j=>rw' a B k j*x0 j) n):=Rat.mul_nonneg (by grind) (by grind)
        grind
      rw[←h2] at h3
      have:=Rat.le_trans h3 h1
      exact absurd hv (Rat.not_lt.2 this)
set_option maxHeartbeats 4000000
def sg (k:Nat):Rat:=if k % 2=0 then 1 else -1
def D:Nat→(Nat→Nat→Rat)→Rat
  | 0,_=>1
  | n+1,A=>S (fun k=>sg k*A 0 k*D n (fun i j=>A (i+1) (if j<k then j else j+1))) (n+1)
theorem D1 (A:Nat→Nat→Rat):D 1 A=A 0 0:=by
  simp[D,S,sg];grind
theorem D2 (A:Nat→Nat→Rat):D 2 A=A 0 0*A 1 1 - A 0 1*A 1 0:=by
  simp[D,S,sg];grind
theorem D3 (A:Nat→Nat→Rat):D 3 A=A 0 0*(A 1 1*A 2 2 - A 1 2*A 2 1) - A 0 1*(A 1 0*A 2 2 - A 1 2*A 2 0)+A 0 2*(A 1 0*A 2 1 - A 1 1*A 2 0):=by
  simp[D,S,sg];grind
theorem D4 (A:Nat→Nat→Rat):D 4 A=A 0 0*(A 1 1*(A 2 2*A 3 3 - A 2 3*A 3 2) - A 1 2*(A 2 1*A 3 3 - A 2 3*A 3 1)+A 1 3*(A 2 1*A 3 2 - A 2 2*A 3 1))
    - A 0 1*(A 1 0*(A 2 2*A 3 3 - A 2 3*A 3 2) - A 1 2*(A 2 0*A 3 3 - A 2 3*A 3 0)+A 1 3*(A 2 0*A 3 2 - A 2 2*A 3 0))
    + A 0 2*(A 1 0*(A 2 1*A 3 3 - A 2 3*A 3 1) - A 1 1*(A 2 0*A 3 3 - A 2 3*A 3 0)+A 1 3*(A 2 0*A 3 1 - A 2 1*A 3 0))
    - A 0 3*(A 1 0*(A 2 1*A 3 2 - A 2 2*A 3 1) - A 1 1*(A 2 0*A 3 2 - A 2 2*A 3 0)+A 1 2*(A 2 0*A 3 1 - A 2 1*A 3 0)):=by
  simp[D,S,sg];grind
theorem zdZ:∀(n:Nat) {A A':Nat→Nat→Rat},(∀i j,i<n→j<n→A i j=A' i j)→D n A=D n A'
  | 0,_,_,_=>rfl
  | n+1,A,A',h=>by
    simp only[D]
    refine zas _ fun k hk=>?_
    rw[h 0 k (by omega) hk,zdZ n (fun i j hi hj=>h (i+1) (if j<k then j else j+1) (by omega) (by split<;>omega))]
def swA (A:Nat→Nat→Rat) (p:Nat) (k:Nat):Nat→Rat:=if k=p then A (p+1) else if k=p+1 then A p else A k
theorem D_sw {n p:Nat} (hn:n≤4) (hp:p+1<n) (A:Nat→Nat→Rat):D n (swA A p) = - D n A:=by
  match n,p,hn,hp with
  | 2,0,_,_=>rw[D2,D2];simp[swA];grind
  | 3,0,_,_=>rw[D3,D3];simp[swA];grind
  | 3,1,_,_=>rw[D3,D3];simp[swA];grind
  | 4,0,_,_=>rw[D4,D4];simp[swA];grind
  | 4,1,_,_=>rw[D4,D4];simp[swA];grind
  | 4,2,_,_=>rw[D4,D4];simp[swA];grind
theorem S2 (f:Nat→Rat):S f 2=f 0+f 1:=by simp only[S];grind
theorem S3 (f:Nat→Rat):S f 3=f 0+f 1+f 2:=by simp only[S];grind
theorem S4 (f:Nat→Rat):S f 4=f 0+f 1+f 2+f 3:=by simp only[S];grind
theorem zxm {n p:Nat} (hn:n≤4) (hp:p<n) (A:Nat→Nat→Rat) (l:Nat→Rat):D n (pivA A p fun j=>S (fun k=>l k*A k j) n)=l p*D n A:=by
  match n,p,hn,hp with
  | 1,0,_,_=>rw[D1,D1];simp[pivA,S];grind
  | 2,0,_,_=>rw[D2,D2];simp[pivA,S2];grind
  | 2,1,_,_=>rw[D2,D2];simp[pivA,S2];grind
  | 3,0,_,_=>rw[D3,D3];simp[pivA,S3];grind
  | 3,1,_,_=>rw[D3,D3];simp[pivA,S3];grind
  | 3,2,_,_=>rw[D3,D3];simp[pivA,S3];grind
  | 4,0,_,_=>rw[D4,D4];simp[pivA,S4];grind
  | 4,1,_,_=>rw[D4,D4];simp[pivA,S4];grind
  | 4,2,_,_=>rw[D4,D4];simp[pivA,S4];grind
  | 4,3,_,_=>rw[D4,D4];simp[pivA,S4];grind
def colA (A:Nat→Nat→Rat) (p:Nat) (v:Nat→Rat) (i j:Nat):Rat:=if j=p then v i else A i j
theorem zxp {n p:Nat} (hn:n≤4) (hp:p<n) (A:Nat→Nat→Rat) (x:Nat→Rat):D n (colA A p fun i=>S (fun k=>A i k*x k) n)=D n A*x p:=by
  match n,p,hn,hp with
  | 1,0,_,_=>rw[D1,D1];simp[colA,S];grind
  | 2,0,_,_=>rw[D2,D2];simp[colA,S2];grind
  | 2,1,_,_=>rw[D2,D2];simp[colA,S2];grind
  | 3,0,_,_=>rw[D3,D3];simp[colA,S3];grind
  | 3,1,_,_=>rw[D3,D3];simp[colA,S3];grind
  | 3,2,_,_=>rw[D3,D3];simp[colA,S3];grind
  | 4,0,_,_=>rw[D4,D4];simp[colA,S4];grind
  | 4,1,_,_=>rw[D4,D4];simp[colA,S4];grind
  | 4,2,_,_=>rw[D4,D4];simp[colA,S4];grind
  | 4,3,_,_=>rw[D4,D4];simp[colA,S4];grind
theorem zns {A:Nat→Nat→Rat} {p:Nat} {u v:Nat→Rat} {n:Nat} (h:∀j,j<n→u j=v j) (i j:Nat) (hj:j<n):pivA A p u i j=pivA A p v i j:=by
  simp only[pivA];split
  · exact h j hj
  · rfl
theorem zxn {n p:Nat} (hn:n≤4) (hp:p<n) {A G:Nat→Nat→Rat} (h:Inv n A G) (v:Nat→Rat):D n (pivA A p v)=lam n G v p*D n A:=by
  rw[←zxm hn hp A (lam n G v)]
  exact zdZ n fun i j hi hj=>zns (n:=n) (fun j hj=>(co h v hj).symm) i j hj
theorem zus {n p:Nat} (hp:p+1<n) {A G:Nat→Nat→Rat} (h:Inv n A G):∃G',Inv n (swA A p) G'∧(∀v k,k<n→∃k',k'<n∧lam n G' v k=lam n G v k'):=by
  obtain⟨τ,hτ⟩:∃τ:Nat→Nat,τ=fun k=>if k=p then p+1 else if k=p+1 then p else k:=⟨_,rfl⟩
  have t1:∀k,swA A p k=A (τ k):=fun k=>by
    rw[hτ];simp only[swA]
    by_cases e:k=p
    · rw[if_pos e,if_pos e]
    · rw[if_neg e,if_neg e]
      by_cases e2:k=p+1
      · rw[if_pos e2,if_pos e2]
      · rw[if_neg e2,if_neg e2]
  have t2:∀k,k<n→τ k<n:=fun k hk=>by rw[hτ];show (if _ then _ else _)<n;split<;>(try split)<;>omega
  have t3:∀k,τ (τ k)=k:=fun k=>by
    rw[hτ];dsimp only
    by_cases e:k=p
    · subst e;rw[if_pos rfl,if_neg (by omega),if_pos rfl]
    · rw[if_neg e]
      by_cases e2:k=p+1
      · subst e2;rw[if_pos rfl,if_pos rfl]
      · rw[if_neg e2,if_neg e,if_neg e2]
  have tS:∀f:Nat→Rat,S (fun k=>f (τ k)) n=S f n:=fun f=>by
    have e1:∀k,f (τ k)=f k+((if k=p then f (p+1) - f p else 0)+(if k=p+1 then f p - f (p+1) else 0)):=fun k=>by
      rw[hτ];dsimp only
      by_cases e:k=p
      · subst e;rw[if_pos rfl,if_pos rfl,if_neg (by omega)];grind
      · rw[if_neg e,if_neg e]
        by_cases e2:k=p+1
        · subst e2;rw[if_pos rfl,if_pos rfl];grind
        · rw[if_neg e2,if_neg e2];grind
    rw[zas n (fun k _=>e1 k),zmd,zmd,zeJ (p:=p) (by omega) (fun k _ hne=>if_neg hne),zeJ (p:=p+1) (by omega) (fun k _ hne=>if_neg hne),if_pos rfl,if_pos rfl];grind
  refine⟨fun j k=>G j (τ k),⟨fun i j hi hj=>?_,fun k l hk hl=>?_⟩,fun v k hk=>⟨τ k,t2 k hk,rfl⟩⟩
  · rw[zas n (g:=fun k=>(fun k=>G i k*A k j) (τ k)) (fun k _=>by rw[t1])]
    exact (tS (fun k=>G i k*A k j)).trans (h.ga i j hi hj)
  · rw[zas n (g:=fun j=>A (τ k) j*G j (τ l)) (fun j _=>by rw[t1]),h.ag _ _ (t2 k hk) (t2 l hl)]
    by_cases e:k=l
    · rw[e,zdg,zdg]
    · rw[zcr e,zcr fun q=>e (by rw[←t3 k,←t3 l,q])]
theorem zs8 {n:Nat} {a:Nat→Nat→Rat} {b:Nat→Rat} {B:List Nat} {G:Nat→Nat→Rat} (h:Inv n (rw' a B) G) {k:Nat} (hk:k<n):S (fun j=>rw' a B k j*ptX n b B G j) n=b (bN B k):=by
  rw [zr8,zeJ (p:=k) hk (fun l hl hne=>by
    have:lam n G (rw' a B k) l=0:=(h.ag k l hk hl).trans (zcr (Ne.symm hne))
    rw[this];grind)]
  have:lam n G (rw' a B k) k=1:=(h.ag k k hk hk).trans (zdg k)
  rw[this];grind
theorem zs7 {n:Nat} {A G:Nat→Nat→Rat} (h:Inv n A G) {x y:Nat→Rat} (he:∀k,k<n→S (fun j=>A k j*x j) n=S (fun j=>A k j*y j) n) {i:Nat} (hi:i<n):x i=y i:=by
  have key:∀z:Nat→Rat,S (fun k=>G i k*S (fun j=>A k j*z j) n) n=z i:=fun z=>by
    rw [zas n (g:=fun k=>S (fun j=>G i k*(A k j*z j)) n) (fun k _=>(zic _ _ n).symm),zhX,
      zas n (g:=fun j=>dl i j*z j) (fun j hj=>by rw[←h.ga i j hi hj,←zdv];exact zas n fun k _=>by grind),zeJ (p:=i) hi (fun j _ hne=>by rw[zcr (Ne.symm hne)];grind),zdg];grind
  rw[←key x,←key y]
  exact zas n fun k hk=>by rw[he k hk]
structure Fin' (n M:Nat) (a:Nat→Nat→Rat) (b c:Nat→Rat) (B:List Nat) (G:Nat→Nat→Rat):Prop where
  len:B.length=n
  lt:∀x∈B,x<M
  inv:Inv n (rw' a B) G
  det:D n (rw' a B)≠0
  y:∀k,k<n→0≤lam n G c k
  x:∀i,i<M→S (fun j=>a i j*ptX n b B G j) n≤b i
def mu (B:List Nat):Nat→Nat
  | 0=>0
  | k+1=>mu B k+(4 - k)*bN B k
theorem zjw {B B':List Nat}:∀k,(∀i,i<k→bN B i=bN B' i)→mu B k=mu B' k
  | 0,_=>rfl
  | k+1,h=>by simp only[mu];rw[zjw k (fun i hi=>h i (by omega)),h k (by omega)]
theorem zsj {n M:Nat} {a:Nat→Nat→Rat} {b c:Nat→Rat}:∀(N:Nat) {B G},Fin' n M a b c B G→mu B n≤N→∃B G,Fin' n M a b c B G∧∀B' G',Fin' n M a b c B' G'→mu B n≤mu B' n
  | 0,B,G,h,hN=>⟨B,G,h,fun B' G' _=>by omega⟩
  | N + 1,B,G,h,hN=>by
    by_cases hx:∃B' G',Fin' n M a b c B' G'∧mu B' n≤N
    · obtain⟨B',G',h1,h2⟩:=hx
      exact zsj N h1 h2
    · refine⟨B,G,h,fun B' G' h'=>?_⟩
      apply Classical.byContradiction
      intro hlt
      exact hx ⟨B',G',h',by omega⟩
theorem zpp {n M:Nat} (hn:n≤4) {a:Nat→Nat→Rat} {b c:Nat→Rat} {B G} (h:Fin' n M a b c B G):∃B G,Fin' n M a b c B G∧∀k,k+1<n→bN B k<bN B (k+1):=by
  obtain⟨B,G,h,hm⟩:=zsj (mu B n) h (Nat.le_refl _)
  refine⟨B,G,h,fun k hk=>?_⟩
  have hl:=h.len
  rcases Nat.lt_trichotomy (bN B k) (bN B (k+1)) with q|q|q
  · exact q
  · exfalso
    have e1:=h.inv.ag k k (by omega) (by omega)
    have e2:=h.inv.ag (k+1) k (by omega) (by omega)
    have e3:rw' a B (k+1)=rw' a B k:=by simp only[rw'];rw[q]
    rw[e3,e1,zdg,zcr (by omega)] at e2
    exact absurd e2 (by decide)
  · exfalso
    obtain⟨B',hB'⟩:∃B',B'=(B.set k (bN B (k+1))).set (k+1) (bN B k):=⟨_,rfl⟩
    have hb:∀i,bN B' i=if i=k then bN B (k+1) else if i=k+1 then bN B k else bN B i:=fun i=>by
      rw[hB',zhR (by rw[List.length_set];omega),zhR (by omega)]
      by_cases e:i=k
      · subst e;rw[if_neg (by omega),if_pos rfl,if_pos rfl]
      · rw[if_neg e,if_neg e]
    have hr:rw' a B'=swA (rw' a B) k:=by
      funext i
      simp only[rw',swA]
      rw[hb]
      by_cases e:i=k
      · rw[if_pos e,if_pos e]
      · rw[if_neg e,if_neg e]
        by_cases e2:i=k+1
        · rw[if_pos e2,if_pos e2]
        · rw[if_neg e2,if_neg e2]
    obtain⟨G',h1,h2⟩:=zus hk h.inv
    have hI:Inv n (rw' a B') G':=by rw[hr];exact h1
    have hpt:∀j,j<n→ptX n b B' G' j=ptX n b B G j:=fun j hj=>by
      refine zs7 hI (fun i hi=>?_) hj
      rw[zs8 hI hi]
      have e1:∃i',i'<n∧bN B' i=bN B i':=by
        rw[hb]
        by_cases e:i=k
        · rw[if_pos e];exact⟨k+1,hk,rfl⟩
        · rw[if_neg e]
          by_cases e2:i=k+1
          · rw[if_pos e2];exact⟨k,by omega,rfl⟩
          · rw[if_neg e2];exact⟨i,hi,rfl⟩
      obtain⟨i',hi',e⟩:=e1
      have e3:rw' a B' i=rw' a B i':=by simp only[rw'];rw[e]
      rw[e3,e];exact (zs8 h.inv hi').symm
    have hf:Fin' n M a b c B' G':=by
      refine⟨by rw[hB',List.length_set,List.length_set];exact hl,fun x hx=>?_,hI,?_,fun i hi=>?_,fun i hi=>?_⟩
      · rw [hB'] at hx
        have hmem:∀i,i<n→bN B i<M:=fun i hi=>h.lt _ (by
          have:bN B i=B[i]'(by omega):=by simp[bN,List.getD,List.getElem?_eq_getElem (show i<B.length by omega)]
          rw[this];exact List.getElem_mem _)
        rcases List.mem_or_eq_of_mem_set hx with hx|hx
        · rcases List.mem_or_eq_of_mem_set hx with hx|hx
          · exact h.lt _ hx
          · rw[hx];exact hmem _ hk
        · rw[hx];exact hmem _ (by omega)
      · rw[hr,D_sw hn hk];have:=h.det;grind
      · obtain⟨k',hk',e⟩:=h2 c i hi
        rw[e];exact h.y k' hk'
      · rw[zas n (fun j hj=>by rw[hpt j hj])]
        exact h.x i hi
    have hmu : mu B' n<mu B n:=by
      have q1:∀m,m≤k→mu B' m=mu B m:=fun m hm=>zjw m fun i hi=>by rw[hb,if_neg (by omega),if_neg (by omega)]
      have q2:mu B' (k+1+1)<mu B (k+1+1):=by
        simp only[mu]
        rw[q1 k (Nat.le_refl _),hb k,hb (k+1),if_pos rfl,if_neg (by omega),if_pos rfl]
        obtain⟨z,hz⟩:∃z,4 - k=z+1∧4 - (k+1)=z:=⟨4 - (k+1),by omega,rfl⟩
        rw[hz.1,hz.2,Nat.add_mul,Nat.add_mul]
        obtain⟨d,hd⟩:∃d,bN B k=bN B (k+1)+d:=⟨bN B k - bN B (k+1),by omega⟩
        rw[hd,Nat.mul_add];omega
      have q3:∀m,k+1+1≤m→mu B' m<mu B m:=fun m=>by
        induction m with
        | zero=>intro hm;omega
        | succ m ih=>
          intro hm
          by_cases e:k+1+1=m+1
          · rw[←e];exact q2
          · have:=ih (by omega)
            simp only[mu]
            rw[hb m,if_neg (by omega),if_neg (by omega)];omega
      exact q3 n (by omega)
    have:=hm B' G' hf
    omega
end Go.Eng.LP
namespace Go.Eng.Ar
open Go.Eng Go.Proofs Go.Eng.LP
set_option linter.all false
set_option maxRecDepth 100000
set_option maxHeartbeats 4000000
abbrev qI (n:Int):Rat:=(n:Rat)
theorem zno {a b:Int}:qI a≤qI b↔a≤b:=Rat.intCast_le_intCast
theorem zoU {a:Int}:qI a≠0↔a≠0:=by
  constructor
  · intro h e;subst e;exact h rfl
  · intro h e;exact h (Rat.intCast_inj.1 e)
theorem zfp (a b:Int):qI (a*b)=qI a*qI b:=Rat.intCast_mul a b
theorem zvn (a b:Int):qI (a+b)=qI a+qI b:=Rat.intCast_add a b
theorem zoT (a:Int):qI (-a) = - qI a:=Rat.intCast_neg a
theorem qI_0:qI 0=0:=rfl
theorem zqO (f:Nat→Int):∀n,qI (sm f n)=S (fun i=>qI (f i)) n
  | 0=>rfl
  | n+1=>by simp only[sm,S];rw[zvn,zqO f n]
abbrev mQ (m:List (List Int)) (i j:Nat):Rat:=qI (vI (rowN m i) j)
theorem znK {N:Nat} (hN:N≤4) {m:List (List Int)} (h1:m.length=N) (h2:∀r∈m,r.length=N):qI (detA m)=D N (mQ m):=by
  unfold detA
  match N,hN with
  | 0,_=>rw[List.length_eq_zero_iff.1 h1];rfl
  | 1,_=>
    obtain⟨r,rfl⟩:=len1 h1
    obtain⟨a,rfl⟩:=len1 (h2 r (by simp))
    rw[D1]
    simp[detN,sumD,zaJ,zaY,mQ,qI]
  | 2,_=>
    obtain⟨r,s,rfl⟩:=len2 h1
    obtain⟨a,b,rfl⟩:=len2 (h2 r (by simp))
    obtain⟨c,d,rfl⟩:=len2 (h2 s (by simp))
    rw[D2]
    simp[detN,sumD,zaJ,zaY,mQ,qI,Rat.intCast_add,Rat.intCast_mul,Rat.intCast_neg];grind
  | 3,_=>
    obtain⟨r,s,t,rfl⟩:=len3 h1
    obtain⟨a,b,c,rfl⟩:=len3 (h2 r (by simp))
    obtain⟨d,e,f,rfl⟩:=len3 (h2 s (by simp))
    obtain⟨g,h,i,rfl⟩:=len3 (h2 t (by simp))
    rw[D3]
    simp[detN,sumD,zaJ,zaY,mQ,qI,Rat.intCast_add,Rat.intCast_mul,Rat.intCast_neg];grind
  | 4,_=>
    obtain⟨r,s,t,u,rfl⟩:=len4 h1
    obtain⟨a,b,c,d,rfl⟩:=len4 (h2 r (by simp))
    obtain⟨e,f,g,h,rfl⟩:=len4 (h2 s (by simp))
    obtain⟨i,j,k,l,rfl⟩:=len4 (h2 t (by simp))
    obtain⟨m,n,o,p,rfl⟩:=len4 (h2 u (by simp))
    rw[D4]
    simp[detN,sumD,zaJ,zaY,mQ,qI,Rat.intCast_add,Rat.intCast_mul,Rat.intCast_neg];grind
theorem zew {N:Nat} {m:List (List Int)} (h1:m.length=N) (h2:∀i,i<N→(rowN m i).length=N):∀r∈m,r.length=N:=fun r hr=>by
  obtain⟨i,hi,e⟩:=List.getElem_of_mem hr
  have:=h2 i (by omega)
  have e2:rowN m i=r:=by simp[rowN,List.getD,List.getElem?_eq_getElem hi,e]
  rw[e2] at this;exact this
theorem ztW {m:List (List Int)} {right:List Int} {k i j:Nat} (hi:i<m.length) (hk:k<(rowN m i).length):vI (rowN (chk m right k m.length) i) j=if j=k then vI right i else vI (rowN m i) j:=by
  have e:rowN (chk m right k m.length) i=(rowN m i).set k (vI right i):=by
    have:=zaB (fun r=>if r<m.length then (rowN m r).set k (vI right r) else []) [] m.length i hi
    rw[if_pos hi] at this
    exact this
  rw[e]
  generalize rowN m i=r at *
  simp only[vI,List.getD_eq_getElem?_getD,List.getElem?_set]
  by_cases e2:k=j
  · subst e2;rw[if_pos rfl,if_pos hk,if_pos rfl];rfl
  · rw[if_neg e2,if_neg (fun h=>e2 h.symm)]
theorem zxe {N:Nat} (hN:N≤4) {m:List (List Int)} {right:List Int} {k:Nat} (h1:m.length=N) (h2:∀i,i<N→(rowN m i).length=N) (hk:k<N) :
    qI (detA (chk m right k m.length))=D N (colA (mQ m) k fun i=>qI (vI right i)):=by
  have hl:(chk m right k m.length).length=N:=by rw[zdT];exact h1
  rw [znK hN hl (zew hl fun i hi=>by
    have e:rowN (chk m right k m.length) i=(rowN m i).set k (vI right i):=by
      have:=zaB (fun r=>if r<m.length then (rowN m r).set k (vI right r) else []) [] m.length i (by omega)
      rw[if_pos (by omega)] at this
      exact this
    rw[e,List.length_set];exact h2 i hi)]
  refine zdZ N fun i j hi hj=>?_
  show qI _=_
  rw[ztW (by omega) (by rw[h2 i hi];exact hk)]
  simp only[colA]
  split<;>rfl
theorem zgQ {m:List (List Int)} {right:List Int} {k:Nat} (hk:k<m.length):vI (dets m right m.length) k=detA (chk m right k m.length):=zaB _ _ _ _ hk
theorem zjc {N:Nat} (hN:N≤4) {m:List (List Int)} {right:List Int} (h1:m.length=N) (h2:∀i,i<N→(rowN m i).length=N) (hd:detA m≠0) {x:Nat→Rat} (hx:∀i,i<N→S (fun j=>mQ m i j*x j) N=qI (vI right i)) :
    (∀j,j<N→qI (vI (zau m right).1 j)=qI (zau m right).2.1*x j)∧0<(zau m right).2.1:=by
  have key:∀j,j<N→qI (vI (dets m right m.length) j)=qI (detA m)*x j:=fun j hj=>by
    rw[zgQ (by omega),zxe hN h1 h2 hj,znK hN h1 (zew h1 h2),←zxp hN hj]
    refine zdZ N fun i k hi hk=>?_
    simp only[colA]
    split
    · exact (hx i hi).symm
    · rfl
  unfold zau
  rw[if_neg hd]
  split
  · rename_i hneg
    refine⟨fun j hj=>?_,(by show 0 < -detA m;omega)⟩
    have e:vI (negd (dets m right m.length) m.length) j = -vI (dets m right m.length) j:=by
      have:=zaB (fun j=>if j<m.length then -vI (dets m right m.length) j else vI (dets m right m.length) j) 0 (dets m right m.length).length j (by rw[zc7];omega)
      rw[if_pos (by omega)] at this
      exact this
    show qI (vI (negd (dets m right m.length) m.length) j)=qI (-detA m)*x j
    rw[e,zoT,zoT,key j hj];grind
  · exact⟨key,by show 0<detA m;omega⟩
theorem zxl {n i:Nat} (hn:n≤4) (hi:i<n) (A:Nat→Nat→Rat) (v:Nat→Rat):S (fun j=>A i j*D n (colA A j v)) n=D n A*v i:=by
  match n,i,hn,hi with
  | 1,0,_,_=>simp only[S,D1];simp[colA];grind
  | 2,0,_,_=>simp only[S2,D2];simp[colA];grind
  | 2,1,_,_=>simp only[S2,D2];simp[colA];grind
  | 3,0,_,_=>simp only[S3,D3];simp[colA];grind
  | 3,1,_,_=>simp only[S3,D3];simp[colA];grind
  | 3,2,_,_=>simp only[S3,D3];simp[colA];grind
  | 4,0,_,_=>simp only[S4,D4];simp[colA];grind
  | 4,1,_,_=>simp only[S4,D4];simp[colA];grind
  | 4,2,_,_=>simp only[S4,D4];simp[colA];grind
  | 4,3,_,_=>simp only[S4,D4];simp[colA];grind
theorem sol {n:Nat} (hn:n≤4) {A:Nat→Nat→Rat} (hd:D n A≠0) (v:Nat→Rat):∃x:Nat→Rat,∀i,i<n→S (fun j=>A i j*x j) n=v i:=by
  refine⟨fun j=>D n (colA A j v)*(D n A)⁻¹,fun i hi=>?_⟩
  rw[zas n (g:=fun j=>(A i j*D n (colA A j v))*(D n A)⁻¹) (fun j _=>by grind),zdv,zxl hn hi]
  have:=Rat.mul_inv_cancel _ hd
  grind
/-! ### The bounds of a task -/
theorem zj0 {α:Type} {a b:List α} {i:Nat} {d:α} (h:i<a.length):(a++b).getD i d=a.getD i d:=by
  simp only[List.getD_eq_getElem?_getD,List.getElem?_append_left h]
theorem zn2 {α:Type} {a b:List α} {i:Nat} {d:α} (h:a.length≤i):(a++b).getD i d=b.getD (i - a.length) d:=by
  simp only[List.getD_eq_getElem?_getD,List.getElem?_append_right h]
theorem zfz {t:List (List Int)} {cap:Int} {k:Nat}:(zdn t cap k).length=t.length+k:=by
  simp only[zdn,zkO,List.length_append,zal]
theorem zeg {t:List (List Int)} {cap:Int} {k:Nat}:(zcX t cap k).length=t.length+t.length+k:=by
  simp only[zcX,zdn,zkO,List.length_append,zal]
theorem znb {t:List (List Int)} {cap:Int} {i:Nat} (h:i<t.length):bdN (zbR t cap (ncol t)) i=lowB (rowN t i):=by
  show (zcX t cap (ncol t)++_).getD i bndZ=_
  rw[zj0 (by rw[zeg];omega)]
  show (zdn t cap t.length++_).getD i bndZ=_
  rw[zj0 (by rw[zfz];omega)]
  show (zkO t t.length++_).getD i bndZ=_
  rw[zj0 (by rw[zal];omega)]
  exact zaB _ _ _ _ h
theorem zma {t:List (List Int)} {cap:Int} {i:Nat} (h:i<t.length):bdN (zbR t cap (ncol t)) (t.length+i)=znD cap (rowN t i):=by
  show (zcX t cap (ncol t)++_).getD _ bndZ=_
  rw[zj0 (by rw[zeg];omega)]
  show (zdn t cap t.length++_).getD _ bndZ=_
  rw[zj0 (by rw[zfz];omega)]
  show (zkO t t.length++_).getD _ bndZ=_
  rw[zn2 (by rw[zal];omega),zal,show t.length+i - t.length=i by omega]
  exact zaB (fun i=>znD cap (rowN t i)) _ _ _ h
theorem zjY {t:List (List Int)} {cap:Int} {i:Nat} (h:i<ncol t):bdN (zbR t cap (ncol t)) (t.length+t.length+i)=znw (ncol t) i:=by
  show (zcX t cap (ncol t)++_).getD _ bndZ=_
  rw[zj0 (by rw[zeg];omega)]
  show (zdn t cap t.length++_).getD _ bndZ=_
  rw[zn2 (by rw[zfz];omega),zfz,show t.length+t.length+i - (t.length+t.length)=i by omega]
  exact zaB (znw (ncol t)) _ _ _ h
theorem zl9 {t:List (List Int)} {cap:Int} {i:Nat} (h:i<ncol t):bdN (zbR t cap (ncol t)) (t.length+t.length+ncol t+i)=znj (ncol t) i:=by
  show (zcX t cap (ncol t)++_).getD _ bndZ=_
  rw[zn2 (by rw[zeg];omega),zeg,show t.length+t.length+ncol t+i - (t.length+t.length+ncol t)=i by omega]
  exact zaB (znj (ncol t)) _ _ _ h
theorem ze7 {row:List Int} {n j:Nat} (hl:row.length=n) (hj:j<n+1):vI (lowB row).1 j=if j=n then 1 else -vI row j:=by
  show (tab (fun j=>-vI row j) row.length++[1]).getD j 0=_
  by_cases e:j=n
  · rw[if_pos e,zn2 (by rw[zal];omega),zal,show j - row.length=0 by omega];rfl
  · rw[if_neg e,zj0 (by rw[zal];omega)]
    exact zaB (fun j=>-vI row j) _ _ _ (by omega)
theorem zeC {row:List Int} {cap:Int} {n j:Nat} (hl:row.length=n) (hj:j<n+1):vI (znD cap row).1 j=if j=n then 0 else vI row j:=by
  show (row++[0]).getD j 0=_
  by_cases e:j=n
  · rw[if_pos e,zn2 (by omega),show j - row.length=0 by omega];rfl
  · rw[if_neg e,zj0 (by omega)]
theorem zdF {n k j:Nat} (hj:j<n+1):vI (znw n k).1 j=if j=k then 1 else 0:=zfe (n:=n+1) hj
theorem zev {n k j:Nat} (hj:j<n+1):vI (znj n k).1 j=if j=k then -1 else 0:=zfe (n:=n+1) hj
/-! ### A corner that is accepted -/
abbrev bQ (b:List BndD) (i j:Nat):Rat:=qI (vI (bdN b i).1 j)
abbrev zbK (b:List BndD) (i:Nat):Int:=(bdN b i).2.1
theorem zvC {l:List Int}:∀ {k:Nat},(∀i,i≤k→0≤vI l i)→0≤mn l k
  | 0,h=>h 0 (Nat.le_refl _)
  | k+1,h=>by
    have h1:=zvC (l:=l) (k:=k) fun i hi=>h i (by omega)
    have h2:=h (k+1) (Nat.le_refl _)
    simp only[mn];split
    · exact h2
    · exact h1
theorem zmB {b:List BndD} {x:List Int} {d:Int}:∀ {n:Nat},(∀k,k<n→okB b x d k=true)→zdh b x d n=true
  | 0,_=>rfl
  | n+1,h=>by simp only[zdh];rw[zmB fun k hk=>h k (by omega),h n (by omega)];rfl
theorem zxa {a x:List Int} {n:Nat} (h:a.length=n):qI (dotI a x)=S (fun j=>qI (vI a j)*qI (vI x j)) n:=by
  unfold dotI;rw[zqO,h]
  exact zas n fun i _=>zfp _ _
theorem zrF {m:List (List Int)} {i j:Nat} (hi:i<m.length) (hj:j<m.length):vI (rowN (trM m) j) i=vI (rowN m i) j:=by
  have e:rowN (trM m) j=tab (fun i=>vI (rowN m i) j) m.length:=zaB (fun j=>tab (fun i=>vI (rowN m i) j) m.length) [] m.length j hj
  rw[e];exact zaB (fun i=>vI (rowN m i) j) 0 m.length i hi
theorem zt6 {b:List BndD} {l:List Int} (hg:goodA b l) (hd:D l.length (fun i=>bQ b (vI l i).toNat)≠0) {x y:Nat→Rat}
    (hx:∀i,i<l.length→S (fun j=>bQ b (vI l i).toNat j*x j) l.length=qI (zbK b (vI l i).toNat)) (hf:∀k,k<b.length→S (fun j=>bQ b k j*x j) l.length≤qI (zbK b k))
    (hy:∀j,j<l.length→S (fun k=>y k*bQ b (vI l k).toNat j) l.length=dl j (l.length - 1)) (hy0:∀k,k<l.length→0≤y k):(atR b l).2.1=true:=by
  have hN:=hg.le
  have hp:=hg.pos
  obtain⟨N,hNe⟩:∃N,N=l.length:=⟨_,rfl⟩
  have hs:=zhd hg
  have r1:(zaz b l l.length).length=l.length:=zaG
  have r2:∀i,i<l.length→(rowN (zaz b l l.length) i).length=l.length:=fun i hi=>by rw[zcU hi];exact hg.len _ (hg.idx i hi).2
  have r3:∀i j,i<l.length→mQ (zaz b l l.length) i j=bQ b (vI l i).toNat j:=fun i j hi=>by
    show qI (vI (rowN _ i) j)=_
    rw[zcU hi]
  have hdet:detA (zaz b l l.length)≠0:=by
    rw[←zoU,znK hN r1 (zew r1 r2),zdZ l.length (fun i j hi hj=>r3 i j hi)]
    exact hd
  have hX:(atX b l).2.2.1=true:=zml hdet
  have sx:=zjc hN (right:=rhsP b l l.length) r1 r2 hdet (x:=x) (fun i hi=>by
    rw[zas l.length (fun j _=>by rw[r3 i j hi]),zjm hi];exact hx i hi)
  have sX:∀j,j<l.length→qI (vI (atX b l).1 j)=qI (atX b l).2.1*x j:=sx.1
  have hden:0<(atX b l).2.1:=sx.2
  have hok:zdh b (atX b l).1 (atX b l).2.1 b.length=true:=zmB fun k hk=>by
    unfold okB
    refine decide_eq_true (zno.1 ?_)
    rw[zxa (hg.len k hk),zfp,zas l.length (g:=fun j=>qI (atX b l).2.1*(bQ b k j*x j)) (fun j hj=>by rw[sX j hj];grind),zic]
    have h1:=hf k hk
    have h2:0≤qI (atX b l).2.1:=by rw[←qI_0,zno];omega
    have h3:=Rat.mul_le_mul_of_nonneg_left h1 h2
    have h4:qI (zbK b k)*qI (atX b l).2.1=qI (atX b l).2.1*qI (zbK b k):=by grind
    show _≤qI (zbK b k)*qI (atX b l).2.1
    rw[h4];exact h3
  have t1:(trM (zaz b l l.length)).length=l.length:=by rw[zgX,zaG]
  have ts:=zsJ hs
  have t2:∀i,i<l.length→(rowN (trM (zaz b l l.length)) i).length=l.length:=fun i hi=>(ts.2 _ (zku ts hi)).1
  have hdt:detA (trM (zaz b l l.length))≠0:=by rw[zrG hN hs];exact hdet
  have sy:=zjc hN (right:=zbE (l.length:Int) ((l.length:Int) - 1) 1) t1 t2 hdt (x:=y) (fun j hj=>by
    rw [zas l.length (g:=fun k=>y k*bQ b (vI l k).toNat j) (fun k hk=>by
      show qI (vI (rowN (trM _) j) k)*y k=_
      rw[zrF (by rw[zaG];exact hk) (by rw[zaG];exact hj)]
      have:=r3 k j hk
      rw[←this];grind),hy j hj,show (l.length:Int) - 1=((l.length - 1:Nat):Int) by omega,zfe hj]
    by_cases e:j=l.length - 1
    · rw[if_pos e,e,zdg];rfl
    · rw[if_neg e,zcr e];rfl)
  have hmn:¬mn (atY b l).1 (l.length - 1)<0:=by
    refine Int.not_lt.2 (zvC fun i hi=>?_)
    have h1:=sy.1 i (by omega)
    have h2:=hy0 i (by omega)
    have h3:(0:Int)<(atY b l).2.1:=sy.2
    have h4:0≤qI (atY b l).2.1:=by rw[←qI_0,zno];omega
    have h5:=Rat.mul_nonneg h4 h2
    have h6:qI (vI (atY b l).1 i)=qI (atY b l).2.1*y i:=h1
    rw[←h6,←qI_0,zno] at h5
    exact h5
  rw[at_4 hX hok hmn]
theorem zjR:∀(k f r:Nat) (l:List Nat),l.length=k→(∀i,i+1<k→bN l i<bN l (i+1))→(∀x∈l,f≤x∧x<f+r)→l.map Int.ofNat∈zb9 k f r
  | 0,f,r,l,hl,_,_=>by rw[List.length_eq_zero_iff.1 hl];simp[zb9]
  | k+1,f,0,l,hl,_,hm=>by
    match l,hl with
    | x::l,_=>have:=hm x List.mem_cons_self;omega
  | k + 1, f,r+1,l,hl,hs,hm=>by
    match l,hl with
    | x :: l,hl=>
      have hl':l.length=k:=by simpa using hl
      have hx:=hm x List.mem_cons_self
      simp only[zb9,List.mem_append,List.mem_map]
      have hs':∀i,i+1<k→bN l i<bN l (i+1):=fun i hi=>by
        have:=hs (i+1) (by omega)
        simpa [bN] using this
      have asc:∀i,i<k→x<bN l i:=fun i=>by
        induction i with
        | zero=>intro hi;have:=hs 0 (by omega);simpa [bN] using this
        | succ i ih=>intro hi;have h1:=ih (by omega);have h2:=hs' i (by omega);omega
      have hgt:∀y∈l,x<y:=fun y hy=>by
        obtain⟨i,hi,e⟩:=List.getElem_of_mem hy
        have:=asc i (by omega)
        have e2:bN l i=y:=by simp[bN,List.getD,List.getElem?_eq_getElem hi,e]
        omega
      by_cases e:x=f
      · refine .inl ⟨l.map Int.ofNat,?_,by rw[e];rfl⟩
        refine zjR k (f+1) r l hl' hs' fun y hy=>?_
        have h1:=hgt y hy
        have h2:=hm y (List.mem_cons_of_mem _ hy)
        omega
      · refine .inr (zjR (k+1) (f+1) r (x::l) hl hs fun y hy=>?_)
        rcases List.mem_cons.1 hy with rfl|hy
        · omega
        · have h1:=hgt y hy
          have h2:=hm y (List.mem_cons_of_mem _ hy)
          omega
theorem zi1 {b:List BndD}:∀ {l:List (List Int)} {c:List Int},c∈l→(atR b c).2.1=true→(zgH b l).isSome=true
  | d :: r,c,hc,h=>by
    simp only[zgH]
    split
    · rfl
    · rename_i hd
      rcases List.mem_cons.1 hc with rfl|hc
      · exact absurd h hd
      · exact zi1 hc h
theorem zjX {t:List (List Int)} {cap:Int} (h:goodT t cap):(zfd t cap).isSome=true:=by
  obtain⟨b,hb⟩:∃b,b=zbR t cap (ncol t):=⟨_,rfl⟩
  obtain⟨n,hn⟩:∃n,n=ncol t:=⟨_,rfl⟩
  have hbl:b.length=t.length+t.length+n+n:=by rw[hb,zeF,hn]
  have g1:=h.le
  have g2:=h.cle
  have g3:=h.cpos
  have g4:=h.pos
  rw[←hn] at g2 g3
  -- the first basis
  obtain⟨B0,hB0⟩:∃B0:List Nat,B0=tab (fun k=>if k<n then t.length+t.length+k else 0) (n+1):=⟨_,rfl⟩
  have b0:∀k,k<n+1→bN B0 k=if k<n then t.length+t.length+k else 0:=fun k hk=>by rw[hB0];exact zaB _ _ _ _ hk
  have l0:B0.length=n+1:=by rw[hB0,zal]
  have m0:∀x∈B0,x<b.length:=fun x hx=>by
    rw[hB0] at hx
    obtain⟨i,hi,rfl⟩:=zb5 hx
    split<;>omega
  have hr0:(rowN t 0).length=n:=by rw[hn]
  have hv:∀j,j<n→0≤vI (rowN t 0) j:=fun j hj=>(h.vals 0 j g4 (by rw[←hn];exact hj)).1
  obtain⟨A0,hA0⟩:∃A0:Nat→Nat→Rat,A0=fun k j=>if k<n then dl j k else if j=n then 1 else -qI (vI (rowN t 0) j):=⟨_,rfl⟩
  have a0:∀k j,k<n+1→j<n+1→rw' (bQ b) B0 k j=A0 k j:=fun k j hk hj=>by
    show qI (vI (bdN b (bN B0 k)).1 j)=_
    rw[b0 k hk,hA0]
    dsimp only
    by_cases e:k<n
    · rw[if_pos e,if_pos e,hb,zjY (by rw[←hn];exact e),←hn,zdF hj]
      by_cases e2:j=k
      · rw[if_pos e2,e2,zdg];rfl
      · rw[if_neg e2,zcr e2];rfl
    · rw[if_neg e,if_neg e,hb,znb g4,ze7 hr0 hj]
      split
      · rfl
      · exact zoT _
  obtain⟨G0,hG0⟩:∃G0:Nat→Nat→Rat,G0=fun j k=>if j<n then dl j k else if k=n then 1 else qI (vI (rowN t 0) k):=⟨_,rfl⟩
  have hI0 : Inv (n+1) A0 G0:=by
    refine⟨fun i j hi hj=>?_,fun k l hk hl=>?_⟩
    · by_cases e:i<n
      · rw[zeJ (p:=i) hi (fun k hk hne=>by rw[hG0];dsimp only;rw[if_pos e,zcr (Ne.symm hne)];grind)]
        rw[hG0,hA0];dsimp only
        rw[if_pos e,if_pos e,zdg]
        by_cases e2:i=j
        · rw[e2];grind
        · rw[zcr e2,zcr (Ne.symm e2)];grind
      · have ei:i=n:=by omega
        simp only[S]
        have e1:S (fun k=>G0 i k*A0 k j) n=if j<n then qI (vI (rowN t 0) j) else 0:=by
          by_cases ej:j<n
          · rw[if_pos ej,zeJ (p:=j) ej (fun k hk hne=>by rw[hA0];dsimp only;rw[if_pos hk,zcr (Ne.symm hne)];grind)]
            rw[hG0,hA0];dsimp only
            rw[if_neg e,if_neg (by omega),if_pos ej,zdg];grind
          · rw[if_neg ej]
            exact S_z fun k hk=>by rw[hA0];dsimp only;rw[if_pos hk,zcr (by omega)];grind
        rw[e1]
        have e2:G0 i n=1:=by rw[hG0];dsimp only;rw[if_neg e,if_pos rfl]
        have e3:A0 n j=if j=n then 1 else -qI (vI (rowN t 0) j):=by rw[hA0];dsimp only;rw[if_neg (Nat.lt_irrefl n)]
        rw[e2,e3]
        by_cases ej:j=n
        · rw[if_neg (by omega),if_pos ej,ej,ei,zdg];grind
        · rw[if_pos (by omega),if_neg ej,zcr (by omega)];grind
    · by_cases e:k<n
      · rw[zeJ (p:=k) hk (fun j hj hne=>by rw[hA0];dsimp only;rw[if_pos e,zcr hne];grind)]
        rw[hG0,hA0];dsimp only
        rw[if_pos e,if_pos e,zdg];grind
      · have ek:k=n:=by omega
        simp only[S]
        have e1:S (fun j=>A0 k j*G0 j l) n=if l<n then -qI (vI (rowN t 0) l) else 0:=by
          by_cases el:l<n
          · rw[if_pos el,zeJ (p:=l) el (fun j hj hne=>by rw[hG0];dsimp only;rw[if_pos hj,zcr hne];grind)]
            rw[hG0,hA0];dsimp only
            rw[if_neg e,if_neg (by omega),if_pos el,zdg];grind
          · rw[if_neg el]
            exact S_z fun j hj=>by rw[hG0];dsimp only;rw[if_pos hj,zcr (by omega)];grind
        rw[e1]
        have e2:A0 k n=1:=by rw[hA0];dsimp only;rw[if_neg e,if_pos rfl]
        have e3:G0 n l=if l=n then 1 else qI (vI (rowN t 0) l):=by rw[hG0];dsimp only;rw[if_neg (Nat.lt_irrefl n)]
        rw[e2,e3]
        by_cases el:l=n
        · rw[if_neg (by omega),if_pos el,el,ek,zdg];grind
        · rw[if_pos (by omega),if_neg el,zcr (by omega)];grind
  have hI:Inv (n+1) (rw' (bQ b) B0) G0:=⟨fun i j hi hj=>by
      rw[zas (n+1) (fun k hk=>by rw[a0 k j hk hj])];exact hI0.ga i j hi hj,fun k l hk hl=>by
      rw[zas (n+1) (fun j hj=>by rw[a0 k j hk hj])];exact hI0.ag k l hk hl⟩
  have hD:D (n+1) (rw' (bQ b) B0)≠0:=by
    rw[zdZ (n+1) a0]
    have:D (n+1) A0=1:=by
      rw[hA0]
      have g:n=1∨n=2∨n=3:=by omega
      rcases g with e|e|e
      · subst e;rw[D2];simp[dl];grind
      · subst e;rw[D3];simp[dl];grind
      · subst e;rw[D4];simp[dl];grind
    rw[this];decide
  have hc:∀k,k<n+1→0≤lam (n+1) G0 (fun j=>dl j n) k:=fun k hk=>by
    have:lam (n+1) G0 (fun j=>dl j n) k=G0 n k:=by
      show S (fun i=>dl i n*G0 i k) (n+1)=_
      rw[zeJ (p:=n) (Nat.lt_succ_self n) (fun i _ hne=>by rw[zcr hne];grind),zdg];grind
    rw[this,hG0];dsimp only
    rw[if_neg (Nat.lt_irrefl n)]
    split
    · decide
    · rw[←qI_0,zno];exact hv k (by omega)
  have hmost:∀i,i<b.length→(0:Int)≤zbK b i:=fun i hi=>by
    have:=(zjV h _ (zna (k:=i) (by rw[←hb];exact hi))).2.2.1
    rw[←hb] at this;exact this
  obtain ⟨B,G,k1,k2,k3,k4,k5,k6⟩:=lp (n:=n+1) (M:=b.length) (a:=bQ b) (b:=fun i=>qI (zbK b i)) (c:=fun j=>dl j n) (x0:=fun _=>0) (Q:=fun B=>D (n+1) (rw' (bQ b) B)≠0) l0 m0 hI hc hD
    (fun i hi=>by
      rw[S_z (fun j _=>by grind),←qI_0,zno];exact hmost i hi)
    (fun B G p r hl hI hp hr hne hq=>by
      have e:rw' (bQ b) (B.set p r)=pivA (rw' (bQ b) B) p (bQ b r):=by
        funext k
        simp only[rw',pivA]
        rw[zhR (by omega)]
        by_cases e:k=p
        · rw[if_pos e,if_pos e]
        · rw[if_neg e,if_neg e]
      rw[e,zxn (by omega) hp hI]
      intro h0
      rcases Rat.mul_eq_zero.1 h0 with h0|h0
      · exact hne h0
      · exact hq h0)
  obtain⟨B,G,hF,hs⟩:=zpp (by omega) (⟨k1,k2,k3,k4,k5,k6⟩:Fin' (n+1) b.length (bQ b) (fun i=>qI (zbK b i)) (fun j=>dl j n) B G)
  have hcl:(B.map Int.ofNat).length=n+1:=by rw[List.length_map];exact hF.len
  have hcv:∀i,i<n+1→(vI (B.map Int.ofNat) i).toNat=bN B i:=fun i hi=>by
    have hi':i<B.length:=by rw[hF.len];exact hi
    simp[vI,bN,List.getD,List.getElem?_eq_getElem hi']
  have hcm:(B.map Int.ofNat)∈zb9 (n+1) 0 b.length:=zjR (n+1) 0 b.length B hF.len hs fun x hx=>⟨Nat.zero_le _,by have:=hF.lt x hx;omega⟩
  have hgc:goodA b (B.map Int.ofNat):=by
    have:=zel h (B.map Int.ofNat) (by rw[←hb,←hn];exact hcm)
    rw[hb];exact this
  unfold zfd zlj
  rw[←hb,←hn]
  refine zi1 hcm (zt6 hgc ?_ (x:=ptX (n+1) (fun i=>qI (zbK b i)) B G) (y:=lam (n+1) G (fun j=>dl j n)) ?_ ?_ ?_ ?_)
  · rw[hcl,zdZ (n+1) (A':=rw' (bQ b) B) (fun i j hi hj=>by rw[hcv i hi])]
    exact hF.det
  · rw[hcl]
    intro i hi
    rw[hcv i hi];exact zs8 hF.inv hi
  · rw[hcl];exact hF.x
  · rw[hcl]
    intro j hj
    rw[zas (n+1) (g:=fun k=>lam (n+1) G (fun j=>dl j n) k*rw' (bQ b) B k j) (fun k hk=>by rw[hcv k hk])]
    exact co hF.inv (fun j=>dl j n) hj
  · rw[hcl];exact hF.y
end Go.Eng.Ar
namespace Go.Eng.Ar
open Go.Eng Go.Proofs
set_option linter.all false
set_option maxRecDepth 100000
set_option maxHeartbeats 8000000
abbrev pK (n:Nat):Prop:=n≤1000
def cmpI (n d m k:Int):Int:=if n*k<m*d then -1 else if m*d<n*k then 1 else 0
abbrev pCmp (n d m k:Int):Prop:=(-1000000000000000000≤n∧n≤1000000000000000000)∧(0<d∧d≤1000000000000000000)∧(-1000000000000000000≤m∧m≤1000000000000000000)∧0<k∧k≤1000000000000000000
theorem zk1 {n d:Int} (hd:0<d):n - d<n / d*d∧n / d*d≤n∧n=n / d*d+n % d∧0≤n % d∧n % d<d:=by
  have h1:=Int.emod_nonneg n (show d≠0 by omega)
  have h2:=Int.emod_lt_of_pos n hd
  have h3:=Int.emod_def n d
  rw[Int.mul_comm] at h3
  omega
theorem zsw {n d m k:Int} (hd:0<d) (hk:0<k) (h:n / d<m / k):cmpI n d m k = -1:=by
  obtain⟨a1,a2,a3,a4,a5⟩:=zk1 (n:=n) hd
  obtain⟨b1,b2,b3,b4,b5⟩:=zk1 (n:=m) hk
  refine if_pos ?_
  have h1:n+1≤(m / k)*d:=by
    have:(n / d+1)*d≤(m / k)*d:=Int.mul_le_mul_of_nonneg_right (by omega) (by omega)
    rw[Int.add_mul,Int.one_mul] at this;omega
  have h2:(n+1)*k≤(m / k)*d*k:=Int.mul_le_mul_of_nonneg_right h1 (by omega)
  have h3:(m / k*k)*d≤m*d:=Int.mul_le_mul_of_nonneg_right b2 (by omega)
  have h4:(m / k)*d*k=(m / k*k)*d:=by rw[Int.mul_assoc,Int.mul_comm d k,←Int.mul_assoc]
  rw[Int.add_mul,Int.one_mul] at h2
  omega
theorem ztU (n d m k:Int):cmpI n d m k = -cmpI m k n d:=by
  unfold cmpI
  by_cases h1:n*k<m*d
  · rw[if_pos h1,if_neg (by omega),if_pos h1]
  · rw[if_neg h1]
    by_cases h2:m*d<n*k
    · rw[if_pos h2,if_pos h2];rfl
    · rw[if_neg h2,if_neg h2,if_neg h1];rfl
theorem zv8 {n d m k:Int} (hd:0<d) (hk:0<k) (h:m / k<n / d):cmpI n d m k=1:=by
  rw[ztU,zsw hk hd h];rfl
theorem zjU {n d m k p:Int}:cmpI n d m k=cmpI (n - p*d) d (m - p*k) k:=by
  have e1:(n - p*d)*k=n*k - p*d*k:=Int.sub_mul _ _ _
  have e2:(m - p*k)*d=m*d - p*d*k:=by rw[Int.sub_mul,Int.mul_assoc p k d,Int.mul_comm k d,←Int.mul_assoc]
  unfold cmpI
  rw[e1,e2]
  generalize n*k=a
  generalize m*d=b
  generalize p*d*k=c
  by_cases h1:a<b
  · rw[if_pos h1,if_pos (show a - c<b - c by omega)]
  · rw[if_neg h1,if_neg (show ¬a - c<b - c by omega)]
    by_cases h2:b<a
    · rw[if_pos h2,if_pos (show b - c<a - c by omega)]
    · rw[if_neg h2,if_neg (show ¬b - c<a - c by omega)]
theorem zro {n d m k:Int}:cmpI k m d n=cmpI n d m k:=by
  unfold cmpI;rw[Int.mul_comm k n,Int.mul_comm d m]
theorem zv9 {d k:Int}:cmpI 0 d 0 k=0:=by unfold cmpI;rw[Int.zero_mul,Int.zero_mul];rfl
theorem zxd {d m k:Int} (hd:0<d) (hm:0<m):cmpI 0 d m k = -1:=by
  refine if_pos ?_;rw[Int.zero_mul];exact Int.mul_pos hm hd
theorem zxc {n d k:Int} (hk:0<k) (hn:0<n):cmpI n d 0 k=1:=by
  unfold cmpI
  have:=Int.mul_pos hn hk
  rw[Int.zero_mul,if_neg (by omega),if_pos this]
@[reducible] def zjk:Spec:={pats:=[.dat I64,.dat I64,.dat I64,.dat I64],res:=[{t:=I64}],pre:=fun x=>pCmp x.1 x.2.1 x.2.2.1 x.2.2.2.1,f:=fun x=>(cmpI x.1 x.2.1 x.2.2.1 x.2.2.2.1,())}
def zwa (c:Int):LoopAnn:={σ:=Int×Int×Int×Int,pat:=fun s=>[sI 0 s.1,sI 1 s.2.1,sI 2 s.2.2.1,sI 3 s.2.2.2],inv:=fun s=>pCmp s.1 s.2.1 s.2.2.1 s.2.2.2∧cmpI s.1 s.2.1 s.2.2.1 s.2.2.2=c,meas:=fun s=>(s.2.1+s.2.2.2).toNat}
theorem h45:Ok 45 zjk:=by
  refine mk (ctr:=[(82,zim)]) ⟨h82,trivial⟩ (nt:=47) Tryz.func45 rfl rfl rfl rfl (by kernel_rfl) (by kernel_rfl) (fun x=>[fun _=>zwa (cmpI x.1 x.2.1 x.2.2.1 x.2.2.2.1)]) ?_
  rintro⟨(n0:Int),(d0:Int),(m0:Int),(k0:Int),⟨⟩⟩ (h:pCmp n0 d0 m0 k0)
  repeat' (intro hzz;(try (rename Two=>hq;cases hq));(try dsimp only at hzz);(try simp only[zad,zac,eqD,inR,big,zab,zB] at hzz);(try simp only[zad,zac,eqD,inR,big,zab,zB,zfD] at hzz);(try (revert hzz;intro _)))
  all_goals try (rename Unit=>hq;clear hq)
  all_goals try ((with_reducible refine Held.mk ?_);(with_reducible (first|refine Frz.mk ?_|refine And.intro (Frz.mk ?_) ?_|refine And.intro ?_ (Frz.mk ?_)));repeat' first|exact True.intro|(change _=_;with_reducible rfl)|refine And.intro ?_ ?_|(with_reducible refine Frz.mk ?_))
  all_goals try (refine Held.mk ?_;(try dsimp only at *);(try simp only[zad,zac,eqD,inR,big,zab,zB] at *);(try simp only[zad,zac,eqD,inR,big,zab,zB,zfD] at *))
  all_goals try omega
  ·
    refine zaj.mk ?_
    refine Exists.intro (n0,d0,m0,k0) ?_
    refine And.intro (Leaf.mk ?_) ?_
    · repeat' first|exact True.intro|refine And.intro ?_ ?_
      all_goals try ((change _=_<;>try dsimp only)<;>try with_reducible rfl)
      all_goals try omega
    exact⟨h,rfl⟩
  · rename_i s hs h
    rw[←hs.2];exact (zsw hs.1.2.1.1 hs.1.2.2.2.1 h).symm
  · rename_i s hs h1 h
    rw[←hs.2];exact (zv8 hs.1.2.1.1 hs.1.2.2.2.1 h).symm
  all_goals (try (rename_i s hs h1 h2;obtain⟨⟨q1,q2,q3,q4⟩,q5⟩:=hs;have f1:=zk1 (n:=s.1) q2.1;have f2:=zk1 (n:=s.2.2.1) q4.1;omega))
  · rename_i s hs h1 h2 h3 h4
    obtain⟨⟨q1,q2,q3,q4⟩,q5⟩:=hs
    rw[←q5,zjU (p:=s.1 / s.2.1),h3,show s.1 / s.2.1=s.2.2.1 / s.2.2.2 from Int.le_antisymm h2 h1,h4];exact zv9.symm
  · rename_i s hs h1 h2 h3 h4 h5
    obtain⟨⟨q1,q2,q3,q4⟩,q5⟩:=hs
    have f2:=zk1 (n:=s.2.2.1) q4.1
    rw[←q5,zjU (p:=s.1 / s.2.1),h3,show s.1 / s.2.1=s.2.2.1 / s.2.2.2 from Int.le_antisymm h2 h1]
    exact (zxd q2.1 (by omega)).symm
  · rename_i s hs h1 h2 h3 h4 h5
    obtain⟨⟨q1,q2,q3,q4⟩,q5⟩:=hs
    have f1:=zk1 (n:=s.1) q2.1
    rw[←q5,zjU (p:=s.2.2.1 / s.2.2.2),h5,←show s.1 / s.2.1=s.2.2.1 / s.2.2.2 from Int.le_antisymm h2 h1]
    exact (zxc q4.1 (by omega)).symm
  · rename_i s hs h1 h2 h3 h3' h4
    obtain⟨⟨q1,q2,q3,q4⟩,q5⟩:=hs
    have f1:=zk1 (n:=s.1) q2.1
    have f2:=zk1 (n:=s.2.2.1) q4.1
    have P:pCmp s.2.2.2 (s.2.2.1 - s.2.2.1 / s.2.2.2*s.2.2.2) s.2.1 (s.1 - s.1 / s.2.1*s.2.1):=⟨⟨by omega,by omega⟩,⟨by omega,by omega⟩,⟨by omega,by omega⟩,by omega,by omega⟩
    refine zaj.mk ?_
    refine Exists.intro (s.2.2.2,s.2.2.1 - s.2.2.1 / s.2.2.2*s.2.2.2,s.2.1,s.1 - s.1 / s.2.1*s.2.1) ?_
    refine And.intro (Leaf.mk ?_) ?_
    · repeat' first|exact True.intro|refine And.intro ?_ ?_
      all_goals try ((change _=_<;>try dsimp only)<;>try with_reducible rfl)
      all_goals try omega
    refine⟨⟨P,?_⟩,?_⟩
    · show cmpI s.2.2.2 (s.2.2.1 - s.2.2.1 / s.2.2.2*s.2.2.2) s.2.1 (s.1 - s.1 / s.2.1*s.2.1)=_
      rw[zro,←q5,zjU (n:=s.1) (p:=s.1 / s.2.1),show s.1 / s.2.1=s.2.2.1 / s.2.2.2 from Int.le_antisymm h2 h1]
    · show (s.2.2.1 - s.2.2.1 / s.2.2.2*s.2.2.2+(s.1 - s.1 / s.2.1*s.2.1)).toNat<(s.2.1+s.2.2.2).toNat
      omega
theorem zqC {a b:Int}:∃g:Int,0≤g∧gcd2 a b=g∧a=Int.tdiv a g*g∧b=Int.tdiv b g*g:=by
  refine⟨gcd2 a b,Int.natCast_nonneg _,rfl,?_,?_⟩
  · exact (Int.tdiv_mul_cancel (Int.ofNat_dvd_left.2 (Nat.gcd_dvd_left _ _))).symm
  · exact (Int.tdiv_mul_cancel (Int.ofNat_dvd_left.2 (Nat.gcd_dvd_right _ _))).symm
@[reducible] def zsQ:Spec:={pats:=[.dat I64],res:=[{t:=I64}],pre:=fun x=>(x.1:Int).natAbs≤9000000000000000000,f:=fun x=>(((x.1:Int).natAbs:Int),())}
theorem h152:Ok 152 zsQ:=by
  refine mk (ctr:=[]) trivial (nt:=7) Tryz.func152 rfl rfl rfl rfl (by kernel_rfl) (by kernel_rfl) (fun _=>[]) ?_
  rintro⟨(n:Int),⟨⟩⟩ (h:n.natAbs≤9000000000000000000)
  repeat' (intro hzz;(try (rename Two=>hq;cases hq));(try dsimp only at hzz);(try simp only[zad,zac,eqD,inR,big,zab,zB] at hzz);(try (revert hzz;intro _)))
  all_goals try (rename Unit=>hq;clear hq)
  all_goals try ((with_reducible refine Held.mk ?_);(with_reducible (first|refine Frz.mk ?_|refine And.intro (Frz.mk ?_) ?_|refine And.intro ?_ (Frz.mk ?_)));repeat' first|exact True.intro|(change _=_;with_reducible rfl)|refine And.intro ?_ ?_|(with_reducible refine Frz.mk ?_))
  all_goals try (refine Held.mk ?_;(try dsimp only at *);(try simp only[zad,zac,eqD,inR,big,zab,zB] at *))
  all_goals try omega
  · simp only[cond_true];split<;>omega
@[reducible] def sGcd:Spec:={pats:=[.dat I64,.dat I64],res:=[{t:=I64}],pre:=fun x=>(x.1:Int).natAbs≤9000000000000000000∧(x.2.1:Int).natAbs≤9000000000000000000,f:=fun x=>(gcd2 x.1 x.2.1,())}
def zvO (a b:Int):LoopAnn:={σ:=Int×Int,pat:=fun s=>[sI 0 s.1,sI 1 s.2],inv:=fun s=>Nat.gcd s.1.natAbs s.2.natAbs=Nat.gcd a.natAbs b.natAbs∧s.1.natAbs≤9000000000000000000∧s.2.natAbs≤9000000000000000000,meas:=fun s=>s.2.natAbs}
theorem h167:Ok 167 sGcd:=by
  refine mk (ctr:=[(152,zsQ)]) ⟨h152,trivial⟩ (nt:=13) Tryz.func167 rfl rfl rfl rfl (by kernel_rfl) (by kernel_rfl) (fun x=>[fun _=>zvO x.1 x.2.1]) ?_
  rintro⟨(a:Int),(b:Int),⟨⟩⟩ ⟨(h1:a.natAbs≤9000000000000000000),(h2:b.natAbs≤9000000000000000000)⟩
  repeat' (intro hzz;(try (rename Two=>hq;cases hq));(try dsimp only at hzz);(try simp only[zad,zac,eqD,inR,big,zab,zB] at hzz);(try (revert hzz;intro _)))
  all_goals try (rename Unit=>hq;clear hq)
  all_goals try ((with_reducible refine Held.mk ?_);(with_reducible (first|refine Frz.mk ?_|refine And.intro (Frz.mk ?_) ?_|refine And.intro ?_ (Frz.mk ?_)));repeat' first|exact True.intro|(change _=_;with_reducible rfl)|refine And.intro ?_ ?_|(with_reducible refine Frz.mk ?_))
  all_goals try (refine Held.mk ?_;(try dsimp only at *);(try simp only[zad,zac,eqD,inR,big,zab,zB] at *))
  all_goals try omega
  ·
    refine zaj.mk ?_
    refine Exists.intro (a,b) ?_
    refine And.intro (Leaf.mk ?_) ?_
    · repeat' first|exact True.intro|refine And.intro ?_ ?_
      all_goals try ((change _=_<;>try dsimp only)<;>try with_reducible rfl)
      all_goals try omega
    exact⟨rfl,h1,h2⟩
  · rename_i s hs hn
    refine zaj.mk ?_
    refine Exists.intro (s.2,s.1.tmod s.2) ?_
    refine And.intro (Leaf.mk ?_) ?_
    · repeat' first|exact True.intro|refine And.intro ?_ ?_
      all_goals try ((change _=_<;>try dsimp only)<;>try with_reducible rfl)
      all_goals try omega
    refine⟨⟨?_,hs.2.2,?_⟩,?_⟩
    · refine Eq.trans ?_ hs.1
      show Nat.gcd s.2.natAbs (s.1.tmod s.2).natAbs=_
      rw[Int.natAbs_tmod,Nat.gcd_comm,←Nat.gcd_rec,Nat.gcd_comm]
    · show (s.1.tmod s.2).natAbs≤_
      rw[Int.natAbs_tmod]
      exact Nat.le_trans (Nat.mod_le _ _) hs.2.1
    · show (s.1.tmod s.2).natAbs<s.2.natAbs
      rw[Int.natAbs_tmod]
      exact Nat.mod_lt _ (Nat.pos_of_ne_zero (fun h=>hn (Int.natAbs_eq_zero.1 h)))
  · rename_i s hs hn
    have e:=hs.1
    have hn:s.2=0:=hn
    rw[hn] at e
    have e:s.1.natAbs=Nat.gcd a.natAbs b.natAbs:=by simpa using e
    unfold gcd2;rw[←e]
abbrev zvv (a b:Int):Prop:=a.natAbs≤9000000000000000000∧b.natAbs≤9000000000000000000∧0<b
@[reducible] def znl:Spec:={pats:=[.dat I64,.dat I64],res:=[{t:=zbY}],pre:=fun x=>zvv x.1 x.2.1,f:=fun x=>((Int.tdiv x.1 (gcd2 x.1 x.2.1),Int.tdiv x.2.1 (gcd2 x.1 x.2.1),()),())}
theorem zmN {a b:Int} (h:0<b):0<gcd2 a b:=by
  unfold gcd2
  have:Nat.gcd a.natAbs b.natAbs≠0:=fun e=>by have:=(Nat.gcd_eq_zero_iff.1 e).2;omega
  omega
theorem h150:Ok 150 znl:=by
  refine mk (ctr:=[(167,sGcd)]) ⟨h167,trivial⟩ (nt:=20) Tryz.func150 rfl rfl rfl rfl (by kernel_rfl) (by kernel_rfl) (fun _=>[]) ?_
  rintro⟨(a:Int),(b:Int),⟨⟩⟩ ⟨(h1:a.natAbs≤9000000000000000000),(h2:b.natAbs≤9000000000000000000),(h3:0<b)⟩
  have hg:=zmN (a:=a) h3
  have t1:=znh (b:=gcd2 a b) h1
  have t2:=znh (b:=gcd2 a b) h2
  repeat' (intro hzz;(try (rename Two=>hq;cases hq));(try dsimp only at hzz);(try simp only[zad,zac,eqD,inR,big,zab,zB] at hzz);(try (revert hzz;intro _)))
  all_goals try (rename Unit=>hq;clear hq)
  all_goals try ((with_reducible refine Held.mk ?_);(with_reducible (first|refine Frz.mk ?_|refine And.intro (Frz.mk ?_) ?_|refine And.intro ?_ (Frz.mk ?_)));repeat' first|exact True.intro|(change _=_;with_reducible rfl)|refine And.intro ?_ ?_|(with_reducible refine Frz.mk ?_))
  all_goals try (refine Held.mk ?_;(try dsimp only at *);(try simp only[zad,zac,eqD,inR,big,zab,zB] at *))
  all_goals try omega
theorem h116:Ok 116 znl:=by
  refine mk (ctr:=[(150,znl)]) ⟨h150,trivial⟩ (nt:=14) Tryz.func116 rfl rfl rfl rfl (by kernel_rfl) (by kernel_rfl) (fun _=>[]) ?_
  rintro⟨(a:Int),(b:Int),⟨⟩⟩ ⟨(h1:a.natAbs≤9000000000000000000),(h2:b.natAbs≤9000000000000000000),(h3:0<b)⟩
  repeat' (intro hzz;(try (rename Two=>hq;cases hq));(try dsimp only at hzz);(try simp only[zad,zac,eqD,inR,big,zab,zB] at hzz);(try (revert hzz;intro _)))
  all_goals try (rename Unit=>hq;clear hq)
  all_goals try ((with_reducible refine Held.mk ?_);(with_reducible (first|refine Frz.mk ?_|refine And.intro (Frz.mk ?_) ?_|refine And.intro ?_ (Frz.mk ?_)));repeat' first|exact True.intro|(change _=_;with_reducible rfl)|refine And.intro ?_ ?_|(with_reducible refine Frz.mk ?_))
  all_goals try (refine Held.mk ?_;(try dsimp only at *);(try simp only[zad,zac,eqD,inR,big,zab,zB] at *))
  all_goals try omega
@[reducible] def zoz:Spec:={pats:=[.dat (.sl I64)],res:=[{t:=.sl I64}],pre:=fun x=>pK (List.length (α:=Int) x.1),f:=fun x=>(x.1,())}
theorem h109:Ok 109 zoz:=by
  refine mk (ctr:=[]) trivial (nt:=6) Tryz.func109 rfl rfl rfl rfl (by kernel_rfl) (by kernel_rfl) (fun _=>[]) ?_
  rintro⟨(l:List Int),⟨⟩⟩ (hp:l.length≤1000)
  repeat' (intro hzz;(try (rename Two=>hq;cases hq));(try dsimp only at hzz);(try simp only[zad,zac,eqD,inR,big,zab,zB] at hzz);(try (revert hzz;intro _)))
  all_goals try (rename Unit=>hq;clear hq)
  all_goals try ((with_reducible refine Held.mk ?_);(with_reducible (first|refine Frz.mk ?_|refine And.intro (Frz.mk ?_) ?_|refine And.intro ?_ (Frz.mk ?_)));repeat' first|exact True.intro|(change _=_;with_reducible rfl)|refine And.intro ?_ ?_|(with_reducible refine Frz.mk ?_))
  all_goals try (refine Held.mk ?_;(try dsimp only at *);(try simp only[zad,zac,eqD,inR,big,zab,zB] at *))
  · show 0+l.length≤2147483648;omega
  · rfl
abbrev zkE (l:List (List Int)):Prop:=pK l.length∧∀i,i<l.length→pK (rowN l i).length
@[reducible] def zrU:Spec:={pats:=[.dat MatT],res:=[{t:=MatT}],pre:=fun x=>zkE x.1,f:=fun x=>(x.1,())}
theorem h103:Ok 103 zrU:=by
  refine mk (ctr:=[(109,zoz)]) ⟨h109,trivial⟩ (nt:=20) Tryz.func103 rfl rfl rfl rfl (by kernel_rfl) (by kernel_rfl) (fun x=>[fun _=>{σ:=Nat,pat:=fun k=>sI 4 k::zg8 3 60003 76 (tab (rowN x.1) k),inv:=fun k=>k≤List.length (α:=List Int) x.1,meas:=fun k=>List.length (α:=List Int) x.1 - k}]) ?_
  rintro⟨(l:List (List Int)),⟨⟩⟩ ⟨(hp:l.length≤1000),(hr:∀i,i<l.length→(rowN l i).length≤1000)⟩
  repeat' (intro hzz;(try (rename Two=>hq;cases hq));(try dsimp only at hzz);(try simp only[zad,zac,eqD,inR,big,zab,zB] at hzz);(try simp only[zad,zac,eqD,inR,big,zab,zB,zaS,Int.toNat_natCast,zal] at hzz);(try (revert hzz;intro _)))
  all_goals try (rename Unit=>hq;clear hq)
  all_goals try ((with_reducible refine Held.mk ?_);(with_reducible (first|refine Frz.mk ?_|refine And.intro (Frz.mk ?_) ?_|refine And.intro ?_ (Frz.mk ?_)));repeat' first|exact True.intro|(change _=_;with_reducible rfl)|refine And.intro ?_ ?_|(with_reducible refine Frz.mk ?_))
  all_goals try (refine Held.mk ?_;(try dsimp only at *);(try simp only[zad,zac,eqD,inR,big,zab,zB] at *);(try simp only[zad,zac,eqD,inR,big,zab,zB,zaS,Int.toNat_natCast,zal] at *))
  all_goals try omega
  ·
    refine zaj.mk ?_
    refine Exists.intro (0:Nat) ?_
    refine And.intro (Leaf.mk ?_) ?_
    · repeat' first|exact True.intro|refine And.intro ?_ ?_
      all_goals try ((change _=_<;>try dsimp only)<;>try with_reducible rfl)
      all_goals try omega
      all_goals (rfl)
    exact Nat.zero_le _
  · rename_i k hk hlt
    exact hr k (by omega)
  · rename_i k hk hlt
    show k+1≤2147483648;omega
  · rename_i k hk hlt
    refine zaj.mk ?_
    refine Exists.intro (k+1) ?_
    refine And.intro (Leaf.mk ?_) ?_
    · repeat' first|exact True.intro|refine And.intro ?_ ?_
      all_goals try ((change _=_<;>try dsimp only)<;>try with_reducible rfl)
      all_goals try omega
      all_goals (rfl)
    exact⟨(show k+1≤l.length by omega),(show l.length - (k+1)<l.length - k by omega)⟩
  · rename_i k hk hlt
    rw[show k=l.length by omega];exact (zq6 [] l).symm
@[reducible] def zrT:Spec:={pats:=[.dat zeI],res:=[{t:=zeI}],pre:=fun x=>zkE x.1.1,f:=fun x=>(x.1,())}
theorem h42:Ok 42 zrT:=by
  refine mk (ctr:=[(103,zrU)]) ⟨h103,trivial⟩ (nt:=8) Tryz.func42 rfl rfl rfl rfl (by kernel_rfl) (by kernel_rfl) (fun _=>[]) ?_
  rintro⟨⟨(t:List (List Int)),(cap:Int),⟨⟩⟩,⟨⟩⟩ (h:zkE t)
  repeat' (intro hzz;(try (rename Two=>hq;cases hq));(try dsimp only at hzz);(try simp only[zad,zac,eqD,inR,big,zab,zB] at hzz);(try (revert hzz;intro _)))
  all_goals try (rename Unit=>hq;clear hq)
  all_goals try ((with_reducible refine Held.mk ?_);(with_reducible (first|refine Frz.mk ?_|refine And.intro (Frz.mk ?_) ?_|refine And.intro ?_ (Frz.mk ?_)));repeat' first|exact True.intro|(change _=_;with_reducible rfl)|refine And.intro ?_ ?_|(with_reducible refine Frz.mk ?_))
  all_goals try (refine Held.mk ?_;(try dsimp only at *);(try simp only[zad,zac,eqD,inR,big,zab,zB] at *))
  · exact h
abbrev pWgt (a b c:Nat):Prop:=pK a∧pK b∧pK c
@[reducible] def zrS:Spec:={pats:=[.dat zdY],res:=[{t:=zdY}],pre:=fun x=>pWgt (List.length (α:=Int) x.1.2.1) (List.length (α:=Int) x.1.2.2.1) (List.length (α:=Int) x.1.2.2.2.1),f:=fun x=>(x.1,())}
theorem h56:Ok 56 zrS:=by
  refine mk (ctr:=[(109,zoz)]) ⟨h109,trivial⟩ (nt:=16) Tryz.func56 rfl rfl rfl rfl (by kernel_rfl) (by kernel_rfl) (fun _=>[]) ?_
  rintro⟨⟨(d:Int),(l:List Int),(m:List Int),(c:List Int),⟨⟩⟩,⟨⟩⟩ ⟨(h1:pK l.length),(h2:pK m.length),(h3:pK c.length)⟩
  repeat' (intro hzz;(try (rename Two=>hq;cases hq));(try dsimp only at hzz);(try simp only[zad,zac,eqD,inR,big,zab,zB] at hzz);(try (revert hzz;intro _)))
  all_goals try (rename Unit=>hq;clear hq)
  all_goals try ((with_reducible refine Held.mk ?_);(with_reducible (first|refine Frz.mk ?_|refine And.intro (Frz.mk ?_) ?_|refine And.intro ?_ (Frz.mk ?_)));repeat' first|exact True.intro|(change _=_;with_reducible rfl)|refine And.intro ?_ ?_|(with_reducible refine Frz.mk ?_))
  all_goals try (refine Held.mk ?_;(try dsimp only at *);(try simp only[zad,zac,eqD,inR,big,zab,zB] at *))
  · exact h1
  · exact h2
  · exact h3
def zgs (t:List (List Int)):Nat→Bool
  | 0=>true
  | k+1=>zgs t k&&decide ((rowN t k).length≤5)
theorem zkt {t:List (List Int)} {k:Nat} (h:5<(rowN t k).length):∀n,k<n→zgs t n=false
  | 0,hk=>absurd hk (Nat.not_lt_zero _)
  | n+1,hk=>by
    simp only[zgs]
    by_cases e:k=n
    · subst e;rw[decide_eq_false (by omega),Bool.and_false]
    · rw[zkt h n (by omega),Bool.false_and]
theorem zio {t:List (List Int)}:∀ {n:Nat},zgs t n=true→∀k,k<n→(rowN t k).length≤5
  | n+1,h,k,hk=>by
    simp only[zgs,Bool.and_eq_true] at h
    by_cases e:k=n
    · subst e;exact of_decide_eq_true h.2
    · exact zio h.1 k (by omega)
def smT (t:List (List Int)):Bool:=decide (t.length≤6)&&zgs t t.length
@[reducible] def zou:Spec:={pats:=[.dat zeI],res:=[{t:=.bool}],pre:=fun _=>True,f:=fun x=>(smT x.1.1,())}
theorem h40:Ok 40 zou:=by
  refine mk (ctr:=[]) trivial (nt:=22) Tryz.func40 rfl rfl rfl rfl (by kernel_rfl) (by kernel_rfl) (fun x=>[fun _=>{σ:=Nat,pat:=fun k=>[sI 3 k],inv:=fun k=>k≤List.length (α:=List Int) x.1.1∧zgs x.1.1 k=true,meas:=fun k=>List.length (α:=List Int) x.1.1 - k}]) ?_
  rintro⟨⟨(t:List (List Int)),(cap:Int),⟨⟩⟩,⟨⟩⟩ _
  repeat' (intro hzz;(try (rename Two=>hq;cases hq));(try dsimp only at hzz);(try simp only[zad,zac,eqD,inR,big,zab,zB] at hzz);(try simp only[zad,zac,eqD,inR,big,zab,zB,zaS,Int.toNat_natCast] at hzz);(try (revert hzz;intro _)))
  all_goals try (rename Unit=>hq;clear hq)
  all_goals try ((with_reducible refine Held.mk ?_);(with_reducible (first|refine Frz.mk ?_|refine And.intro (Frz.mk ?_) ?_|refine And.intro ?_ (Frz.mk ?_)));repeat' first|exact True.intro|(change _=_;with_reducible rfl)|refine And.intro ?_ ?_|(with_reducible refine Frz.mk ?_))
  all_goals try (refine Held.mk ?_;(try dsimp only at *);(try simp only[zad,zac,eqD,inR,big,zab,zB] at *);(try simp only[zad,zac,eqD,inR,big,zab,zB,zaS,Int.toNat_natCast] at *))
  all_goals try omega
  · rename_i h
    unfold smT;rw[decide_eq_false (by omega)];rfl
  · rename_i h
    refine zaj.mk ?_
    refine Exists.intro (0:Nat) ?_
    refine And.intro (Leaf.mk ?_) ?_
    · repeat' first|exact True.intro|refine And.intro ?_ ?_
      all_goals try ((change _=_<;>try dsimp only)<;>try with_reducible rfl)
      all_goals try omega
      all_goals (rfl)
    exact⟨Nat.zero_le _,rfl⟩
  · rename_i h k hk hlt h5
    have h5:(5:Int)<((rowN t k).length:Int):=h5
    unfold smT;rw[zkt (k:=k) (by omega) _ (by omega),Bool.and_false]
  · rename_i h k hk hlt h5
    have h5:((rowN t k).length:Int)≤5:=h5
    refine zaj.mk ?_
    refine Exists.intro (k+1) ?_
    refine And.intro (Leaf.mk ?_) ?_
    · repeat' first|exact True.intro|refine And.intro ?_ ?_
      all_goals try ((change _=_<;>try dsimp only)<;>try with_reducible rfl)
      all_goals try omega
      all_goals (rfl)
    exact⟨⟨(show k+1≤t.length by omega),(show (zgs t k&&decide ((rowN t k).length≤5))=true by rw[hk.2,decide_eq_true (by omega)];rfl)⟩,(show t.length - (k+1)<t.length - k by omega)⟩
  · rename_i h k hk hlt
    have e:=hk.2
    rw[show k=t.length by omega] at e
    unfold smT;rw[e,decide_eq_true (by omega)];rfl
/-! ### The reference's tasks -/
theorem zne {l:List Int} {m:Int} {k:Nat} (hk:k<l.length) (h:¬(0≤vI l k∧vI l k≤m)):allE l m=2:=by
  unfold allE
  rw[if_pos]
  refine List.any_eq_true.2 ⟨vI l k,zgU hk,?_⟩
  simp only[outM];rw[show zaq (vI l k) 0 m=false from decide_eq_false h];rfl
theorem zdX {l:List Int} {m:Int} (h:∀i,i<l.length→0≤vI l i∧vI l i≤m):allE l m=0:=by
  unfold allE
  rw[if_neg]
  intro ha
  obtain⟨x,hx,h2⟩:=List.any_eq_true.1 ha
  obtain⟨i,hi,rfl⟩:=ziB hx
  have:=h i hi
  simp only[outM] at h2
  rw[show zaq (vI l i) 0 m=true from decide_eq_true this] at h2
  cases h2
theorem zgS {l:List Int} {m:Int}:allE l m=0∨allE l m=2:=by unfold allE;split<;>simp
def ctA1 (t:List (List Int)):LoopAnn:={σ:=Nat,pat:=fun k=>[sI 3 k],inv:=fun k=>k≤t.length∧zb8 (ncol t) (t.drop k)=zb8 (ncol t) t,meas:=fun k=>t.length - k}
def ctA2 (t:List (List Int)) (st:St):LoopAnn:=zfS 3 st fun i=>{σ:=Nat,pat:=fun k=>[sI 4 k],inv:=fun k=>k≤(rowN t i.toNat).length∧∀j,j<k→0≤vI (rowN t i.toNat) j∧vI (rowN t i.toNat) j≤100,meas:=fun k=>(rowN t i.toNat).length - k}
theorem h51:Ok 51 zls:=by
  refine mk (ctr:=[(29,zbH)]) ⟨h29,trivial⟩ (nt:=68) Tryz.func51 rfl rfl rfl rfl (by kernel_rfl) (by kernel_rfl) (fun x=>[fun _=>ctA1 x.1.1,ctA2 x.1.1]) ?_
  rintro⟨⟨(t:List (List Int)),(cap:Int),⟨⟩⟩,⟨⟩⟩ _
  repeat' (intro hzz;(try (rename Two=>hq;cases hq));(try dsimp only at hzz);(try simp only[zad,zac,eqD,inR,big,zab,zB] at hzz);(try simp only[zad,zac,eqD,inR,big,zab,zB,zaS,zbb,zav,zaq,Int.toNat_natCast] at hzz);(try (revert hzz;intro _)))
  all_goals try (rename Unit=>hq;clear hq)
  all_goals try ((with_reducible refine Held.mk ?_);(with_reducible (first|refine Frz.mk ?_|refine And.intro (Frz.mk ?_) ?_|refine And.intro ?_ (Frz.mk ?_)));repeat' first|exact True.intro|(change _=_;with_reducible rfl)|refine And.intro ?_ ?_|(with_reducible refine Frz.mk ?_))
  all_goals try (refine Held.mk ?_;(try dsimp only at *);(try simp only[zad,zac,eqD,inR,big,zab,zB] at *);(try simp only[zad,zac,eqD,inR,big,zab,zB,zaS,zbb,zav,zaq,Int.toNat_natCast] at *))
  · rename_i h
    unfold chkT;rw[if_pos (by omega)]
  · rename_i h1 h
    unfold chkT;rw[if_neg (by omega),if_pos (by omega)]
  · omega
  · rename_i h1 h2 h
    unfold chkT;rw[if_neg (by omega),if_neg (by omega),if_pos (show (t.getD 0 []).length=0 by omega)]
  · omega
  · rename_i h1 h2 h3 h
    unfold chkT;rw[if_neg (by omega),if_neg (by omega),if_neg (show ¬(t.getD 0 []).length=0 by omega),if_pos (show 3<(t.getD 0 []).length by omega)]
  · rename_i h1 h2 h3 h
    refine zaj.mk ?_
    refine Exists.intro (0:Nat) ?_
    refine And.intro (Leaf.mk ?_) ?_
    · repeat' first|exact True.intro|refine And.intro ?_ ?_
      all_goals try ((change _=_<;>try dsimp only)<;>try with_reducible rfl)
      all_goals try omega
      all_goals (rfl)
    exact⟨Nat.zero_le _,rfl⟩
  · rename_i h1 h2 h3 h4 k hk h;omega
  · omega
  · rename_i h1 h2 h3 h4 k hk hg h
    have e:=zdp (n0:=ncol t) (show k<t.length by omega)
    have h:¬((t.getD k []).length:Int)=((t.getD 0 []).length:Int):=h
    rw[if_neg (show ¬(t.getD k []).length=(t.getD 0 []).length by omega),hk.2] at e
    unfold chkT;rw[if_neg (by omega),if_neg (by omega),if_neg (show ¬(t.getD 0 []).length=0 by omega),if_neg (show ¬3<(t.getD 0 []).length by omega),e,if_neg (by decide)]
  · rename_i h1 h2 h3 h4 k hk hg h
    refine zaj.mk ?_
    refine Exists.intro (0:Nat) ?_
    refine And.intro (Leaf.mk ?_) ?_
    · repeat' first|exact True.intro|refine And.intro ?_ ?_
      all_goals try ((change _=_<;>try dsimp only)<;>try with_reducible rfl)
      all_goals try omega
      all_goals (rfl)
    exact⟨Nat.zero_le _,fun j hj=>absurd hj (Nat.not_lt_zero _)⟩
  · omega
  · omega
  · rename_i h1 h2 h3 h4 k hk hg h j hj hlt;omega
  · rename_i h1 h2 h3 h4 k hk hg h j hj hlt hn
    have e:=zdp (n0:=ncol t) (show k<t.length by omega)
    have h:((t.getD k []).length:Int)=((t.getD 0 []).length:Int):=h
    have hlt:(j:Int)<((t.getD k []).length:Int):=hlt
    have hA:allE (t.getD k []) 100=2:=zne (k:=j) (by omega) hn
    rw[if_pos (show (t.getD k []).length=(t.getD 0 []).length by omega),hA,if_neg (by decide),hk.2] at e
    unfold chkT;rw[if_neg (by omega),if_neg (by omega),if_neg (show ¬(t.getD 0 []).length=0 by omega),if_neg (show ¬3<(t.getD 0 []).length by omega),e,if_neg (by decide)]
  · rename_i h1 h2 h3 h4 k hk hg h j hj hlt hn
    have h:((t.getD k []).length:Int)=((t.getD 0 []).length:Int):=h
    have hlt:(j:Int)<((t.getD k []).length:Int):=hlt
    omega
  · rename_i h1 h2 h3 h4 k hk hg h j hj hlt hn
    have hlt:(j:Int)<((t.getD k []).length:Int):=hlt
    refine zaj.mk ?_
    refine Exists.intro (j+1) ?_
    refine And.intro (Leaf.mk ?_) ?_
    · repeat' first|exact True.intro|refine And.intro ?_ ?_
      all_goals try ((change _=_<;>try dsimp only)<;>try with_reducible rfl)
      all_goals try omega
      all_goals (rfl)
    refine⟨⟨(show j+1≤(t.getD k []).length by omega),fun i hi=>?_⟩,(show (t.getD k []).length - (j+1)<(t.getD k []).length - j by omega)⟩
    by_cases e:i=j
    · subst e;exact hn
    · exact hj.2 i (by omega)
  · rename_i h1 h2 h3 h4 k hk hg h j hj hlt;omega
  · rename_i h1 h2 h3 h4 k hk hg h j hj hlt
    have e:=zdp (n0:=ncol t) (show k<t.length by omega)
    have h:((t.getD k []).length:Int)=((t.getD 0 []).length:Int):=h
    have hlt:((t.getD k []).length:Int)≤(j:Int):=hlt
    have hA:allE (t.getD k []) 100=0:=zdX fun i hi=>hj.2 i (by omega)
    rw[if_pos (show (t.getD k []).length=(t.getD 0 []).length by omega),if_pos hA,hk.2] at e
    refine zaj.mk ?_
    refine Exists.intro (k+1) ?_
    refine And.intro (Leaf.mk ?_) ?_
    · repeat' first|exact True.intro|refine And.intro ?_ ?_
      all_goals try ((change _=_<;>try dsimp only)<;>try with_reducible rfl)
      all_goals try omega
      all_goals (rfl)
    exact⟨⟨by show k+1≤t.length;omega,e.symm⟩,by show t.length - (k+1)<t.length - k;omega⟩
  · rename_i h1 h2 h3 h4 k hk h hc
    have e:=hk.2
    rw[List.drop_eq_nil_of_le (by omega)] at e
    have e:(0:Int)=zb8 (ncol t) t:=e
    unfold chkT;rw[if_neg (by omega),if_neg (by omega),if_neg (show ¬(t.getD 0 []).length=0 by omega),if_neg (show ¬3<(t.getD 0 []).length by omega),←e,if_pos rfl,if_neg hc]
  · rename_i h1 h2 h3 h4 k hk h hc
    have e:=hk.2
    rw[List.drop_eq_nil_of_le (by omega)] at e
    have e:(0:Int)=zb8 (ncol t) t:=e
    unfold chkT;rw[if_neg (by omega),if_neg (by omega),if_neg (show ¬(t.getD 0 []).length=0 by omega),if_neg (show ¬3<(t.getD 0 []).length by omega),←e,if_pos rfl,if_pos hc]
def zeW (l:List Int) (m:Int):Bool:=decide (allE l m=0)
@[reducible] def sWi:Spec:={pats:=[.dat (.sl I64),.dat I64],res:=[{t:=.bool}],pre:=fun x=>pLen (List.length (α:=Int) x.1),f:=fun x=>(zeW x.1 x.2.1,())}
theorem h115:Ok 115 sWi:=by
  refine mk (ctr:=[(29,zbH)]) ⟨h29,trivial⟩ (nt:=19) Tryz.func115 rfl rfl rfl rfl (by kernel_rfl) (by kernel_rfl) (fun x=>[fun _=>{σ:=Nat,pat:=fun k=>[sI 5 k],inv:=fun k=>k≤List.length (α:=Int) x.1∧∀j,j<k→0≤vI x.1 j∧vI x.1 j≤x.2.1,meas:=fun k=>List.length (α:=Int) x.1 - k}]) ?_
  rintro⟨(l:List Int),(m:Int),⟨⟩⟩ (hp:pLen l.length)
  have hp':=hp.out
  repeat' (intro hzz;(try (rename Two=>hq;cases hq));(try dsimp only at hzz);(try simp only[zad,zac,eqD,inR,big,zab,zB] at hzz);(try simp only[zad,zac,eqD,inR,big,zab,zB,zav,zaq,Int.toNat_natCast] at hzz);(try (revert hzz;intro _)))
  all_goals try (rename Unit=>hq;clear hq)
  all_goals try ((with_reducible refine Held.mk ?_);(with_reducible (first|refine Frz.mk ?_|refine And.intro (Frz.mk ?_) ?_|refine And.intro ?_ (Frz.mk ?_)));repeat' first|exact True.intro|(change _=_;with_reducible rfl)|refine And.intro ?_ ?_|(with_reducible refine Frz.mk ?_))
  all_goals try (refine Held.mk ?_;(try dsimp only at *);(try simp only[zad,zac,eqD,inR,big,zab,zB] at *);(try simp only[zad,zac,eqD,inR,big,zab,zB,zav,zaq,Int.toNat_natCast] at *))
  all_goals try omega
  ·
    refine zaj.mk ?_
    refine Exists.intro (0:Nat) ?_
    refine And.intro (Leaf.mk ?_) ?_
    · repeat' first|exact True.intro|refine And.intro ?_ ?_
      all_goals try ((change _=_<;>try dsimp only)<;>try with_reducible rfl)
      all_goals try omega
      all_goals (rfl)
    exact⟨Nat.zero_le _,fun j hj=>absurd hj (Nat.not_lt_zero _)⟩
  · rename_i k hk hlt hn
    unfold zeW;rw[zne (k:=k) (by omega) hn];rfl
  · rename_i k hk hlt hn
    refine zaj.mk ?_
    refine Exists.intro (k+1) ?_
    refine And.intro (Leaf.mk ?_) ?_
    · repeat' first|exact True.intro|refine And.intro ?_ ?_
      all_goals try ((change _=_<;>try dsimp only)<;>try with_reducible rfl)
      all_goals try omega
      all_goals (rfl)
    refine⟨⟨(show k+1≤l.length by omega),fun i hi=>?_⟩,(show l.length - (k+1)<l.length - k by omega)⟩
    by_cases e:i=k
    · subst e;exact hn
    · exact hk.2 i (by omega)
  · rename_i k hk hlt
    unfold zeW;rw[zdX fun i hi=>hk.2 i (by omega)];rfl
def gets (t:List (List Int)) (l:List Int) (k:Nat):List Int:=tab (fun i=>dotI (rowN t i) l) k
theorem zbU {t:List (List Int)} {l:List Int} {k i:Nat} (h:i<k):vI (gets t l k) i=dotI (rowN t i) l:=zaB (fun i=>dotI (rowN t i) l) 0 k i h
def opE0 (n:Nat) (d:Int) (l:List Int):Int:=if 1≤d∧d≤1000000000000 then (if l.length=n then allE l d else 10) else 2
def opE (t:List (List Int)) (cap d:Int) (l:List Int):Int:=if opE0 (ncol t) d l=0 then (if cap*d<mx (gets t l t.length) (t.length - 1) then 24 else 0) else opE0 (ncol t) d l
def lowP (a b:Int):zbY.Den:=(Int.tdiv a (gcd2 a b),Int.tdiv b (gcd2 a b),())
def opV (t:List (List Int)) (d:Int) (l:List Int):zbY.Den:=lowP (mn (gets t l t.length) (t.length - 1)) d
def opR (t:List (List Int)) (cap d:Int) (l:List Int):zbY.Den×Int×Unit:=if opE t cap d l=0 then (opV t d l,0,()) else ((0,0,()),opE t cap d l,())
def opRA (t:List (List Int)) (cap d:Int) (l:List Int):zbY.Den×Int×Unit:=if chkT t cap=0 then opR t cap d l else ((0,0,()),chkT t cap,())
@[reducible] def zsU:Spec:={pats:=[.dat zeI,.dat zrx],res:=[{t:=zbY},{t:=I64}],pre:=fun x=>pLen (List.length (α:=Int) x.2.1.2.1),f:=fun x=>opRA x.1.1 x.1.2.1 x.2.1.1 x.2.1.2.1}
@[reducible] def zmt:Spec:={zsU with pre:=fun x=>goodT x.1.1 x.1.2.1∧pLen (List.length (α:=Int) x.2.1.2.1),f:=fun x=>opR x.1.1 x.1.2.1 x.2.1.1 x.2.1.2.1}
theorem zcY {n:Nat} {d:Int} {l:List Int} (h:opE0 n d l=0):(1≤d∧d≤1000000000000)∧l.length=n∧∀i,i<l.length→0≤vI l i∧vI l i≤d:=by
  unfold opE0 at h
  split at h
  · rename_i h1
    split at h
    · rename_i h2;exact⟨h1,h2,zgm h⟩
    · cases h
  · cases h
theorem zlI {t:List (List Int)} {cap d:Int} {l:List Int} (h:opE t cap d l=0):opE0 (ncol t) d l=0∧mx (gets t l t.length) (t.length - 1)≤cap*d:=by
  unfold opE at h
  split at h
  · rename_i h1
    split at h
    · cases h
    · rename_i h2;exact⟨h1,by omega⟩
  · rename_i h1;exact absurd h h1
theorem zik {f:Nat→Int} {B:Int}:∀k:Nat,(∀i,i<k→0≤f i∧f i≤B)→0≤sm f k∧sm f k≤(k:Int)*B
  | 0,_=>⟨Int.le_refl _,by simp[sm]⟩
  | k+1,h=>by
    have h1:=zik k fun i hi=>h i (by omega)
    have h2:=h k (by omega)
    have e:(((k+1:Nat):Int)*B)=(k:Int)*B+B:=by rw[Int.natCast_add,Int.add_mul];simp
    rw[e]
    show 0≤sm f k+f k∧sm f k+f k≤_
    omega
theorem zcL {a b A B:Int} (h1:0≤a∧a≤A) (h2:0≤b∧b≤B):0≤a*b∧a*b≤A*B:=⟨Int.mul_nonneg h1.1 h2.1,Int.mul_le_mul h1.2 h2.2 h2.1 (Int.le_trans h1.1 h1.2)⟩
theorem zkW {t:List (List Int)} {cap d:Int} {l:List Int} (hg:goodT t cap) (h:opE0 (ncol t) d l=0) {i:Nat} (hi:i<t.length):(0≤dotI (rowN t i) l∧dotI (rowN t i) l≤300000000000000)∧pDot (rowN t i) l∧∀k,k≤ncol t→0≤sm (fun j=>vI (rowN t i) j*vI l j) k∧sm (fun j=>vI (rowN t i) j*vI l j) k≤300000000000000:=by
  obtain⟨h1,h2,h3⟩:=zcY h
  have hr:=hg.rows i hi
  have hc:=hg.cle
  have hb:∀j,j<ncol t→0≤vI (rowN t i) j*vI l j∧vI (rowN t i) j*vI l j≤100000000000000:=fun j hj=>by
    have q1:=hg.vals i j hi hj
    have q2:=h3 j (by omega)
    have:=zcL q1 (show 0≤vI l j∧vI l j≤1000000000000 by omega)
    omega
  have hs:∀k,k≤ncol t→0≤sm (fun j=>vI (rowN t i) j*vI l j) k∧sm (fun j=>vI (rowN t i) j*vI l j) k≤300000000000000:=fun k hk=>by
    have:=zik (f:=fun j=>vI (rowN t i) j*vI l j) (B:=100000000000000) k fun j hj=>hb j (by omega)
    omega
  refine⟨?_,⟨by omega,by omega,fun j hj=>?_⟩,hs⟩
  · unfold dotI;rw[hr];exact hs _ (Nat.le_refl _)
  · have:=hb j (by omega);omega
theorem zph {xs : List Int} {c:Int}:∀ {k:Nat},mx xs k≤c↔∀i,i≤k→vI xs i≤c
  | 0 => ⟨fun h i hi => by obtain rfl:i=0:=by omega
                           exact h,fun h=>h 0 (Nat.le_refl _)⟩
  | k + 1=>by
    have ih:=zph (xs:=xs) (c:=c) (k:=k)
    simp only[mx]
    constructor
    · intro h i hi
      split at h
      · rename_i h1
        by_cases e:i=k+1
        · subst e;exact h
        · exact ih.1 (by omega) i (by omega)
      · rename_i h1
        by_cases e:i=k+1
        · subst e;show xs.getD (k+1) 0≤c;omega
        · exact ih.1 h i (by omega)
    · intro h
      split
      · exact h (k+1) (Nat.le_refl _)
      · exact ih.2 fun i hi=>h i (by omega)
def lsI (xs:Nat→Int):Nat→Int
  | 0=>0
  | k+1=>if k=0∨xs k<lsI xs k then xs k else lsI xs k
theorem zto {l:List Int} {f:Nat→Int}:∀ {k:Nat},(∀i,i≤k→vI l i=f i)→lsI f (k+1)=mn l k
  | 0,h=>by simp only[lsI,mn];rw[←h 0 (Nat.le_refl _)];simp
  | k+1,h=>by
    have ih:=zto (l:=l) (f:=f) (k:=k) fun i hi=>h i (by omega)
    rw[lsI,mn,ih,←h (k+1) (Nat.le_refl _)]
    by_cases e:vI l (k+1)<mn l k
    · rw[if_pos (.inr e),if_pos e]
    · rw[if_neg (fun q=>by rcases q with q|q;omega;exact e q),if_neg e]
theorem zmF {xs:List Int} {A B:Int}:∀ {k:Nat},(∀i,i≤k→A≤vI xs i∧vI xs i≤B)→A≤mn xs k∧mn xs k≤B
  | 0,h=>h 0 (Nat.le_refl _)
  | k+1,h=>by
    have ih:=zmF (xs:=xs) (k:=k) fun i hi=>h i (by omega)
    have:=h (k+1) (Nat.le_refl _)
    simp only[mn];split
    · exact this
    · exact ih
theorem ztb {t:List (List Int)} {cap d:Int} {l:List Int} (h:¬opE0 (ncol t) d l=0):opR t cap d l=((0,0,()),opE0 (ncol t) d l,()):=by
  have e:opE t cap d l=opE0 (ncol t) d l:=if_neg h
  unfold opR;rw[e,if_neg h]
theorem zwT {t:List (List Int)} {cap d:Int} {l:List Int} (h:opE0 (ncol t) d l=0) (h2:cap*d<mx (gets t l t.length) (t.length - 1)):opR t cap d l=((0,0,()),24,()):=by
  have e:opE t cap d l=24:=(if_pos h).trans (if_pos h2)
  unfold opR;rw[e];rfl
theorem zwS {t:List (List Int)} {cap d:Int} {l:List Int} (h:opE0 (ncol t) d l=0) (h2:¬cap*d<mx (gets t l t.length) (t.length - 1)):opR t cap d l=(opV t d l,0,()):=by
  have e:opE t cap d l=0:=(if_pos h).trans (if_neg h2)
  unfold opR;rw[e,if_pos rfl]
theorem zxf {cap d:Int} (h1:0≤cap∧cap≤1000) (h2:1≤d∧d≤1000000000000):0≤cap*d∧cap*d≤1000000000000000:=by
  have:=zcL h1 (show 0≤d∧d≤1000000000000 by omega)
  omega
theorem zdd {t:List (List Int)} {d:Int} {l:List Int} (h1:1≤d∧d≤1000000000000) (h2:(l.length:Int)=((t.getD 0 []).length:Int)) (h3:zeW l d=true):opE0 (ncol t) d l=0:=
  (if_pos h1).trans ((if_pos (show l.length=(t.getD 0 []).length by omega)).trans (of_decide_eq_true h3))
def roA1 (t:List (List Int)) (cap d:Int) (l:List Int):LoopAnn:={σ:=Nat,pat:=fun k=>[sI 7 k,sI 6 (lsI (fun i=>dotI (rowN t i) l) k)],inv:=fun k=>k≤t.length∧∀i,i<k→dotI (rowN t i) l≤cap*d,meas:=fun k=>t.length - k}
def roA2 (t:List (List Int)) (l:List Int) (st:St):LoopAnn:=zfS 7 st fun i=>{σ:=Nat,pat:=fun k=>[sI 9 k,sI 8 (sm (fun j=>vI (rowN t i.toNat) j*vI l j) k)],inv:=fun k=>k≤l.length,meas:=fun k=>l.length - k}
theorem h52:Ok 52 zmt:=by
  refine mk (ctr:=[(29,zbH),(115,sWi),(116,znl)]) ⟨h29,h115,h116,trivial⟩ (nt:=82) Tryz.func52 rfl rfl rfl rfl (by kernel_rfl) (by kernel_rfl) (fun x=>[fun _=>roA1 x.1.1 x.1.2.1 x.2.1.1 x.2.1.2.1,roA2 x.1.1 x.2.1.2.1]) ?_
  rintro⟨⟨(t:List (List Int)),(cap:Int),⟨⟩⟩,⟨(d:Int),(l:List Int),⟨⟩⟩,⟨⟩⟩ ⟨(hg:goodT t cap),(hp:pLen l.length)⟩
  repeat' (intro hzz;(try (rename Two=>hq;cases hq));(try dsimp only at hzz);(try simp only[zad,zac,eqD,inR,big,zab,zB] at hzz);(try simp only[zad,zac,eqD,inR,big,zab,zB,zaS,zbb,zav,Int.toNat_natCast,zaq] at hzz);(try (revert hzz;intro _)))
  all_goals try (rename Unit=>hq;clear hq)
  all_goals try ((with_reducible refine Held.mk ?_);(with_reducible (first|refine Frz.mk ?_|refine And.intro (Frz.mk ?_) ?_|refine And.intro ?_ (Frz.mk ?_)));repeat' first|exact True.intro|(change _=_;with_reducible rfl)|refine And.intro ?_ ?_|(with_reducible refine Frz.mk ?_))
  all_goals try (refine Held.mk ?_;(try dsimp only at *);(try simp only[zad,zac,eqD,inR,big,zab,zB] at *);(try simp only[zad,zac,eqD,inR,big,zab,zB,zaS,zbb,zav,Int.toNat_natCast,zaq] at *))
  all_goals have g1:=hg.pos
  all_goals have g2:=hg.le
  all_goals have g3:=hg.cap0
  · rename_i h
    have e:opE0 (ncol t) d l=2:=if_neg h
    rw[ztb (by rw[e];decide),e];exact⟨⟨rfl,rfl⟩,rfl⟩
  · omega
  · rename_i h1 h
    have e:opE0 (ncol t) d l=10:=(if_pos h1).trans (if_neg (show ¬l.length=(t.getD 0 []).length by omega))
    rw[ztb (by rw[e];decide),e];exact⟨⟨rfl,rfl⟩,rfl⟩
  · exact hp
  · rename_i h1 h2 h
    have h:¬allE l d=0:=of_decide_eq_false h
    have e:opE0 (ncol t) d l=allE l d:=(if_pos h1).trans (if_pos (show l.length=(t.getD 0 []).length by omega))
    have e2:allE l d=2:=by rcases zgS (l:=l) (m:=d) with q|q;exact absurd q h;exact q
    rw[ztb (by rw[e];exact h),e,e2];exact⟨⟨rfl,rfl⟩,rfl⟩
  · rename_i h1 h2 h
    refine zaj.mk ?_
    refine Exists.intro (0:Nat) ?_
    refine And.intro (Leaf.mk ?_) ?_
    · repeat' first|exact True.intro|refine And.intro ?_ ?_
      all_goals try ((change _=_<;>try dsimp only)<;>try with_reducible rfl)
      all_goals try omega
      all_goals (rfl)
    exact⟨Nat.zero_le _,fun i hi=>absurd hi (Nat.not_lt_zero _)⟩
  · rename_i h1 h2 h k hk hlt
    refine zaj.mk ?_
    refine Exists.intro (0:Nat) ?_
    refine And.intro (Leaf.mk ?_) ?_
    · repeat' first|exact True.intro|refine And.intro ?_ ?_
      all_goals try ((change _=_<;>try dsimp only)<;>try with_reducible rfl)
      all_goals try omega
      all_goals (rfl)
    exact Nat.zero_le _
  all_goals try omega
  all_goals have hc3:=hg.cle
  · rename_i h1 h2 h3 k hk hlt j hj hjl
    have hO:=zdd h1 h2 h3
    have e:(rowN t k).length=ncol t:=hg.rows k (by omega)
    have e2:=(zcY hO).2.1
    show 0≤(j:Int)∧(j:Int)<((rowN t k).length:Int)
    omega
  · rename_i h1 h2 h3 k hk hlt j hj hjl
    have hO:=zdd h1 h2 h3
    have e2:=(zcY hO).2.1
    have e3:=(zkW hg hO (i:=k) (by omega)).2.1.2.2 j (by rw[hg.rows k (by omega)];omega)
    exact⟨Int.le_trans (by decide) e3.1,Int.le_trans e3.2 (by decide)⟩
  · rename_i h1 h2 h3 k hk hlt j hj hjl
    have hO:=zdd h1 h2 h3
    have e2:=(zcY hO).2.1
    have e3:=(zkW hg hO (i:=k) (by omega)).2.2 (j+1) (by omega)
    exact⟨Int.le_trans (by decide) e3.1,Int.le_trans e3.2 (by decide)⟩
  · rename_i h1 h2 h3 k hk hlt j hj hjl
    have e2:=(zcY (zdd h1 h2 h3)).2.1
    omega
  · rename_i h1 h2 h3 k hk hlt j hj hjl
    refine zaj.mk ?_
    refine Exists.intro (j+1) ?_
    refine And.intro (Leaf.mk ?_) ?_
    · repeat' first|exact True.intro|refine And.intro ?_ ?_
      all_goals try ((change _=_<;>try dsimp only)<;>try with_reducible rfl)
      all_goals try omega
      all_goals (rfl)
    exact⟨(show j+1≤l.length by omega),(show l.length - (j+1)<l.length - j by omega)⟩
  · rename_i h1 h2 h3 k hk hlt j hj hjl
    have:=zxf (cap:=cap) (d:=d) g3 h1
    omega
  · rename_i h1 h2 h3 k hk hlt j hj hjl h
    have hO:=zdd h1 h2 h3
    have e2:=(zcY hO).2.1
    have e3:=hg.rows k (by omega)
    have e4:dotI (rowN t k) l=sm (fun i=>vI (rowN t k) i*vI l i) j:=by unfold dotI;rw[e3,show j=ncol t by omega]
    rw[←e4] at h
    have h5:cap*d<mx (gets t l t.length) (t.length - 1):=by
      refine Int.not_le.1 fun q=>?_
      have:=zph.1 q k (by omega)
      rw[zbU (by omega)] at this
      omega
    rw[zwT hO h5];exact⟨⟨rfl,rfl⟩,rfl⟩
  · rename_i h1 h2 h3 k hk hlt j hj hjl h5 h6 h7
    have hO:=zdd h1 h2 h3
    have e2:=(zcY hO).2.1
    have e3:=hg.rows k (by omega)
    have e4:sm (fun i=>vI (rowN t k) i*vI l i) j=dotI (rowN t k) l:=by unfold dotI;rw[e3,show j=ncol t by omega]
    rw[e4] at h5 h7
    have e6:lsI (fun i=>dotI (rowN t i) l) (k+1)=dotI (rowN t k) l:=if_pos (.inr h7)
    have e5:sm (fun i=>vI (rowN t k) i*vI l i) j=lsI (fun i=>dotI (rowN t i) l) (k+1):=e4.trans e6.symm
    refine zaj.mk ?_
    refine Exists.intro (k+1) ?_
    refine And.intro (Leaf.mk ?_) ?_
    · repeat' first|exact True.intro|refine And.intro ?_ ?_
      all_goals try ((change _=_<;>try dsimp only)<;>try with_reducible rfl)
      all_goals try omega
      all_goals (first|rfl|exact e5)
    refine⟨⟨(show k+1≤t.length by omega),fun i hi=>?_⟩,(show t.length - (k+1)<t.length - k by omega)⟩
    by_cases e:i=k
    · subst e;exact h5
    · exact hk.2 i (by omega)
  · rename_i h1 h2 h3 k hk hlt j hj hjl h5 h6 h7
    have hO:=zdd h1 h2 h3
    have e2:=(zcY hO).2.1
    have e3:=hg.rows k (by omega)
    have e4:sm (fun i=>vI (rowN t k) i*vI l i) j=dotI (rowN t k) l:=by unfold dotI;rw[e3,show j=ncol t by omega]
    rw[e4] at h5 h7
    have e6:lsI (fun i=>dotI (rowN t i) l) (k+1)=lsI (fun i=>dotI (rowN t i) l) k:=if_neg (fun q=>by
      rcases q with q|q
      · omega
      · have q:dotI (rowN t k) l<lsI (fun i=>dotI (rowN t i) l) k:=q
        omega)
    refine zaj.mk ?_
    refine Exists.intro (k+1) ?_
    refine And.intro (Leaf.mk ?_) ?_
    · repeat' first|exact True.intro|refine And.intro ?_ ?_
      all_goals try ((change _=_<;>try dsimp only)<;>try with_reducible rfl)
      all_goals try omega
      all_goals (first|rfl|exact e6.symm)
    refine⟨⟨(show k+1≤t.length by omega),fun i hi=>?_⟩,(show t.length - (k+1)<t.length - k by omega)⟩
    by_cases e:i=k
    · subst e;exact h5
    · exact hk.2 i (by omega)
  · rename_i h1 h2 h3 k hk hlt j hj hjl h5 h6
    have hO:=zdd h1 h2 h3
    have e2:=(zcY hO).2.1
    have e3:=hg.rows k (by omega)
    have e4:sm (fun i=>vI (rowN t k) i*vI l i) j=dotI (rowN t k) l:=by unfold dotI;rw[e3,show j=ncol t by omega]
    rw[e4] at h5
    have e6:lsI (fun i=>dotI (rowN t i) l) (k+1)=dotI (rowN t k) l:=if_pos (.inl (by omega))
    have e5:sm (fun i=>vI (rowN t k) i*vI l i) j=lsI (fun i=>dotI (rowN t i) l) (k+1):=e4.trans e6.symm
    refine zaj.mk ?_
    refine Exists.intro (k+1) ?_
    refine And.intro (Leaf.mk ?_) ?_
    · repeat' first|exact True.intro|refine And.intro ?_ ?_
      all_goals try ((change _=_<;>try dsimp only)<;>try with_reducible rfl)
      all_goals try omega
      all_goals (first|rfl|exact e5)
    refine⟨⟨(show k+1≤t.length by omega),fun i hi=>?_⟩,(show t.length - (k+1)<t.length - k by omega)⟩
    by_cases e:i=k
    · subst e;exact h5
    · exact hk.2 i (by omega)
  · rename_i h1 h2 h3 k hk hge
    have hO:=zdd h1 h2 h3
    rw[show k=(t.length - 1)+1 by omega,zto (l:=gets t l t.length) (f:=fun i=>dotI (rowN t i) l) (k:=t.length - 1) fun i hi=>zbU (by omega)]
    have q:=zmF (xs:=gets t l t.length) (A:=0) (B:=300000000000000) (k:=t.length - 1) fun i hi=>by
      rw[zbU (by omega)];exact (zkW hg hO (by omega)).1
    exact⟨by omega,by omega,by omega⟩
  · rename_i h1 h2 h3 k hk hge
    have hO:=zdd h1 h2 h3
    have e:=zto (l:=gets t l t.length) (f:=fun i=>dotI (rowN t i) l) (k:=t.length - 1) fun i hi=>zbU (by omega)
    rw[show t.length - 1+1=k by omega] at e
    have h5:¬cap*d<mx (gets t l t.length) (t.length - 1):=Int.not_lt.2 (zph.2 fun i hi=>by
      rw[zbU (by omega)];exact hk.2 i (by omega))
    rw[zwS hO h5,e];exact⟨⟨rfl,rfl⟩,rfl⟩
theorem zor (f g:Nat→Int):∀n,sm (fun i=>f i+g i) n=sm f n+sm g n
  | 0=>rfl
  | n+1=>by simp only[sm,zor f g n];omega
theorem zkk (c:Int) (f:Nat→Int):∀n,sm (fun i=>c*f i) n=c*sm f n
  | 0=>by simp[sm]
  | n+1=>by simp only[sm,zkk c f n];rw[Int.mul_add]
theorem zbV (c:Int) (f:Nat→Int) (n:Nat):sm (fun i=>f i*c) n=sm f n*c:=by
  rw[zap n (g:=fun i=>c*f i) (fun i _=>Int.mul_comm _ _),zkk,Int.mul_comm]
theorem zdc:∀n,sm (fun _=>0) n=0
  | 0=>rfl
  | n+1=>by simp only[sm,zdc n];rfl
theorem zlp (f:Nat→Nat→Int) (m:Nat):∀n,sm (fun i=>sm (fun j=>f i j) m) n=sm (fun j=>sm (fun i=>f i j) n) m
  | 0=>by simp only[sm];exact (zdc m).symm
  | n+1=>by simp only[sm];rw[zlp f m n,zor]
theorem zjg {f g:Nat→Int}:∀n,(∀i,i<n→f i≤g i)→sm f n≤sm g n
  | 0,_=>Int.le_refl _
  | n+1,h=>by
    have h1:=zjg n fun i hi=>h i (by omega)
    have h2:=h n (by omega)
    simp only[sm];omega
def colW (t:List (List Int)) (lo hi:List Int) (j i:Nat):Int:=sm (fun i=>(vI lo i - vI hi i)*vI (rowN t i) j) i
def okW (t:List (List Int)) (lo hi cs:List Int):Nat→Bool
  | 0=>true
  | j+1=>okW t lo hi cs j&&decide (colW t lo hi j t.length≤vI cs j)
theorem zo5 {t:List (List Int)} {lo hi cs:List Int} {k:Nat} (h:vI cs k<colW t lo hi k t.length):∀n,k<n→okW t lo hi cs n=false
  | 0,hk=>absurd hk (Nat.not_lt_zero _)
  | n+1,hk=>by
    simp only[okW]
    by_cases e:k=n
    · subst e;rw[decide_eq_false (by omega),Bool.and_false]
    · rw[zo5 h n (by omega),Bool.false_and]
theorem zo6 {t:List (List Int)} {lo hi cs:List Int}:∀ {n:Nat},okW t lo hi cs n=true→∀k,k<n→colW t lo hi k t.length≤vI cs k
  | n+1,h,k,hk=>by
    simp only[okW,Bool.and_eq_true] at h
    by_cases e:k=n
    · subst e;exact of_decide_eq_true h.2
    · exact zo6 h.1 k (by omega)
def wtE0 (m n:Nat) (d:Int) (lo hi cs:List Int):Int:=if 1≤d∧d≤1000000000000 then (if lo.length=m∧hi.length=m∧cs.length=n then (if allE lo 1000000000000=0 then (if allE hi 1000000000000=0 then allE cs 1000000000000 else 2) else 2) else 10) else 2
def wtE (t:List (List Int)) (d:Int) (lo hi cs:List Int):Int:=if wtE0 t.length (ncol t) d lo hi cs=0 then (if sumI lo=d then (if okW t lo hi cs (ncol t)=true then 0 else 20) else 20) else wtE0 t.length (ncol t) d lo hi cs
def wtV (cap d:Int) (hi cs:List Int):zbY.Den:=lowP (sumI hi*cap+sumI cs) d
def wtR (t:List (List Int)) (cap d:Int) (lo hi cs:List Int):zbY.Den×Int×Unit:=if wtE t d lo hi cs=0 then (wtV cap d hi cs,0,()) else ((0,0,()),wtE t d lo hi cs,())
def wtRA (t:List (List Int)) (cap d:Int) (lo hi cs:List Int):zbY.Den×Int×Unit:=if chkT t cap=0 then wtR t cap d lo hi cs else ((0,0,()),chkT t cap,())
abbrev pW3 (a b c:Nat):Prop:=pLen a∧pLen b∧pLen c
@[reducible] def zlu:Spec:={pats:=[.dat zeI,.dat zdY],res:=[{t:=zbY},{t:=I64}],pre:=fun x=>pW3 (List.length (α:=Int) x.2.1.2.1) (List.length (α:=Int) x.2.1.2.2.1) (List.length (α:=Int) x.2.1.2.2.2.1),f:=fun x=>wtRA x.1.1 x.1.2.1 x.2.1.1 x.2.1.2.1 x.2.1.2.2.1 x.2.1.2.2.2.1}
@[reducible] def zms:Spec:={zlu with pre:=fun x=>goodT x.1.1 x.1.2.1∧pW3 (List.length (α:=Int) x.2.1.2.1) (List.length (α:=Int) x.2.1.2.2.1) (List.length (α:=Int) x.2.1.2.2.2.1),f:=fun x=>wtR x.1.1 x.1.2.1 x.2.1.1 x.2.1.2.1 x.2.1.2.2.1 x.2.1.2.2.2.1}
theorem zaZ {m n:Nat} {d:Int} {lo hi cs:List Int} (h:wtE0 m n d lo hi cs=0):(1≤d∧d≤1000000000000)∧(lo.length=m∧hi.length=m∧cs.length=n)∧(∀i,i<m→0≤vI lo i∧vI lo i≤1000000000000)∧(∀i,i<m→0≤vI hi i∧vI hi i≤1000000000000)∧∀i,i<n→0≤vI cs i∧vI cs i≤1000000000000:=by
  unfold wtE0 at h
  split at h
  · rename_i h1
    split at h
    · rename_i h2
      split at h
      · rename_i h3
        split at h
        · rename_i h4
          exact⟨h1,h2,fun i hi=>zgm h3 i (by omega),fun i hi=>zgm h4 i (by omega),fun i hi=>zgm h i (by omega)⟩
        · cases h
      · cases h
    · cases h
  · cases h
theorem zn4 {t:List (List Int)} {d:Int} {lo hi cs:List Int} (h:wtE t d lo hi cs=0):wtE0 t.length (ncol t) d lo hi cs=0∧sumI lo=d∧okW t lo hi cs (ncol t)=true:=by
  unfold wtE at h
  split at h
  · rename_i h1
    split at h
    · rename_i h2
      split at h
      · rename_i h3;exact⟨h1,h2,h3⟩
      · cases h
    · cases h
  · rename_i h1;exact absurd h h1
theorem zjT {t:List (List Int)} {cap d:Int} {lo hi cs:List Int} (hg:goodT t cap) (h:wtE0 t.length (ncol t) d lo hi cs=0) {j i:Nat} (hj:j<ncol t) (hi':i≤t.length):(-400000000000000≤colW t lo hi j i∧colW t lo hi j i≤400000000000000)∧(∀i,i<t.length→-100000000000000≤(vI lo i - vI hi i)*vI (rowN t i) j∧(vI lo i - vI hi i)*vI (rowN t i) j≤100000000000000):=by
  obtain⟨_,_,h1,h2,_⟩:=zaZ h
  have hb:∀i,i<t.length→-100000000000000≤(vI lo i - vI hi i)*vI (rowN t i) j∧(vI lo i - vI hi i)*vI (rowN t i) j≤100000000000000:=fun i hi=>by
    have q1:=zcL (h1 i hi) (hg.vals i j hi hj)
    have q2:=zcL (h2 i hi) (hg.vals i j hi hj)
    rw[Int.sub_mul]
    omega
  refine⟨?_,hb⟩
  have:=zoq (f:=fun i=>(vI lo i - vI hi i)*vI (rowN t i) j) (B:=100000000000000) i fun k hk=>hb k (by omega)
  have hl:=hg.le
  unfold colW
  omega
theorem zln {l:List Int} {n:Nat} (hl:l.length=n) (hn:n≤4) (h:∀i,i<n→0≤vI l i∧vI l i≤1000000000000):(0≤sumI l∧sumI l≤4000000000000)∧pSum l:=by
  have:=zik (f:=fun i=>vI l i) (B:=1000000000000) n fun i hi=>h i hi
  refine⟨?_,by omega,fun i hi=>?_⟩
  · unfold sumI;rw[hl];omega
  · have:=h i (by omega);omega
theorem zgC {t:List (List Int)} {cap d:Int} {lo hi cs:List Int} (hg:goodT t cap) (h:wtE0 t.length (ncol t) d lo hi cs=0):(0≤sumI hi*cap∧sumI hi*cap≤4000000000000000)∧(0≤sumI cs∧sumI cs≤4000000000000)∧(pSum lo∧pSum hi∧pSum cs)∧0≤sumI lo∧sumI lo≤4000000000000:=by
  obtain⟨_,⟨l1,l2,l3⟩,h1,h2,h3⟩:=zaZ h
  have q0:=zln l1 hg.le h1
  have q1:=zln l2 hg.le h2
  have q2:=zln l3 (by have:=hg.cle;omega) h3
  have q3:=zcL q1.1 hg.cap0
  exact⟨by omega,q2.1,⟨q0.2,q1.2,q2.2⟩,q0.1⟩
theorem wt_a {m n:Nat} {d:Int} {lo hi cs:List Int} (a:(lo.length:Int)=(m:Int)) (b:(hi.length:Int)=(m:Int)):za6 [bif zaq d 1 1000000000000 then 0 else 2,bif decide ((cs.length:Int)=(n:Int)) then 0 else 10,allE lo 1000000000000,allE hi 1000000000000,allE cs 1000000000000]=wtE0 m n d lo hi cs:=by
  simp only[za6,wtE0]
  by_cases h1:1≤d∧d≤1000000000000
  · rw [if_pos h1,show zaq d 1 1000000000000=true from decide_eq_true h1]
    show (if (0:Int)=0 then _ else _)=_
    rw[if_pos rfl]
    by_cases c:cs.length=n
    · rw [if_pos (show lo.length=m∧hi.length=m∧cs.length=n from ⟨by omega,by omega,c⟩),decide_eq_true (show (cs.length:Int)=(n:Int) by omega)]
      show (if (0:Int)=0 then _ else _)=_
      rw[if_pos rfl]
      have e1:=zgS (l:=lo) (m:=1000000000000)
      have e2:=zgS (l:=hi) (m:=1000000000000)
      by_cases h3:allE lo 1000000000000=0
      · rw [if_pos h3,if_pos h3]
        by_cases h4:allE hi 1000000000000=0
        · rw[if_pos h4,if_pos h4]
          split
          · rename_i h;exact h.symm
          · rfl
        · rw[if_neg h4,if_neg h4]
          rcases e2 with e|e
          · exact absurd e h4
          · exact e
      · rw[if_neg h3,if_neg h3]
        rcases e1 with e|e
        · exact absurd e h3
        · exact e
    · rw[if_neg (fun h:lo.length=m∧hi.length=m∧cs.length=n=>c h.2.2),decide_eq_false (show ¬(cs.length:Int)=(n:Int) by omega)];rfl
  · rw[if_neg h1,show zaq d 1 1000000000000=false from decide_eq_false h1];rfl
theorem wt_b {m n:Nat} {d x y z:Int} {lo hi cs:List Int} (a:¬((lo.length:Int)=(m:Int)∧(hi.length:Int)=(m:Int))):za6 [bif zaq d 1 1000000000000 then 0 else 2,bif false then 0 else 10,x,y,z]=wtE0 m n d lo hi cs:=by
  simp only[za6,wtE0]
  by_cases h1:1≤d∧d≤1000000000000
  · rw[if_pos h1,show zaq d 1 1000000000000=true from decide_eq_true h1,if_neg (fun h:lo.length=m∧hi.length=m∧cs.length=n=>a ⟨by omega,by omega⟩)];rfl
  · rw[if_neg h1,show zaq d 1 1000000000000=false from decide_eq_false h1];rfl
theorem ztJ {x:Int} {r:List Int}:¬za6 (x::(bif false then 0 else 10)::r)=0:=by
  simp only[za6]
  split
  · exact fun h=>by cases h
  · assumption
theorem zhY {t:List (List Int)} {cap d:Int} {lo hi cs:List Int} (h:¬wtE0 t.length (ncol t) d lo hi cs=0):wtR t cap d lo hi cs=((0,0,()),wtE0 t.length (ncol t) d lo hi cs,()):=by
  have e:wtE t d lo hi cs=wtE0 t.length (ncol t) d lo hi cs:=if_neg h
  unfold wtR;rw[e,if_neg h]
theorem zqx {t:List (List Int)} {cap d:Int} {lo hi cs:List Int} (h:wtE0 t.length (ncol t) d lo hi cs=0) (h2:¬(sumI lo=d∧okW t lo hi cs (ncol t)=true)):wtR t cap d lo hi cs=((0,0,()),20,()):=by
  have e:wtE t d lo hi cs=20:=by
    unfold wtE;rw[if_pos h]
    by_cases e1:sumI lo=d
    · rw[if_pos e1,if_neg fun e2=>h2 ⟨e1,e2⟩]
    · rw[if_neg e1]
  unfold wtR;rw[e];rfl
theorem zum {t:List (List Int)} {cap d:Int} {lo hi cs:List Int} (h:wtE0 t.length (ncol t) d lo hi cs=0) (h2:sumI lo=d) (h3:okW t lo hi cs (ncol t)=true):wtR t cap d lo hi cs=(wtV cap d hi cs,0,()):=by
  have e:wtE t d lo hi cs=0:=by unfold wtE;rw[if_pos h,if_pos h2,if_pos h3]
  unfold wtR;rw[e];rfl
def cwA1 (t:List (List Int)) (lo hi cs:List Int):LoopAnn:={σ:=Nat,pat:=fun k=>[sI 78 k],inv:=fun k=>k≤cs.length∧okW t lo hi cs k=true,meas:=fun k=>cs.length - k}
def cwA2 (t:List (List Int)) (lo hi:List Int) (st:St):LoopAnn:=zfS 78 st fun j=>{σ:=Nat,pat:=fun i=>[sI 86 i,sI 11 (colW t lo hi j.toNat i)],inv:=fun i=>i≤t.length,meas:=fun i=>t.length - i}
theorem h64:Ok 64 zlu:=by
  refine mk (ctr:=[(65,zls),(73,zgp),(85,zcH),(88,zbH),(104,zsW),(107,sLow),(124,sSum)]) ⟨h65,h73,h85,h88,h104,h107,h124,trivial⟩ (nt:=128) Tryz.func64 rfl rfl rfl rfl (by kernel_rfl) (by kernel_rfl) (fun x=>[fun _=>cwA1 x.1.1 x.2.1.2.1 x.2.1.2.2.1 x.2.1.2.2.2.1,cwA2 x.1.1 x.2.1.2.1 x.2.1.2.2.1]) ?_
  rintro⟨⟨(t:List (List Int)),(cap:Int),⟨⟩⟩,⟨(d:Int),(lo:List Int),(hi:List Int),(cs:List Int),⟨⟩⟩,⟨⟩⟩ ⟨(hp1:pLen lo.length),(hp2:pLen hi.length),(hp3:pLen cs.length)⟩
  repeat' (intro hzz;(try (rename Two=>hq;cases hq));(try dsimp only at hzz);(try simp only[zad,zac,eqD,inR,big,zab,zB] at hzz);(try simp only[zad,zac,eqD,inR,big,zab,zB,zaS,zbb,zav,Int.toNat_natCast] at hzz);(try (exact absurd (by assumption:za6 [bif zaq d 1 1000000000000 then 0 else 2,bif false then 0 else 10,allE lo 1000000000000,allE hi 1000000000000,allE cs 1000000000000]=0) ztJ));(try (revert hzz;intro _)))
  all_goals try (rename Unit=>hq;clear hq)
  all_goals try ((with_reducible refine Held.mk ?_);(with_reducible (first|refine Frz.mk ?_|refine And.intro (Frz.mk ?_) ?_|refine And.intro ?_ (Frz.mk ?_)));repeat' first|exact True.intro|(change _=_;with_reducible rfl)|refine And.intro ?_ ?_|(with_reducible refine Frz.mk ?_))
  all_goals try (refine Held.mk ?_;(try dsimp only at *);(try simp only[zad,zac,eqD,inR,big,zab,zB] at *);(try simp only[zad,zac,eqD,inR,big,zab,zB,zaS,zbb,zav,Int.toNat_natCast] at *))
  all_goals try omega
  all_goals try (have hg:=zdP (by assumption:chkT t cap=0);have g1:=hg.pos;have g2:=hg.le;have g3:=hg.cap0)
  · rename_i h
    rw[show wtRA t cap d lo hi cs=_ from if_neg h];exact⟨⟨rfl,rfl⟩,rfl⟩
  all_goals try with_reducible exact hp1
  all_goals try with_reducible exact hp2
  all_goals try with_reducible exact hp3
  all_goals try omega
  all_goals try (show ((5:Nat):Int)≤4611686018427387904;decide)
  all_goals try have hc3:=hg.cle
  · rename_i h0 h1 h2 h
    have e:=wt_a (n:=ncol t) (d:=d) (cs:=cs) h1 h2
    have h3:¬wtE0 t.length (ncol t) d lo hi cs=0:=fun q=>h (e.trans q)
    rw[show wtRA t cap d lo hi cs=_ from if_pos h0,zhY h3];exact⟨⟨rfl,rfl⟩,e⟩
  · rename_i h0 h1 h2 h
    have hW:wtE0 t.length (ncol t) d lo hi cs=0:=(wt_a (n:=ncol t) (d:=d) (cs:=cs) h1 h2).symm.trans h
    obtain⟨w1,⟨w2,w3,w4⟩,w5,w6,w7⟩:=zaZ hW
    exact (zgC hg hW).2.2.1.1
  · rename_i h0 h1 h2 h hs
    have hW:wtE0 t.length (ncol t) d lo hi cs=0:=(wt_a (n:=ncol t) (d:=d) (cs:=cs) h1 h2).symm.trans h
    obtain⟨w1,⟨w2,w3,w4⟩,w5,w6,w7⟩:=zaZ hW
    rw[show wtRA t cap d lo hi cs=_ from if_pos h0,zqx hW (fun q=>hs q.1)];exact⟨⟨rfl,rfl⟩,rfl⟩
  · rename_i h0 h1 h2 h hs
    refine zaj.mk ?_
    refine Exists.intro (0:Nat) ?_
    refine And.intro (Leaf.mk ?_) ?_
    · repeat' first|exact True.intro|refine And.intro ?_ ?_
      all_goals try ((change _=_<;>try dsimp only)<;>try with_reducible rfl)
      all_goals try omega
      all_goals (first|rfl|exact (decide_eq_true h2).symm|exact (decide_eq_true h1).symm|exact decide_eq_true h2|exact decide_eq_true h1)
    exact⟨Nat.zero_le _,rfl⟩
  · rename_i h0 h1 h2 h hs k hk hlt
    refine zaj.mk ?_
    refine Exists.intro (0:Nat) ?_
    refine And.intro (Leaf.mk ?_) ?_
    · repeat' first|exact True.intro|refine And.intro ?_ ?_
      all_goals try ((change _=_<;>try dsimp only)<;>try with_reducible rfl)
      all_goals try omega
      all_goals (first|rfl|exact (decide_eq_true h2).symm|exact (decide_eq_true h1).symm|exact decide_eq_true h2|exact decide_eq_true h1)
    exact Nat.zero_le _
  · rename_i h0 h1 h2 h hs k hk hlt i hi' hit
    have hW:wtE0 t.length (ncol t) d lo hi cs=0:=(wt_a (n:=ncol t) (d:=d) (cs:=cs) h1 h2).symm.trans h
    obtain⟨w1,⟨w2,w3,w4⟩,w5,w6,w7⟩:=zaZ hW
    have q1:=w5 i (by omega)
    have q2:=w6 i (by omega)
    show -9223372036854775808≤vI lo i - vI hi i∧vI lo i - vI hi i≤9223372036854775807
    omega
  · rename_i h0 h1 h2 h hs k hk hlt i hi' hit
    have hW:wtE0 t.length (ncol t) d lo hi cs=0:=(wt_a (n:=ncol t) (d:=d) (cs:=cs) h1 h2).symm.trans h
    obtain⟨w1,⟨w2,w3,w4⟩,w5,w6,w7⟩:=zaZ hW
    have e:(rowN t i).length=ncol t:=hg.rows i (by omega)
    show 0≤(k:Int)∧(k:Int)<((rowN t i).length:Int)
    omega
  · rename_i h0 h1 h2 h hs k hk hlt i hi' hit
    have hW:wtE0 t.length (ncol t) d lo hi cs=0:=(wt_a (n:=ncol t) (d:=d) (cs:=cs) h1 h2).symm.trans h
    obtain⟨w1,⟨w2,w3,w4⟩,w5,w6,w7⟩:=zaZ hW
    have q:=(zjT hg hW (j:=k) (i:=0) (by omega) (by omega)).2 i (by omega)
    exact⟨Int.le_trans (by decide) q.1,Int.le_trans q.2 (by decide)⟩
  · rename_i h0 h1 h2 h hs k hk hlt i hi' hit
    have hW:wtE0 t.length (ncol t) d lo hi cs=0:=(wt_a (n:=ncol t) (d:=d) (cs:=cs) h1 h2).symm.trans h
    obtain⟨w1,⟨w2,w3,w4⟩,w5,w6,w7⟩:=zaZ hW
    have q:=(zjT hg hW (j:=k) (i:=i+1) (by omega) (by omega)).1
    exact⟨Int.le_trans (by decide) q.1,Int.le_trans q.2 (by decide)⟩
  · rename_i h0 h1 h2 h hs k hk hlt i hi' hit
    refine zaj.mk ?_
    refine Exists.intro (i+1) ?_
    refine And.intro (Leaf.mk ?_) ?_
    · repeat' first|exact True.intro|refine And.intro ?_ ?_
      all_goals try ((change _=_<;>try dsimp only)<;>try with_reducible rfl)
      all_goals try omega
      all_goals (first|rfl|exact (decide_eq_true h2).symm|exact (decide_eq_true h1).symm|exact decide_eq_true h2|exact decide_eq_true h1)
    exact⟨(show i+1≤t.length by omega),(show t.length - (i+1)<t.length - i by omega)⟩
  · rename_i h0 h1 h2 h hs k hk hlt i hi' hit hm
    have hW:wtE0 t.length (ncol t) d lo hi cs=0:=(wt_a (n:=ncol t) (d:=d) (cs:=cs) h1 h2).symm.trans h
    obtain⟨w1,⟨w2,w3,w4⟩,w5,w6,w7⟩:=zaZ hW
    rw[show i=t.length by omega] at hm
    have hno:okW t lo hi cs (ncol t)=false:=zo5 (k:=k) hm _ (by omega)
    rw[show wtRA t cap d lo hi cs=_ from if_pos h0,zqx hW (fun q=>by rw[hno] at q;cases q.2)];exact⟨⟨rfl,rfl⟩,rfl⟩
  · rename_i h0 h1 h2 h hs k hk hlt i hi' hit hm
    have hW:wtE0 t.length (ncol t) d lo hi cs=0:=(wt_a (n:=ncol t) (d:=d) (cs:=cs) h1 h2).symm.trans h
    obtain⟨w1,⟨w2,w3,w4⟩,w5,w6,w7⟩:=zaZ hW
    omega
  · rename_i h0 h1 h2 h hs k hk hlt i hi' hit hm
    rw[show i=t.length by omega] at hm
    have hm:colW t lo hi k t.length≤vI cs k:=hm
    refine zaj.mk ?_
    refine Exists.intro (k+1) ?_
    refine And.intro (Leaf.mk ?_) ?_
    · repeat' first|exact True.intro|refine And.intro ?_ ?_
      all_goals try ((change _=_<;>try dsimp only)<;>try with_reducible rfl)
      all_goals try omega
      all_goals (first|rfl|exact (decide_eq_true h2).symm|exact (decide_eq_true h1).symm|exact decide_eq_true h2|exact decide_eq_true h1)
    exact⟨⟨(show k+1≤cs.length by omega),(show (okW t lo hi cs k&&decide (colW t lo hi k t.length≤vI cs k))=true by rw[hk.2,decide_eq_true hm];rfl)⟩,(show cs.length - (k+1)<cs.length - k by omega)⟩
  · rename_i h0 h1 h2 h hs k hk hlt
    have hW:wtE0 t.length (ncol t) d lo hi cs=0:=(wt_a (n:=ncol t) (d:=d) (cs:=cs) h1 h2).symm.trans h
    obtain⟨w1,⟨w2,w3,w4⟩,w5,w6,w7⟩:=zaZ hW
    exact (zgC hg hW).2.2.1.2.1
  · rename_i h0 h1 h2 h hs k hk hlt
    have hW:wtE0 t.length (ncol t) d lo hi cs=0:=(wt_a (n:=ncol t) (d:=d) (cs:=cs) h1 h2).symm.trans h
    obtain⟨w1,⟨w2,w3,w4⟩,w5,w6,w7⟩:=zaZ hW
    have:=(zgC hg hW).1
    omega
  · rename_i h0 h1 h2 h hs k hk hlt
    have hW:wtE0 t.length (ncol t) d lo hi cs=0:=(wt_a (n:=ncol t) (d:=d) (cs:=cs) h1 h2).symm.trans h
    obtain⟨w1,⟨w2,w3,w4⟩,w5,w6,w7⟩:=zaZ hW
    exact (zgC hg hW).2.2.1.2.2
  · rename_i h0 h1 h2 h hs k hk hlt
    have hW:wtE0 t.length (ncol t) d lo hi cs=0:=(wt_a (n:=ncol t) (d:=d) (cs:=cs) h1 h2).symm.trans h
    obtain⟨w1,⟨w2,w3,w4⟩,w5,w6,w7⟩:=zaZ hW
    have:=zgC hg hW
    omega
  · rename_i h0 h1 h2 h hs k hk hlt
    have hW:wtE0 t.length (ncol t) d lo hi cs=0:=(wt_a (n:=ncol t) (d:=d) (cs:=cs) h1 h2).symm.trans h
    obtain⟨w1,⟨w2,w3,w4⟩,w5,w6,w7⟩:=zaZ hW
    have:=zgC hg hW
    exact⟨by omega,by omega,by omega⟩
  · rename_i h0 h1 h2 h hs k hk hlt
    have hW:wtE0 t.length (ncol t) d lo hi cs=0:=(wt_a (n:=ncol t) (d:=d) (cs:=cs) h1 h2).symm.trans h
    obtain⟨w1,⟨w2,w3,w4⟩,w5,w6,w7⟩:=zaZ hW
    have e:=hk.2
    rw[show k=ncol t by omega] at e
    rw[show wtRA t cap d lo hi cs=_ from if_pos h0,zum hW hs e];exact⟨⟨rfl,rfl⟩,rfl⟩
  · rename_i h0 h1 h2 h
    have e:=wt_b (m:=t.length) (n:=ncol t) (d:=d) (lo:=lo) (hi:=hi) (cs:=cs) (x:=allE lo 1000000000000) (y:=allE hi 1000000000000) (z:=allE cs 1000000000000) (fun q=>h2 q.2)
    have h3:¬wtE0 t.length (ncol t) d lo hi cs=0:=fun q=>h (e.trans q)
    rw[show wtRA t cap d lo hi cs=_ from if_pos h0,zhY h3];exact⟨⟨rfl,rfl⟩,e⟩
  · rename_i h0 h1 h
    have e:=wt_b (m:=t.length) (n:=ncol t) (d:=d) (lo:=lo) (hi:=hi) (cs:=cs) (x:=allE lo 1000000000000) (y:=allE hi 1000000000000) (z:=allE cs 1000000000000) (fun q=>h1 q.1)
    have h3:¬wtE0 t.length (ncol t) d lo hi cs=0:=fun q=>h (e.trans q)
    rw[show wtRA t cap d lo hi cs=_ from if_pos h0,zhY h3];exact⟨⟨rfl,rfl⟩,e⟩
theorem wt_c {m n:Nat} {d:Int} {lo hi cs:List Int} (h1:1≤d∧d≤1000000000000) (h2:(lo.length:Int)=(m:Int)) (h3:(hi.length:Int)=(m:Int)) (h4:(cs.length:Int)=(n:Int)) (w1:zeW lo 1000000000000=true) (w2:zeW hi 1000000000000=true) (w3:zeW cs 1000000000000=true):wtE0 m n d lo hi cs=0:=
  (if_pos h1).trans ((if_pos ⟨Int.ofNat_inj.1 h2,Int.ofNat_inj.1 h3,Int.ofNat_inj.1 h4⟩).trans ((if_pos (of_decide_eq_true w1)).trans ((if_pos (of_decide_eq_true w2)).trans (of_decide_eq_true w3))))
theorem al_2 {l:List Int} {m:Int} (h:zeW l m=false):allE l m=2:=by
  rcases zgS (l:=l) (m:=m) with e|e
  · exact absurd e (of_decide_eq_false h)
  · exact e
theorem zog {l:List Int} {n:Nat} (hl:l.length=n) (hn:n≤4) (h:∀i,i<n→0≤vI l i∧vI l i≤1000000000000):∀k,k≤n→0≤sm (fun i=>vI l i) k∧sm (fun i=>vI l i) k≤4000000000000:=fun k hk=>by
  have:=zik (f:=fun i=>vI l i) (B:=1000000000000) k fun i hi=>h i (by omega)
  omega
theorem zof {l:List Int} {cap:Int} (hc:0≤cap∧cap≤1000) (hn:l.length≤4) (h:∀i,i<l.length→0≤vI l i∧vI l i≤1000000000000):∀k,k≤l.length→0≤sm (fun i=>vI l i*cap) k∧sm (fun i=>vI l i*cap) k≤4000000000000000:=fun k hk=>by
  have:=zik (f:=fun i=>vI l i*cap) (B:=1000000000000000) k fun i hi=>by
    have:=zcL (h i (by omega)) hc
    omega
  omega
theorem zrA {hi cs:List Int} {cap:Int}:sm (fun i=>vI hi i*cap) hi.length+sm (fun i=>vI cs i) cs.length=sumI hi*cap+sumI cs:=by
  rw[zbV];rfl
theorem ndec {p:Prop} [Decidable p] (h:p):false = !decide p:=by rw[decide_eq_true h];rfl
def rwA1 (cap:Int) (lo hi:List Int):LoopAnn:={σ:=Nat,pat:=fun k=>[sI 8 k,sI 6 (sm (fun i=>vI lo i) k),sI 7 (sm (fun i=>vI hi i*cap) k)],inv:=fun k=>k≤lo.length,meas:=fun k=>lo.length - k}
def rwA2 (t:List (List Int)) (cap:Int) (lo hi cs:List Int):LoopAnn:={σ:=Nat,pat:=fun k=>[sI 9 k,sI 7 (sm (fun i=>vI hi i*cap) hi.length+sm (fun i=>vI cs i) k)],inv:=fun k=>k≤cs.length∧okW t lo hi cs k=true,meas:=fun k=>cs.length - k}
def rwA3 (t:List (List Int)) (lo hi:List Int) (st:St):LoopAnn:=zfS 9 st fun j=>{σ:=Nat,pat:=fun i=>[sI 11 i,sI 10 (colW t lo hi j.toNat i)],inv:=fun i=>i≤lo.length,meas:=fun i=>lo.length - i}
theorem h53:Ok 53 zms:=by
  refine mk (ctr:=[(29,zbH),(115,sWi),(116,znl)]) ⟨h29,h115,h116,trivial⟩ (nt:=146) Tryz.func53 rfl rfl rfl rfl (by kernel_rfl) (by kernel_rfl) (fun x=>[fun _=>rwA1 x.1.2.1 x.2.1.2.1 x.2.1.2.2.1,fun _=>rwA2 x.1.1 x.1.2.1 x.2.1.2.1 x.2.1.2.2.1 x.2.1.2.2.2.1,rwA3 x.1.1 x.2.1.2.1 x.2.1.2.2.1]) ?_
  rintro⟨⟨(t:List (List Int)),(cap:Int),⟨⟩⟩,⟨(d:Int),(lo:List Int),(hi:List Int),(cs:List Int),⟨⟩⟩,⟨⟩⟩ ⟨(hg:goodT t cap),(hp1:pLen lo.length),(hp2:pLen hi.length),(hp3:pLen cs.length)⟩
  have g1:=hg.pos
  have g2:=hg.le
  have g3:=hg.cap0
  have hc3:=hg.cle
  repeat' (intro hzz;(try (rename Two=>hq;cases hq));(try dsimp only at hzz);(try simp only[zad,zac,eqD,inR,big,zab,zB] at hzz);(try simp only[zad,zac,eqD,inR,big,zab,zB,zaS,zbb,zav,Int.toNat_natCast,zaq] at hzz);(try (revert hzz;intro _)))
  all_goals try (rename Unit=>hq;clear hq)
  all_goals try ((with_reducible refine Held.mk ?_);(with_reducible (first|refine Frz.mk ?_|refine And.intro (Frz.mk ?_) ?_|refine And.intro ?_ (Frz.mk ?_)));repeat' first|exact True.intro|(change _=_;with_reducible rfl)|refine And.intro ?_ ?_|(with_reducible refine Frz.mk ?_))
  all_goals try (refine Held.mk ?_;(try dsimp only at *);(try simp only[zad,zac,eqD,inR,big,zab,zB] at *);(try simp only[zad,zac,eqD,inR,big,zab,zB,zaS,zbb,zav,Int.toNat_natCast,zaq] at *))
  all_goals try with_reducible exact hp1
  all_goals try with_reducible exact hp2
  all_goals try with_reducible exact hp3
  all_goals try omega
  · rename_i h1
    have e:wtE0 t.length (ncol t) d lo hi cs=2:=if_neg h1
    rw[zhY (by rw[e];decide),e];exact⟨⟨rfl,rfl⟩,rfl⟩
  · rename_i h1 h2 h3 h4
    have e:wtE0 t.length (ncol t) d lo hi cs=10:=(if_pos h1).trans (if_neg fun q=>h4 (congrArg Int.ofNat q.2.2))
    rw[zhY (by rw[e];decide),e];exact⟨⟨rfl,rfl⟩,rfl⟩
  · rename_i h1 h2 h3 h4 w1 w2 w3
    have e:wtE0 t.length (ncol t) d lo hi cs=2:=(if_pos h1).trans ((if_pos ⟨Int.ofNat_inj.1 h2,Int.ofNat_inj.1 h3,Int.ofNat_inj.1 h4⟩).trans ((if_pos (of_decide_eq_true w1)).trans ((if_pos (of_decide_eq_true w2)).trans (al_2 w3))))
    rw[zhY (by rw[e];decide),e];exact⟨⟨rfl,rfl⟩,rfl⟩
  · rename_i h1 h2 h3 h4 w1 w2 w3
    refine zaj.mk ?_
    refine Exists.intro (0:Nat) ?_
    refine And.intro (Leaf.mk ?_) ?_
    · repeat' first|exact True.intro|refine And.intro ?_ ?_
      all_goals try ((change _=_<;>try dsimp only)<;>try with_reducible rfl)
      all_goals try omega
      all_goals (first|rfl|exact ndec h2|exact ndec h3)
    exact Nat.zero_le _
  · rename_i h1 h2 h3 h4 w1 w2 w3 k hk hlt
    have hW:=wt_c (n:=ncol t) h1 h2 h3 h4 w1 w2 w3
    obtain⟨v1,⟨v2,v3,v4⟩,v5,v6,v7⟩:=zaZ hW
    have q:=(zog v2 (by omega) v5) (k+1) (by omega)
    exact⟨Int.le_trans (by decide) q.1,Int.le_trans q.2 (by decide)⟩
  · rename_i h1 h2 h3 h4 w1 w2 w3 k hk hlt
    have hW:=wt_c (n:=ncol t) h1 h2 h3 h4 w1 w2 w3
    obtain⟨v1,⟨v2,v3,v4⟩,v5,v6,v7⟩:=zaZ hW
    have q:=zcL (v6 k (by omega)) g3
    exact⟨Int.le_trans (by decide) q.1,Int.le_trans q.2 (by decide)⟩
  · rename_i h1 h2 h3 h4 w1 w2 w3 k hk hlt
    have hW:=wt_c (n:=ncol t) h1 h2 h3 h4 w1 w2 w3
    obtain⟨v1,⟨v2,v3,v4⟩,v5,v6,v7⟩:=zaZ hW
    have q:=zof (cap:=cap) g3 (show hi.length≤4 by omega) (by rw[v3];exact v6) (k+1) (by omega)
    exact⟨Int.le_trans (by decide) q.1,Int.le_trans q.2 (by decide)⟩
  · rename_i h1 h2 h3 h4 w1 w2 w3 k hk hlt
    refine zaj.mk ?_
    refine Exists.intro (k+1) ?_
    refine And.intro (Leaf.mk ?_) ?_
    · repeat' first|exact True.intro|refine And.intro ?_ ?_
      all_goals try ((change _=_<;>try dsimp only)<;>try with_reducible rfl)
      all_goals try omega
      all_goals (first|rfl|exact ndec h2|exact ndec h3)
    exact⟨(show k+1≤lo.length by omega),(show lo.length - (k+1)<lo.length - k by omega)⟩
  · rename_i h1 h2 h3 h4 w1 w2 w3 k hk hlt hs
    have hW:=wt_c (n:=ncol t) h1 h2 h3 h4 w1 w2 w3
    obtain⟨v1,⟨v2,v3,v4⟩,v5,v6,v7⟩:=zaZ hW
    rw[show k=lo.length by omega] at hs
    rw[zqx hW (fun q=>hs q.1)];exact⟨⟨rfl,rfl⟩,rfl⟩
  · rename_i h1 h2 h3 h4 w1 w2 w3 k hk hlt hs
    have hW:=wt_c (n:=ncol t) h1 h2 h3 h4 w1 w2 w3
    obtain⟨v1,⟨v2,v3,v4⟩,v5,v6,v7⟩:=zaZ hW
    have e:sm (fun i=>vI hi i*cap) k=sm (fun i=>vI hi i*cap) hi.length+sm (fun i=>vI cs i) 0:=by rw[show k=hi.length by omega];exact (Int.add_zero _).symm
    refine zaj.mk ?_
    refine Exists.intro (0:Nat) ?_
    refine And.intro (Leaf.mk ?_) ?_
    · repeat' first|exact True.intro|refine And.intro ?_ ?_
      all_goals try ((change _=_<;>try dsimp only)<;>try with_reducible rfl)
      all_goals try omega
      all_goals (first|rfl|exact e|exact ndec h2|exact ndec h3)
    exact⟨Nat.zero_le _,rfl⟩
  · rename_i h1 h2 h3 h4 w1 w2 w3 k hk hlt hs q hq hqt
    refine zaj.mk ?_
    refine Exists.intro (0:Nat) ?_
    refine And.intro (Leaf.mk ?_) ?_
    · repeat' first|exact True.intro|refine And.intro ?_ ?_
      all_goals try ((change _=_<;>try dsimp only)<;>try with_reducible rfl)
      all_goals try omega
      all_goals (first|rfl|exact ndec h2|exact ndec h3)
    exact Nat.zero_le _
  · rename_i h1 h2 h3 h4 w1 w2 w3 k hk hlt hs q hq hqt i hi' hit
    have hW:=wt_c (n:=ncol t) h1 h2 h3 h4 w1 w2 w3
    obtain⟨v1,⟨v2,v3,v4⟩,v5,v6,v7⟩:=zaZ hW
    have q1:=v5 i (by omega)
    have q2:=v6 i (by omega)
    show -9223372036854775808≤vI lo i - vI hi i∧vI lo i - vI hi i≤9223372036854775807
    omega
  · rename_i h1 h2 h3 h4 w1 w2 w3 k hk hlt hs q hq hqt i hi' hit
    have hW:=wt_c (n:=ncol t) h1 h2 h3 h4 w1 w2 w3
    obtain⟨v1,⟨v2,v3,v4⟩,v5,v6,v7⟩:=zaZ hW
    have e:(rowN t i).length=ncol t:=hg.rows i (by omega)
    show 0≤(q:Int)∧(q:Int)<((rowN t i).length:Int)
    omega
  · rename_i h1 h2 h3 h4 w1 w2 w3 k hk hlt hs q hq hqt i hi' hit
    have hW:=wt_c (n:=ncol t) h1 h2 h3 h4 w1 w2 w3
    obtain⟨v1,⟨v2,v3,v4⟩,v5,v6,v7⟩:=zaZ hW
    have z:=(zjT hg hW (j:=q) (i:=0) (by omega) (by omega)).2 i (by omega)
    exact⟨Int.le_trans (by decide) z.1,Int.le_trans z.2 (by decide)⟩
  · rename_i h1 h2 h3 h4 w1 w2 w3 k hk hlt hs q hq hqt i hi' hit
    have hW:=wt_c (n:=ncol t) h1 h2 h3 h4 w1 w2 w3
    obtain⟨v1,⟨v2,v3,v4⟩,v5,v6,v7⟩:=zaZ hW
    have z:=(zjT hg hW (j:=q) (i:=i+1) (by omega) (by omega)).1
    exact⟨Int.le_trans (by decide) z.1,Int.le_trans z.2 (by decide)⟩
  · rename_i h1 h2 h3 h4 w1 w2 w3 k hk hlt hs q hq hqt i hi' hit
    refine zaj.mk ?_
    refine Exists.intro (i+1) ?_
    refine And.intro (Leaf.mk ?_) ?_
    · repeat' first|exact True.intro|refine And.intro ?_ ?_
      all_goals try ((change _=_<;>try dsimp only)<;>try with_reducible rfl)
      all_goals try omega
      all_goals (first|rfl|exact ndec h2|exact ndec h3)
    exact⟨(show i+1≤lo.length by omega),(show lo.length - (i+1)<lo.length - i by omega)⟩
  · rename_i h1 h2 h3 h4 w1 w2 w3 k hk hlt hs q hq hqt i hi' hit hm
    have hW:=wt_c (n:=ncol t) h1 h2 h3 h4 w1 w2 w3
    obtain⟨v1,⟨v2,v3,v4⟩,v5,v6,v7⟩:=zaZ hW
    rw[show i=t.length by omega] at hm
    have hno:okW t lo hi cs (ncol t)=false:=zo5 (k:=q) hm _ (by omega)
    rw[zqx hW (fun z=>by rw[hno] at z;cases z.2)];exact⟨⟨rfl,rfl⟩,rfl⟩
  · rename_i h1 h2 h3 h4 w1 w2 w3 k hk hlt hs q hq hqt i hi' hit hm
    have hW:=wt_c (n:=ncol t) h1 h2 h3 h4 w1 w2 w3
    obtain⟨v1,⟨v2,v3,v4⟩,v5,v6,v7⟩:=zaZ hW
    have z:=zof (cap:=cap) g3 (show hi.length≤4 by omega) (by rw[v3];exact v6) hi.length (by omega)
    have z2:=(zog v4 (by omega) v7) (q+1) (by omega)
    have z2:0≤sm (fun i=>vI cs i) q+List.getD cs q (Ty.dflt I64)∧sm (fun i=>vI cs i) q+List.getD cs q (Ty.dflt I64)≤4000000000000:=z2
    rw[Int.add_assoc]
    exact⟨Int.le_trans (by decide) (Int.add_nonneg z.1 z2.1),Int.le_trans (Int.add_le_add z.2 z2.2) (by decide)⟩
  · rename_i h1 h2 h3 h4 w1 w2 w3 k hk hlt hs q hq hqt i hi' hit hm
    have hW:=wt_c (n:=ncol t) h1 h2 h3 h4 w1 w2 w3
    obtain⟨v1,⟨v2,v3,v4⟩,v5,v6,v7⟩:=zaZ hW
    omega
  · rename_i h1 h2 h3 h4 w1 w2 w3 k hk hlt hs q hq hqt i hi' hit hm
    rw[show i=t.length by omega] at hm
    have hm:colW t lo hi q t.length≤vI cs q:=hm
    have e:sm (fun i=>vI hi i*cap) hi.length+sm (fun i=>vI cs i) q+vI cs q=sm (fun i=>vI hi i*cap) hi.length+sm (fun i=>vI cs i) (q+1):=Int.add_assoc _ _ _
    refine zaj.mk ?_
    refine Exists.intro (q+1) ?_
    refine And.intro (Leaf.mk ?_) ?_
    · repeat' first|exact True.intro|refine And.intro ?_ ?_
      all_goals try ((change _=_<;>try dsimp only)<;>try with_reducible rfl)
      all_goals try omega
      all_goals (first|rfl|exact e|exact ndec h2|exact ndec h3)
    exact⟨⟨(show q+1≤cs.length by omega),(show (okW t lo hi cs q&&decide (colW t lo hi q t.length≤vI cs q))=true by rw[hq.2,decide_eq_true hm];rfl)⟩,(show cs.length - (q+1)<cs.length - q by omega)⟩
  · rename_i h1 h2 h3 h4 w1 w2 w3 k hk hlt hs q hq hqt
    have hW:=wt_c (n:=ncol t) h1 h2 h3 h4 w1 w2 w3
    obtain⟨v1,⟨v2,v3,v4⟩,v5,v6,v7⟩:=zaZ hW
    rw[show q=cs.length by omega,zrA]
    have:=zgC hg hW
    have e:(0:Int)≤sumI hi*cap+sumI cs∧sumI hi*cap+sumI cs≤5000000000000000:=by omega
    exact⟨by omega,by omega,by omega⟩
  · rename_i h1 h2 h3 h4 w1 w2 w3 k hk hlt hs q hq hqt
    have hW:=wt_c (n:=ncol t) h1 h2 h3 h4 w1 w2 w3
    obtain⟨v1,⟨v2,v3,v4⟩,v5,v6,v7⟩:=zaZ hW
    have e:=hq.2
    rw[show q=ncol t by omega] at e
    rw[show k=lo.length by omega] at hs
    rw[zum hW hs e,show q=cs.length by omega,zrA];exact⟨⟨rfl,rfl⟩,rfl⟩
  · rename_i h1 h2 h3 h4 w1 w2
    have e:wtE0 t.length (ncol t) d lo hi cs=2:=(if_pos h1).trans ((if_pos ⟨Int.ofNat_inj.1 h2,Int.ofNat_inj.1 h3,Int.ofNat_inj.1 h4⟩).trans ((if_pos (of_decide_eq_true w1)).trans (if_neg (of_decide_eq_false w2))))
    rw[zhY (by rw[e];decide),e];exact⟨⟨rfl,rfl⟩,rfl⟩
  · rename_i h1 h2 h3 h4 w1
    have e:wtE0 t.length (ncol t) d lo hi cs=2:=(if_pos h1).trans ((if_pos ⟨Int.ofNat_inj.1 h2,Int.ofNat_inj.1 h3,Int.ofNat_inj.1 h4⟩).trans (if_neg (of_decide_eq_false w1)))
    rw[zhY (by rw[e];decide),e];exact⟨⟨rfl,rfl⟩,rfl⟩
  · rename_i h1 h2 h3
    have e:wtE0 t.length (ncol t) d lo hi cs=10:=(if_pos h1).trans (if_neg fun q=>h3 (congrArg Int.ofNat q.2.1))
    rw[zhY (by rw[e];decide),e];exact⟨⟨rfl,rfl⟩,rfl⟩
  · rename_i h1 h2
    have e:wtE0 t.length (ncol t) d lo hi cs=10:=(if_pos h1).trans (if_neg fun q=>h2 (congrArg Int.ofNat q.1))
    rw[zhY (by rw[e];decide),e];exact⟨⟨rfl,rfl⟩,rfl⟩
/-! ### Lowest terms -/
def lowA (a b:Int):Int:=Int.tdiv a (gcd2 a b)
def lowC (a b:Int):Int:=Int.tdiv b (gcd2 a b)
theorem zez {a b:Int} (hb:0<b):∃g,0<g∧a=lowA a b*g∧b=lowC a b*g∧0<lowC a b:=by
  obtain⟨g,h0,h1,h2,h3⟩:=@zqC a b
  have hg:=zmN (a:=a) hb
  rw[h1] at hg
  have e1:lowA a b=Int.tdiv a g:=by unfold lowA;rw[h1]
  have e2:lowC a b=Int.tdiv b g:=by unfold lowC;rw[h1]
  refine⟨g,hg,by rw[e1];exact h2,by rw[e2];exact h3,?_⟩
  rw[e2]
  refine Int.not_le.1 fun h=>?_
  have:=Int.mul_le_mul_of_nonneg_right h h0
  rw[Int.zero_mul] at this
  omega
theorem zpq {a b:Int} {A B:Int} (h1 : -A≤a∧a≤A) (hb:0<b∧b≤B):(-A≤lowA a b∧lowA a b≤A)∧0<lowC a b∧lowC a b≤B:=by
  obtain⟨g,hg,e1,e2,h0⟩:=zez (a:=a) hb.1
  generalize lowA a b=x at *
  generalize lowC a b=y at *
  have k1:y*1≤y*g:=Int.mul_le_mul_of_nonneg_left (by omega) (by omega)
  refine⟨?_,h0,by omega⟩
  rcases Int.le_total 0 x with hx|hx
  · have k2:x*1≤x*g:=Int.mul_le_mul_of_nonneg_left (by omega) hx
    have k3:0≤x*g:=Int.mul_nonneg hx (by omega)
    omega
  · have k2:(-x)*1≤(-x)*g:=Int.mul_le_mul_of_nonneg_left (by omega) (by omega)
    simp only[Int.neg_mul,Int.mul_one] at k2
    have k3:0≤(-x)*g:=Int.mul_nonneg (by omega) (by omega)
    rw[Int.neg_mul] at k3
    omega
/-! ### No value is greater than a bound -/
theorem ztk {xs : List Int}:∀ {k i:Nat},i≤k→mn xs k≤vI xs i
  | 0, i, h => by obtain rfl:i=0:=by omega
                  exact Int.le_refl _
  | k + 1,i,h=>by
    simp only[mn]
    by_cases e:i=k+1
    · subst e;split
      · exact Int.le_refl _
      · rename_i h1;exact Int.not_lt.1 h1
    · have:=ztk (xs:=xs) (k:=k) (i:=i) (by omega)
      split<;>omega
theorem weak {t:List (List Int)} {cap d D:Int} {l lo hi cs:List Int} (hg:goodT t cap) (ho:opE t cap d l=0) (hw:wtE t D lo hi cs=0) :
    mn (gets t l t.length) (t.length - 1)*D≤(sumI hi*cap+sumI cs)*d:=by
  obtain⟨o1,o2⟩:=zlI ho
  obtain⟨p1,p2,p3⟩:=zcY o1
  obtain⟨w1,w2,w3⟩:=zn4 hw
  obtain⟨q1,⟨q2,q3,q4⟩,q5,q6,q7⟩:=zaZ w1
  obtain⟨V,hV⟩:∃V,V=mn (gets t l t.length) (t.length - 1):=⟨_,rfl⟩
  rw[←hV]
  have g1:=hg.pos
  have hget:∀i,i<t.length→V≤dotI (rowN t i) l∧dotI (rowN t i) l≤cap*d:=fun i hi=>by
    have h1:=ztk (xs:=gets t l t.length) (k:=t.length - 1) (i:=i) (by omega)
    rw[zbU hi,←hV] at h1
    have h2:=zph.1 o2 i (by omega)
    rw[zbU hi] at h2
    exact⟨h1,h2⟩
  have hdot:∀i,i<t.length→dotI (rowN t i) l=sm (fun j=>vI (rowN t i) j*vI l j) (ncol t):=fun i hi=>by unfold dotI;rw[hg.rows i hi]
  -- V D is at most the sum of lo times what the seats get
  have s1:V*D≤sm (fun i=>vI lo i*dotI (rowN t i) l) t.length:=by
    rw[←w2,Int.mul_comm]
    unfold sumI
    rw[q2,←zbV]
    exact zjg _ fun i hi=>Int.mul_le_mul_of_nonneg_left (hget i hi).1 (q5 i hi).1
  have s2:sm (fun i=>vI lo i*dotI (rowN t i) l) t.length=sm (fun i=>(vI lo i - vI hi i)*dotI (rowN t i) l) t.length+sm (fun i=>vI hi i*dotI (rowN t i) l) t.length:=by
    rw[←zor]
    exact zap _ fun i _=>by rw[←Int.add_mul];congr 1;omega
  have s3:sm (fun i=>(vI lo i - vI hi i)*dotI (rowN t i) l) t.length=sm (fun j=>colW t lo hi j t.length*vI l j) (ncol t):=by
    rw [zap (g:=fun i=>sm (fun j=>(vI lo i - vI hi i)*vI (rowN t i) j*vI l j) (ncol t)) t.length (fun i hi'=>by
      show (vI lo i - vI hi i)*dotI (rowN t i) l=_
      rw[hdot i hi',←zkk];exact zap _ fun j _=>(Int.mul_assoc _ _ _).symm),zlp]
    exact zap _ fun j _=>by
      show sm (fun i=>(vI lo i - vI hi i)*vI (rowN t i) j*vI l j) t.length=_
      rw[zbV];rfl
  have s4:sm (fun j=>colW t lo hi j t.length*vI l j) (ncol t)≤sm (fun j=>vI cs j) (ncol t)*d:=by
    rw[←zbV]
    refine zjg _ fun j hj=>?_
    have h1:=p3 j (by omega)
    have h2:=zo6 w3 j hj
    have h3:=q7 j hj
    exact Int.le_trans (Int.mul_le_mul_of_nonneg_right h2 h1.1) (Int.mul_le_mul_of_nonneg_left h1.2 h3.1)
  have s5:sm (fun i=>vI hi i*dotI (rowN t i) l) t.length≤sm (fun i=>vI hi i) t.length*(cap*d):=by
    rw[←zbV]
    exact zjg _ fun i hi'=>Int.mul_le_mul_of_nonneg_left (hget i hi').2 (q6 i hi').1
  have s6:(sumI hi*cap+sumI cs)*d=sm (fun i=>vI hi i) t.length*(cap*d)+sm (fun j=>vI cs j) (ncol t)*d:=by
    unfold sumI;rw[q3,q4,Int.add_mul,Int.mul_assoc]
  rw[s6]
  omega
/-! ### Levels -/
def lvE (n:Int):Int:=if 0≤n∧n≤1000 then 0 else 2
@[reducible] def sLvE:Spec:={pats:=[.dat I64],res:=[{t:=I64}],pre:=fun _=>True,f:=fun x=>(lvE x.1,())}
theorem h114:Ok 114 sLvE:=by
  refine mk (ctr:=[(85,zcH),(88,zbH)]) ⟨h85,h88,trivial⟩ (nt:=6) Tryz.func114 rfl rfl rfl rfl (by kernel_rfl) (by kernel_rfl) (fun _=>[]) ?_
  rintro⟨(n:Int),⟨⟩⟩ _
  repeat' (intro hzz;(try (rename Two=>hq;cases hq));(try dsimp only at hzz);(try simp only[zad,zac,eqD,inR,big,zab,zB] at hzz);(try simp only[zad,zac,eqD,inR,big,zab,zB,zaq] at hzz);(try (revert hzz;intro _)))
  all_goals try (rename Unit=>hq;clear hq)
  all_goals try ((with_reducible refine Held.mk ?_);(with_reducible (first|refine Frz.mk ?_|refine And.intro (Frz.mk ?_) ?_|refine And.intro ?_ (Frz.mk ?_)));repeat' first|exact True.intro|(change _=_;with_reducible rfl)|refine And.intro ?_ ?_|(with_reducible refine Frz.mk ?_))
  all_goals try (refine Held.mk ?_;(try dsimp only at *);(try simp only[zad,zac,eqD,inR,big,zab,zB] at *);(try simp only[zad,zac,eqD,inR,big,zab,zB,zaq] at *))
  all_goals (simp only[lvE];split<;>first|rfl|(rw[decide_eq_true (by omega)];rfl)|(rw[decide_eq_false (by omega)];rfl))
def wtV1 (cap d:Int) (hi cs:List Int):Int:=lowA (sumI hi*cap+sumI cs) d
def wtV2 (cap d:Int) (hi cs:List Int):Int:=lowC (sumI hi*cap+sumI cs) d
def opV1 (t:List (List Int)) (d:Int) (l:List Int):Int:=lowA (mn (gets t l t.length) (t.length - 1)) d
def opV2 (t:List (List Int)) (d:Int) (l:List Int):Int:=lowC (mn (gets t l t.length) (t.length - 1)) d
def crR (t:List (List Int)) (cap n d:Int) (lo hi cs:List Int):Int:=
  if chkT t cap=0 then (if lvE n=0 then (if wtE t d lo hi cs=0 then (if wtV1 cap d hi cs<n*wtV2 cap d hi cs then 0 else 20) else wtE t d lo hi cs) else lvE n) else chkT t cap
@[reducible] def zoB:Spec:={pats:=[.dat zeI,.dat I64,.dat zdY],res:=[{t:=I64}],pre:=fun x=>pW3 (List.length (α:=Int) x.2.2.1.2.1) (List.length (α:=Int) x.2.2.1.2.2.1) (List.length (α:=Int) x.2.2.1.2.2.2.1),f:=fun x=>(crR x.1.1 x.1.2.1 x.2.1 x.2.2.1.1 x.2.2.1.2.1 x.2.2.1.2.2.1 x.2.2.1.2.2.2.1,())}
theorem zun {t:List (List Int)} {cap d:Int} {lo hi cs:List Int} (h:wtE t d lo hi cs=0):wtR t cap d lo hi cs=((wtV1 cap d hi cs,wtV2 cap d hi cs,()),0,()):=if_pos h
theorem zwo {t:List (List Int)} {cap d:Int} {lo hi cs:List Int} (h:¬wtE t d lo hi cs=0):wtR t cap d lo hi cs=((0,0,()),wtE t d lo hi cs,()):=if_neg h
theorem zul {t:List (List Int)} {cap d:Int} {lo hi cs:List Int} (hg:goodT t cap) (h:wtE t d lo hi cs=0):(-5000000000000000≤wtV1 cap d hi cs∧wtV1 cap d hi cs≤5000000000000000)∧0<wtV2 cap d hi cs∧wtV2 cap d hi cs≤1000000000000:=by
  have h1:=zgC hg (zn4 h).1
  have h2:=(zaZ (zn4 h).1).1
  exact zpq (by omega) (by omega)
theorem zvy {t:List (List Int)} {cap d:Int} {l:List Int} (hg:goodT t cap) (h:opE t cap d l=0):(-300000000000000≤opV1 t d l∧opV1 t d l≤300000000000000)∧0<opV2 t d l∧opV2 t d l≤1000000000000:=by
  have g1:=hg.pos
  have q:=zmF (xs:=gets t l t.length) (A:=0) (B:=300000000000000) (k:=t.length - 1) fun i hi=>by
    rw[zbU (by omega)];exact (zkW hg (zlI h).1 (by omega)).1
  have q2:=(zcY (zlI h).1).1
  exact zpq (by omega) (by omega)
theorem h55:Ok 55 zoB:=by
  refine mk (ctr:=[(64,zlu),(65,zls),(73,zgp),(85,zcH),(114,sLvE)]) ⟨h64,h65,h73,h85,h114,trivial⟩ (nt:=36) Tryz.func55 rfl rfl rfl rfl (by kernel_rfl) (by kernel_rfl) (fun _=>[]) ?_
  rintro⟨⟨(t:List (List Int)),(cap:Int),⟨⟩⟩,(n:Int),⟨(d:Int),(lo:List Int),(hi:List Int),(cs:List Int),⟨⟩⟩,⟨⟩⟩ (hp:pW3 lo.length hi.length cs.length)
  have hF:za6 [chkT t cap,lvE n]=if chkT t cap=0 then lvE n else chkT t cap:=by
    simp only[za6]
    split
    · split
      · rename_i h;exact h.symm
      · rfl
    · rfl
  by_cases h0:chkT t cap=0
  · have hg:=zdP h0
    have hA:wtRA t cap d lo hi cs=wtR t cap d lo hi cs:=if_pos h0
    rw[if_pos h0] at hF
    by_cases h1:lvE n=0
    · by_cases h2:wtE t d lo hi cs=0
      · have hV:=zul hg h2
        rw[zun h2] at hA
        obtain⟨b1,hb1⟩:∃b1:Int,wtV1 cap d hi cs=b1:=⟨_,rfl⟩
        obtain⟨b2,hb2⟩:∃b2:Int,wtV2 cap d hi cs=b2:=⟨_,rfl⟩
        rw[hb1,hb2] at hV hA
        have hn:0≤n∧n≤1000:=by
          unfold lvE at h1;split at h1
          · assumption
          · cases h1
        have hm:=zcL hn (show 0≤b2∧b2≤1000000000000 by omega)
        have e:crR t cap n d lo hi cs=bif decide (b1<n*b2) then 0 else 20:=by
          unfold crR;rw[if_pos h0,if_pos h1,if_pos h2,hb1,hb2]
          by_cases q:b1<n*b2
          · rw[if_pos q,decide_eq_true q];rfl
          · rw[if_neg q,decide_eq_false q];rfl
        have hF2:za6 [0,lvE n]=0:=by rw[h0] at hF;rw[hF,h1]
        repeat' (intro hzz;(try (rename Two=>hq;cases hq));(try dsimp only at hzz);(try simp only[zad,zac,eqD,inR,big,zab,zB] at hzz);(try simp only[zad,zac,eqD,inR,big,zab,zB,hF2,hA,h0,h1,h2] at hzz);(try (first|contradiction|(exfalso;omega)));(try (revert hzz;intro _)))
        all_goals try (rename Unit=>hq;clear hq)
        all_goals try ((with_reducible refine Held.mk ?_);(with_reducible (first|refine Frz.mk ?_|refine And.intro (Frz.mk ?_) ?_|refine And.intro ?_ (Frz.mk ?_)));repeat' first|exact True.intro|(change _=_;with_reducible rfl)|refine And.intro ?_ ?_|(with_reducible refine Frz.mk ?_))
        all_goals try (refine Held.mk ?_;(try dsimp only at *);(try simp only[zad,zac,eqD,inR,big,zab,zB] at *);(try simp only[zad,zac,eqD,inR,big,zab,zB,hF2,hA,h0,h1,h2] at *))
        all_goals try omega
        all_goals first|exact hp|(show ((2:Nat):Int)≤4611686018427387904;decide)|exact e.symm|trace_state
      · have e:crR t cap n d lo hi cs=wtE t d lo hi cs:=by
          unfold crR;rw[if_pos h0,if_pos h1,if_neg h2]
        rw[zwo h2] at hA
        have hF2:za6 [0,lvE n]=0:=by rw[h0] at hF;rw[hF,h1]
        repeat' (intro hzz;(try (rename Two=>hq;cases hq));(try dsimp only at hzz);(try simp only[zad,zac,eqD,inR,big,zab,zB] at hzz);(try simp only[zad,zac,eqD,inR,big,zab,zB,hF2,hA,h0,h1,h2,e] at hzz);(try (first|contradiction|(exfalso;omega)));(try (revert hzz;intro _)))
        all_goals try (rename Unit=>hq;clear hq)
        all_goals try ((with_reducible refine Held.mk ?_);(with_reducible (first|refine Frz.mk ?_|refine And.intro (Frz.mk ?_) ?_|refine And.intro ?_ (Frz.mk ?_)));repeat' first|exact True.intro|(change _=_;with_reducible rfl)|refine And.intro ?_ ?_|(with_reducible refine Frz.mk ?_))
        all_goals try (refine Held.mk ?_;(try dsimp only at *);(try simp only[zad,zac,eqD,inR,big,zab,zB] at *);(try simp only[zad,zac,eqD,inR,big,zab,zB,hF2,hA,h0,h1,h2,e] at *))
        all_goals try omega
        all_goals first|exact hp|(show ((2:Nat):Int)≤4611686018427387904;decide)|exact e.symm|trace_state
    · have e:crR t cap n d lo hi cs=lvE n:=by
        unfold crR;rw[if_pos h0,if_neg h1]
      have hF2:za6 [0,lvE n]=lvE n:=by rw[h0] at hF;exact hF
      repeat' (intro hzz;(try (rename Two=>hq;cases hq));(try dsimp only at hzz);(try simp only[zad,zac,eqD,inR,big,zab,zB] at hzz);(try simp only[zad,zac,eqD,inR,big,zab,zB,hF2,h0,h1,e] at hzz);(try (first|contradiction|(exfalso;omega)));(try (revert hzz;intro _)))
      all_goals try (rename Unit=>hq;clear hq)
      all_goals try ((with_reducible refine Held.mk ?_);(with_reducible (first|refine Frz.mk ?_|refine And.intro (Frz.mk ?_) ?_|refine And.intro ?_ (Frz.mk ?_)));repeat' first|exact True.intro|(change _=_;with_reducible rfl)|refine And.intro ?_ ?_|(with_reducible refine Frz.mk ?_))
      all_goals try (refine Held.mk ?_;(try dsimp only at *);(try simp only[zad,zac,eqD,inR,big,zab,zB] at *);(try simp only[zad,zac,eqD,inR,big,zab,zB,hF2,h0,h1,e] at *))
      all_goals try omega
      all_goals first|exact hp|(show ((2:Nat):Int)≤4611686018427387904;decide)|exact e.symm|trace_state
  · have e:crR t cap n d lo hi cs=chkT t cap:=by
      unfold crR;rw[if_neg h0]
    rw[if_neg h0] at hF
    repeat' (intro hzz;(try (rename Two=>hq;cases hq));(try dsimp only at hzz);(try simp only[zad,zac,eqD,inR,big,zab,zB] at hzz);(try simp only[zad,zac,eqD,inR,big,zab,zB,hF,h0,e] at hzz);(try (first|contradiction|(exfalso;omega)));(try (revert hzz;intro _)))
    all_goals try (rename Unit=>hq;clear hq)
    all_goals try ((with_reducible refine Held.mk ?_);(with_reducible (first|refine Frz.mk ?_|refine And.intro (Frz.mk ?_) ?_|refine And.intro ?_ (Frz.mk ?_)));repeat' first|exact True.intro|(change _=_;with_reducible rfl)|refine And.intro ?_ ?_|(with_reducible refine Frz.mk ?_))
    all_goals try (refine Held.mk ?_;(try dsimp only at *);(try simp only[zad,zac,eqD,inR,big,zab,zB] at *);(try simp only[zad,zac,eqD,inR,big,zab,zB,hF,h0,e] at *))
    all_goals try omega
    all_goals first|exact hp|(show ((2:Nat):Int)≤4611686018427387904;decide)|exact e.symm|trace_state
end Go.Eng.Ar
namespace Go.Eng.Ar
open Go.Eng Go.Proofs Go.Eng.LP
set_option linter.all false
set_option maxRecDepth 100000
set_option maxHeartbeats 4000000
/-! ### Determinants of rows of small numbers -/
def sqB (X:Int) (N:Nat) (rows:List (List Int)):Prop:=rows.length=N∧∀r∈rows,r.length=N∧∀x∈r,-X≤x∧x≤X
def detX (X:Int):Nat→Int
  | 0=>1
  | n+1=>(n+1)*(X*detX X n)
theorem zqF {X:Int} {N k:Nat} {rows:List (List Int)} (h:sqB X (N+1) rows) (hk:k<N+1):sqB X N (zaJ 0 k 0 rows):=by
  obtain⟨h1,h2⟩:=h
  cases rows with
  | nil=>simp at h1
  | cons r t=>
    have e:zaJ 0 k 0 (r::t)=t.map (zaY k 0):=by
      simp only[zaJ,Int.natCast_zero,if_true]
      exact zc6 k t 0
    rw[e]
    refine⟨by simp at h1 ⊢;omega,fun q hq=>?_⟩
    obtain⟨p,hp,rfl⟩:=List.mem_map.1 hq
    obtain⟨h3,h4⟩:=h2 p (List.mem_cons_of_mem _ hp)
    exact⟨by rw[zfc,if_pos (by omega)];omega,fun x hx=>h4 x (zdR _ _ _ _ hx)⟩
theorem zoh {X:Int} {f:List (List Int)→Int} {rows:List (List Int)} {N:Nat} {B:Int} (hf:∀k:Nat,k<N→-B≤f (zaJ 0 k 0 rows)∧f (zaJ 0 k 0 rows)≤B) :
    ∀(l:List Int) (sign:Int) (k:Nat),(sign=1∨sign = -1)→k+l.length≤N→(∀x∈l,-X≤x∧x≤X)→-(l.length*(X*B))≤sumD f rows sign k l∧sumD f rows sign k l≤l.length*(X*B)
  | [],_,_,_,_,_=>by simp[sumD]
  | x :: r,sign,k,hs,hk,hx=>by
    simp only[List.length_cons] at hk
    have ih:=zoh hf r (-sign) (k+1) (by omega) (by omega) (fun y hy=>hx y (List.mem_cons_of_mem _ hy))
    have hx0:=hx x List.mem_cons_self
    have hf0:=hf k (by omega)
    have h1 : -X≤sign*x∧sign*x≤X:=by rcases hs with rfl|rfl<;>omega
    have h2:=zkL h1.1 h1.2 hf0.1 hf0.2
    simp only[sumD,List.length_cons]
    have e:(((r.length+1:Nat):Int)*(X*B))=(r.length:Int)*(X*B)+X*B:=by
      rw[Int.natCast_add,Int.add_mul];simp
    rw[e]
    generalize (r.length:Int)*(X*B)=z at *
    generalize X*B=y at *
    omega
theorem zp0 {X:Int}:∀(n:Nat) (rows:List (List Int)),sqB X n rows→-(detX X n)≤detN n rows∧detN n rows≤detX X n
  | 0,rows,_=>by simp[detN,detX]
  | n + 1,rows,h=>by
    have hr:(rows.getD 0 []).length=n+1∧∀x∈rows.getD 0 [],-X≤x∧x≤X:=by
      cases rows with
      | nil=>have:=h.1;simp at this
      | cons r t=>exact h.2 r List.mem_cons_self
    have:=zoh (f:=detN n) (rows:=rows) (N:=n+1) (B:=detX X n) (fun k hk=>zp0 n _ (zqF h hk)) (rows.getD 0 []) 1 0 (.inl rfl) (by omega) hr.2
    rw[hr.1] at this
    simp only[detN,detX]
    push_cast at this
    exact this
theorem zmX {N:Nat} (hN:N≤4) {m:List (List Int)} (h:sqB 100 N m) : -1000000000000≤detA m∧detA m≤1000000000000:=by
  have h1:=zp0 N m h
  have h2:detX 100 N≤1000000000000:=by
    have g:N=0∨N=1∨N=2∨N=3∨N=4:=by omega
    rcases g with rfl|rfl|rfl|rfl|rfl<;>decide
  unfold detA
  rw[h.1];omega
/-! ### Solutions, in whole numbers -/
theorem zr7 {a b:Int} (h:qI a=qI b):a=b:=Rat.intCast_inj.1 h
theorem zjd {N:Nat} (hN:N≤4) {m:List (List Int)} {right:List Int} (h1:m.length=N) (h2:∀i,i<N→(rowN m i).length=N) (hd:detA m≠0) :
    (∀i,i<N→sm (fun j=>vI (rowN m i) j*vI (zau m right).1 j) N=vI right i*(zau m right).2.1)∧0<(zau m right).2.1:=by
  have hD:D N (mQ m)≠0:=by rw[←znK hN h1 (zew h1 h2)];exact zoU.2 hd
  obtain⟨x,hx⟩:=sol hN hD (fun i=>qI (vI right i))
  obtain⟨sx,sd⟩:=zjc hN (right:=right) h1 h2 hd hx
  refine⟨fun i hi=>zr7 ?_,sd⟩
  rw[zqO,zfp,←hx i hi,←zdv]
  exact zas N fun j hj=>by rw[zfp,sx j hj];grind
/-! ### Sums in parts -/
theorem zch (f:Nat→Int) (a:Nat):∀b,sm f (a+b)=sm f a+sm (fun i=>f (a+i)) b
  | 0=>by simp[sm]
  | b+1=>by
    rw[←Nat.add_assoc]
    simp only[sm]
    rw[zch f a b];omega
theorem zmm (f g:Nat→Int):∀n,sm (fun i=>f i - g i) n=sm f n - sm g n
  | 0=>rfl
  | n+1=>by simp only[sm,zmm f g n];omega
theorem zop {f g:Nat→Int} {p:Nat}:∀ {n},p<n→(∀i,i<n→i≠p→g i=f i)→sm g n=sm f n - f p+g p
  | n + 1,hp,h=>by
    simp only[sm]
    by_cases e:p=n
    · subst e
      rw[zap (g:=f) p (fun i hi=>h i (by omega) (by omega))];omega
    · rw[zop (n:=n) (by omega) (fun i hi hq=>h i (by omega) hq),h n (by omega) (by omega)];omega
theorem zkj {f:Nat→Int} {p:Nat} {n:Nat} (hp:p<n) (h:∀i,i<n→i≠p→f i=0):sm f n=f p:=by
  rw[zop (f:=fun _=>0) hp h,zdc];omega
/-! ### The chosen bounds -/
theorem zhJ:∀(k f r:Nat) (c:List Int),c∈zb9 k f r→∀i j,i<j→j<k→vI c i<vI c j
  | 0,_,_,_,_,_,_,_,h=>absurd h (Nat.not_lt_zero _)
  | k+1,f,0,c,h,_,_,_,_=>by simp[zb9] at h
  | k + 1,f,r+1,c,h,i,j,hij,hj=>by
    simp only[zb9,List.mem_append,List.mem_map] at h
    rcases h with ⟨d,hd,rfl⟩|h
    · obtain ⟨h1,h2⟩:=zcQ k (f+1) r d hd
      match i,j,hij with
      | 0,j+1,_=>
        have:=(h2 _ (zgU (l:=d) (i:=j) (by omega))).1
        show (f:Int)<vI d j
        omega
      | i+1,j+1,hij=>exact zhJ k (f+1) r d hd i j (by omega) (by omega)
    · exact zhJ (k+1) (f+1) r c h i j hij hj
theorem zeK {l:List Int} {p k:Nat} {v:Int} (hp:p<l.length):vI (l.set p v) k=if k=p then v else vI l k:=by
  simp only[vI,List.getD_eq_getElem?_getD,List.getElem?_set]
  by_cases e:p=k
  · subst e;rw[if_pos rfl,if_pos hp,if_pos rfl];rfl
  · rw[if_neg e,if_neg (fun h=>e h.symm)]
theorem zi6 {n:Nat} {k:Nat}:vI (repl (n:Int) (0:Int)) k=0:=by
  rw[zef]
  simp only[vI,List.getD_eq_getElem?_getD,List.getElem?_replicate]
  split<;>rfl
theorem zrB {M:Nat} {c y:List Int} {N:Nat} (hc:∀i,i<N→(vI c i).toNat<M) (ha:∀i j,i<j→j<N→(vI c i).toNat≠(vI c j).toNat) (g:Nat→Int) :
    ∀i,i≤N→sm (fun k=>vI (wsP M c y i) k*g k) M=sm (fun i=>vI y i*g (vI c i).toNat) i
  | 0,_=>by
    simp only[wsP,sm]
    rw[zap (g:=fun _=>0) M (fun k _=>by rw[zi6,Int.zero_mul]),zdc]
  | i + 1,hi=>by
    have ih:=zrB (y:=y) hc ha g i (by omega)
    have hz:∀k,k≤i→vI (wsP M c y k) (vI c i).toNat=0:=fun k=>by
      induction k with
      | zero=>intro _;exact zi6
      | succ k ihk=>
        intro hk
        simp only[wsP]
        rw[zeK (by rw[zd0];exact hc k (by omega)),if_neg (fun e=>ha k i (by omega) (by omega) e.symm)]
        exact ihk (by omega)
    rw [zop (f:=fun k=>vI (wsP M c y i) k*g k) (hc i (by omega)) (fun k _ hne=>by
      simp only[wsP]
      rw[zeK (by rw[zd0];exact hc i (by omega)),if_neg hne]),ih]
    rw[hz i (Nat.le_refl _)]
    simp only[wsP,sm]
    rw[zeK (by rw[zd0];exact hc i (by omega)),if_pos rfl];omega
theorem zup {M:Nat} {c y:List Int} {N:Nat} {B:Int} (hB:0≤B) (hc:∀i,i<N→(vI c i).toNat<M) (hy:∀i,i<N→0≤vI y i∧vI y i≤B):∀i,i≤N→∀k,0≤vI (wsP M c y i) k∧vI (wsP M c y i) k≤B
  | 0,_,k=>by
    have e:vI (wsP M c y 0) k=0:=zi6
    omega
  | i+1,hi,k=>by
    simp only[wsP]
    rw[zeK (by rw[zd0];exact hc i (by omega))]
    split
    · exact hy i (by omega)
    · exact zup hB hc hy i (by omega) k
theorem zmG {m:List (List Int)} {r:List Int} (h:r∈m):∃k,k<m.length∧r=rowN m k:=by
  obtain⟨k,hk,e⟩:=List.getElem_of_mem h
  exact⟨k,hk,by simp[rowN,List.getD,List.getElem?_eq_getElem hk,e]⟩
theorem zkG {b:List BndD} {x:List Int} {d:Int}:∀ {n:Nat},zdh b x d n=true→∀k,k<n→dotI (bdN b k).1 x≤zbK b k*d
  | n+1,h,k,hk=>by
    simp only[zdh,Bool.and_eq_true] at h
    by_cases e:k=n
    · subst e;exact of_decide_eq_true h.2
    · exact zkG h.1 k (by omega)
structure cornV (t:List (List Int)) (cap:Int) (x:zcg):Prop where
  l1:List.length (α:=Int) x.1=ncol t+1
  l2:List.length (α:=Int) x.2.2.1=t.length+t.length+ncol t+ncol t
  d1:(0:Int)<x.2.1∧x.2.1≤(1000000000000:Int)
  d2:(0:Int)<x.2.2.2.1∧x.2.2.2.1≤(1000000000000:Int)
  low:∀i,i<t.length→vI x.1 (ncol t)≤sm (fun j=>vI (rowN t i) j*vI x.1 j) (ncol t)
  high:∀i,i<t.length→sm (fun j=>vI (rowN t i) j*vI x.1 j) (ncol t)≤cap*x.2.1
  box:∀j,j<ncol t→0≤vI x.1 j∧vI x.1 j≤x.2.1
  ws:∀k,0≤vI x.2.2.1 k∧vI x.2.2.1 k≤1000000000000
  slow:sm (fun i=>vI x.2.2.1 i) t.length=x.2.2.2.1
  col:∀j,j<ncol t→sm (fun i=>(vI x.2.2.1 i - vI x.2.2.1 (t.length+i))*vI (rowN t i) j) t.length≤vI x.2.2.1 (t.length+t.length+j)
  val:vI x.1 (ncol t)*x.2.2.2.1=(sm (fun i=>vI x.2.2.1 (t.length+i)) t.length*cap+sm (fun j=>vI x.2.2.1 (t.length+t.length+j)) (ncol t))*x.2.1
theorem zp9 {t:List (List Int)} {cap:Int} {x:zcg} (h:goodT t cap) (hx:zfd t cap=some x):cornV t cap x:=by
  obtain⟨c,hc,h1,h2⟩:=zfN hx
  have hg:=zel h c hc
  have hm:=zcQ _ _ _ c hc
  have hasc:=zhJ _ _ _ c hc
  obtain⟨b,hb⟩:∃b,b=zbR t cap (ncol t):=⟨_,rfl⟩
  obtain⟨n,hn⟩:∃n,n=ncol t:=⟨_,rfl⟩
  obtain⟨m,hmm⟩:∃m,m=t.length:=⟨_,rfl⟩
  have bl:∀i,i<m→bdN b i=lowB (rowN t i):=fun i hi=>by rw[hb];exact znb (by omega)
  have bh:∀i,i<m→bdN b (m+i)=znD cap (rowN t i):=fun i hi=>by rw[hb,hmm];exact zma (by omega)
  have bo:∀j,j<n→bdN b (m+m+j)=znw n j:=fun j hj=>by rw[hb,hmm,hn];exact zjY (by omega)
  have bs:∀j,j<n→bdN b (m+m+n+j)=znj n j:=fun j hj=>by rw[hb,hmm,hn];exact zl9 (by omega)
  have hbl:b.length=m+m+n+n:=by rw[hb,zeF,←hmm,←hn]
  have g1:=h.le
  have g2:=h.cle
  have hrow:∀i,i<m→(rowN t i).length=n:=fun i hi=>by rw[hn];exact h.rows i (by omega)
  rw[←hb] at h1 h2 hg
  rw[←hb,←hn] at hm
  rw[←hn] at hasc g2
  rw[←hmm] at g1
  have hcl:c.length=n+1:=hm.1
  have hp:=hg.pos
  -- the parts of at
  have hX:(atX b c).2.2.1=true:=by
    cases e:(atX b c).2.2.1 with
    | true=>rfl
    | false=>rw[at_1 e] at h1;cases h1
  have hO:zdh b (atX b c).1 (atX b c).2.1 b.length=true:=by
    cases e:zdh b (atX b c).1 (atX b c).2.1 b.length with
    | true=>rfl
    | false=>rw[at_2 hX e] at h1;cases h1
  have hM:¬mn (atY b c).1 (c.length - 1)<0:=fun e=>by rw[at_3 hX hO e] at h1;cases h1
  rw[at_4 hX hO hM] at h2
  have hdet:=zj9 hX
  have hdet2:=zqw hg hX
  have r1:(zaz b c c.length).length=n+1:=by rw[zaG,hcl]
  have rr:∀i,i<n+1→rowN (zaz b c c.length) i=(bdN b (vI c i).toNat).1:=fun i hi=>zcU (by omega)
  have r2:∀i,i<n+1→(rowN (zaz b c c.length) i).length=n+1:=fun i hi=>by rw[rr i hi,←hcl];exact hg.len _ (hg.idx i (by omega)).2
  have t1:(trM (zaz b c c.length)).length=n+1:=by rw[zgX,r1]
  have hs:=zhd hg
  have ts:=zsJ hs
  have t2:∀i,i<n+1→(rowN (trM (zaz b c c.length)) i).length=n+1:=fun i hi=>by
    rw[←hcl];exact (ts.2 _ (zku ts (by omega))).1
  obtain⟨eX,pD⟩:=zjd (N:=n+1) (by omega) (right:=rhsP b c c.length) r1 r2 hdet
  obtain⟨eY,pE⟩:=zjd (N:=n+1) (by omega) (right:=zbE (c.length:Int) ((c.length:Int) - 1) 1) t1 t2 hdet2
  -- small numbers
  have small:∀k j,k<b.length→j<n+1→-100≤vI (bdN b k).1 j∧vI (bdN b k).1 j≤100:=fun k j hk hj=>by
    have q:∀i,i<m→j<n→0≤vI (rowN t i) j∧vI (rowN t i) j≤100:=fun i hi hj=>h.vals i j (by omega) (by omega)
    by_cases e1:k<m
    · rw[bl k e1,ze7 (hrow k e1) hj]
      split
      · omega
      · have:=q k e1 (by omega);omega
    by_cases e2:k<m+m
    · rw[show k=m+(k - m) by omega,bh _ (by omega),zeC (hrow _ (by omega)) hj]
      split
      · omega
      · have:=q (k - m) (by omega) (by omega);omega
    by_cases e3:k<m+m+n
    · rw[show k=m+m+(k - (m+m)) by omega,bo _ (by omega),zdF hj];split<;>omega
    · rw[show k=m+m+n+(k - (m+m+n)) by omega,bs _ (by omega),zev hj];split<;>omega
  have hsm:sqB 100 (n+1) (zaz b c c.length):=⟨r1,fun r hr=>by
    obtain⟨i,hi,rfl⟩:=zb5 hr
    have e:=hg.idx i hi
    have e2:(bdL b c i).1.length=n+1:=by rw[←hcl];exact hg.len _ e.2
    refine⟨e2,fun x hx=>?_⟩
    obtain⟨j,hj,rfl⟩:=ziB hx
    exact small _ j e.2 (by rw[←e2];exact hj)⟩
  have hd1:(atX b c).2.1≤1000000000000:=by
    have:=zmX (by omega) hsm
    show (zau _ _).2.1≤_
    unfold zau
    rw[if_neg hdet]
    split
    · show -detA _≤_;omega
    · show detA _≤_;omega
  have hsq2:sqB 100 (n+1) (trM (zaz b c c.length)):=⟨t1,fun r hr=>by
    obtain⟨j,hj,rfl⟩:=zb5 hr
    refine⟨by rw[zal,r1],fun x hx=>?_⟩
    obtain⟨i,hi,rfl⟩:=zb5 hx
    rw[r1] at hi hj
    rw[rr i hi]
    exact small _ j (hg.idx i (by omega)).2 hj⟩
  have hd2:(atY b c).2.1≤1000000000000:=by
    have:=zmX (by omega) hsq2
    show (zau _ _).2.1≤_
    unfold zau
    rw[if_neg hdet2]
    split
    · show -detA _≤_;omega
    · show detA _≤_;omega
  have eu:∀j,j<n+1→vI (zbE (c.length:Int) ((c.length:Int) - 1) 1) j=if j=n then 1 else 0:=fun j hj=>by
    rw[show (c.length:Int) - 1=((n:Nat):Int) by omega,hcl]
    exact zfe hj
  have hyb:∀i,i<n+1→0≤vI (atY b c).1 i∧vI (atY b c).1 i≤1000000000000:=fun i hi=>by
    have q1:=ztk (xs:=(atY b c).1) (k:=c.length - 1) (i:=i) (by omega)
    refine⟨by omega,?_⟩
    have hc2:sqB 100 (n+1) (chk (trM (zaz b c c.length)) (zbE (c.length:Int) ((c.length:Int) - 1) 1) i (trM (zaz b c c.length)).length):=⟨by rw[zdT,t1],fun r hr=>by
      obtain⟨k,hk,e2⟩:=zmG hr
      rw[zdT,t1] at hk
      have e3:rowN (chk (trM (zaz b c c.length)) (zbE (c.length:Int) ((c.length:Int) - 1) 1) i (trM (zaz b c c.length)).length) k=(rowN (trM (zaz b c c.length)) k).set i (vI (zbE (c.length:Int) ((c.length:Int) - 1) 1) k):=by
        have:=zaB (fun r=>if r<(trM (zaz b c c.length)).length then (rowN (trM (zaz b c c.length)) r).set i (vI (zbE (c.length:Int) ((c.length:Int) - 1) 1) r) else []) [] (trM (zaz b c c.length)).length k (by omega)
        rw[if_pos (by omega)] at this
        exact this
      rw[e2,e3]
      refine⟨by rw[List.length_set];exact t2 k hk,fun x hx=>?_⟩
      rcases List.mem_or_eq_of_mem_set hx with hx|rfl
      · exact (hsq2.2 _ (by rw[rowN,List.getD_eq_getElem?_getD,List.getElem?_eq_getElem (by omega)];exact List.getElem_mem _)).2 x hx
      · rw[eu k hk];split<;>omega⟩
    have hb2:=zmX (by omega) hc2
    show vI (zau _ _).1 i≤_
    unfold zau
    rw[if_neg hdet2]
    split
    · have e:vI (negd (dets (trM (zaz b c c.length)) (zbE (c.length:Int) ((c.length:Int) - 1) 1) (trM (zaz b c c.length)).length) (trM (zaz b c c.length)).length) i = -vI (dets (trM (zaz b c c.length)) (zbE (c.length:Int) ((c.length:Int) - 1) 1) (trM (zaz b c c.length)).length) i:=by
        have:=zaB (fun j=>if j<(trM (zaz b c c.length)).length then -vI (dets (trM (zaz b c c.length)) (zbE (c.length:Int) ((c.length:Int) - 1) 1) (trM (zaz b c c.length)).length) j else vI (dets (trM (zaz b c c.length)) (zbE (c.length:Int) ((c.length:Int) - 1) 1) (trM (zaz b c c.length)).length) j) 0 (dets (trM (zaz b c c.length)) (zbE (c.length:Int) ((c.length:Int) - 1) 1) (trM (zaz b c c.length)).length).length i (by rw[zc7];omega)
        rw[if_pos (by omega)] at this
        exact this
      show vI (negd _ _) i≤_
      rw[e,zgQ (by omega)];omega
    · show vI (dets _ _ _) i≤_
      rw[zgQ (by omega)];omega
  -- the equations
  have eX':∀i,i<n+1→sm (fun j=>vI (bdN b (vI c i).toNat).1 j*vI (atX b c).1 j) (n+1)=zbK b (vI c i).toNat*(atX b c).2.1:=fun i hi=>by
    have:=eX i hi
    rw[rr i hi,zjm (by omega)] at this
    exact this
  have eY':∀j,j<n+1→sm (fun k=>vI (atY b c).1 k*vI (bdN b (vI c k).toNat).1 j) (n+1)=(if j=n then 1 else 0)*(atY b c).2.1:=fun j hj=>by
    have:=eY j hj
    rw[eu j hj] at this
    refine Eq.trans ?_ this
    refine zap _ fun k hk=>?_
    rw[zrF (by omega) (by omega),rr k hk,Int.mul_comm];rfl
  obtain⟨X,hXe⟩:∃X:List Int,X=(atX b c).1:=⟨_,rfl⟩
  obtain⟨Dn,hDe⟩:∃Dn:Int,Dn=(atX b c).2.1:=⟨_,rfl⟩
  obtain⟨Y,hYe⟩:∃Y:List Int,Y=(atY b c).1:=⟨_,rfl⟩
  obtain⟨En,hEe⟩:∃En:Int,En=(atY b c).2.1:=⟨_,rfl⟩
  obtain⟨Ws,hWe⟩:∃Ws:List Int,Ws=wsP b.length c Y (n+1):=⟨_,rfl⟩
  have hxl:X.length=n+1:=by rw[hXe,zsF hX,hcl]
  rw[←hXe,←hDe] at eX' hO
  rw[←hYe] at hyb
  rw[←hYe,←hEe] at eY'
  rw[←hXe,←hDe,←hYe,←hEe,hcl,←hWe] at h2
  rw[←hDe] at hd1
  rw[←hEe] at hd2
  have pD:0<Dn:=by rw[hDe];exact pD
  have pE:0<En:=by rw[hEe];exact pE
  have hidx:∀i,i<n+1→(vI c i).toNat<b.length:=fun i hi=>(hg.idx i (by omega)).2
  have hdist:∀i j,i<j→j<n+1→(vI c i).toNat≠(vI c j).toNat:=fun i j hij hj e=>by
    have q1:=hasc i j hij hj
    have q2:=(hg.idx i (by omega)).1
    have q3:=(hg.idx j (by omega)).1
    omega
  have hwl:Ws.length=b.length:=by rw[hWe,zd0]
  have hsum:∀g:Nat→Int,sm (fun k=>vI Ws k*g k) b.length=sm (fun i=>vI Y i*g (vI c i).toNat) (n+1):=fun g=>by
    rw[hWe];exact zrB hidx hdist g (n+1) (Nat.le_refl _)
  have hwb:∀k,0≤vI Ws k∧vI Ws k≤1000000000000:=fun k=>by
    rw[hWe];exact zup (by decide) hidx hyb (n+1) (Nat.le_refl _) k
  have hok:=zkG hO
  have dot:∀k,k<b.length→dotI (bdN b k).1 X=sm (fun j=>vI (bdN b k).1 j*vI X j) n+vI (bdN b k).1 n*vI X n:=fun k hk=>by
    unfold dotI
    rw[hg.len k hk,hcl];rfl
  subst h2
  refine⟨by rw[←hn];exact hxl,by rw[←hn,←hmm,←hbl];exact hwl,⟨pD,hd1⟩,⟨pE,hd2⟩,fun i hi=>?_,fun i hi=>?_,fun j hj=>?_,hwb,?_,fun j hj=>?_,?_⟩
  all_goals (try rw[←hmm] at hi)
  all_goals (try rw[←hn] at hj)
  all_goals (try rw[←hn])
  all_goals (try rw[←hmm])
  · have q:=hok i (by omega)
    rw[dot i (by omega),bl i hi,ze7 (hrow i hi) (Nat.lt_succ_self n),if_pos rfl] at q
    rw[zap (g:=fun j=>-(vI (rowN t i) j*vI X j)) n (fun j hj=>by rw[ze7 (hrow i hi) (by omega),if_neg (by omega),Int.neg_mul])] at q
    have q2:=zmm (fun _=>0) (fun j=>vI (rowN t i) j*vI X j) n
    rw[zdc] at q2
    rw[zap (g:=fun j=>0 - vI (rowN t i) j*vI X j) n (fun j _=>by omega),q2] at q
    have e:zbK b i=0:=by rw[zbK,bl i hi];rfl
    rw[e] at q
    show vI X n≤sm (fun j=>vI (rowN t i) j*vI X j) n
    omega
  · have q:=hok (m+i) (by omega)
    rw[dot _ (by omega),bh i hi,zeC (hrow i hi) (Nat.lt_succ_self n),if_pos rfl] at q
    rw[zap (g:=fun j=>vI (rowN t i) j*vI X j) n (fun j hj=>by rw[zeC (hrow i hi) (by omega),if_neg (by omega)])] at q
    have e:zbK b (m+i)=cap:=by rw[zbK,bh i hi];rfl
    rw[e] at q
    show sm (fun j=>vI (rowN t i) j*vI X j) n≤cap*Dn
    omega
  · have q:=hok (m+m+j) (by omega)
    rw[dot _ (by omega),bo j hj,zdF (Nat.lt_succ_self n),if_neg (by omega)] at q
    rw[zap (g:=fun k=>(if k=j then 1 else 0)*vI X k) n (fun k hk=>by rw[zdF (by omega)]),zkj (p:=j) hj (fun k _ hne=>by rw[if_neg hne,Int.zero_mul]),if_pos rfl] at q
    have e:zbK b (m+m+j)=1:=by rw[zbK,bo j hj];rfl
    rw[e] at q
    have q':=hok (m+m+n+j) (by omega)
    rw[dot _ (by omega),bs j hj,zev (Nat.lt_succ_self n),if_neg (by omega)] at q'
    rw[zap (g:=fun k=>(if k=j then -1 else 0)*vI X k) n (fun k hk=>by rw[zev (by omega)]),zkj (p:=j) hj (fun k _ hne=>by rw[if_neg hne,Int.zero_mul]),if_pos rfl] at q'
    have e':zbK b (m+m+n+j)=0:=by rw[zbK,bs j hj];rfl
    rw[e'] at q'
    show 0≤vI X j∧vI X j≤Dn
    omega
  · have q:=eY' n (Nat.lt_succ_self n)
    rw[if_pos rfl,←hsum (fun k=>vI (bdN b k).1 n),hbl,zch,zch,zch] at q
    rw[zap (g:=fun i=>vI Ws i) m (fun i hi=>by rw[bl i hi,ze7 (hrow i hi) (Nat.lt_succ_self n),if_pos rfl,Int.mul_one])] at q
    rw[zap (g:=fun _=>0) (f:=fun i=>vI Ws (m+i)*vI (bdN b (m+i)).1 n) m (fun i hi=>by rw[bh i hi,zeC (hrow i hi) (Nat.lt_succ_self n),if_pos rfl,Int.mul_zero])] at q
    rw[zap (g:=fun _=>0) (f:=fun i=>vI Ws (m+m+i)*vI (bdN b (m+m+i)).1 n) n (fun i hi=>by rw[bo i hi,zdF (Nat.lt_succ_self n),if_neg (by omega),Int.mul_zero])] at q
    rw[zap (g:=fun _=>0) (f:=fun i=>vI Ws (m+m+n+i)*vI (bdN b (m+m+n+i)).1 n) n (fun i hi=>by rw[bs i hi,zev (Nat.lt_succ_self n),if_neg (by omega),Int.mul_zero])] at q
    rw[zdc,zdc] at q
    show sm (fun i=>vI Ws i) m=En
    omega
  · have q:=eY' j (by omega)
    rw[if_neg (by omega),←hsum (fun k=>vI (bdN b k).1 j),hbl,zch,zch,zch] at q
    rw[zap (g:=fun i=>-(vI Ws i*vI (rowN t i) j)) m (fun i hi=>by rw[bl i hi,ze7 (hrow i hi) (by omega),if_neg (by omega),Int.mul_neg])] at q
    rw[zap (g:=fun i=>vI Ws (m+i)*vI (rowN t i) j) (f:=fun i=>vI Ws (m+i)*vI (bdN b (m+i)).1 j) m (fun i hi=>by rw[bh i hi,zeC (hrow i hi) (by omega),if_neg (by omega)])] at q
    rw[zap (g:=fun i=>vI Ws (m+m+i)*(if j=i then 1 else 0)) (f:=fun i=>vI Ws (m+m+i)*vI (bdN b (m+m+i)).1 j) n (fun i hi=>by rw[bo i hi,zdF (by omega)]),zkj (p:=j) hj (fun i _ hne=>by rw[if_neg (Ne.symm hne),Int.mul_zero]),if_pos rfl] at q
    rw[zap (g:=fun i=>vI Ws (m+m+n+i)*(if j=i then -1 else 0)) (f:=fun i=>vI Ws (m+m+n+i)*vI (bdN b (m+m+n+i)).1 j) n (fun i hi=>by rw[bs i hi,zev (by omega)]),zkj (p:=j) hj (fun i _ hne=>by rw[if_neg (Ne.symm hne),Int.mul_zero]),if_pos rfl] at q
    have q2:=zmm (fun _=>0) (fun i=>vI Ws i*vI (rowN t i) j) m
    rw[zdc] at q2
    rw[zap (g:=fun i=>0 - vI Ws i*vI (rowN t i) j) m (fun i _=>by omega),q2] at q
    have q3:=zmm (fun i=>vI Ws i*vI (rowN t i) j) (fun i=>vI Ws (m+i)*vI (rowN t i) j) m
    have q4:=hwb (m+m+n+j)
    show sm (fun i=>(vI Ws i - vI Ws (m+i))*vI (rowN t i) j) m≤vI Ws (m+m+j)
    rw[zap (g:=fun i=>vI Ws i*vI (rowN t i) j - vI Ws (m+i)*vI (rowN t i) j) m (fun i _=>Int.sub_mul _ _ _),q3]
    omega
  · -- the value is the bound
    have q1:sm (fun j=>sm (fun k=>vI Y k*vI (bdN b (vI c k).toNat).1 j) (n+1)*vI X j) (n+1)=vI X n*En:=by
      rw[zap (g:=fun j=>((if j=n then 1 else 0)*En)*vI X j) (n+1) (fun j hj=>by rw[eY' j hj]),zkj (p:=n) (Nat.lt_succ_self n) (fun j _ hne=>by rw[if_neg hne,Int.zero_mul,Int.zero_mul]),if_pos rfl,Int.one_mul,Int.mul_comm]
    have q2:sm (fun j=>sm (fun k=>vI Y k*vI (bdN b (vI c k).toNat).1 j) (n+1)*vI X j) (n+1)=sm (fun k=>vI Y k*zbK b (vI c k).toNat) (n+1)*Dn:=by
      rw[zap (g:=fun j=>sm (fun k=>vI Y k*vI (bdN b (vI c k).toNat).1 j*vI X j) (n+1)) (n+1) (fun j _=>(zbV _ _ _).symm),zlp,←zbV]
      refine zap _ fun k hk=>?_
      rw[Int.mul_assoc,←eX' k hk,←zkk]
      exact zap _ fun j _=>Int.mul_assoc _ _ _
    have q3:sm (fun k=>vI Y k*zbK b (vI c k).toNat) (n+1)=sm (fun i=>vI Ws (m+i)) m*cap+sm (fun j=>vI Ws (m+m+j)) n:=by
      rw[←hsum (fun k=>zbK b k),hbl,zch,zch,zch]
      rw[zap (g:=fun _=>0) m (fun i hi=>by rw[zbK,bl i hi];exact Int.mul_zero _)]
      rw[zap (g:=fun i=>vI Ws (m+i)*cap) (f:=fun i=>vI Ws (m+i)*zbK b (m+i)) m (fun i hi=>by rw[zbK,bh i hi];rfl)]
      rw[zap (g:=fun i=>vI Ws (m+m+i)) (f:=fun i=>vI Ws (m+m+i)*zbK b (m+m+i)) n (fun i hi=>by rw[zbK,bo i hi];exact Int.mul_one _)]
      rw[zap (g:=fun _=>0) (f:=fun i=>vI Ws (m+m+n+i)*zbK b (m+m+n+i)) n (fun i hi=>by rw[zbK,bs i hi];exact Int.mul_zero _)]
      rw[zdc,zdc,zbV];omega
    show vI X n*En=(sm (fun i=>vI Ws (m+i)) m*cap+sm (fun j=>vI Ws (m+m+j)) n)*Dn
    rw[←q1,q2,q3]
theorem zkP {a b k:Int} (hk:0<k):lowA (a*k) (b*k)=lowA a b∧lowC (a*k) (b*k)=lowC a b:=by
  have e:gcd2 (a*k) (b*k)=gcd2 a b*k:=by
    unfold gcd2
    rw[Int.natAbs_mul,Int.natAbs_mul,Nat.gcd_mul_right,Int.natCast_mul]
    congr 1;omega
  unfold lowA lowC
  rw[e]
  exact⟨Int.mul_tdiv_mul_of_pos_left _ _ hk,Int.mul_tdiv_mul_of_pos_left _ _ hk⟩
theorem zgL {a b c d:Int} (hb:0<b) (hd:0<d) (h:a*d=c*b):lowA a b=lowA c d∧lowC a b=lowC c d:=by
  have h1:=zkP (a:=a) (b:=b) hd
  have h2:=zkP (a:=c) (b:=d) hb
  rw[h,Int.mul_comm b d] at h1
  exact⟨h1.1.symm.trans h2.1,h1.2.symm.trans h2.2⟩
theorem zpJ {xs:List Int}:∀ {k i:Nat},i<k→((gf xs k:Nat):Int)∣vI xs i
  | k+1,i,h=>by
    simp only[gf]
    by_cases e:i=k
    · subst e;exact Int.ofNat_dvd_left.2 (Nat.gcd_dvd_right _ _)
    · exact Int.dvd_trans (Int.ofNat_dvd.2 (Nat.gcd_dvd_left _ _)) (zpJ (by omega))
theorem zmx {l:List Int} {d:Int} (hd:0<d):∃g:Int,0<g∧d=(redL l d).2*g∧(∀i,i<l.length→vI l i=vI (redL l d).1 i*g)∧(redL l d).1.length=l.length:=by
  have g2:(l++[d]).length=l.length+1:=by simp
  have g1:vI (l++[d]) l.length=d:=by simp[vI]
  have g3:redG l d≠0:=by
    have:=zpI (xs:=l++[d]) (k:=l.length) (by rw[g1];omega)
    show ((gf (l++[d]) (l++[d]).length:Nat):Int)≠0
    rw[g2];exact this
  have g4:0<redG l d:=by
    have:0≤redG l d:=Int.natCast_nonneg _
    omega
  refine⟨redG l d,g4,?_,fun i hi=>?_,zal _ _⟩
  · have h:=zpJ (xs:=l++[d]) (k:=(l++[d]).length) (i:=l.length) (by omega)
    rw[g1] at h
    exact (Int.tdiv_mul_cancel h).symm
  · have h:=zpJ (xs:=l++[d]) (k:=(l++[d]).length) (i:=i) (by omega)
    have e:vI (l++[d]) i=vI l i:=by simp[vI,List.getElem?_append_left hi]
    rw[e] at h
    have e2:vI (redL l d).1 i=Int.tdiv (vI l i) (redG l d):=zaB (fun i=>Int.tdiv (vI l i) (redG l d)) 0 _ i hi
    rw[e2]
    exact (Int.tdiv_mul_cancel h).symm
theorem zdx {l:List Int} {k i:Nat} (h:i<k):vI (l.take k) i=vI l i:=by simp[vI,List.getD,List.getElem?_take,h]
theorem zn8 {l:List Int} {k i:Nat}:vI (l.drop k) i=vI l (k+i):=by simp[vI,List.getD,List.getElem?_drop]
theorem zaQ {a b g:Int} (hg:0<g) (h:a*g≤b*g):a≤b:=Int.le_of_mul_le_mul_right h hg
theorem ztl {xs:List Int}:∀ {k:Nat},∃i,i≤k∧mn xs k=vI xs i
  | 0=>⟨0,Nat.le_refl _,rfl⟩
  | k+1=>by
    obtain⟨i,hi,e⟩:=ztl (xs:=xs) (k:=k)
    simp only[mn]
    split
    · exact⟨k+1,Nat.le_refl _,rfl⟩
    · exact⟨i,by omega,e⟩
theorem zsa {t:List (List Int)} {cap d:Int} {l:List Int} (hp:0<t.length) (h1:1≤d∧d≤1000000000000) (h2:l.length=ncol t) (h3:∀i,i<l.length→0≤vI l i∧vI l i≤d) (h4:∀i,i<t.length→dotI (rowN t i) l≤cap*d):opE t cap d l=0:=by
  have e:opE0 (ncol t) d l=0:=by
    unfold opE0;rw[if_pos h1,if_pos h2];exact zdX h3
  unfold opE
  rw[if_pos e,if_neg]
  refine Int.not_lt.2 (zph.2 fun i hi=>?_)
  rw[zbU (by omega)]
  exact h4 i (by omega)
theorem zsb {t:List (List Int)} {lo hi cs:List Int}:∀ {n:Nat},(∀k,k<n→colW t lo hi k t.length≤vI cs k)→okW t lo hi cs n=true
  | 0,_=>rfl
  | n+1,h=>by
    simp only[okW]
    rw[zsb fun k hk=>h k (by omega),decide_eq_true (h n (by omega))];rfl
theorem zuo {t:List (List Int)} {d:Int} {lo hi cs:List Int} (h1:1≤d∧d≤1000000000000) (l1:lo.length=t.length) (l2:hi.length=t.length) (l3:cs.length=ncol t)
    (b1:∀i,i<t.length→0≤vI lo i∧vI lo i≤1000000000000) (b2:∀i,i<t.length→0≤vI hi i∧vI hi i≤1000000000000) (b3:∀i,i<ncol t→0≤vI cs i∧vI cs i≤1000000000000)
    (hs:sumI lo=d) (hc:∀k,k<ncol t→colW t lo hi k t.length≤vI cs k):wtE t d lo hi cs=0:=by
  have e:wtE0 t.length (ncol t) d lo hi cs=0:=by
    unfold wtE0
    rw[if_pos h1,if_pos ⟨l1,l2,l3⟩,if_pos (zdX (l:=lo) fun i hi'=>b1 i (by omega)),if_pos (zdX (l:=hi) fun i hi'=>b2 i (by omega))]
    exact zdX fun i hi'=>b3 i (by omega)
  unfold wtE
  rw[if_pos e,if_pos hs,if_pos (zsb hc)]
structure foundV (t:List (List Int)) (cap:Int) (o:zud) (w:WgtD) (v1 v2:Int):Prop where
  op:opE t cap o.1 o.2.1=0
  wt:wtE t w.1 w.2.1 w.2.2.1 w.2.2.2.1=0
  vo:opV1 t o.1 o.2.1=v1∧opV2 t o.1 o.2.1=v2
  vw:wtV1 cap w.1 w.2.2.1 w.2.2.2.1=v1∧wtV2 cap w.1 w.2.2.1 w.2.2.2.1=v2
theorem znG {t:List (List Int)} {cap:Int} (hg:goodT t cap) {X W:List Int} {D E:Int} (l1:X.length=ncol t+1) (l2:W.length=t.length+t.length+ncol t+ncol t) (d1:0<D∧D≤1000000000000) (d2:0<E∧E≤1000000000000)
    (low:∀i,i<t.length→vI X (ncol t)≤sm (fun j=>vI (rowN t i) j*vI X j) (ncol t)) (high:∀i,i<t.length→sm (fun j=>vI (rowN t i) j*vI X j) (ncol t)≤cap*D)
    (box:∀j,j<ncol t→0≤vI X j∧vI X j≤D) (ws:∀k,0≤vI W k∧vI W k≤1000000000000) (slow:sm (fun i=>vI W i) t.length=E)
    (col:∀j,j<ncol t→sm (fun i=>(vI W i - vI W (t.length+i))*vI (rowN t i) j) t.length≤vI W (t.length+t.length+j))
    (val:vI X (ncol t)*E=(sm (fun i=>vI W (t.length+i)) t.length*cap+sm (fun j=>vI W (t.length+t.length+j)) (ncol t))*D) :
    foundV t cap (bO (X,D,W,E,()) (ncol t)) (bW (X,D,W,E,()) t.length (ncol t)) (bV (X,D,W,E,()) (ncol t)).1 (bV (X,D,W,E,()) (ncol t)).2.1:=by
  have hp:=hg.pos
  obtain⟨g,hg0,e1,e2,e3⟩:=zmx (l:=X.take (ncol t)) d1.1
  obtain⟨h,hh0,f1,f2,f3⟩:=zmx (l:=W.take (2*t.length+ncol t)) d2.1
  have tl:(X.take (ncol t)).length=ncol t:=by rw[List.length_take];omega
  have wl:(W.take (2*t.length+ncol t)).length=2*t.length+ncol t:=by rw[List.length_take];omega
  obtain⟨l',hl'⟩:∃l',l'=(redL (X.take (ncol t)) D).1:=⟨_,rfl⟩
  obtain⟨d',hd'⟩:∃d',d'=(redL (X.take (ncol t)) D).2:=⟨_,rfl⟩
  obtain⟨w',hw'⟩:∃w',w'=(redL (W.take (2*t.length+ncol t)) E).1:=⟨_,rfl⟩
  obtain⟨E',hE'⟩:∃E',E'=(redL (W.take (2*t.length+ncol t)) E).2:=⟨_,rfl⟩
  rw[←hd'] at e1
  rw[←hl'] at e2 e3
  rw[←hE'] at f1
  rw[←hw'] at f2 f3
  rw[tl] at e2 e3
  rw[wl] at f2 f3
  have e2:∀j,j<ncol t→vI X j=vI l' j*g:=fun j hj=>by rw[←zdx (l:=X) hj];exact e2 j hj
  have f2:∀j,j<2*t.length+ncol t→vI W j=vI w' j*h:=fun j hj=>by rw[←zdx (l:=W) hj];exact f2 j hj
  have eO:bO (X,D,W,E,()) (ncol t)=(d',l',()):=by rw[hd',hl'];rfl
  have eW:bW (X,D,W,E,()) t.length (ncol t)=(E',w'.take t.length,(w'.take (2*t.length)).drop t.length,w'.drop (2*t.length),()):=by rw[hE',hw'];rfl
  have eV1:(bV (X,D,W,E,()) (ncol t)).1=lowA (vI X (ncol t)) D:=rfl
  have eV2:(bV (X,D,W,E,()) (ncol t)).2.1=lowC (vI X (ncol t)) D:=rfl
  rw[eO,eW,eV1,eV2]
  -- denominators
  have hd0:0<d':=by
    refine Int.not_le.1 fun q=>?_
    have:=Int.mul_le_mul_of_nonneg_right q (show 0≤g by omega)
    omega
  have hd1:d'≤D:=by
    have:=Int.mul_le_mul_of_nonneg_left (show 1≤g by omega) (show 0≤d' by omega)
    omega
  have hE0:0<E':=by
    refine Int.not_le.1 fun q=>?_
    have:=Int.mul_le_mul_of_nonneg_right q (show 0≤h by omega)
    omega
  have hE1:E'≤E:=by
    have:=Int.mul_le_mul_of_nonneg_left (show 1≤h by omega) (show 0≤E' by omega)
    omega
  have hdot:∀i,i<t.length→dotI (rowN t i) l'*g=sm (fun j=>vI (rowN t i) j*vI X j) (ncol t):=fun i hi=>by
    unfold dotI
    rw[hg.rows i hi,←zbV]
    exact zap _ fun j hj=>by rw[e2 j hj,Int.mul_assoc]
  have HO:opE t cap d' l'=0:=by
    refine zsa hp ⟨by omega,by omega⟩ e3 (fun j hj=>?_) fun i hi=>?_
    · have hj:j<ncol t:=by omega
      have q:=box j hj
      rw[e2 j hj] at q
      refine⟨zaQ hg0 (by rw[Int.zero_mul];exact q.1),zaQ hg0 (by rw[←e1];exact q.2)⟩
    · refine zaQ hg0 ?_
      rw[hdot i hi,Int.mul_assoc,←e1]
      exact high i hi
  have v1:∀i,i<t.length→vI (w'.take t.length) i=vI w' i:=fun i hi=>zdx hi
  have v2:∀i,i<t.length→vI ((w'.take (2*t.length)).drop t.length) i=vI w' (t.length+i):=fun i hi=>by rw[zn8,zdx (by omega)]
  have v3:∀i,vI (w'.drop (2*t.length)) i=vI w' (t.length+t.length+i):=fun i=>by rw[zn8];congr 1;omega
  have n1:(w'.take t.length).length=t.length:=by rw[List.length_take];omega
  have n2:((w'.take (2*t.length)).drop t.length).length=t.length:=by rw[List.length_drop,List.length_take];omega
  have n3:(w'.drop (2*t.length)).length=ncol t:=by rw[List.length_drop];omega
  have wb:∀k,k<2*t.length+ncol t→0≤vI w' k∧vI w' k≤1000000000000:=fun k hk=>by
    have q:=ws k
    rw[f2 k hk] at q
    have q1:0≤vI w' k:=zaQ hh0 (by rw[Int.zero_mul];exact q.1)
    have:=Int.mul_le_mul_of_nonneg_left (show 1≤h by omega) q1
    omega
  have HW:wtE t E' (w'.take t.length) ((w'.take (2*t.length)).drop t.length) (w'.drop (2*t.length))=0:=by
    refine zuo ⟨by omega,by omega⟩ n1 n2 n3 (fun i hi=>by rw[v1 i hi];exact wb i (by omega)) (fun i hi=>by rw[v2 i hi];exact wb _ (by omega)) (fun i hi=>by rw[v3];exact wb _ (by omega)) ?_ fun j hj=>?_
    · refine Int.eq_of_mul_eq_mul_right (show h≠0 by omega) ?_
      rw[←f1,←slow]
      unfold sumI
      rw[n1,←zbV]
      exact zap _ fun i hi=>by rw[v1 i hi,f2 i (by omega)]
    · refine zaQ hh0 ?_
      rw[v3,←f2 _ (by omega)]
      unfold colW
      rw [←zbV,zap (g:=fun i=>(vI W i - vI W (t.length+i))*vI (rowN t i) j) t.length fun i hi=>by
        rw[v1 i hi,v2 i hi,f2 i (by omega),f2 (t.length+i) (by omega),←Int.sub_mul,Int.mul_assoc,Int.mul_assoc,Int.mul_comm h]]
      exact col j hj
  -- the values
  obtain⟨V,hV⟩:∃V,V=mn (gets t l' t.length) (t.length - 1):=⟨_,rfl⟩
  obtain⟨B,hB⟩:∃B,B=sumI ((w'.take (2*t.length)).drop t.length)*cap+sumI (w'.drop (2*t.length)):=⟨_,rfl⟩
  have eB:B*h=sm (fun i=>vI W (t.length+i)) t.length*cap+sm (fun j=>vI W (t.length+t.length+j)) (ncol t):=by
    rw[hB]
    unfold sumI
    rw[n2,n3,Int.add_mul,Int.mul_assoc,Int.mul_comm cap,←Int.mul_assoc,←zbV _ (fun i=>vI ((w'.take (2*t.length)).drop t.length) i),←zbV _ (fun i=>vI (w'.drop (2*t.length)) i)]
    rw[zap (g:=fun i=>vI W (t.length+i)) t.length fun i hi=>by rw[v2 i hi,f2 _ (by omega)]]
    rw[zap (g:=fun j=>vI W (t.length+t.length+j)) (ncol t) fun j hj=>by rw[v3,f2 _ (by omega)]]
  have a1:vI X (ncol t)≤V*g:=by
    obtain⟨i,hi,e⟩:=ztl (xs:=gets t l' t.length) (k:=t.length - 1)
    rw[hV,e,zbU (by omega),hdot i (by omega)]
    exact low i (by omega)
  have a2:V*E'≤B*d':=by
    have:=weak hg HO HW
    rw[←hV,←hB] at this;exact this
  have a3:vI X (ncol t)*E=B*h*D:=by rw[val,eB]
  have a4:V*g=vI X (ncol t):=by
    refine Int.le_antisymm (zaQ d2.1 ?_) a1
    have q1:=Int.mul_le_mul_of_nonneg_right a2 (show 0≤h*g by exact Int.mul_nonneg (by omega) (by omega))
    have q2:V*g*E=V*E'*(h*g):=by rw[f1];simp only[Int.mul_assoc,Int.mul_comm,Int.mul_left_comm]
    have q3:vI X (ncol t)*E=B*d'*(h*g):=by rw[a3,e1];simp only[Int.mul_assoc,Int.mul_comm,Int.mul_left_comm]
    rw[q2,q3];exact q1
  refine⟨HO,HW,?_,?_⟩
  · show lowA (mn (gets t l' t.length) (t.length - 1)) d'=_∧lowC (mn (gets t l' t.length) (t.length - 1)) d'=_
    rw[←hV]
    refine zgL hd0 d1.1 ?_
    rw[←a4,e1,Int.mul_assoc,Int.mul_comm g d']
  · show lowA (sumI ((w'.take (2*t.length)).drop t.length)*cap+sumI (w'.drop (2*t.length))) E'=_∧lowC (sumI ((w'.take (2*t.length)).drop t.length)*cap+sumI (w'.drop (2*t.length))) E'=_
    rw[←hB]
    refine zgL hE0 d1.1 ?_
    refine Int.eq_of_mul_eq_mul_right (show h≠0 by omega) ?_
    have q1:B*D*h=B*h*D:=by simp only[Int.mul_assoc,Int.mul_comm,Int.mul_left_comm]
    rw[q1,←a3,f1,Int.mul_assoc]
theorem zrh {t:List (List Int)} {cap:Int} {x:zcg} (hg:goodT t cap) (V:cornV t cap x):foundV t cap (bO x (ncol t)) (bW x t.length (ncol t)) (bV x (ncol t)).1 (bV x (ncol t)).2.1:=by
  obtain⟨l1,l2,d1,d2,low,high,box,ws,slow,col,val⟩:=V
  obtain⟨X,D,W,E,⟨⟩⟩:=x
  exact znG hg l1 l2 d1 d2 low high box ws slow col val
theorem zdu {t:List (List Int)} {cap:Int} (h:goodT t cap):foundV t cap (bO (bX t cap) (ncol t)) (bW (bX t cap) t.length (ncol t)) (bV (bX t cap) (ncol t)).1 (bV (bX t cap) (ncol t)).2.1:=by
  obtain⟨x,hx⟩:=Option.isSome_iff_exists.1 (zjX h)
  have e:bX t cap=x:=by show (zfd t cap).getD zgf=x;rw[hx];rfl
  rw[e]
  exact zrh h (zp9 h hx)
theorem zqf {t:List (List Int)} {cap:Int} (h:goodT t cap):(-300000000000000≤(bV (bX t cap) (ncol t)).1∧(bV (bX t cap) (ncol t)).1≤300000000000000)∧0<(bV (bX t cap) (ncol t)).2.1∧(bV (bX t cap) (ncol t)).2.1≤1000000000000:=by
  have f:=zdu h
  have:=zvy h f.op
  rw[f.vo.1,f.vo.2] at this
  exact this
end Go.Eng.Ar
namespace Go.Eng.Ar
open Go.Eng Go.Proofs
set_option linter.all false
set_option maxRecDepth 100000
set_option maxHeartbeats 8000000
@[reducible] def zg9:Spec:={pats:=[.dat (.sl I64)],res:=[{own:=some 3,t:=.sl I64}],pre:=fun x=>pK (List.length (α:=Int) x.1),f:=fun x=>(x.1,())}
theorem zrd:Ok 109 zg9:=by
  refine mk (ctr:=[]) trivial (nt:=6) Tryz.func109 rfl rfl rfl rfl (by kernel_rfl) (by kernel_rfl) (fun _=>[]) ?_
  rintro⟨(l:List Int),⟨⟩⟩ (hp:l.length≤1000)
  repeat' (intro hzz;(try (rename Two=>hq;cases hq));(try dsimp only at hzz);(try simp only[zad,zac,eqD,inR,big,zab,zB] at hzz);(try simp only[zad,zac,eqD,inR,big,zab,zB,List.nil_append,List.length_nil] at hzz);(try (revert hzz;intro _)))
  all_goals try (rename Unit=>hq;clear hq)
  all_goals try ((with_reducible refine Held.mk ?_);(with_reducible (first|refine Frz.mk ?_|refine And.intro (Frz.mk ?_) ?_|refine And.intro ?_ (Frz.mk ?_)));repeat' first|exact True.intro|(change _=_;with_reducible rfl)|refine And.intro ?_ ?_|(with_reducible refine Frz.mk ?_))
  all_goals try (refine Held.mk ?_;(try dsimp only at *);(try simp only[zad,zac,eqD,inR,big,zab,zB] at *);(try simp only[zad,zac,eqD,inR,big,zab,zB,List.nil_append,List.length_nil] at *))
  all_goals try omega
theorem zgP (xs:List (List Int)) (i:Nat):xs.getD (i+1) []=(xs.drop 1).getD i []:=by simp[List.getD,List.getElem?_drop,Nat.add_comm]
theorem zk7:zc9 Tryz.prog 151:=⟨Tryz.f151,Tryz.func151,by kernel_rfl,by kernel_rfl⟩
theorem zqZ:Ok 151 zmq:=⟨fun w M x vs bs _ _ h=>h.elim,zk7⟩
def zp5 (N:Nat) (rows:List (List Int)):LoopAnn:=
  {σ:=Nat×Int×Int,pat:=fun s=>[sI 5 s.1,sI 3 s.2.1,sI 4 s.2.2],inv:=fun s=>zmW N rows s.1 s.2.1 s.2.2,meas:=fun s=>(rows.getD 0 []).length - s.1}
def zp3 (N:Nat) (rows:List (List Int)) (st:St):LoopAnn:=zfS 5 st fun k=>{σ:=Nat,pat:=fun i=>sI 7 (i+1)::zg8 6 60006 76 (tab (cutC rows k.toNat) i),inv:=fun i=>i≤N,meas:=fun i=>N - i}
theorem zp1:Ok 151 (sDet 0):=by
  refine mk (ctr:=[(109,zg9),(151,zmq)]) ⟨zrd,zqZ,trivial⟩ (nt:=64) Tryz.func151 rfl rfl rfl rfl (by kernel_rfl) (by kernel_rfl) (fun x=>[fun _=>zp5 0 x.1,zp3 0 x.1]) ?_
  rintro⟨(rows:List (List Int)),_⟩ (hp:zcG 0 rows)
  have hl:rows.length=0:=hp.1
  repeat' (intro hzz;(try (rename Two=>hq;cases hq));(try dsimp only at hzz);(try simp only[zad,zac,eqD,inR,big,zab,zB] at hzz);(try simp only[zad,zac,eqD,inR,big,zab,zB,zaS,zav,zbb,Int.toNat_natCast,zbZ] at hzz);(try (first|contradiction|(exfalso;omega)));(try (revert hzz;intro _)))
  all_goals try (rename Unit=>hq;clear hq)
  all_goals try ((with_reducible refine Held.mk ?_);(with_reducible (first|refine Frz.mk ?_|refine And.intro (Frz.mk ?_) ?_|refine And.intro ?_ (Frz.mk ?_)));repeat' first|exact True.intro|(change _=_;with_reducible rfl)|refine And.intro ?_ ?_|(with_reducible refine Frz.mk ?_))
  all_goals try (refine Held.mk ?_;(try dsimp only at *);(try simp only[zad,zac,eqD,inR,big,zab,zB] at *);(try simp only[zad,zac,eqD,inR,big,zab,zB,zaS,zav,zbb,Int.toNat_natCast,zbZ] at *))
  all_goals try omega
  · rfl
theorem zp2 {N:Nat} (hN:N<4) (ih:Ok 151 (sDet N)):Ok 151 (sDet (N+1)):=by
  refine mk (ctr:=[(109,zg9),(151,sDet N)]) ⟨zrd,ih,trivial⟩ (nt:=64) Tryz.func151 rfl rfl rfl rfl (by kernel_rfl) (by kernel_rfl) (fun x=>[fun _=>zp5 N x.1,zp3 N x.1]) ?_
  rintro⟨(rows:List (List Int)),_⟩ (hp:zcG (N+1) rows)
  have hl:rows.length=N+1:=hp.1
  repeat' (intro hzz;(try (rename Two=>hq;cases hq));(try dsimp only at hzz);(try simp only[zad,zac,eqD,inR,big,zab,zB] at hzz);(try simp only[zad,zac,eqD,inR,big,zab,zB,zaS,zav,zbb,Int.toNat_natCast,zbZ,zal,List.length_drop,zbv,zaR,zbz,zbA,zgP] at hzz);(try (revert hzz;intro _)))
  all_goals try (rename Unit=>hq;clear hq)
  all_goals try ((with_reducible refine Held.mk ?_);(with_reducible (first|refine Frz.mk ?_|refine And.intro (Frz.mk ?_) ?_|refine And.intro ?_ (Frz.mk ?_)));repeat' first|exact True.intro|(change _=_;with_reducible rfl)|refine And.intro ?_ ?_|(with_reducible refine Frz.mk ?_))
  all_goals try (refine Held.mk ?_;(try dsimp only at *);(try simp only[zad,zac,eqD,inR,big,zab,zB] at *);(try simp only[zad,zac,eqD,inR,big,zab,zB,zaS,zav,zbb,Int.toNat_natCast,zbZ,zal,List.length_drop,zbv,zaR,zbz,zbA,zgP] at *))
  all_goals try omega
  all_goals try have hr:=row0 hp
  ·
    refine zaj.mk ?_
    refine Exists.intro ((0,0,1):Nat×Int×Int) ?_
    refine And.intro (Leaf.mk ?_) ?_
    · repeat' first|exact True.intro|refine And.intro ?_ ?_
      all_goals try ((change _=_<;>try dsimp only)<;>try with_reducible rfl)
      all_goals try omega
    refine⟨Nat.zero_le _,.inl rfl,?_,by simp,by simp⟩
    simp[detN]
  · rename_i h0 s hi hg
    refine zaj.mk ?_
    refine Exists.intro (0:Nat) ?_
    refine And.intro (Leaf.mk ?_) ?_
    · repeat' first|exact True.intro|refine And.intro ?_ ?_
      all_goals try ((change _=_<;>try dsimp only)<;>try with_reducible rfl)
      all_goals try omega
      all_goals (rfl)
    exact Nat.zero_le _
  · rename_i h0 s hi hg i hI hi2
    have:=zcV hp (i:=i) (by omega)
    change 0≤(s.1:Int)∧(s.1:Int)≤(((rows.drop 1).getD i []).length:Int)
    omega
  · rename_i h0 s hi hg i hI hi2
    have:=zcV hp (i:=i) (by omega)
    rw[List.length_take];omega
  · rename_i h0 s hi hg i hI hi2
    have:=zcV hp (i:=i) (by omega)
    change 0≤(s.1:Int)+1∧(s.1:Int)+1≤(((rows.drop 1).getD i []).length:Int)
    omega
  · rename_i h0 s hi hg i hI hi2
    have:=zcV hp (i:=i) (by omega)
    show (List.take s.1 (rows.getD (i+1) [])).length+(List.drop (s.1+1) (rows.getD (i+1) [])).length≤2147483648
    rw[zgP,List.length_take,List.length_drop];omega
  · rename_i h0 s hi hg i hI hi2
    show i+1≤2147483648
    omega
  · rename_i h0 s hi hg i hI hi2
    have e:tab (cutC rows s.1) i++[List.take s.1 (rows.getD (i+1) [])++List.drop (s.1+1) (rows.getD (i+1) [])]=tab (cutC rows s.1) (i+1):=by rw[zgP];rfl
    refine zaj.mk ?_
    refine Exists.intro (i+1) ?_
    refine And.intro (Leaf.mk ?_) ?_
    · repeat' first|exact True.intro|refine And.intro ?_ ?_
      all_goals try ((change _=_<;>try dsimp only)<;>try with_reducible rfl)
      all_goals try omega
      all_goals (first|rfl|exact e|exact congrArg List.length e|exact e.symm)
    exact⟨by show i+1≤N;omega,by show N - (i+1)<N - i;omega⟩
  · rename_i h0 s hi hg i hI hi2
    change 0≤(s.1:Int)∧(s.1:Int)<(rows.getD 0 []).length
    omega
  · rename_i h0 s hi hg i hI hi2 hx
    change 0≤(s.1:Int)∧(s.1:Int)<(rows.getD 0 []).length
    omega
  · rename_i h0 s hi hg i hI hi2 hx
    have hx:=hr.2 s.1 (by omega)
    have hs:s.2.2=1∨s.2.2 = -1:=hi.2.1
    change -9223372036854775808≤s.2.2*(rows.getD 0 []).getD s.1 0∧s.2.2*(rows.getD 0 []).getD s.1 0≤9223372036854775807
    rcases hs with hs|hs<;>rw[hs]<;>omega
  · rename_i h0 s hi hg i hI hi2 hx
    have e:i=N:=by omega
    subst e
    rw[zes hp]
    exact zja hp (by omega)
  · rename_i h0 s hi hg i hI hi2 hx
    have e:i=N:=by omega
    subst e
    rw[zes hp]
    exact (zc8 hN hp hi (by omega)).1
  · rename_i h0 s hi hg i hI hi2 hx
    have e:i=N:=by omega
    subst e
    rw[zes hp]
    exact (zc8 hN hp hi (by omega)).2.1
  · rename_i h0 s hi hg i hI hi2 hx
    have e:i=N:=by omega
    subst e
    have hd:=zc8 hN hp hi (by omega)
    rw[←zes hp] at hd
    refine zaj.mk ?_
    refine Exists.intro ((s.1+1,s.2.1+s.2.2*(rows.getD 0 []).getD s.1 0*detN i (tab (cutC rows s.1) i),-s.2.2):Nat×Int×Int) ?_
    refine And.intro (Leaf.mk ?_) ?_
    · repeat' first|exact True.intro|refine And.intro ?_ ?_
      all_goals try ((change _=_<;>try dsimp only)<;>try with_reducible rfl)
      all_goals try omega
      all_goals (rfl)
    refine⟨hd.2.2,?_⟩
    change (rows.getD 0 []).length - (s.1+1)<(rows.getD 0 []).length - s.1
    omega
  · rename_i h0 s hi hg i hI hi2 hx
    have hd:=zc8 hN hp hi (by omega)
    have hx0:(rows.getD 0 []).getD s.1 0=0:=hx
    rw[hx0,Int.mul_zero,Int.zero_mul,Int.add_zero] at hd
    refine zaj.mk ?_
    refine Exists.intro ((s.1+1,s.2.1,-s.2.2):Nat×Int×Int) ?_
    refine And.intro (Leaf.mk ?_) ?_
    · repeat' first|exact True.intro|refine And.intro ?_ ?_
      all_goals try ((change _=_<;>try dsimp only)<;>try with_reducible rfl)
      all_goals try omega
      all_goals (rfl)
    refine⟨hd.2.2,?_⟩
    change (rows.getD 0 []).length - (s.1+1)<(rows.getD 0 []).length - s.1
    omega
  · rename_i h0 s hi hg
    obtain⟨i1,i2,i3,i4⟩:=hi
    rw[List.drop_eq_nil_of_le (by omega)] at i3
    simpa [sumD] using i3
theorem h151:∀N,N≤4→Ok 151 (sDet N)
  | 0,_=>zp1
  | N+1,h=>zp2 (by omega) (h151 N (by omega))
theorem zw0:Ok 151 zed:=⟨fun w M x vs bs hM hA ⟨N,hN,hs⟩=>by
  have h:=(h151 N hN).1 w M x vs bs hM hA hs
  have e:(sDet N).f x=zed.f x:=by
    simp only[sDet,zed,detA]
    rw[←hs.1]
  rw[e] at h
  exact h,zk7⟩
def reR (t:List (List Int)) (cap n:Int):Bool×Int×Unit:=if chkT t cap=0 then (if lvE n=0 then (decide (n*(bV (bX t cap) (ncol t)).2.1≤(bV (bX t cap) (ncol t)).1),0,()) else (false,lvE n,())) else (false,chkT t cap,())
@[reducible] def zrQ:Spec:={pats:=[.dat zeI,.dat I64],res:=[{t:=.bool},{t:=I64}],pre:=fun _=>True,f:=fun x=>reR x.1.1 x.1.2.1 x.2.1}
theorem h50:Ok 50 zrQ:=by
  refine mk (ctr:=[(65,zls),(73,zgp),(102,zlv),(114,sLvE)]) ⟨h65,h73,h102,h114,trivial⟩ (nt:=32) Tryz.func50 rfl rfl rfl rfl (by kernel_rfl) (by kernel_rfl) (fun _=>[]) ?_
  rintro⟨⟨(t:List (List Int)),(cap:Int),⟨⟩⟩,(n:Int),⟨⟩⟩ _
  have hF:za6 [chkT t cap,lvE n]=if chkT t cap=0 then lvE n else chkT t cap:=by
    simp only[za6]
    split
    · split
      · rename_i h;exact h.symm
      · rfl
    · rfl
  by_cases h0:chkT t cap=0
  · have hg:=zdP h0
    have hpb:Hid (pBO t cap):=⟨hg,zjX hg⟩
    rw[if_pos h0] at hF
    by_cases h1:lvE n=0
    · have hn:0≤n∧n≤1000:=by
        unfold lvE at h1;split at h1
        · assumption
        · cases h1
      obtain ⟨v1,v2,e1,q1,q2⟩:∃v1 v2:Int,bV (bX t cap) (ncol t)=(v1,v2,())∧(-300000000000000≤v1∧v1≤300000000000000)∧0<v2∧v2≤1000000000000:=by
        have hp:=zqf hg
        exact⟨_,_,rfl,hp.1,hp.2⟩
      have hm:=zcL hn (show 0≤v2∧v2≤1000000000000 by omega)
      have hr:Hid (-9223372036854775808≤n*v2∧n*v2≤9223372036854775807):=by show _∧_;omega
      have hF2:za6 [0,lvE n]=0:=by rw[h0] at hF;rw[hF,h1]
      have e:reR t cap n=(decide (n*v2≤v1),0,()):=by unfold reR;rw[if_pos h0,if_pos h1,e1]
      clear hm
      repeat' (intro hzz;(try (rename Two=>hq;cases hq));(try dsimp only at hzz);(try simp only[zad,zac,eqD,inR,big,zab,zB] at hzz);(try simp only[zad,zac,eqD,inR,big,zab,zB,hF2,h0,h1,e1,e] at hzz);(try (first|contradiction|(exfalso;omega)));(try (revert hzz;intro _)))
      all_goals try (rename Unit=>hq;clear hq)
      all_goals try ((with_reducible refine Held.mk ?_);(with_reducible (first|refine Frz.mk ?_|refine And.intro (Frz.mk ?_) ?_|refine And.intro ?_ (Frz.mk ?_)));repeat' first|exact True.intro|(change _=_;with_reducible rfl)|refine And.intro ?_ ?_|(with_reducible refine Frz.mk ?_))
      all_goals try (refine Held.mk ?_;(try dsimp only at *);(try simp only[zad,zac,eqD,inR,big,zab,zB] at *);(try simp only[zad,zac,eqD,inR,big,zab,zB,hF2,h0,h1,e1,e] at *))
      all_goals try omega
      all_goals first|exact hpb|exact hr|(show ((2:Nat):Int)≤4611686018427387904;decide)|exact⟨rfl,trivial⟩|rfl|trace_state
    · have hF2:za6 [0,lvE n]=lvE n:=by rw[h0] at hF;exact hF
      have e:reR t cap n=(false,lvE n,()):=by unfold reR;rw[if_pos h0,if_neg h1]
      repeat' (intro hzz;(try (rename Two=>hq;cases hq));(try dsimp only at hzz);(try simp only[zad,zac,eqD,inR,big,zab,zB] at hzz);(try simp only[zad,zac,eqD,inR,big,zab,zB,hF2,h0,h1,e] at hzz);(try (first|contradiction|(exfalso;omega)));(try (revert hzz;intro _)))
      all_goals try (rename Unit=>hq;clear hq)
      all_goals try ((with_reducible refine Held.mk ?_);(with_reducible (first|refine Frz.mk ?_|refine And.intro (Frz.mk ?_) ?_|refine And.intro ?_ (Frz.mk ?_)));repeat' first|exact True.intro|(change _=_;with_reducible rfl)|refine And.intro ?_ ?_|(with_reducible refine Frz.mk ?_))
      all_goals try (refine Held.mk ?_;(try dsimp only at *);(try simp only[zad,zac,eqD,inR,big,zab,zB] at *);(try simp only[zad,zac,eqD,inR,big,zab,zB,hF2,h0,h1,e] at *))
      all_goals try omega
      all_goals first|(show ((2:Nat):Int)≤4611686018427387904;decide)|trace_state
  · rw[if_neg h0] at hF
    have e:reR t cap n=(false,chkT t cap,()):=by unfold reR;rw[if_neg h0]
    repeat' (intro hzz;(try (rename Two=>hq;cases hq));(try dsimp only at hzz);(try simp only[zad,zac,eqD,inR,big,zab,zB] at hzz);(try simp only[zad,zac,eqD,inR,big,zab,zB,hF,h0,e] at hzz);(try (first|contradiction|(exfalso;omega)));(try (revert hzz;intro _)))
    all_goals try (rename Unit=>hq;clear hq)
    all_goals try ((with_reducible refine Held.mk ?_);(with_reducible (first|refine Frz.mk ?_|refine And.intro (Frz.mk ?_) ?_|refine And.intro ?_ (Frz.mk ?_)));repeat' first|exact True.intro|(change _=_;with_reducible rfl)|refine And.intro ?_ ?_|(with_reducible refine Frz.mk ?_))
    all_goals try (refine Held.mk ?_;(try dsimp only at *);(try simp only[zad,zac,eqD,inR,big,zab,zB] at *);(try simp only[zad,zac,eqD,inR,big,zab,zB,hF,h0,e] at *))
    all_goals try omega
    all_goals first|(show ((2:Nat):Int)≤4611686018427387904;decide)|trace_state
/-! ### Walls -/
def u2 (n k s:Nat):List Int:=((repl ((n:Int)+2) (0:Int)).set k 1).set (n+1) (s:Int)
def zbj (t:List (List Int)) (cap:Int) (q:Nat):List Int:=
  if q<2*t.length then (if q % 2=0 then rowN t (q / 2)++[-1,0] else rowN t (q / 2)++[0,cap]) else u2 (ncol t) ((q - 2*t.length) / 2) ((q - 2*t.length) % 2)
abbrev nW (t:List (List Int)):Nat:=2*t.length+2*ncol t
def zig (t:List (List Int)) (cap:Int):List (List Int):=tab (zbj t cap) (nW t)
theorem zrD {t:List (List Int)} {cap:Int} {i:Nat} (h:i<t.length):zbj t cap (2*i)=rowN t i++[-1,0]:=by
  unfold zbj;rw[if_pos (by omega),if_pos (by omega),show 2*i / 2=i by omega]
theorem zrC {t:List (List Int)} {cap:Int} {i:Nat} (h:i<t.length):zbj t cap (2*i+1)=rowN t i++[0,cap]:=by
  unfold zbj;rw[if_pos (by omega),if_neg (by omega),show (2*i+1) / 2=i by omega]
theorem zn6 {t:List (List Int)} {cap:Int} {k s:Nat} (h:s<2):zbj t cap (2*t.length+2*k+s)=u2 (ncol t) k s:=by
  unfold zbj;rw[if_neg (by omega),show (2*t.length+2*k+s - 2*t.length) / 2=k by omega,show (2*t.length+2*k+s - 2*t.length) % 2=s by omega]
@[reducible] def zrJ:Spec:={pats:=[.dat zeI],res:=[{t:=MatT}],pre:=fun x=>goodT x.1.1 x.1.2.1,f:=fun x=>(zig x.1.1 x.1.2.1,())}
def waA1 (t:List (List Int)) (cap:Int):LoopAnn:={σ:=Nat,pat:=fun i=>sI 5 i::zg8 4 60004 76 (tab (zbj t cap) (2*i)),inv:=fun i=>i≤t.length,meas:=fun i=>t.length - i}
def waA2 (t:List (List Int)) (cap:Int):LoopAnn:={σ:=Nat,pat:=fun k=>sI 6 k::zg8 4 60004 76 (tab (zbj t cap) (2*t.length+2*k)),inv:=fun k=>k≤ncol t,meas:=fun k=>ncol t - k}
def waA3 (t:List (List Int)) (cap:Int) (st:St):LoopAnn:=zfS 6 st fun k=>{σ:=Nat,pat:=fun s=>sI 7 s::zg8 4 60004 76 (tab (zbj t cap) (2*t.length+2*k.toNat+s)),inv:=fun s=>s≤2,meas:=fun s=>2 - s}
theorem h117:Ok 117 zrJ:=by
  refine mk (ctr:=[(109,zg9)]) ⟨zrd,trivial⟩ (nt:=67) Tryz.func117 rfl rfl rfl rfl (by kernel_rfl) (by kernel_rfl) (fun x=>[fun _=>waA1 x.1.1 x.1.2.1,fun _=>waA2 x.1.1 x.1.2.1,waA3 x.1.1 x.1.2.1]) ?_
  rintro⟨⟨(t:List (List Int)),(cap:Int),⟨⟩⟩,⟨⟩⟩ (h:goodT t cap)
  have g1:=h.pos
  have g2:=h.le
  have g3:=h.cpos
  have g4:=h.cle
  have g5:=h.rows
  repeat' (intro hzz;(try (rename Two=>hq;cases hq));(try dsimp only at hzz);(try simp only[zad,zac,eqD,inR,big,zab,zB] at hzz);(try simp only[zad,zac,eqD,inR,big,zab,zB,zaS,zav,zbb,zbz,zbA,Int.toNat_natCast,zal,zaR,zbv] at hzz);(try (revert hzz;intro _)))
  all_goals try (rename Unit=>hq;clear hq)
  all_goals try ((with_reducible refine Held.mk ?_);(with_reducible (first|refine Frz.mk ?_|refine And.intro (Frz.mk ?_) ?_|refine And.intro ?_ (Frz.mk ?_)));repeat' first|exact True.intro|(change _=_;with_reducible rfl)|refine And.intro ?_ ?_|(with_reducible refine Frz.mk ?_))
  all_goals try (refine Held.mk ?_;(try dsimp only at *);(try simp only[zad,zac,eqD,inR,big,zab,zB] at *);(try simp only[zad,zac,eqD,inR,big,zab,zB,zaS,zav,zbb,zbz,zbA,Int.toNat_natCast,zal,zaR,zbv] at *))
  all_goals try omega
  ·
    refine zaj.mk ?_
    refine Exists.intro (0:Nat) ?_
    refine And.intro (Leaf.mk ?_) ?_
    · repeat' first|exact True.intro|refine And.intro ?_ ?_
      all_goals try ((change _=_<;>try dsimp only)<;>try with_reducible rfl)
      all_goals try omega
      all_goals (rfl)
    exact Nat.zero_le _
  · rename_i i hi hlt
    have:=g5 i (by omega)
    show (rowN t i).length≤1000;omega
  · rename_i i hi hlt
    have:=g5 i (by omega)
    show (rowN t i).length+2≤2147483648;omega
  · rename_i i hi hlt
    have:=g5 i (by omega)
    show (rowN t i).length≤1000;omega
  · rename_i i hi hlt
    have:=g5 i (by omega)
    show (rowN t i).length+2≤2147483648;omega
  · rename_i i hi hlt
    show 2*i+2≤2147483648;omega
  · rename_i i hi hlt
    have e:tab (zbj t cap) (2*i)++[rowN t i++[-1,0],rowN t i++[0,cap]]=tab (zbj t cap) (2*(i+1)):=by
      show _=(tab (zbj t cap) (2*i)++[zbj t cap (2*i)])++[zbj t cap (2*i+1)]
      rw[zrD (by omega),zrC (by omega),List.append_assoc];rfl
    refine zaj.mk ?_
    refine Exists.intro (i+1) ?_
    refine And.intro (Leaf.mk ?_) ?_
    · repeat' first|exact True.intro|refine And.intro ?_ ?_
      all_goals try ((change _=_<;>try dsimp only)<;>try with_reducible rfl)
      all_goals try omega
      all_goals (first|rfl|exact e|exact e.symm|exact congrArg List.length e|exact (congrArg List.length e).symm)
    exact⟨by show i+1≤t.length;omega,by show t.length - (i+1)<t.length - i;omega⟩
  · rename_i i hi hlt
    have e:i=t.length:=by omega
    subst e
    refine zaj.mk ?_
    refine Exists.intro (0:Nat) ?_
    refine And.intro (Leaf.mk ?_) ?_
    · repeat' first|exact True.intro|refine And.intro ?_ ?_
      all_goals try ((change _=_<;>try dsimp only)<;>try with_reducible rfl)
      all_goals try omega
      all_goals (rfl)
    exact Nat.zero_le _
  · rename_i i hi hlt k hk hkl
    refine zaj.mk ?_
    refine Exists.intro (0:Nat) ?_
    refine And.intro (Leaf.mk ?_) ?_
    · repeat' first|exact True.intro|refine And.intro ?_ ?_
      all_goals try ((change _=_<;>try dsimp only)<;>try with_reducible rfl)
      all_goals try omega
      all_goals (rfl)
    exact Nat.zero_le _
  all_goals try (have g6:(t.getD 0 []).length≤3:=g4)
  all_goals try (have g7:0<(t.getD 0 []).length:=g3)
  · show -9223372036854775808≤((t.getD 0 []).length:Int)+2∧((t.getD 0 []).length:Int)+2≤9223372036854775807
    omega
  · show 0≤((t.getD 0 []).length:Int)+2∧((t.getD 0 []).length:Int)+2≤2147483648
    omega
  · show -9223372036854775808≤((t.getD 0 []).length:Int)+1∧((t.getD 0 []).length:Int)+1≤9223372036854775807
    omega
  · rename_i i hi hlt k hk hkl q hq hql
    rw[zbl];show 0≤(k:Int)∧(k:Int)<((((t.getD 0 []).length:Int)+2).toNat:Int);omega
  · rename_i i hi hlt k hk hkl q hq hql
    rw[zbl];show 0≤(k:Int)∧(k:Int)<((((t.getD 0 []).length:Int)+2).toNat:Int);omega
  · rename_i i hi hlt k hk hkl q hq hql
    rw[zbl];show 0≤((t.getD 0 []).length:Int)+1∧((t.getD 0 []).length:Int)+1<((((t.getD 0 []).length:Int)+2).toNat:Int);omega
  · rename_i i hi hlt k hk hkl q hq hql
    rw[List.length_set,zbl];show 0≤((t.getD 0 []).length:Int)+1∧((t.getD 0 []).length:Int)+1<((((t.getD 0 []).length:Int)+2).toNat:Int);omega
  all_goals try (show (repl (((t.getD 0 []).length:Int)+2) (0:Int)).length=(((repl (((t.getD 0 []).length:Int)+2) (0:Int)).set _ _).set _ _).length;rw[List.length_set,List.length_set])
  · rename_i i hi hlt k hk hkl q hq hql
    show 2*t.length+2*k+q+1≤2147483648;omega
  · rename_i i hi hlt k hk hkl q hq hql
    have e:tab (zbj t cap) (2*t.length+2*k+q)++[u2 (ncol t) k q]=tab (zbj t cap) (2*t.length+2*k+(q+1)):=by
      show _=tab (zbj t cap) (2*t.length+2*k+q)++[zbj t cap (2*t.length+2*k+q)]
      rw[zn6 (by omega)]
    refine zaj.mk ?_
    refine Exists.intro (q+1) ?_
    refine And.intro (Leaf.mk ?_) ?_
    · repeat' first|exact True.intro|refine And.intro ?_ ?_
      all_goals try ((change _=_<;>try dsimp only)<;>try with_reducible rfl)
      all_goals try omega
      all_goals (first|rfl|exact e|exact e.symm|exact congrArg List.length e|exact (congrArg List.length e).symm)
    exact⟨by show q+1≤2;omega,by show 2 - (q+1)<2 - q;omega⟩
  · rename_i i hi hlt k hk hkl q hq hql
    have e:2*t.length+2*k+q=2*t.length+2*(k+1):=by omega
    have e2:=congrArg (tab (zbj t cap)) e
    have g8:(t.getD 0 []).length=ncol t:=rfl
    refine zaj.mk ?_
    refine Exists.intro (k+1) ?_
    refine And.intro (Leaf.mk ?_) ?_
    · repeat' first|exact True.intro|refine And.intro ?_ ?_
      all_goals try ((change _=_<;>try dsimp only)<;>try with_reducible rfl)
      all_goals try omega
      all_goals (first|rfl|exact e|exact e2|exact e2.symm|exact congrArg List.length e2|exact (congrArg List.length e2).symm)
    exact⟨by show k+1≤ncol t;omega,by show ncol t - (k+1)<ncol t - k;omega⟩
  · rename_i i hi hlt k hk hkl
    have e:k=ncol t:=by have:(t.getD 0 []).length=ncol t:=rfl;omega
    rw[e];rfl
/-! ### Corners -/
def mL (l:List (List Int)):List (List Int):=tab (fun i=>(rowN l i).take l.length) l.length
def rL (l:List (List Int)):List Int:=tab (fun i=>vI (rowN l i) l.length) l.length
structure pCorn (l:List (List Int)):Prop where
  le:l.length≤4
  rows:∀i,i<l.length→(rowN l i).length=l.length+1
  vals:∀i j,i<l.length→j<l.length+1→-2000≤vI (rowN l i) j∧vI (rowN l i) j≤2000
theorem zdk {l}:(mL l).length=l.length:=zal _ _
theorem zpo {l:List (List Int)} {i:Nat} (h:i<l.length):rowN (mL l) i=(rowN l i).take l.length:=zaB (fun i=>(rowN l i).take l.length) [] _ i h
theorem zvk {l}:(rL l).length=l.length:=zal _ _
theorem zoS {l:List (List Int)} {i:Nat} (h:i<l.length):vI (rL l) i=vI (rowN l i) l.length:=zaB (fun i=>vI (rowN l i) l.length) 0 _ i h
theorem zq3 {l:List (List Int)} (h:pCorn l):zcG l.length (mL l):=by
  refine⟨zdk,fun r hr=>?_⟩
  obtain⟨i,hi,rfl⟩:=zb5 hr
  have e:=h.rows i hi
  refine⟨by rw[List.length_take];omega,fun x hx=>?_⟩
  obtain⟨j,hj,rfl⟩:=ziB (List.mem_of_mem_take hx)
  exact h.vals i j hi (by omega)
theorem zs6 {l:List (List Int)} (h:pCorn l):∀i,i<(mL l).length→-2000≤vI (rL l) i∧vI (rL l) i≤2000:=fun i hi=>by
  rw[zdk] at hi
  rw[zoS hi];exact h.vals i _ hi (by omega)
def cF (l:List (List Int)) (k i:Nat):List Int:=((rowN l i).take l.length).set k (vI (rowN l i) l.length)
theorem zm8 {l:List (List Int)} {k:Nat}:tab (cF l k) l.length=chk (mL l) (rL l) k (mL l).length:=by
  unfold chk
  rw[zdk]
  refine zbS _ fun i hi=>?_
  rw[if_pos hi,zpo hi,zoS hi];rfl
def cX (l:List (List Int)) (k:Nat):Int:=if detA (mL l)<0 then -detA (tab (cF l k) l.length) else detA (tab (cF l k) l.length)
theorem zv7 {l:List (List Int)} (h:detA (mL l)≠0):zau (mL l) (rL l)=(tab (cX l) l.length,((detA (mL l)).natAbs:Int),true,()):=by
  unfold zau
  rw[if_neg h]
  by_cases hn:detA (mL l)<0
  · rw [if_pos hn]
    have e1:negd (dets (mL l) (rL l) (mL l).length) (mL l).length=tab (cX l) l.length:=by
      unfold negd
      rw[zc7,zdk]
      refine zbS _ fun j hj=>?_
      rw[if_pos hj]
      unfold cX
      rw[if_pos hn,zm8]
      have:=zgQ (m:=mL l) (right:=rL l) (k:=j) (by rw[zdk];exact hj)
      rw[zdk] at this
      rw[this,zdk]
    rw[e1,show ((detA (mL l)).natAbs:Int) = -detA (mL l) by omega]
  · rw [if_neg hn]
    have e1:dets (mL l) (rL l) (mL l).length=tab (cX l) l.length:=by
      unfold dets
      rw[zdk]
      refine zbS _ fun j hj=>?_
      unfold cX
      rw[if_neg hn,zm8,zdk]
    rw[e1,show ((detA (mL l)).natAbs:Int)=detA (mL l) by omega]
@[reducible] def zoy:Spec:={pats:=[.dat MatT],res:=[{t:=.sl I64},{t:=I64},{t:=.bool}],pre:=fun x=>pCorn x.1,f:=fun x=>zau (mL x.1) (rL x.1)}
def coA1 (l:List (List Int)):LoopAnn:={σ:=Nat,pat:=fun i=>sI 7 i::zg8 6 60006 76 (tab (fun i=>(rowN l i).take l.length) i),inv:=fun i=>i≤l.length,meas:=fun i=>l.length - i}
def coA2 (l:List (List Int)):LoopAnn:={σ:=Nat,pat:=fun k=>sI 10 k::sOwn 9 60009 3 (tab (cX l) k),inv:=fun k=>k≤l.length,meas:=fun k=>l.length - k}
def coA3 (l:List (List Int)) (st:St):LoopAnn:=zfS 10 st fun k=>{σ:=Nat,pat:=fun i=>sI 12 i::zg8 11 60011 76 (tab (cF l k.toNat) i),inv:=fun i=>i≤l.length,meas:=fun i=>l.length - i}
theorem h118:Ok 118 zoy:=by
  refine mk (ctr:=[(109,zg9),(151,zed),(152,zsQ)]) ⟨zrd,zw0,h152,trivial⟩ (nt:=79) Tryz.func118 rfl rfl rfl rfl (by kernel_rfl) (by kernel_rfl) (fun x=>[fun _=>coA1 x.1,fun _=>coA2 x.1,coA3 x.1]) ?_
  rintro⟨(l:List (List Int)),⟨⟩⟩ (h:pCorn l)
  have g1:=h.le
  have g2:=h.rows
  have hm:zlF (mL l):=⟨l.length,g1,zq3 h⟩
  have hd:=zhI hm
  repeat' (intro hzz;(try (rename Two=>hq;cases hq));(try dsimp only at hzz);(try simp only[zad,zac,eqD,inR,big,zab,zB] at hzz);(try simp only[zad,zac,eqD,inR,big,zab,zB,zaS,zav,zbb,zbz,zbA,Int.toNat_natCast,zal,zaR,zbv] at hzz);(try (revert hzz;intro _)))
  all_goals try (rename Unit=>hq;clear hq)
  all_goals try ((with_reducible refine Held.mk ?_);(with_reducible (first|refine Frz.mk ?_|refine And.intro (Frz.mk ?_) ?_|refine And.intro ?_ (Frz.mk ?_)));repeat' first|exact True.intro|(change _=_;with_reducible rfl)|refine And.intro ?_ ?_|(with_reducible refine Frz.mk ?_))
  all_goals try (refine Held.mk ?_;(try dsimp only at *);(try simp only[zad,zac,eqD,inR,big,zab,zB] at *);(try simp only[zad,zac,eqD,inR,big,zab,zB,zaS,zav,zbb,zbz,zbA,Int.toNat_natCast,zal,zaR,zbv] at *))
  all_goals try omega
  ·
    refine zaj.mk ?_
    refine Exists.intro (0:Nat) ?_
    refine And.intro (Leaf.mk ?_) ?_
    · repeat' first|exact True.intro|refine And.intro ?_ ?_
      all_goals try ((change _=_<;>try dsimp only)<;>try with_reducible rfl)
      all_goals try omega
      all_goals (rfl)
    exact Nat.zero_le _
  · rename_i i hi hlt
    have:=g2 i (by omega)
    show 0≤(l.length:Int)∧(l.length:Int)≤((rowN l i).length:Int);omega
  · rename_i i hi hlt
    show i+1≤2147483648;omega
  · rename_i i hi hlt
    refine zaj.mk ?_
    refine Exists.intro (i+1) ?_
    refine And.intro (Leaf.mk ?_) ?_
    · repeat' first|exact True.intro|refine And.intro ?_ ?_
      all_goals try ((change _=_<;>try dsimp only)<;>try with_reducible rfl)
      all_goals try omega
      all_goals (rfl)
    exact⟨by show i+1≤l.length;omega,by show l.length - (i+1)<l.length - i;omega⟩
  · rename_i i hi hlt
    obtain rfl:i=l.length:=by omega
    exact hm
  · rename_i i hi hlt hz
    obtain rfl:i=l.length:=by omega
    have hz:detA (mL l)=0:=hz
    unfold zau
    rw[if_pos hz];exact⟨rfl,rfl,rfl⟩
  · rename_i i hi hlt hz
    refine zaj.mk ?_
    refine Exists.intro (0:Nat) ?_
    refine And.intro (Leaf.mk ?_) ?_
    · repeat' first|exact True.intro|refine And.intro ?_ ?_
      all_goals try ((change _=_<;>try dsimp only)<;>try with_reducible rfl)
      all_goals try omega
      all_goals (rfl)
    exact Nat.zero_le _
  · rename_i i hi hlt hz k hk hkl
    refine zaj.mk ?_
    refine Exists.intro (0:Nat) ?_
    refine And.intro (Leaf.mk ?_) ?_
    · repeat' first|exact True.intro|refine And.intro ?_ ?_
      all_goals try ((change _=_<;>try dsimp only)<;>try with_reducible rfl)
      all_goals try omega
      all_goals (rfl)
    exact Nat.zero_le _
  · rename_i i hi hlt hz k hk hkl r hr hrl
    have:=g2 r (by omega)
    show 0≤(l.length:Int)∧(l.length:Int)≤((rowN l r).length:Int);omega
  · rename_i i hi hlt hz k hk hkl r hr hrl
    rw[List.length_take];omega
  · rename_i i hi hlt hz k hk hkl r hr hrl
    have:=g2 r (by omega)
    show 0≤(l.length:Int)∧(l.length:Int)<((rowN l r).length:Int);omega
  · rename_i i hi hlt hz k hk hkl r hr hrl
    have:=g2 r (by omega)
    rw[List.length_take];show 0≤(k:Int)∧(k:Int)<((min l.length (rowN l r).length:Nat):Int);omega
  · rename_i i hi hlt hz k hk hkl r hr hrl
    have:=g2 r (by omega)
    rw[List.length_take];show 0≤(k:Int)∧(k:Int)<((min l.length (rowN l r).length:Nat):Int);omega
  all_goals try (show (List.take _ _).length=((List.take _ _).set _ _).length;rw[List.length_set])
  · rename_i i hi hlt hz k hk hkl r hr hrl
    show r+1≤2147483648;omega
  · rename_i i hi hlt hz k hk hkl r hr hrl
    refine zaj.mk ?_
    refine Exists.intro (r+1) ?_
    refine And.intro (Leaf.mk ?_) ?_
    · repeat' first|exact True.intro|refine And.intro ?_ ?_
      all_goals try ((change _=_<;>try dsimp only)<;>try with_reducible rfl)
      all_goals try omega
      all_goals (rfl)
    exact⟨by show r+1≤l.length;omega,by show l.length - (r+1)<l.length - r;omega⟩
  · rename_i i hi hlt hz k hk hkl r hr hrl
    obtain rfl:r=l.length:=by omega
    rw[zm8];exact⟨l.length,g1,zm5 (zq3 h) (zs6 h)⟩
  · rename_i i hi hlt hz k hk hkl r hr hrl hn
    obtain rfl:r=l.length:=by omega
    have q:zlF (tab (cF l k) l.length):=by rw[zm8];exact⟨l.length,g1,zm5 (zq3 h) (zs6 h)⟩
    have:=zhI q
    show -9223372036854775808≤-detA (tab (cF l k) l.length)∧-detA (tab (cF l k) l.length)≤9223372036854775807
    omega
  · rename_i i hi hlt hz k hk hkl r hr hrl hn
    show k+1≤2147483648;omega
  · rename_i i hi hlt hz k hk hkl r hr hrl hn
    obtain rfl:r=l.length:=by omega
    obtain rfl:i=l.length:=by omega
    have hn:detA (mL l)<0:=hn
    have e:tab (cX l) k++[-detA (tab (cF l k) l.length)]=tab (cX l) (k+1):=by
      show _=tab (cX l) k++[cX l k]
      unfold cX;rw[if_pos hn]
    refine zaj.mk ?_
    refine Exists.intro (k+1) ?_
    refine And.intro (Leaf.mk ?_) ?_
    · repeat' first|exact True.intro|refine And.intro ?_ ?_
      all_goals try ((change _=_<;>try dsimp only)<;>try with_reducible rfl)
      all_goals try omega
      all_goals (first|rfl|exact e|exact e.symm|exact congrArg List.length e|exact (congrArg List.length e).symm)
    exact⟨by show k+1≤l.length;omega,by show l.length - (k+1)<l.length - k;omega⟩
  · rename_i i hi hlt hz k hk hkl r hr hrl hn
    show k+1≤2147483648;omega
  · rename_i i hi hlt hz k hk hkl r hr hrl hn
    obtain rfl:r=l.length:=by omega
    obtain rfl:i=l.length:=by omega
    have hn:¬detA (mL l)<0:=Int.not_lt.2 hn
    have e:tab (cX l) k++[detA (tab (cF l k) l.length)]=tab (cX l) (k+1):=by
      show _=tab (cX l) k++[cX l k]
      unfold cX;rw[if_neg hn]
    refine zaj.mk ?_
    refine Exists.intro (k+1) ?_
    refine And.intro (Leaf.mk ?_) ?_
    · repeat' first|exact True.intro|refine And.intro ?_ ?_
      all_goals try ((change _=_<;>try dsimp only)<;>try with_reducible rfl)
      all_goals try omega
      all_goals (first|rfl|exact e|exact e.symm|exact congrArg List.length e|exact (congrArg List.length e).symm)
    exact⟨by show k+1≤l.length;omega,by show l.length - (k+1)<l.length - k;omega⟩
  · rename_i i hi hlt hz k hk hkl
    obtain rfl:i=l.length:=by omega
    show (detA (mL l)).natAbs≤9000000000000000000;omega
  · rename_i i hi hlt hz k hk hkl
    obtain rfl:i=l.length:=by omega
    obtain rfl:k=l.length:=by omega
    have hz:detA (mL l)≠0:=hz
    rw[zv7 hz];exact⟨rfl,rfl,rfl⟩
/-! ### Points -/
def dotX (t:List (List Int)) (x:List Int) (i:Nat):Int:=sm (fun j=>vI (rowN t i) j*vI x j) (ncol t)
def zhq (t:List (List Int)) (cap:Int) (x:List Int) (d:Int) (i:Nat):Bool:=decide (dotX t x i≤cap*d)&&decide (vI x (ncol t)≤dotX t x i)
def zeQ (t:List (List Int)) (cap:Int) (x:List Int) (d:Int):Nat→Bool
  | 0=>true
  | k+1=>zeQ t cap x d k&&zhq t cap x d k
def mayB (t:List (List Int)) (cap:Int) (x:List Int) (d:Int):Bool:=zeW (x.take (ncol t)) d&&zeQ t cap x d t.length
theorem zpl {t:List (List Int)} {cap d:Int} {x:List Int} {k:Nat} (h:zhq t cap x d k=false):∀n,k<n→zeQ t cap x d n=false
  | 0,hk=>absurd hk (Nat.not_lt_zero _)
  | n+1,hk=>by
    simp only[zeQ]
    by_cases e:k=n
    · subst e;rw[h,Bool.and_false]
    · rw[zpl h n (by omega),Bool.false_and]
structure pMay (t:List (List Int)) (cap:Int) (x:List Int) (d:Int):Prop where
  good:goodT t cap
  len:x.length=ncol t+1
  d0:0<d∧d≤400000000000000
@[reducible] def sMay:Spec:={pats:=[.dat zeI,.dat (.sl I64),.dat I64],res:=[{t:=.bool}],pre:=fun x=>pMay x.1.1 x.1.2.1 x.2.1 x.2.2.1,f:=fun x=>(mayB x.1.1 x.1.2.1 x.2.1 x.2.2.1,())}
def myA1 (t:List (List Int)) (cap:Int) (x:List Int) (d:Int):LoopAnn:={σ:=Nat,pat:=fun i=>[sI 8 i],inv:=fun i=>i≤t.length∧zeQ t cap x d i=true,meas:=fun i=>t.length - i}
def myA2 (t:List (List Int)) (x:List Int) (st:St):LoopAnn:=zfS 8 st fun i=>{σ:=Nat,pat:=fun k=>[sI 10 k,sI 9 (sm (fun j=>vI (rowN t i.toNat) j*vI x j) k)],inv:=fun k=>k≤ncol t,meas:=fun k=>ncol t - k}
theorem zpm {t:List (List Int)} {cap d:Int} {x:List Int} (h:pMay t cap x d) (hw:zeW (x.take (ncol t)) d=true) {j:Nat} (hj:j<ncol t):0≤vI x j∧vI x j≤d:=by
  have hl:=h.len
  have q:=zgm (of_decide_eq_true hw) j (by rw[List.length_take];omega)
  rw[zdx hj] at q
  exact q
theorem zsh {t:List (List Int)} {cap d:Int} {x:List Int} (h:pMay t cap x d) (hw:zeW (x.take (ncol t)) d=true) {i j:Nat} (hi:i<t.length) (hj:j<ncol t):0≤vI (rowN t i) j*vI x j∧vI (rowN t i) j*vI x j≤100*400000000000000:=by
  have q:=zpm h hw hj
  have hd:=h.d0
  exact zcL (h.good.vals i j hi hj) ⟨q.1,by omega⟩
theorem zvD {t:List (List Int)} {cap d:Int} {x:List Int} (h:pMay t cap x d) (hw:zeW (x.take (ncol t)) d=true) {i k:Nat} (hi:i<t.length) (hk:k≤ncol t):0≤sm (fun j=>vI (rowN t i) j*vI x j) k∧sm (fun j=>vI (rowN t i) j*vI x j) k≤(k:Int)*(100*400000000000000):=zik k fun j hj=>zsh h hw hi (by omega)
theorem h119:Ok 119 sMay:=by
  refine mk (ctr:=[(115,sWi)]) ⟨h115,trivial⟩ (nt:=63) Tryz.func119 rfl rfl rfl rfl (by kernel_rfl) (by kernel_rfl) (fun x=>[fun _=>myA1 x.1.1 x.1.2.1 x.2.1 x.2.2.1,myA2 x.1.1 x.2.1]) ?_
  rintro⟨⟨(t:List (List Int)),(cap:Int),⟨⟩⟩,(x:List Int),(d:Int),⟨⟩⟩ (h:pMay t cap x d)
  obtain⟨hg,hl,hd⟩:=h
  have g1:=hg.pos
  have g2:=hg.le
  have g3:=hg.cpos
  have g4:=hg.cle
  have g5:=hg.cap0
  repeat' (intro hzz;(try (rename Two=>hq;cases hq));(try dsimp only at hzz);(try simp only[zad,zac,eqD,inR,big,zab,zB] at hzz);(try simp only[zad,zac,eqD,inR,big,zab,zB,zaS,zav,zbb,zbz,zbA,Int.toNat_natCast,zal,zaR,zbv] at hzz);(try (revert hzz;intro _)))
  all_goals try (rename Unit=>hq;clear hq)
  all_goals try ((with_reducible refine Held.mk ?_);(with_reducible (first|refine Frz.mk ?_|refine And.intro (Frz.mk ?_) ?_|refine And.intro ?_ (Frz.mk ?_)));repeat' first|exact True.intro|(change _=_;with_reducible rfl)|refine And.intro ?_ ?_|(with_reducible refine Frz.mk ?_))
  all_goals try (refine Held.mk ?_;(try dsimp only at *);(try simp only[zad,zac,eqD,inR,big,zab,zB] at *);(try simp only[zad,zac,eqD,inR,big,zab,zB,zaS,zav,zbb,zbz,zbA,Int.toNat_natCast,zal,zaR,zbv] at *))
  all_goals try omega
  all_goals have g6:(t.getD 0 []).length=ncol t:=rfl
  all_goals have H:pMay t cap x d:=⟨hg,hl,hd⟩
  · show 0≤((t.getD 0 []).length:Int)∧((t.getD 0 []).length:Int)≤(x.length:Int);omega
  · show ((x.take (t.getD 0 []).length).length:Int)≤4611686018427387904
    rw[List.length_take];omega
  · rename_i hw
    unfold mayB;rw[show zeW (x.take (ncol t)) d=false from hw];rfl
  · rename_i hw
    refine zaj.mk ?_
    refine Exists.intro (0:Nat) ?_
    refine And.intro (Leaf.mk ?_) ?_
    · repeat' first|exact True.intro|refine And.intro ?_ ?_
      all_goals try ((change _=_<;>try dsimp only)<;>try with_reducible rfl)
      all_goals try omega
      all_goals (rfl)
    exact⟨Nat.zero_le _,rfl⟩
  · rename_i hw i hi hlt
    refine zaj.mk ?_
    refine Exists.intro (0:Nat) ?_
    refine And.intro (Leaf.mk ?_) ?_
    · repeat' first|exact True.intro|refine And.intro ?_ ?_
      all_goals try ((change _=_<;>try dsimp only)<;>try with_reducible rfl)
      all_goals try omega
      all_goals (rfl)
    exact Nat.zero_le _
  · rename_i hw i hi hlt k hk hkl
    have:=hg.rows i (by omega)
    show 0≤(k:Int)∧(k:Int)<((rowN t i).length:Int);omega
  · rename_i hw i hi hlt k hk hkl
    have:=zsh H hw (i:=i) (j:=k) (by omega) (by omega)
    show -9223372036854775808≤vI (rowN t i) k*vI x k∧vI (rowN t i) k*vI x k≤9223372036854775807
    omega
  · rename_i hw i hi hlt k hk hkl
    have q:=zvD H hw (i:=i) (k:=k+1) (by omega) (by omega)
    have e:sm (fun j=>vI (rowN t i) j*vI x j) (k+1)=sm (fun j=>vI (rowN t i) j*vI x j) k+vI (rowN t i) k*vI x k:=rfl
    rw[e] at q
    show -9223372036854775808≤sm (fun j=>vI (rowN t i) j*vI x j) k+vI (rowN t i) k*vI x k∧sm (fun j=>vI (rowN t i) j*vI x j) k+vI (rowN t i) k*vI x k≤9223372036854775807
    omega
  · rename_i hw i hi hlt k hk hkl
    refine zaj.mk ?_
    refine Exists.intro (k+1) ?_
    refine And.intro (Leaf.mk ?_) ?_
    · repeat' first|exact True.intro|refine And.intro ?_ ?_
      all_goals try ((change _=_<;>try dsimp only)<;>try with_reducible rfl)
      all_goals try omega
      all_goals (rfl)
    exact⟨by show k+1≤ncol t;omega,by show ncol t - (k+1)<ncol t - k;omega⟩
  · have:=zcL g5 (show 0≤d∧d≤400000000000000 by omega)
    omega
  · rename_i hw i hi hlt k hk hkl hn hm
    obtain rfl:k=ncol t:=by omega
    have e:zhq t cap x d i=false:=by
      unfold zhq dotX;rw[decide_eq_true hn,decide_eq_false (Int.not_le.2 (show vI x (ncol t)>_ from hm))];rfl
    unfold mayB;rw[zpl e _ (by omega),Bool.and_false]
  · rename_i hw i hi hlt k hk hkl hn hm
    obtain rfl:k=ncol t:=by omega
    have e:zhq t cap x d i=true:=by
      unfold zhq dotX;rw[decide_eq_true hn,decide_eq_true (show vI x (ncol t)≤_ from hm)];rfl
    refine zaj.mk ?_
    refine Exists.intro (i+1) ?_
    refine And.intro (Leaf.mk ?_) ?_
    · repeat' first|exact True.intro|refine And.intro ?_ ?_
      all_goals try ((change _=_<;>try dsimp only)<;>try with_reducible rfl)
      all_goals try omega
      all_goals (rfl)
    refine⟨⟨by show i+1≤t.length;omega,?_⟩,by show t.length - (i+1)<t.length - i;omega⟩
    show (zeQ t cap x d i&&zhq t cap x d i)=true
    rw[hi.2,e];rfl
  · rename_i hw i hi hlt k hk hkl hn
    obtain rfl:k=ncol t:=by omega
    have e:zhq t cap x d i=false:=by
      unfold zhq dotX;rw[decide_eq_false (Int.not_le.2 hn)];rfl
    unfold mayB;rw[zpl e _ (by omega),Bool.and_false]
  · rename_i hw i hi hlt
    obtain⟨hi1,hi2⟩:=hi
    obtain rfl:i=t.length:=by omega
    unfold mayB;rw[hi2,show zeW (x.take (ncol t)) d=true from hw];rfl
end Go.Eng.Ar
namespace Go.Eng.Ar
open Go.Eng Go.Proofs Go.Eng.LP
set_option linter.all false
set_option maxRecDepth 100000
set_option maxHeartbeats 4000000
/-! ### Choices in order -/
def keyP (p:List Int):Int:=p.foldl (fun a x=>a*100+x) 0
structure okC (K N:Nat) (c:List Int):Prop where
  len:c.length=N
  asc:∀i,i+1<N→vI c i<vI c (i+1)
  lo:0≤vI c 0
  hi:vI c (N - 1)<K
structure okQ (K N:Nat) (p:List Int):Prop where
  len:p.length=N
  asc:∀i,i+1<N→vI p i<vI p (i+1)
  lo:0≤vI p 0
  top:vI p 0≤(K:Int) - N+1
  hi:vI p (N - 1)≤K
  hi2:vI p 0≤(K:Int) - N→vI p (N - 1)<K
def pkP (p:List Int) (i k:Nat):List Int:=tab (fun j=>if j<i then vI p j else if j<k then vI p i+1+((j:Int) - i) else vI p j) p.length
theorem k2 (a b:Int):keyP [a,b]=a*100+b:=by simp[keyP]
theorem k3 (a b c:Int):keyP [a,b,c]=(a*100+b)*100+c:=by simp[keyP]
theorem k4 (a b c d:Int):keyP [a,b,c,d]=((a*100+b)*100+c)*100+d:=by simp[keyP]
theorem ztf {K:Nat} {a b:Int} (h:okQ K 2 [a,b]):a<b∧0≤a∧a≤(K:Int) - 1∧b≤K∧(a≤(K:Int) - 2→b<K):=by
  obtain⟨h1,h2,h3,h4,h5,h6⟩:=h
  have q:=h2 0 (by decide)
  exact⟨q,h3,by have:a≤(K:Int) - 2+1:=h4;omega,h5,h6⟩
theorem zte {K:Nat} {a b c:Int} (h:okQ K 3 [a,b,c]):a<b∧b<c∧0≤a∧a≤(K:Int) - 2∧c≤K∧(a≤(K:Int) - 3→c<K):=by
  obtain⟨h1,h2,h3,h4,h5,h6⟩:=h
  have q:=h2 0 (by decide)
  have q1:=h2 1 (by decide)
  exact⟨q,q1,h3,by have:a≤(K:Int) - 3+1:=h4;omega,h5,h6⟩
theorem ztd {K:Nat} {a b c d:Int} (h:okQ K 4 [a,b,c,d]):a<b∧b<c∧c<d∧0≤a∧a≤(K:Int) - 3∧d≤K∧(a≤(K:Int) - 4→d<K):=by
  obtain⟨h1,h2,h3,h4,h5,h6⟩:=h
  have q:=h2 0 (by decide)
  have q1:=h2 1 (by decide)
  have q2:=h2 2 (by decide)
  exact⟨q,q1,q2,h3,by have:a≤(K:Int) - 4+1:=h4;omega,h5,h6⟩
theorem znx {K:Nat} {a b:Int} (h:okC K 2 [a,b]):a<b∧0≤a∧b<K:=⟨h.asc 0 (by decide),h.lo,h.hi⟩
theorem zlJ {K:Nat} {a b c:Int} (h:okC K 3 [a,b,c]):a<b∧b<c∧0≤a∧c<K:=⟨h.asc 0 (by decide),h.asc 1 (by decide),h.lo,h.hi⟩
theorem zkF {K:Nat} {a b c d:Int} (h:okC K 4 [a,b,c,d]):a<b∧b<c∧c<d∧0≤a∧d<K:=⟨h.asc 0 (by decide),h.asc 1 (by decide),h.asc 2 (by decide),h.lo,h.hi⟩
theorem ztm {K:Nat} {a b:Int} (h:a<b∧0≤a∧a≤(K:Int) - 1∧b≤K∧(a≤(K:Int) - 2→b<K)):okQ K 2 [a,b]:=by
  obtain⟨h1,h2,h3,h4,h5⟩:=h
  refine⟨rfl,fun i hi=>?_,h2,?_,h4,h5⟩
  · obtain rfl:i=0:=by omega
    exact h1
  · show a≤(K:Int) - 2+1;omega
theorem zq0 {K:Nat} {a b c:Int} (h:a<b∧b<c∧0≤a∧a≤(K:Int) - 2∧c≤K∧(a≤(K:Int) - 3→c<K)):okQ K 3 [a,b,c]:=by
  obtain⟨h1,h1b,h2,h3,h4,h5⟩:=h
  refine⟨rfl,fun i hi=>?_,h2,?_,h4,h5⟩
  · match i,hi with
    | 0,_=>exact h1
    | 1,_=>exact h1b
  · show a≤(K:Int) - 3+1;omega
theorem zpj {K:Nat} {a b c d:Int} (h:a<b∧b<c∧c<d∧0≤a∧a≤(K:Int) - 3∧d≤K∧(a≤(K:Int) - 4→d<K)):okQ K 4 [a,b,c,d]:=by
  obtain⟨h1,h1b,h1c,h2,h3,h4,h5⟩:=h
  refine⟨rfl,fun i hi=>?_,h2,?_,h4,h5⟩
  · match i,hi with
    | 0,_=>exact h1
    | 1,_=>exact h1b
    | 2,_=>exact h1c
  · show a≤(K:Int) - 4+1;omega
theorem zmz {K N:Nat} {p:List Int} (h:okQ K N p) (hp:vI p 0≤(K:Int) - N):∀i,i<N→0≤vI p i∧vI p i<K:=by
  have up:∀i,i<N→0≤vI p i:=fun i=>by
    induction i with
    | zero=>exact fun _=>h.lo
    | succ i ih=>intro hi;have q1:=ih (by omega);have q2:=h.asc i hi;omega
  have down:∀k i,i+k=N - 1→i<N→vI p i<K:=fun k=>by
    induction k with
    | zero=>intro i hi _;rw[show i=N - 1 by omega];exact h.hi2 hp
    | succ k ih=>intro i hi hl;have q1:=ih (i+1) (by omega) (by omega);have q2:=h.asc i (by omega);omega
  exact fun i hi=>⟨up i hi,down (N - 1 - i) i (by omega) hi⟩
theorem zhk {K N:Nat} {p:List Int} (h:okQ K N p) (hp:vI p 0≤(K:Int) - N):okC K N p:=⟨h.len,h.asc,h.lo,h.hi2 hp⟩
theorem zo0 {K N:Nat} (hN:2≤N∧N≤4) (hK:K≤14) {p:List Int} (h:okQ K N p) (hp:vI p 0≤(K:Int) - N) {i:Nat} (hi:i<N) (h0:i=0∨vI p i≠(K:Int) - N+i) (hj:∀j,i<j→j<N→vI p j=(K:Int) - N+j) :
    okQ K N (pkP p i N)∧keyP p<keyP (pkP p i N)∧∀c,okC K N c→keyP p<keyP c→keyP (pkP p i N)≤keyP c:=by
  have g:N=2∨N=3∨N=4:=by omega
  rcases g with rfl|rfl|rfl
  · obtain ⟨a,b,rfl⟩:=len2 h.len
    obtain⟨q1,q2,q3,q4,q5⟩:=ztf h
    have hp:a≤(K:Int) - 2:=hp
    have g:i=0∨i=1:=by omega
    rcases g with rfl|rfl
    · have r1:b=(K:Int) - 2+1:=hj 1 (by decide) (by decide)
      have e:pkP [a,b] 0 2=[a+1,a+2]:=by simp[pkP,tab,vI];omega
      rw[e,k2,k2]
      refine⟨ztm (by omega),by omega,fun c hc hk=>?_⟩
      obtain⟨x,y,rfl⟩:=len2 hc.len
      have:=znx hc
      rw[k2] at hk ⊢
      omega
    · have r0:b≠(K:Int) - 2+1:=by rcases h0 with h0|h0;cases h0;exact h0
      have e:pkP [a,b] 1 2=[a,b+1]:=by simp[pkP,tab,vI]
      rw[e,k2,k2]
      refine⟨ztm (by omega),by omega,fun c hc hk=>?_⟩
      obtain⟨x,y,rfl⟩:=len2 hc.len
      have:=znx hc
      rw[k2] at hk ⊢
      omega
  · obtain ⟨a,b,c,rfl⟩:=len3 h.len
    obtain⟨q1,q1b,q2,q3,q4,q5⟩:=zte h
    have hp:a≤(K:Int) - 3:=hp
    have g:i=0∨i=1∨i=2:=by omega
    rcases g with rfl|rfl|rfl
    · have r1:b=(K:Int) - 3+1:=hj 1 (by decide) (by decide)
      have r2:c=(K:Int) - 3+2:=hj 2 (by decide) (by decide)
      have e:pkP [a,b,c] 0 3=[a+1,a+2,a+3]:=by simp[pkP,tab,vI];omega
      rw[e,k3,k3]
      refine⟨zq0 (by omega),by omega,fun c hc hk=>?_⟩
      obtain⟨x,y,z,rfl⟩:=len3 hc.len
      have:=zlJ hc
      rw[k3] at hk ⊢
      omega
    · have r0:b≠(K:Int) - 3+1:=by rcases h0 with h0|h0;cases h0;exact h0
      have r2:c=(K:Int) - 3+2:=hj 2 (by decide) (by decide)
      have e:pkP [a,b,c] 1 3=[a,b+1,b+2]:=by simp[pkP,tab,vI];omega
      rw[e,k3,k3]
      refine⟨zq0 (by omega),by omega,fun c hc hk=>?_⟩
      obtain⟨x,y,z,rfl⟩:=len3 hc.len
      have:=zlJ hc
      rw[k3] at hk ⊢
      omega
    · have r0:c≠(K:Int) - 3+2:=by rcases h0 with h0|h0;cases h0;exact h0
      have e:pkP [a,b,c] 2 3=[a,b,c+1]:=by simp[pkP,tab,vI]
      rw[e,k3,k3]
      refine⟨zq0 (by omega),by omega,fun c hc hk=>?_⟩
      obtain⟨x,y,z,rfl⟩:=len3 hc.len
      have:=zlJ hc
      rw[k3] at hk ⊢
      omega
  · obtain ⟨a,b,c,d,rfl⟩:=len4 h.len
    obtain⟨q1,q1b,q1c,q2,q3,q4,q5⟩:=ztd h
    have hp:a≤(K:Int) - 4:=hp
    have g:i=0∨i=1∨i=2∨i=3:=by omega
    rcases g with rfl|rfl|rfl|rfl
    · have r1:b=(K:Int) - 4+1:=hj 1 (by decide) (by decide)
      have r2:c=(K:Int) - 4+2:=hj 2 (by decide) (by decide)
      have r3:d=(K:Int) - 4+3:=hj 3 (by decide) (by decide)
      have e:pkP [a,b,c,d] 0 4=[a+1,a+2,a+3,a+4]:=by simp[pkP,tab,vI];omega
      rw[e,k4,k4]
      refine⟨zpj (by omega),by omega,fun c hc hk=>?_⟩
      obtain⟨x,y,z,u,rfl⟩:=len4 hc.len
      have:=zkF hc
      rw[k4] at hk ⊢
      omega
    · have r0:b≠(K:Int) - 4+1:=by rcases h0 with h0|h0;cases h0;exact h0
      have r2:c=(K:Int) - 4+2:=hj 2 (by decide) (by decide)
      have r3:d=(K:Int) - 4+3:=hj 3 (by decide) (by decide)
      have e:pkP [a,b,c,d] 1 4=[a,b+1,b+2,b+3]:=by simp[pkP,tab,vI];omega
      rw[e,k4,k4]
      refine⟨zpj (by omega),by omega,fun c hc hk=>?_⟩
      obtain⟨x,y,z,u,rfl⟩:=len4 hc.len
      have:=zkF hc
      rw[k4] at hk ⊢
      omega
    · have r0:c≠(K:Int) - 4+2:=by rcases h0 with h0|h0;cases h0;exact h0
      have r3:d=(K:Int) - 4+3:=hj 3 (by decide) (by decide)
      have e:pkP [a,b,c,d] 2 4=[a,b,c+1,c+2]:=by simp[pkP,tab,vI];omega
      rw[e,k4,k4]
      refine⟨zpj (by omega),by omega,fun c hc hk=>?_⟩
      obtain⟨x,y,z,u,rfl⟩:=len4 hc.len
      have:=zkF hc
      rw[k4] at hk ⊢
      omega
    · have r0:d≠(K:Int) - 4+3:=by rcases h0 with h0|h0;cases h0;exact h0
      have e:pkP [a,b,c,d] 3 4=[a,b,c,d+1]:=by simp[pkP,tab,vI]
      rw[e,k4,k4]
      refine⟨zpj (by omega),by omega,fun c hc hk=>?_⟩
      obtain⟨x,y,z,u,rfl⟩:=len4 hc.len
      have:=zkF hc
      rw[k4] at hk ⊢
      omega
theorem zsk {K N:Nat} (hN:2≤N∧N≤4) (hK:K≤14) {p:List Int} (h:okQ K N p):0≤keyP p∧keyP p<100000000:=by
  have g:N=2∨N=3∨N=4:=by omega
  rcases g with rfl|rfl|rfl
  · obtain⟨a,b,rfl⟩:=len2 h.len
    have:=ztf h
    rw[k2];omega
  · obtain⟨a,b,c,rfl⟩:=len3 h.len
    have:=zte h
    rw[k3];omega
  · obtain⟨a,b,c,d,rfl⟩:=len4 h.len
    have:=ztd h
    rw[k4];omega
theorem zqT {K N:Nat} (hN:2≤N∧N≤4) (hK:K≤14) {p:List Int} (h:okQ K N p) (hp:(K:Int) - N<vI p 0) {c:List Int} (hc:okC K N c):keyP c<keyP p:=by
  have g:N=2∨N=3∨N=4:=by omega
  rcases g with rfl|rfl|rfl
  · obtain⟨a,b,rfl⟩:=len2 h.len
    obtain⟨x,y,rfl⟩:=len2 hc.len
    have q:=ztf h
    have q2:=znx hc
    have hp:(K:Int) - 2<a:=hp
    rw[k2,k2];omega
  · obtain⟨a,b,c',rfl⟩:=len3 h.len
    obtain⟨x,y,z,rfl⟩:=len3 hc.len
    have q:=zte h
    have q2:=zlJ hc
    have hp:(K:Int) - 3<a:=hp
    rw[k3,k3];omega
  · obtain⟨a,b,c',d,rfl⟩:=len4 h.len
    obtain⟨x,y,z,u,rfl⟩:=len4 hc.len
    have q:=ztd h
    have q2:=zkF hc
    have hp:(K:Int) - 4<a:=hp
    rw[k4,k4];omega
theorem dig {u v z w:Int} (h:u*100+z=v*100+w) (hz:0≤z∧z<100) (hw:0≤w∧w<100):u=v∧z=w:=by omega
theorem zpB {K N:Nat} (hN:2≤N∧N≤4) (hK:K≤14) {p c:List Int} (h:okC K N p) (hc:okC K N c) (he:keyP c=keyP p):c=p:=by
  have g:N=2∨N=3∨N=4:=by omega
  rcases g with rfl|rfl|rfl
  · obtain⟨a,b,rfl⟩:=len2 h.len
    obtain⟨x,y,rfl⟩:=len2 hc.len
    have q:=znx h
    have q2:=znx hc
    rw[k2,k2] at he
    rw[show x=a by omega,show y=b by omega]
  · obtain⟨a,b,c',rfl⟩:=len3 h.len
    obtain⟨x,y,z,rfl⟩:=len3 hc.len
    have q:=zlJ h
    have q2:=zlJ hc
    rw[k3,k3] at he
    obtain⟨e1,e2⟩:=dig he (by omega) (by omega)
    obtain⟨e3,e4⟩:=dig e1 (by omega) (by omega)
    rw[e2,e3,e4]
  · obtain⟨a,b,c',d,rfl⟩:=len4 h.len
    obtain⟨x,y,z,u,rfl⟩:=len4 hc.len
    have q:=zkF h
    have q2:=zkF hc
    rw[k4,k4] at he
    obtain⟨e1,e2⟩:=dig he (by omega) (by omega)
    obtain⟨e3,e4⟩:=dig e1 (by omega) (by omega)
    obtain⟨e5,e6⟩:=dig e3 (by omega) (by omega)
    rw[e2,e4,e5,e6]
theorem znt {K N:Nat} (hN:2≤N∧N≤4) (hK:N≤K∧K≤14):okQ K N (tab (fun i=>(i:Int)) N)∧∀c,okC K N c→keyP (tab (fun i=>(i:Int)) N)≤keyP c:=by
  have g:N=2∨N=3∨N=4:=by omega
  rcases g with rfl|rfl|rfl
  · have e:tab (fun i=>(i:Int)) 2=[0,1]:=rfl
    rw[e,k2]
    refine⟨ztm (by omega),fun c hc=>?_⟩
    obtain⟨x,y,rfl⟩:=len2 hc.len
    have:=znx hc
    rw[k2];omega
  · have e:tab (fun i=>(i:Int)) 3=[0,1,2]:=rfl
    rw[e,k3]
    refine⟨zq0 (by omega),fun c hc=>?_⟩
    obtain⟨x,y,z,rfl⟩:=len3 hc.len
    have:=zlJ hc
    rw[k3];omega
  · have e:tab (fun i=>(i:Int)) 4=[0,1,2,3]:=rfl
    rw[e,k4]
    refine⟨zpj (by omega),fun c hc=>?_⟩
    obtain⟨x,y,z,u,rfl⟩:=len4 hc.len
    have:=zkF hc
    rw[k4];omega
end Go.Eng.Ar
