/- Texts LP1 LP2 LP3 D2 D3 D4 D6 LP4 LP5 D7 A16 A17 A20 TC1 TC2, as far as they are used. Conditions: each lemma's own. -/
import Derived.Test.YtnlpnkcbiakmgaaKN5
import Derived.WalkKit
namespace Go.Eng.LP
set_option linter.all false
set_option maxRecDepth 100000
def S (f:Nat→Rat):Nat→Rat
  | 0=>0
  | k+1=>S f k+f k
theorem zat {f g:Nat→Rat}:∀n,(∀i,i<n→f i=g i)→S f n=S g n
  | 0,_=>rfl
  | n+1,h=>by simp only[S];rw[zat n (fun i hi=>h i (by omega)),h n (by omega)]
theorem zkE (f g:Nat→Rat):∀n,S (fun i=>f i+g i) n=S f n+S g n
  | 0=>by simp only[S];grind
  | n+1=>by simp only[S,zkE f g n];grind
theorem zhi (c:Rat) (f:Nat→Rat):∀n,S (fun i=>c*f i) n=c*S f n
  | 0=>by simp only[S];grind
  | n+1=>by simp only[S,zhi c f n];grind
theorem zdI (c:Rat) (f:Nat→Rat) (n:Nat):S (fun i=>f i*c) n=S f n*c:=by
  rw[zat n (g:=fun i=>c*f i) (fun i _=>by grind),zhi];grind
theorem zn9:∀n,S (fun _=>0) n=0
  | 0=>rfl
  | n+1=>by simp only[S,zn9 n];grind
theorem S_z {f:Nat→Rat} {n:Nat} (h:∀i,i<n→f i=0):S f n=0:=(zat n h).trans (zn9 n)
theorem zg4 (f:Nat→Nat→Rat) (m:Nat):∀n,S (fun i=>S (fun j=>f i j) m) n=S (fun j=>S (fun i=>f i j) n) m
  | 0=>by simp only[S];exact (zn9 m).symm
  | n+1=>by simp only[S];rw[zg4 f m n,zkE]
theorem zee {f:Nat→Rat} {p:Nat}:∀ {n},p<n→(∀i,i<n→i≠p→f i=0)→S f n=f p
  | n + 1,hp,h=>by
    simp only[S]
    by_cases e:p=n
    · subst e
      rw[S_z (fun i hi=>h i (by omega) (by omega))];grind
    · rw[zee (n:=n) (by omega) (fun i hi hq=>h i (by omega) hq),h n (by omega) (by omega)];grind
theorem S_le {f g:Nat→Rat}:∀n,(∀i,i<n→f i≤g i)→S f n≤S g n
  | 0,_=>by simp only[S];grind
  | n+1,h=>by
    have h1:=S_le n (fun i hi=>h i (by omega))
    have h2:=h n (by omega)
    simp only[S];grind
def dl (i j:Nat):Rat:=if i=j then 1 else 0
theorem zcX (i:Nat):dl i i=1:=if_pos rfl
theorem zce {i j:Nat} (h:i≠j):dl i j=0:=if_neg h
structure Inv (n:Nat) (A G:Nat→Nat→Rat):Prop where
  ga:∀i j,i<n→j<n→S (fun k=>G i k*A k j) n=dl i j
  ag:∀k l,k<n→l<n→S (fun j=>A k j*G j l) n=dl k l
abbrev lam (n:Nat) (G:Nat→Nat→Rat) (v:Nat→Rat) (k:Nat):Rat:=S (fun i=>v i*G i k) n
theorem co {n:Nat} {A G:Nat→Nat→Rat} (h:Inv n A G) (v:Nat→Rat) {j:Nat} (hj:j<n):S (fun k=>lam n G v k*A k j) n=v j:=by
  have e1:S (fun k=>lam n G v k*A k j) n=S (fun k=>S (fun i=>v i*G i k*A k j) n) n:=
    zat n fun k _=>(zdI (A k j) (fun i=>v i*G i k) n).symm
  rw[e1,zg4]
  have e2:S (fun i=>S (fun k=>v i*G i k*A k j) n) n=S (fun i=>v i*dl i j) n:=zat n fun i hi=>by
    rw[←h.ga i j hi hj,←zhi]
    exact zat n fun k _=>by grind
  rw[e2,zee hj (fun i hi hne=>by rw[zce hne];grind),zcX];grind
theorem zoW {n:Nat} {A G G':Nat→Nat→Rat} (h:Inv n A G) (h':Inv n A G') {i k:Nat} (hi:i<n) (hk:k<n):G i k=G' i k:=by
  have e1:S (fun l=>G i l*S (fun j=>A l j*G' j k) n) n=G i k:=by
    rw[zee (p:=k) hk (fun l hl hne=>by rw[h'.ag l k hl hk,zce hne];grind),h'.ag k k hk hk,zcX];grind
  have e2:S (fun l=>G i l*S (fun j=>A l j*G' j k) n) n=S (fun j=>S (fun l=>G i l*A l j) n*G' j k) n:=by
    rw[zat n (g:=fun l=>S (fun j=>G i l*(A l j*G' j k)) n) (fun l _=>(zhi _ _ n).symm),zg4]
    exact zat n fun j _=>by
      rw[←zdI];exact zat n fun l _=>by grind
  rw[←e1,e2,zee (p:=i) hi (fun j hj hne=>by rw[h.ga i j hi hj,zce (Ne.symm hne)];grind),h.ga i i hi hi,zcX];grind
def pivA (A:Nat→Nat→Rat) (p:Nat) (v:Nat→Rat) (k:Nat):Nat→Rat:=if k=p then v else A k
def pivG (n:Nat) (G:Nat→Nat→Rat) (p:Nat) (v:Nat→Rat) (j k:Nat):Rat:=
  if k=p then G j p*(lam n G v p)⁻¹ else G j k - lam n G v k*(G j p*(lam n G v p)⁻¹)
theorem zrd (f g:Nat→Rat) (n:Nat):S (fun i=>f i - g i) n=S f n - S g n:=by
  have h1:=zkE f (fun i=>(-1)*g i) n
  rw[zhi] at h1
  rw[zat n (g:=fun i=>f i+(-1)*g i) (fun i _=>by grind),h1];grind
theorem zmN {n:Nat} {G:Nat→Nat→Rat} {p:Nat} {v:Nat→Rat} (u:Nat→Rat) (k:Nat) :
    S (fun j=>u j*pivG n G p v j k) n=if k=p then lam n G u p*(lam n G v p)⁻¹ else lam n G u k - lam n G v k*(lam n G u p*(lam n G v p)⁻¹):=by
  by_cases hk:k=p
  · rw[if_pos hk,zat n (g:=fun j=>(u j*G j p)*(lam n G v p)⁻¹) (fun j _=>by simp only[pivG];rw[if_pos hk];grind),zdI]
  · rw[if_neg hk,zat n (g:=fun j=>u j*G j k - (u j*G j p)*(lam n G v k*(lam n G v p)⁻¹)) (fun j _=>by simp only[pivG];rw[if_neg hk];grind),zrd,zdI]
    simp only[lam];grind
theorem piv {n:Nat} {A G:Nat→Nat→Rat} (h:Inv n A G) {p:Nat} (hp:p<n) {v:Nat→Rat} (hl:lam n G v p≠0):Inv n (pivA A p v) (pivG n G p v):=by
  have hli:lam n G v p*(lam n G v p)⁻¹=1:=Rat.mul_inv_cancel _ hl
  refine⟨fun i j hi hj=>?_,fun k l hk hln=>?_⟩
  · have e:∀k,k<n→pivG n G p v i k*pivA A p v k j=(G i k*A k j - (lam n G v k*A k j)*(G i p*(lam n G v p)⁻¹))+(if k=p then (G i p*(lam n G v p)⁻¹)*v j else 0):=fun k hk=>by
      simp only[pivG,pivA]
      by_cases e:k=p
      · subst e
        rw[if_pos rfl,if_pos rfl,if_pos rfl]
        have:lam n G v k*A k j*(G i k*(lam n G v k)⁻¹)=(lam n G v k*(lam n G v k)⁻¹)*(A k j*G i k):=by grind
        rw[this,hli];grind
      · rw[if_neg e,if_neg e,if_neg e];grind
    rw[zat n e,zkE,zrd,zdI,h.ga i j hi hj,co h v hj,zee (p:=p) hp (fun k _ hne=>if_neg hne),if_pos rfl];grind
  · have hd:S (fun j=>pivA A p v k j*pivG n G p v j l) n=_:=zmN (pivA A p v k) l
    rw[hd]
    have hkp:lam n G (pivA A p v k) p=if k=p then lam n G v p else 0:=by
      by_cases e:k=p
      · rw[if_pos e];simp only[lam,pivA];rw[if_pos e]
      · rw[if_neg e];simp only[lam,pivA];rw[if_neg e]
        exact (h.ag k p hk hp).trans (zce e)
    have hkl:l≠p→lam n G (pivA A p v k) l=if k=p then lam n G v l else dl k l:=fun hlp=>by
      by_cases e:k=p
      · rw[if_pos e];simp only[lam,pivA];rw[if_pos e]
      · rw[if_neg e];simp only[lam,pivA];rw[if_neg e]
        exact h.ag k l hk hln
    by_cases el:l=p
    · rw[if_pos el,hkp]
      by_cases e:k=p
      · rw[if_pos e,hli,e,el,zcX]
      · rw[if_neg e,el,zce e];grind
    · rw[if_neg el,hkp,hkl el]
      by_cases e:k=p
      · rw[if_pos e,if_pos e,hli,e,zce (Ne.symm el)];grind
      · rw[if_neg e,if_neg e];grind
/-! ### The order of lists -/
def lpos (m:Nat) (v:Nat→Rat):Prop:=∃t,t<m∧(∀s,s<t→v s=0)∧0<v t
def lnn (m:Nat) (v:Nat→Rat):Prop:=(∀t,t<m→v t=0)∨lpos m v
theorem zd5 {m:Nat} {u v:Nat→Rat} (h:∀t,t<m→u t=v t) (hu:lpos m u):lpos m v:=by
  obtain⟨t,h1,h2,h3⟩:=hu
  exact⟨t,h1,fun s hs=>by rw[←h s (by omega)];exact h2 s hs,by rw[←h t h1];exact h3⟩
theorem zeQ {m:Nat} {u v:Nat→Rat} (h:∀t,t<m→u t=v t) (hu:lnn m u):lnn m v:=by
  rcases hu with hu|hu
  · exact .inl fun t ht=>by rw[←h t ht];exact hu t ht
  · exact .inr (zd5 h hu)
theorem zk5 {m:Nat} {u v:Nat→Rat} (hu:lpos m u) (hv:lnn m v):lpos m (fun t=>u t+v t):=by
  obtain⟨t,h1,h2,h3⟩:=hu
  rcases hv with hv|⟨s,g1,g2,g3⟩
  · exact⟨t,h1,fun s hs=>by show u s+v s=0;rw[h2 s hs,hv s (by omega)];grind,by show 0<u t+v t;rw[hv t h1];grind⟩
  · rcases Nat.lt_trichotomy s t with h|h|h
    · exact⟨s,g1,fun r hr=>by show u r+v r=0;rw[h2 r (by omega),g2 r hr];grind,by show 0<u s+v s;rw[h2 s h];grind⟩
    · subst h
      exact⟨s,g1,fun r hr=>by show u r+v r=0;rw[h2 r hr,g2 r hr];grind,by show 0<u s+v s;grind⟩
    · exact⟨t,h1,fun r hr=>by show u r+v r=0;rw[h2 r hr,g2 r (by omega)];grind,by show 0<u t+v t;rw[g2 t h];grind⟩
theorem zqD {m:Nat} {u v:Nat→Rat} (hu:lnn m u) (hv:lnn m v):lnn m (fun t=>u t+v t):=by
  rcases hu with hu|hu
  · exact zeQ (fun t ht=>by show v t=u t+v t;rw[hu t ht];grind) hv
  · exact .inr (zk5 hu hv)
theorem zil {m:Nat} {c:Rat} {v:Nat→Rat} (hc:0<c) (hv:lpos m v):lpos m (fun t=>c*v t):=by
  obtain⟨t,h1,h2,h3⟩:=hv
  exact⟨t,h1,fun s hs=>by show c*v s=0;rw[h2 s hs];grind,Rat.mul_pos hc h3⟩
theorem zkh {m:Nat} {c:Rat} {v:Nat→Rat} (hc:0≤c) (hv:lnn m v):lnn m (fun t=>c*v t):=by
  rcases Rat.le_iff_lt_or_eq.1 hc with h|h
  · rcases hv with hv|hv
    · exact .inl fun t ht=>by show c*v t=0;rw[hv t ht];grind
    · exact .inr (zil h hv)
  · exact .inl fun t ht=>by show c*v t=0;rw[←h];grind
theorem zni:∀(m:Nat) (v:Nat→Rat),lnn m v∨lpos m (fun t=>- v t)
  | 0,v=>.inl (.inl fun t ht=>absurd ht (Nat.not_lt_zero t))
  | m + 1, v=>by
    rcases zni m v with (h|⟨t,h1,h2,h3⟩)|⟨t,h1,h2,h3⟩
    · have e:v m<0∨v m=0∨0<v m:=by grind
      rcases e with e|e|e
      · exact .inr ⟨m,Nat.lt_succ_self m,fun s hs=>by show - v s=0;rw[h s hs];grind,by show 0 < - v m;grind⟩
      · exact .inl (.inl fun t ht=>by
          by_cases q:t=m
          · rw[q];exact e
          · exact h t (by omega))
      · exact .inl (.inr ⟨m,Nat.lt_succ_self m,h,e⟩)
    · exact .inl (.inr ⟨t,by omega,h2,h3⟩)
    · exact .inr ⟨t,by omega,h2,h3⟩
theorem zqA {m:Nat} {v:Nat→Rat} (h:lpos m v):∃t,t<m∧v t≠0:=by
  obtain⟨t,h1,_,h3⟩:=h
  exact⟨t,h1,by grind⟩
def llt (m:Nat) (u v:Nat→Rat):Prop:=lpos m (fun t=>v t - u t)
theorem znb {m:Nat} {u:Nat→Rat}:¬llt m u u:=fun h=>by
  obtain⟨t,_,h2⟩:=zqA h
  exact h2 (by grind)
theorem zna {m:Nat} {u v w:Nat→Rat} (h1:llt m u v) (h2:llt m v w):llt m u w:=
  zd5 (fun t _=>by show (v t - u t)+(w t - v t)=w t - u t;grind) (zk5 h1 (.inr h2))
theorem zqG {α:Type} {m:Nat} (val:α→Nat→Rat):∀(l:List α),l≠[]→∃x∈l,∀y∈l,¬llt m (val y) (val x)
  | [],h=>absurd rfl h
  | [x],_=>⟨x,List.mem_cons_self,fun y hy=>by
      rcases List.mem_cons.1 hy with rfl|hy
      · exact znb
      · cases hy⟩
  | x :: z::r,_=>by
    obtain⟨y,hy,hm⟩:=zqG (m:=m) val (z::r) (by simp)
    by_cases h:llt m (val x) (val y)
    · refine⟨x,List.mem_cons_self,fun w hw=>?_⟩
      rcases List.mem_cons.1 hw with rfl|hw
      · exact znb
      · exact fun h2=>hm w hw (zna h2 h)
    · refine⟨y,List.mem_cons_of_mem _ hy,fun w hw=>?_⟩
      rcases List.mem_cons.1 hw with rfl|hw
      · exact h
      · exact hm w hw
/-! ### Bases -/
def allB:Nat→Nat→List (List Nat)
  | 0,_=>[[]]
  | n+1,M=>(List.range M).flatMap fun r=>(allB n M).map (r :: ·)
theorem ze8:∀ {n M:Nat} {l:List Nat},l∈allB n M↔l.length=n∧∀x∈l,x<M
  | 0,M,l=>by
    simp only[allB,List.mem_singleton]
    constructor
    · rintro rfl;exact⟨rfl,fun x hx=>by cases hx⟩
    · exact fun h=>List.length_eq_zero_iff.1 h.1
  | n + 1,M,l=>by
    simp only[allB,List.mem_flatMap,List.mem_range,List.mem_map]
    constructor
    · rintro⟨r,hr,t,ht,rfl⟩
      obtain⟨h1,h2⟩:=ze8.1 ht
      refine⟨by simp[h1],fun x hx=>?_⟩
      rcases List.mem_cons.1 hx with rfl|hx
      · exact hr
      · exact h2 x hx
    · rintro⟨h1,h2⟩
      match l,h1 with
      | r::t,h1=>exact⟨r,h2 r List.mem_cons_self,t,ze8.2 ⟨by simpa using h1,fun x hx=>h2 x (List.mem_cons_of_mem _ hx)⟩,rfl⟩
abbrev bN (B:List Nat) (k:Nat):Nat:=B.getD k 0
abbrev rw' (a:Nat→Nat→Rat) (B:List Nat) (k:Nat):Nat→Rat:=a (bN B k)
theorem zjN {B:List Nat} {p r k:Nat} (hp:p<B.length):bN (B.set p r) k=if k=p then r else bN B k:=by
  simp only[bN,List.getD_eq_getElem?_getD,List.getElem?_set]
  by_cases e:p=k
  · subst e;simp[hp]
  · rw[if_neg e,if_neg (fun h=>e h.symm)]
abbrev ptX (n:Nat) (b:Nat→Rat) (B:List Nat) (G:Nat→Nat→Rat) (j:Nat):Rat:=S (fun k=>G j k*b (bN B k)) n
theorem zpM {n:Nat} {b:Nat→Rat} {B:List Nat} {G:Nat→Nat→Rat} (u:Nat→Rat):S (fun j=>u j*ptX n b B G j) n=S (fun k=>lam n G u k*b (bN B k)) n:=by
  rw[zat n (g:=fun j=>S (fun k=>u j*(G j k*b (bN B k))) n) (fun j _=>(zhi _ _ n).symm),zg4]
  exact zat n fun k _=>by
    rw[←zdI];exact zat n fun j _=>by grind
theorem lp {n M:Nat} {a:Nat→Nat→Rat} {b c x0:Nat→Rat} {B0:List Nat} {G0:Nat→Nat→Rat} {Q:List Nat→Prop} (hl0:B0.length=n) (hm0:∀x∈B0,x<M)
    (h0:Inv n (rw' a B0) G0) (hy0:∀k,k<n→0≤lam n G0 c k) (hQ0:Q B0) (hf:∀i,i<M→S (fun j=>a i j*x0 j) n≤b i)
    (hQ:∀B G p r,B.length=n→Inv n (rw' a B) G→p<n→r<M→lam n G (a r) p≠0→Q B→Q (B.set p r)) :
    ∃B G,B.length=n∧(∀x∈B,x<M)∧Inv n (rw' a B) G∧Q B∧(∀k,k<n→0≤lam n G c k)∧∀i,i<M→S (fun j=>a i j*ptX n b B G j) n≤b i:=by
  -- the lists that are compared: the weights of c, then those of the rows of the first basis
  obtain⟨ct,hct⟩:∃ct:Nat→Nat→Rat,ct=fun t=>match t with|0=>c|t+1=>rw' a B0 t:=⟨_,rfl⟩
  have ct0:ct 0=c:=by rw[hct]
  have ctS:∀t,ct (t+1)=rw' a B0 t:=fun t=>by rw[hct]
  obtain⟨good,hgood⟩:∃good:List Nat→(Nat→Nat→Rat)→Prop,good=fun B G=>Inv n (rw' a B) G∧Q B∧∀k,k<n→lnn (n+1) (fun t=>lam n G (ct t) k):=⟨_,rfl⟩
  have g0:good B0 G0:=by
    rw[hgood]
    refine⟨h0,hQ0,fun k hk=>?_⟩
    have e:∀t,t<n→lam n G0 (ct (t+1)) k=dl t k:=fun t ht=>by rw[ctS];exact h0.ag t k ht hk
    have h1:=hy0 k hk
    rw[←ct0] at h1
    rcases Rat.le_iff_lt_or_eq.1 h1 with h|h
    · exact .inr ⟨0,by omega,fun s hs=>absurd hs (Nat.not_lt_zero s),h⟩
    · refine .inr ⟨k+1,by omega,fun s hs=>?_,?_⟩
      · match s,hs with
        | 0,_=>exact h.symm
        | s+1,hs=>show lam n G0 (ct (s+1)) k=0;rw[e s (by omega)];exact zce (by omega)
      · show 0<lam n G0 (ct (k+1)) k
        rw[e k hk,zcX];decide
  open Classical in
  obtain ⟨gof,hgof⟩:∃gof:List Nat→Nat→Nat→Rat,∀B,(∃G,good B G)→good B (gof B):=
    ⟨fun B=>if h:∃G,good B G then Classical.choose h else fun _ _=>0,fun B h=>by
      simp only[dif_pos h];exact Classical.choose_spec h⟩
  obtain⟨val,hval⟩:∃val:List Nat→Nat→Rat,val=fun B t=>S (fun k=>lam n (gof B) (ct t) k*b (bN B k)) n:=⟨_,rfl⟩
  open Classical in
  obtain ⟨B,hB,hmin⟩:=zqG (m:=n+1) val ((allB n M).filter fun B=>decide (∃G,good B G)) (fun h=>by
    have:B0∈(allB n M).filter fun B=>decide (∃G,good B G):=List.mem_filter.2 ⟨ze8.2 ⟨hl0,hm0⟩,decide_eq_true ⟨G0,g0⟩⟩
    rw[h] at this;cases this)
  open Classical in
  have hB':=List.mem_filter.1 hB
  obtain⟨hBl,hBm⟩:=ze8.1 hB'.1
  have hg:=hgof B (of_decide_eq_true hB'.2)
  obtain⟨G,hG⟩:∃G,G=gof B:=⟨_,rfl⟩
  rw[←hG] at hg
  have hg':=hg
  rw[hgood] at hg'
  obtain⟨hI,hQB,hY⟩:=hg'
  refine⟨B,G,hBl,hBm,hI,hQB,fun k hk=>?_,fun r hr=>?_⟩
  · have := hY k hk
    rw[←ct0]
    rcases this with h|⟨t,h1,h2,h3⟩
    · have e:lam n G (ct 0) k=0:=h 0 (by omega)
      rw[e];grind
    · match t,h1,h2,h3 with
      | 0,_,_,h3=>exact Rat.le_of_lt h3
      | t+1,_,h2,_=>
        have:=h2 0 (by omega)
        have e:lam n G (ct 0) k=0:=this
        rw[e];grind
  · rw [zpM]
    apply Classical.byContradiction
    intro hv
    have hv:b r<S (fun k=>lam n G (a r) k*b (bN B k)) n:=Rat.not_le.1 hv
    -- some weight of the row is above 0
    by_cases hK:∃k,k<n∧0<lam n G (a r) k
    · -- the one that leaves
      obtain⟨k0,hk0,hk1⟩:=hK
      obtain ⟨p,hp,hpm⟩:=zqG (m:=n+1) (fun k t=>(lam n G (a r) k)⁻¹*lam n G (ct t) k) ((List.range n).filter fun k=>decide (0<lam n G (a r) k)) (fun h=>by
        have:k0∈(List.range n).filter fun k=>decide (0<lam n G (a r) k):=List.mem_filter.2 ⟨List.mem_range.2 hk0,decide_eq_true hk1⟩
        rw[h] at this;cases this)
      have hp':=List.mem_filter.1 hp
      have hpn:p<n:=List.mem_range.1 hp'.1
      have hlp:0<lam n G (a r) p:=of_decide_eq_true hp'.2
      have hlp0:lam n G (a r) p≠0:=by grind
      have hli:0<(lam n G (a r) p)⁻¹:=Rat.inv_pos.2 hlp
      obtain⟨G',hG'⟩:∃G',G'=pivG n G p (a r):=⟨_,rfl⟩
      have hset:∀k,rw' a (B.set p r) k=pivA (rw' a B) p (a r) k:=fun k=>by
        simp only[rw',pivA]
        rw[zjN (by omega)]
        by_cases e:k=p
        · rw[if_pos e,if_pos e]
        · rw[if_neg e,if_neg e]
      have hset':rw' a (B.set p r)=pivA (rw' a B) p (a r):=funext hset
      have hI':Inv n (rw' a (B.set p r)) G':=by rw[hset',hG'];exact piv hI hpn hlp0
      have hY':∀t k,lam n G' (ct t) k=if k=p then lam n G (ct t) p*(lam n G (a r) p)⁻¹ else lam n G (ct t) k - lam n G (a r) k*(lam n G (ct t) p*(lam n G (a r) p)⁻¹):=fun t k=>by
        rw[hG'];exact zmN (ct t) k
      have hYp:=zkh (Rat.le_of_lt hli) (hY p hpn)
      have hgd : good (B.set p r) G':=by
        rw[hgood]
        refine⟨hI',hQ B G p r hBl hI hpn hr hlp0 hQB,fun k hk=>?_⟩
        by_cases e:k=p
        · refine zeQ (fun t _=>?_) hYp
          show (lam n G (a r) p)⁻¹*lam n G (ct t) p=_
          rw[hY' t k,if_pos e];grind
        · by_cases hlk:0<lam n G (a r) k
          · have h1:¬llt (n+1) (fun t=>(lam n G (a r) k)⁻¹*lam n G (ct t) k) (fun t=>(lam n G (a r) p)⁻¹*lam n G (ct t) p):=hpm k (List.mem_filter.2 ⟨List.mem_range.2 hk,decide_eq_true hlk⟩)
            rcases zni (n+1) (fun t=>(lam n G (a r) k)⁻¹*lam n G (ct t) k - (lam n G (a r) p)⁻¹*lam n G (ct t) p) with h2|h2
            · refine zeQ (fun t _=>?_) (zkh (Rat.le_of_lt hlk) h2)
              show lam n G (a r) k*((lam n G (a r) k)⁻¹*lam n G (ct t) k - (lam n G (a r) p)⁻¹*lam n G (ct t) p)=_
              rw[hY' t k,if_neg e]
              have e2:lam n G (a r) k*(lam n G (a r) k)⁻¹=1:=Rat.mul_inv_cancel _ (by grind)
              have e3:lam n G (a r) k*((lam n G (a r) k)⁻¹*lam n G (ct t) k - (lam n G (a r) p)⁻¹*lam n G (ct t) p)=(lam n G (a r) k*(lam n G (a r) k)⁻¹)*lam n G (ct t) k - lam n G (a r) k*((lam n G (a r) p)⁻¹*lam n G (ct t) p):=by grind
              rw[e3,e2];grind
            · exact absurd (zd5 (fun t _=>by show -((lam n G (a r) k)⁻¹*lam n G (ct t) k - (lam n G (a r) p)⁻¹*lam n G (ct t) p)=_;grind) h2) h1
          · have hlk:0≤- lam n G (a r) k:=by have:=Rat.not_lt.1 hlk;grind
            refine zeQ (fun t _=>?_) (zqD (hY k hk) (zkh hlk hYp))
            show lam n G (ct t) k+(-lam n G (a r) k)*((lam n G (a r) p)⁻¹*lam n G (ct t) p)=_
            rw[hY' t k,if_neg e];grind
      have hmem:B.set p r∈(allB n M).filter fun B=>decide (∃G,good B G):=List.mem_filter.2 ⟨ze8.2 ⟨by rw[List.length_set];exact hBl,fun x hx=>by
        rcases List.mem_or_eq_of_mem_set hx with h|h
        · exact hBm x h
        · rw[h];exact hr⟩,decide_eq_true ⟨G',hgd⟩⟩
      refine hmin _ hmem ?_
      -- its value is less
      have hgf:=hgof (B.set p r) ⟨G',hgd⟩
      rw[hgood] at hgf
      have hu:∀i k,i<n→k<n→gof (B.set p r) i k=G' i k:=fun i k hi hk=>zoW hgf.1 hI' hi hk
      have e1:∀t,val (B.set p r) t=S (fun k=>lam n G' (ct t) k*b (bN (B.set p r) k)) n:=fun t=>by
        rw[hval]
        refine zat n fun k hk=>?_
        have:lam n (gof (B.set p r)) (ct t) k=lam n G' (ct t) k:=zat n fun i hi=>by rw[hu i k hi hk]
        rw[this]
      have e2:∀t,val B t=S (fun k=>lam n G (ct t) k*b (bN B k)) n:=fun t=>by rw[hval,hG]
      have e3:∀t,val B t - val (B.set p r) t=(S (fun k=>lam n G (a r) k*b (bN B k)) n - b r)*((lam n G (a r) p)⁻¹*lam n G (ct t) p):=fun t=>by
        rw [e1,e2,zat n (g:=fun k=>(lam n G (ct t) k*b (bN B k) - (lam n G (a r) k*b (bN B k))*(lam n G (ct t) p*(lam n G (a r) p)⁻¹))+(if k=p then (lam n G (ct t) p*(lam n G (a r) p)⁻¹)*b r else 0)) (f:=fun k=>lam n G' (ct t) k*b (bN (B.set p r) k)) (fun k hk=>by
          rw[hY' t k,zjN (by omega)]
          by_cases e:k=p
          · subst e
            rw[if_pos rfl,if_pos rfl,if_pos rfl]
            have:lam n G (a r) k*b (bN B k)*(lam n G (ct t) k*(lam n G (a r) k)⁻¹)=(lam n G (a r) k*(lam n G (a r) k)⁻¹)*(b (bN B k)*lam n G (ct t) k):=by grind
            rw[this,Rat.mul_inv_cancel _ hlp0];grind
          · rw[if_neg e,if_neg e,if_neg e];grind),zkE,zrd,zdI,zee (p:=p) hpn (fun k _ hne=>if_neg hne),if_pos rfl]
        grind
      refine zd5 (fun t _=>(e3 t).symm) (zil (by grind) (zil hli ?_))
      rcases hY p hpn with hz|hz
      · exfalso
        have q1:∀j,j<n→G j p=0:=fun j hj=>by
          have q2:S (fun t=>G0 j t*lam n G (ct (t+1)) p) n=0:=S_z fun t ht=>by
            have:lam n G (ct (t+1)) p=0:=hz (t+1) (by omega)
            rw[this];grind
          have q3:S (fun t=>G0 j t*lam n G (ct (t+1)) p) n=S (fun i=>S (fun t=>G0 j t*rw' a B0 t i) n*G i p) n:=by
            rw[zat n (g:=fun t=>S (fun i=>G0 j t*(rw' a B0 t i*G i p)) n) (fun t _=>by rw[ctS];exact (zhi _ _ n).symm),zg4]
            exact zat n fun i _=>by rw[←zdI];exact zat n fun t _=>by grind
          rw[q3,zee (p:=j) hj (fun i hi hne=>by rw[h0.ga j i hj hi,zce (Ne.symm hne)];grind),h0.ga j j hj hj,zcX] at q2
          grind
        have q4:=hI.ag p p hpn hpn
        rw[S_z (fun j hj=>by rw[q1 j hj];grind),zcX] at q4
        exact absurd q4 (by decide)
      · exact hz
    · -- otherwise no point is within the bounds
      have h1:=hf r hr
      have h2:S (fun j=>a r j*x0 j) n=S (fun k=>lam n G (a r) k*S (fun j=>rw' a B k j*x0 j) n) n:=by
        rw [zat n (g:=fun j=>S (fun k=>lam n G (a r) k*(rw' a B k j*x0 j)) n) (fun j hj=>by
          show a r j*x0 j=S (fun k=>lam n G (a r) k*(rw' a B k j*x0 j)) n
          have:S (fun k=>lam n G (a r) k*(rw' a B k j*x0 j)) n=S (fun k=>lam n G (a r) k*rw' a B k j) n*x0 j:=by
            rw[←zdI];exact zat n fun k _=>by grind
          rw[this,co hI (a r) hj]),zg4]
        exact zat n fun k _=>zhi _ _ n
      have h3:S (fun k=>lam n G (a r) k*b (bN B k)) n≤S (fun k=>lam n G (a r) k*S (fun j=>rw' a B k j*x0 j) n) n:=S_le n fun k hk=>by
        have h4:lam n G (a r) k≤0:=Rat.not_lt.1 fun h=>hK ⟨k,hk,h⟩
        have h5:S (fun j=>rw' a B k j*x0 j) n≤b (bN B k):=hf (bN B k) (hBm _ (by
          have:bN B k=B[k]'(by omega):=by simp[bN,List.getD,List.getElem?_eq_getElem (show k<B.length by omega)]
          rw[this];exact List.getElem_mem _))
        have h6:0≤(-lam n G (a r) k)*(b (bN B k) - S (fun j=>rw' a B k j*x0 j) n):=Rat.mul_nonneg (by grind) (by grind)
        grind
      rw[←h2] at h3
      have:=Rat.le_trans h3 h1
      exact absurd hv (Rat.not_lt.2 this)
set_option maxHeartbeats 4000000
def sg (k:Nat):Rat:=if k % 2=0 then 1 else -1
def D:Nat→(Nat→Nat→Rat)→Rat
  | 0,_=>1
  | n+1,A=>S (fun k=>sg k*A 0 k*D n (fun i j=>A (i+1) (if j<k then j else j+1))) (n+1)
theorem D1 (A:Nat→Nat→Rat):D 1 A=A 0 0:=by
  simp[D,S,sg];grind
theorem D2 (A:Nat→Nat→Rat):D 2 A=A 0 0*A 1 1 - A 0 1*A 1 0:=by
  simp[D,S,sg];grind
theorem D3 (A:Nat→Nat→Rat):D 3 A=A 0 0*(A 1 1*A 2 2 - A 1 2*A 2 1) - A 0 1*(A 1 0*A 2 2 - A 1 2*A 2 0)+A 0 2*(A 1 0*A 2 1 - A 1 1*A 2 0):=by
  simp[D,S,sg];grind
theorem D4 (A:Nat→Nat→Rat):D 4 A=A 0 0*(A 1 1*(A 2 2*A 3 3 - A 2 3*A 3 2) - A 1 2*(A 2 1*A 3 3 - A 2 3*A 3 1)+A 1 3*(A 2 1*A 3 2 - A 2 2*A 3 1))
    - A 0 1*(A 1 0*(A 2 2*A 3 3 - A 2 3*A 3 2) - A 1 2*(A 2 0*A 3 3 - A 2 3*A 3 0)+A 1 3*(A 2 0*A 3 2 - A 2 2*A 3 0))
    + A 0 2*(A 1 0*(A 2 1*A 3 3 - A 2 3*A 3 1) - A 1 1*(A 2 0*A 3 3 - A 2 3*A 3 0)+A 1 3*(A 2 0*A 3 1 - A 2 1*A 3 0))
    - A 0 3*(A 1 0*(A 2 1*A 3 2 - A 2 2*A 3 1) - A 1 1*(A 2 0*A 3 2 - A 2 2*A 3 0)+A 1 2*(A 2 0*A 3 1 - A 2 1*A 3 0)):=by
  simp[D,S,sg];grind
theorem zeC:∀(n:Nat) {A A':Nat→Nat→Rat},(∀i j,i<n→j<n→A i j=A' i j)→D n A=D n A'
  | 0,_,_,_=>rfl
  | n+1,A,A',h=>by
    simp only[D]
    refine zat _ fun k hk=>?_
    rw[h 0 k (by omega) hk,zeC n (fun i j hi hj=>h (i+1) (if j<k then j else j+1) (by omega) (by split<;>omega))]
def swA (A:Nat→Nat→Rat) (p:Nat) (k:Nat):Nat→Rat:=if k=p then A (p+1) else if k=p+1 then A p else A k
theorem D_sw {n p:Nat} (hn:n≤4) (hp:p+1<n) (A:Nat→Nat→Rat):D n (swA A p) = - D n A:=by
  match n,p,hn,hp with
  | 2,0,_,_=>rw[D2,D2];simp[swA];grind
  | 3,0,_,_=>rw[D3,D3];simp[swA];grind
  | 3,1,_,_=>rw[D3,D3];simp[swA];grind
  | 4,0,_,_=>rw[D4,D4];simp[swA];grind
  | 4,1,_,_=>rw[D4,D4];simp[swA];grind
  | 4,2,_,_=>rw[D4,D4];simp[swA];grind
theorem S2 (f:Nat→Rat):S f 2=f 0+f 1:=by simp only[S];grind
theorem S3 (f:Nat→Rat):S f 3=f 0+f 1+f 2:=by simp only[S];grind
theorem S4 (f:Nat→Rat):S f 4=f 0+f 1+f 2+f 3:=by simp only[S];grind
theorem ztZ {n p:Nat} (hn:n≤4) (hp:p<n) (A:Nat→Nat→Rat) (l:Nat→Rat):D n (pivA A p fun j=>S (fun k=>l k*A k j) n)=l p*D n A:=by
  match n,p,hn,hp with
  | 1,0,_,_=>rw[D1,D1];simp[pivA,S];grind
  | 2,0,_,_=>rw[D2,D2];simp[pivA,S2];grind
  | 2,1,_,_=>rw[D2,D2];simp[pivA,S2];grind
  | 3,0,_,_=>rw[D3,D3];simp[pivA,S3];grind
  | 3,1,_,_=>rw[D3,D3];simp[pivA,S3];grind
  | 3,2,_,_=>rw[D3,D3];simp[pivA,S3];grind
  | 4,0,_,_=>rw[D4,D4];simp[pivA,S4];grind
  | 4,1,_,_=>rw[D4,D4];simp[pivA,S4];grind
  | 4,2,_,_=>rw[D4,D4];simp[pivA,S4];grind
  | 4,3,_,_=>rw[D4,D4];simp[pivA,S4];grind
def colA (A:Nat→Nat→Rat) (p:Nat) (v:Nat→Rat) (i j:Nat):Rat:=if j=p then v i else A i j
theorem zt3 {n p:Nat} (hn:n≤4) (hp:p<n) (A:Nat→Nat→Rat) (x:Nat→Rat):D n (colA A p fun i=>S (fun k=>A i k*x k) n)=D n A*x p:=by
  match n,p,hn,hp with
  | 1,0,_,_=>rw[D1,D1];simp[colA,S];grind
  | 2,0,_,_=>rw[D2,D2];simp[colA,S2];grind
  | 2,1,_,_=>rw[D2,D2];simp[colA,S2];grind
  | 3,0,_,_=>rw[D3,D3];simp[colA,S3];grind
  | 3,1,_,_=>rw[D3,D3];simp[colA,S3];grind
  | 3,2,_,_=>rw[D3,D3];simp[colA,S3];grind
  | 4,0,_,_=>rw[D4,D4];simp[colA,S4];grind
  | 4,1,_,_=>rw[D4,D4];simp[colA,S4];grind
  | 4,2,_,_=>rw[D4,D4];simp[colA,S4];grind
  | 4,3,_,_=>rw[D4,D4];simp[colA,S4];grind
theorem zlv {A:Nat→Nat→Rat} {p:Nat} {u v:Nat→Rat} {n:Nat} (h:∀j,j<n→u j=v j) (i j:Nat) (hj:j<n):pivA A p u i j=pivA A p v i j:=by
  simp only[pivA];split
  · exact h j hj
  · rfl
theorem zt0 {n p:Nat} (hn:n≤4) (hp:p<n) {A G:Nat→Nat→Rat} (h:Inv n A G) (v:Nat→Rat):D n (pivA A p v)=lam n G v p*D n A:=by
  rw[←ztZ hn hp A (lam n G v)]
  exact zeC n fun i j hi hj=>zlv (n:=n) (fun j hj=>(co h v hj).symm) i j hj
theorem zrr {n p:Nat} (hp:p+1<n) {A G:Nat→Nat→Rat} (h:Inv n A G):∃G',Inv n (swA A p) G'∧(∀v k,k<n→∃k',k'<n∧lam n G' v k=lam n G v k'):=by
  obtain⟨τ,hτ⟩:∃τ:Nat→Nat,τ=fun k=>if k=p then p+1 else if k=p+1 then p else k:=⟨_,rfl⟩
  have t1:∀k,swA A p k=A (τ k):=fun k=>by
    rw[hτ];simp only[swA]
    by_cases e:k=p
    · rw[if_pos e,if_pos e]
    · rw[if_neg e,if_neg e]
      by_cases e2:k=p+1
      · rw[if_pos e2,if_pos e2]
      · rw[if_neg e2,if_neg e2]
  have t2:∀k,k<n→τ k<n:=fun k hk=>by rw[hτ];show (if _ then _ else _)<n;split<;>(try split)<;>omega
  have t3:∀k,τ (τ k)=k:=fun k=>by
    rw[hτ];dsimp only
    by_cases e:k=p
    · subst e;rw[if_pos rfl,if_neg (by omega),if_pos rfl]
    · rw[if_neg e]
      by_cases e2:k=p+1
      · subst e2;rw[if_pos rfl,if_pos rfl]
      · rw[if_neg e2,if_neg e,if_neg e2]
  have tS:∀f:Nat→Rat,S (fun k=>f (τ k)) n=S f n:=fun f=>by
    have e1:∀k,f (τ k)=f k+((if k=p then f (p+1) - f p else 0)+(if k=p+1 then f p - f (p+1) else 0)):=fun k=>by
      rw[hτ];dsimp only
      by_cases e:k=p
      · subst e;rw[if_pos rfl,if_pos rfl,if_neg (by omega)];grind
      · rw[if_neg e,if_neg e]
        by_cases e2:k=p+1
        · subst e2;rw[if_pos rfl,if_pos rfl];grind
        · rw[if_neg e2,if_neg e2];grind
    rw[zat n (fun k _=>e1 k),zkE,zkE,zee (p:=p) (by omega) (fun k _ hne=>if_neg hne),zee (p:=p+1) (by omega) (fun k _ hne=>if_neg hne),if_pos rfl,if_pos rfl];grind
  refine⟨fun j k=>G j (τ k),⟨fun i j hi hj=>?_,fun k l hk hl=>?_⟩,fun v k hk=>⟨τ k,t2 k hk,rfl⟩⟩
  · rw[zat n (g:=fun k=>(fun k=>G i k*A k j) (τ k)) (fun k _=>by rw[t1])]
    exact (tS (fun k=>G i k*A k j)).trans (h.ga i j hi hj)
  · rw[zat n (g:=fun j=>A (τ k) j*G j (τ l)) (fun j _=>by rw[t1]),h.ag _ _ (t2 k hk) (t2 l hl)]
    by_cases e:k=l
    · rw[e,zcX,zcX]
    · rw[zce e,zce fun q=>e (by rw[←t3 k,←t3 l,q])]
theorem zqs {n:Nat} {a:Nat→Nat→Rat} {b:Nat→Rat} {B:List Nat} {G:Nat→Nat→Rat} (h:Inv n (rw' a B) G) {k:Nat} (hk:k<n):S (fun j=>rw' a B k j*ptX n b B G j) n=b (bN B k):=by
  rw [zpM,zee (p:=k) hk (fun l hl hne=>by
    have:lam n G (rw' a B k) l=0:=(h.ag k l hk hl).trans (zce (Ne.symm hne))
    rw[this];grind)]
  have:lam n G (rw' a B k) k=1:=(h.ag k k hk hk).trans (zcX k)
  rw[this];grind
theorem zqr {n:Nat} {A G:Nat→Nat→Rat} (h:Inv n A G) {x y:Nat→Rat} (he:∀k,k<n→S (fun j=>A k j*x j) n=S (fun j=>A k j*y j) n) {i:Nat} (hi:i<n):x i=y i:=by
  have key:∀z:Nat→Rat,S (fun k=>G i k*S (fun j=>A k j*z j) n) n=z i:=fun z=>by
    rw [zat n (g:=fun k=>S (fun j=>G i k*(A k j*z j)) n) (fun k _=>(zhi _ _ n).symm),zg4,
      zat n (g:=fun j=>dl i j*z j) (fun j hj=>by rw[←h.ga i j hi hj,←zdI];exact zat n fun k _=>by grind),zee (p:=i) hi (fun j _ hne=>by rw[zce (Ne.symm hne)];grind),zcX];grind
  rw[←key x,←key y]
  exact zat n fun k hk=>by rw[he k hk]
structure Fin' (n M:Nat) (a:Nat→Nat→Rat) (b c:Nat→Rat) (B:List Nat) (G:Nat→Nat→Rat):Prop where
  len:B.length=n
  lt:∀x∈B,x<M
  inv:Inv n (rw' a B) G
  det:D n (rw' a B)≠0
  y:∀k,k<n→0≤lam n G c k
  x:∀i,i<M→S (fun j=>a i j*ptX n b B G j) n≤b i
def mu (B:List Nat):Nat→Nat
  | 0=>0
  | k+1=>mu B k+(4 - k)*bN B k
theorem zk2 {B B':List Nat}:∀k,(∀i,i<k→bN B i=bN B' i)→mu B k=mu B' k
  | 0,_=>rfl
  | k+1,h=>by simp only[mu];rw[zk2 k (fun i hi=>h i (by omega)),h k (by omega)]
theorem zpT {n M:Nat} {a:Nat→Nat→Rat} {b c:Nat→Rat}:∀(N:Nat) {B G},Fin' n M a b c B G→mu B n≤N→∃B G,Fin' n M a b c B G∧∀B' G',Fin' n M a b c B' G'→mu B n≤mu B' n
  | 0,B,G,h,hN=>⟨B,G,h,fun B' G' _=>by omega⟩
  | N + 1,B,G,h,hN=>by
    by_cases hx:∃B' G',Fin' n M a b c B' G'∧mu B' n≤N
    · obtain⟨B',G',h1,h2⟩:=hx
      exact zpT N h1 h2
    · refine⟨B,G,h,fun B' G' h'=>?_⟩
      apply Classical.byContradiction
      intro hlt
      exact hx ⟨B',G',h',by omega⟩
theorem zm9 {n M:Nat} (hn:n≤4) {a:Nat→Nat→Rat} {b c:Nat→Rat} {B G} (h:Fin' n M a b c B G):∃B G,Fin' n M a b c B G∧∀k,k+1<n→bN B k<bN B (k+1):=by
  obtain⟨B,G,h,hm⟩:=zpT (mu B n) h (Nat.le_refl _)
  refine⟨B,G,h,fun k hk=>?_⟩
  have hl:=h.len
  rcases Nat.lt_trichotomy (bN B k) (bN B (k+1)) with q|q|q
  · exact q
  · exfalso
    have e1:=h.inv.ag k k (by omega) (by omega)
    have e2:=h.inv.ag (k+1) k (by omega) (by omega)
    have e3:rw' a B (k+1)=rw' a B k:=by simp only[rw'];rw[q]
    rw[e3,e1,zcX,zce (by omega)] at e2
    exact absurd e2 (by decide)
  · exfalso
    obtain⟨B',hB'⟩:∃B',B'=(B.set k (bN B (k+1))).set (k+1) (bN B k):=⟨_,rfl⟩
    have hb:∀i,bN B' i=if i=k then bN B (k+1) else if i=k+1 then bN B k else bN B i:=fun i=>by
      rw[hB',zjN (by rw[List.length_set];omega),zjN (by omega)]
      by_cases e:i=k
      · subst e;rw[if_neg (by omega),if_pos rfl,if_pos rfl]
      · rw[if_neg e,if_neg e]
    have hr:rw' a B'=swA (rw' a B) k:=by
      funext i
      simp only[rw',swA]
      rw[hb]
      by_cases e:i=k
      · rw[if_pos e,if_pos e]
      · rw[if_neg e,if_neg e]
        by_cases e2:i=k+1
        · rw[if_pos e2,if_pos e2]
        · rw[if_neg e2,if_neg e2]
    obtain⟨G',h1,h2⟩:=zrr hk h.inv
    have hI:Inv n (rw' a B') G':=by rw[hr];exact h1
    have hpt:∀j,j<n→ptX n b B' G' j=ptX n b B G j:=fun j hj=>by
      refine zqr hI (fun i hi=>?_) hj
      rw[zqs hI hi]
      have e1:∃i',i'<n∧bN B' i=bN B i':=by
        rw[hb]
        by_cases e:i=k
        · rw[if_pos e];exact⟨k+1,hk,rfl⟩
        · rw[if_neg e]
          by_cases e2:i=k+1
          · rw[if_pos e2];exact⟨k,by omega,rfl⟩
          · rw[if_neg e2];exact⟨i,hi,rfl⟩
      obtain⟨i',hi',e⟩:=e1
      have e3:rw' a B' i=rw' a B i':=by simp only[rw'];rw[e]
      rw[e3,e];exact (zqs h.inv hi').symm
    have hf:Fin' n M a b c B' G':=by
      refine⟨by rw[hB',List.length_set,List.length_set];exact hl,fun x hx=>?_,hI,?_,fun i hi=>?_,fun i hi=>?_⟩
      · rw [hB'] at hx
        have hmem:∀i,i<n→bN B i<M:=fun i hi=>h.lt _ (by
          have:bN B i=B[i]'(by omega):=by simp[bN,List.getD,List.getElem?_eq_getElem (show i<B.length by omega)]
          rw[this];exact List.getElem_mem _)
        rcases List.mem_or_eq_of_mem_set hx with hx|hx
        · rcases List.mem_or_eq_of_mem_set hx with hx|hx
          · exact h.lt _ hx
          · rw[hx];exact hmem _ hk
        · rw[hx];exact hmem _ (by omega)
      · rw[hr,D_sw hn hk];have:=h.det;grind
      · obtain⟨k',hk',e⟩:=h2 c i hi
        rw[e];exact h.y k' hk'
      · rw[zat n (fun j hj=>by rw[hpt j hj])]
        exact h.x i hi
    have hmu : mu B' n<mu B n:=by
      have q1:∀m,m≤k→mu B' m=mu B m:=fun m hm=>zk2 m fun i hi=>by rw[hb,if_neg (by omega),if_neg (by omega)]
      have q2:mu B' (k+1+1)<mu B (k+1+1):=by
        simp only[mu]
        rw[q1 k (Nat.le_refl _),hb k,hb (k+1),if_pos rfl,if_neg (by omega),if_pos rfl]
        obtain⟨z,hz⟩:∃z,4 - k=z+1∧4 - (k+1)=z:=⟨4 - (k+1),by omega,rfl⟩
        rw[hz.1,hz.2,Nat.add_mul,Nat.add_mul]
        obtain⟨d,hd⟩:∃d,bN B k=bN B (k+1)+d:=⟨bN B k - bN B (k+1),by omega⟩
        rw[hd,Nat.mul_add];omega
      have q3:∀m,k+1+1≤m→mu B' m<mu B m:=fun m=>by
        induction m with
        | zero=>intro hm;omega
        | succ m ih=>
          intro hm
          by_cases e:k+1+1=m+1
          · rw[←e];exact q2
          · have:=ih (by omega)
            simp only[mu]
            rw[hb m,if_neg (by omega),if_neg (by omega)];omega
      exact q3 n (by omega)
    have:=hm B' G' hf
    omega
end Go.Eng.LP
namespace Go.Eng.Ar
open Go.Eng Go.Proofs Go.Eng.LP
set_option linter.all false
set_option maxRecDepth 100000
set_option maxHeartbeats 4000000
abbrev qI (n:Int):Rat:=(n:Rat)
theorem zls {a b:Int}:qI a≤qI b↔a≤b:=Rat.intCast_le_intCast
theorem zr7 {a:Int}:qI a≠0↔a≠0:=by
  constructor
  · intro h e;subst e;exact h rfl
  · intro h e;exact h (Rat.intCast_inj.1 e)
theorem zkW (a b:Int):qI (a*b)=qI a*qI b:=Rat.intCast_mul a b
theorem zr9 (a b:Int):qI (a+b)=qI a+qI b:=Rat.intCast_add a b
theorem zmK (a:Int):qI (-a) = - qI a:=Rat.intCast_neg a
theorem qI_0:qI 0=0:=rfl
theorem zqq (f:Nat→Int):∀n,qI (sm f n)=S (fun i=>qI (f i)) n
  | 0=>rfl
  | n+1=>by simp only[sm,S];rw[zr9,zqq f n]
abbrev mQ (m:List (List Int)) (i j:Nat):Rat:=qI (vI (rowN m i) j)
theorem zpa {N:Nat} (hN:N≤4) {m:List (List Int)} (h1:m.length=N) (h2:∀r∈m,r.length=N):qI (detA m)=D N (mQ m):=by
  unfold detA
  match N,hN with
  | 0,_=>rw[List.length_eq_zero_iff.1 h1];rfl
  | 1,_=>
    obtain⟨r,rfl⟩:=len1 h1
    obtain⟨a,rfl⟩:=len1 (h2 r (by simp))
    rw[D1]
    simp[detN,sumD,zaH,zaW,mQ,qI]
  | 2,_=>
    obtain⟨r,s,rfl⟩:=len2 h1
    obtain⟨a,b,rfl⟩:=len2 (h2 r (by simp))
    obtain⟨c,d,rfl⟩:=len2 (h2 s (by simp))
    rw[D2]
    simp[detN,sumD,zaH,zaW,mQ,qI,Rat.intCast_add,Rat.intCast_mul,Rat.intCast_neg];grind
  | 3,_=>
    obtain⟨r,s,t,rfl⟩:=len3 h1
    obtain⟨a,b,c,rfl⟩:=len3 (h2 r (by simp))
    obtain⟨d,e,f,rfl⟩:=len3 (h2 s (by simp))
    obtain⟨g,h,i,rfl⟩:=len3 (h2 t (by simp))
    rw[D3]
    simp[detN,sumD,zaH,zaW,mQ,qI,Rat.intCast_add,Rat.intCast_mul,Rat.intCast_neg];grind
  | 4,_=>
    obtain⟨r,s,t,u,rfl⟩:=len4 h1
    obtain⟨a,b,c,d,rfl⟩:=len4 (h2 r (by simp))
    obtain⟨e,f,g,h,rfl⟩:=len4 (h2 s (by simp))
    obtain⟨i,j,k,l,rfl⟩:=len4 (h2 t (by simp))
    obtain⟨m,n,o,p,rfl⟩:=len4 (h2 u (by simp))
    rw[D4]
    simp[detN,sumD,zaH,zaW,mQ,qI,Rat.intCast_add,Rat.intCast_mul,Rat.intCast_neg];grind
theorem zfZ {N:Nat} {m:List (List Int)} (h1:m.length=N) (h2:∀i,i<N→(rowN m i).length=N):∀r∈m,r.length=N:=fun r hr=>by
  obtain⟨i,hi,e⟩:=List.getElem_of_mem hr
  have:=h2 i (by omega)
  have e2:rowN m i=r:=by simp[rowN,List.getD,List.getElem?_eq_getElem hi,e]
  rw[e2] at this;exact this
theorem zqZ {m:List (List Int)} {right:List Int} {k i j:Nat} (hi:i<m.length) (hk:k<(rowN m i).length):vI (rowN (chk m right k m.length) i) j=if j=k then vI right i else vI (rowN m i) j:=by
  have e:rowN (chk m right k m.length) i=(rowN m i).set k (vI right i):=by
    have:=zaD (fun r=>if r<m.length then (rowN m r).set k (vI right r) else []) [] m.length i hi
    rw[if_pos hi] at this
    exact this
  rw[e]
  generalize rowN m i=r at *
  simp only[vI,List.getD_eq_getElem?_getD,List.getElem?_set]
  by_cases e2:k=j
  · subst e2;rw[if_pos rfl,if_pos hk,if_pos rfl];rfl
  · rw[if_neg e2,if_neg (fun h=>e2 h.symm)]
theorem ztR {N:Nat} (hN:N≤4) {m:List (List Int)} {right:List Int} {k:Nat} (h1:m.length=N) (h2:∀i,i<N→(rowN m i).length=N) (hk:k<N) :
    qI (detA (chk m right k m.length))=D N (colA (mQ m) k fun i=>qI (vI right i)):=by
  have hl:(chk m right k m.length).length=N:=by rw[zdx];exact h1
  rw [zpa hN hl (zfZ hl fun i hi=>by
    have e:rowN (chk m right k m.length) i=(rowN m i).set k (vI right i):=by
      have:=zaD (fun r=>if r<m.length then (rowN m r).set k (vI right r) else []) [] m.length i (by omega)
      rw[if_pos (by omega)] at this
      exact this
    rw[e,List.length_set];exact h2 i hi)]
  refine zeC N fun i j hi hj=>?_
  show qI _=_
  rw[zqZ (by omega) (by rw[h2 i hi];exact hk)]
  simp only[colA]
  split<;>rfl
theorem ziD {m:List (List Int)} {right:List Int} {k:Nat} (hk:k<m.length):vI (dets m right m.length) k=detA (chk m right k m.length):=zaD _ _ _ _ hk
theorem zjY {N:Nat} (hN:N≤4) {m:List (List Int)} {right:List Int} (h1:m.length=N) (h2:∀i,i<N→(rowN m i).length=N) (hd:detA m≠0) {x:Nat→Rat} (hx:∀i,i<N→S (fun j=>mQ m i j*x j) N=qI (vI right i)) :
    (∀j,j<N→qI (vI (zay m right).1 j)=qI (zay m right).2.1*x j)∧0<(zay m right).2.1:=by
  have key:∀j,j<N→qI (vI (dets m right m.length) j)=qI (detA m)*x j:=fun j hj=>by
    rw[ziD (by omega),ztR hN h1 h2 hj,zpa hN h1 (zfZ h1 h2),←zt3 hN hj]
    refine zeC N fun i k hi hk=>?_
    simp only[colA]
    split
    · exact (hx i hi).symm
    · rfl
  unfold zay
  rw[if_neg hd]
  split
  · rename_i hneg
    refine⟨fun j hj=>?_,(by show 0 < -detA m;omega)⟩
    have e:vI (negd (dets m right m.length) m.length) j = -vI (dets m right m.length) j:=by
      have:=zaD (fun j=>if j<m.length then -vI (dets m right m.length) j else vI (dets m right m.length) j) 0 (dets m right m.length).length j (by rw[zdv];omega)
      rw[if_pos (by omega)] at this
      exact this
    show qI (vI (negd (dets m right m.length) m.length) j)=qI (-detA m)*x j
    rw[e,zmK,zmK,key j hj];grind
  · exact⟨key,by show 0<detA m;omega⟩
theorem ztY {n i:Nat} (hn:n≤4) (hi:i<n) (A:Nat→Nat→Rat) (v:Nat→Rat):S (fun j=>A i j*D n (colA A j v)) n=D n A*v i:=by
  match n,i,hn,hi with
  | 1,0,_,_=>simp only[S,D1];simp[colA];grind
  | 2,0,_,_=>simp only[S2,D2];simp[colA];grind
  | 2,1,_,_=>simp only[S2,D2];simp[colA];grind
  | 3,0,_,_=>simp only[S3,D3];simp[colA];grind
  | 3,1,_,_=>simp only[S3,D3];simp[colA];grind
  | 3,2,_,_=>simp only[S3,D3];simp[colA];grind
  | 4,0,_,_=>simp only[S4,D4];simp[colA];grind
  | 4,1,_,_=>simp only[S4,D4];simp[colA];grind
  | 4,2,_,_=>simp only[S4,D4];simp[colA];grind
  | 4,3,_,_=>simp only[S4,D4];simp[colA];grind
theorem sol {n:Nat} (hn:n≤4) {A:Nat→Nat→Rat} (hd:D n A≠0) (v:Nat→Rat):∃x:Nat→Rat,∀i,i<n→S (fun j=>A i j*x j) n=v i:=by
  refine⟨fun j=>D n (colA A j v)*(D n A)⁻¹,fun i hi=>?_⟩
  rw[zat n (g:=fun j=>(A i j*D n (colA A j v))*(D n A)⁻¹) (fun j _=>by grind),zdI,ztY hn hi]
  have:=Rat.mul_inv_cancel _ hd
  grind
/-! ### The bounds of a task -/
theorem zjO {α:Type} {a b:List α} {i:Nat} {d:α} (h:i<a.length):(a++b).getD i d=a.getD i d:=by
  simp only[List.getD_eq_getElem?_getD,List.getElem?_append_left h]
theorem zn4 {α:Type} {a b:List α} {i:Nat} {d:α} (h:a.length≤i):(a++b).getD i d=b.getD (i - a.length) d:=by
  simp only[List.getD_eq_getElem?_getD,List.getElem?_append_right h]
theorem zeT {t:List (List Int)} {cap:Int} {k:Nat}:(zc3 t cap k).length=t.length+k:=by
  simp only[zc3,zjm,List.length_append,zak]
theorem zdQ {t:List (List Int)} {cap:Int} {k:Nat}:(zcM t cap k).length=t.length+t.length+k:=by
  simp only[zcM,zc3,zjm,List.length_append,zak]
theorem zp6 {t:List (List Int)} {cap:Int} {i:Nat} (h:i<t.length):bdN (zc9 t cap (ncol t)) i=lowB (rowN t i):=by
  show (zcM t cap (ncol t)++_).getD i bndZ=_
  rw[zjO (by rw[zdQ];omega)]
  show (zc3 t cap t.length++_).getD i bndZ=_
  rw[zjO (by rw[zeT];omega)]
  show (zjm t t.length++_).getD i bndZ=_
  rw[zjO (by rw[zak];omega)]
  exact zaD _ _ _ _ h
theorem zq6 {t:List (List Int)} {cap:Int} {i:Nat} (h:i<t.length):bdN (zc9 t cap (ncol t)) (t.length+i)=zlE cap (rowN t i):=by
  show (zcM t cap (ncol t)++_).getD _ bndZ=_
  rw[zjO (by rw[zdQ];omega)]
  show (zc3 t cap t.length++_).getD _ bndZ=_
  rw[zjO (by rw[zeT];omega)]
  show (zjm t t.length++_).getD _ bndZ=_
  rw[zn4 (by rw[zak];omega),zak,show t.length+i - t.length=i by omega]
  exact zaD (fun i=>zlE cap (rowN t i)) _ _ _ h
theorem zn2 {t:List (List Int)} {cap:Int} {i:Nat} (h:i<ncol t):bdN (zc9 t cap (ncol t)) (t.length+t.length+i)=zly (ncol t) i:=by
  show (zcM t cap (ncol t)++_).getD _ bndZ=_
  rw[zjO (by rw[zdQ];omega)]
  show (zc3 t cap t.length++_).getD _ bndZ=_
  rw[zn4 (by rw[zeT];omega),zeT,show t.length+t.length+i - (t.length+t.length)=i by omega]
  exact zaD (zly (ncol t)) _ _ _ h
theorem zq5 {t:List (List Int)} {cap:Int} {i:Nat} (h:i<ncol t):bdN (zc9 t cap (ncol t)) (t.length+t.length+ncol t+i)=zlo (ncol t) i:=by
  show (zcM t cap (ncol t)++_).getD _ bndZ=_
  rw[zn4 (by rw[zdQ];omega),zdQ,show t.length+t.length+ncol t+i - (t.length+t.length+ncol t)=i by omega]
  exact zaD (zlo (ncol t)) _ _ _ h
theorem zfr {row:List Int} {n j:Nat} (hl:row.length=n) (hj:j<n+1):vI (lowB row).1 j=if j=n then 1 else -vI row j:=by
  show (tab (fun j=>-vI row j) row.length++[1]).getD j 0=_
  by_cases e:j=n
  · rw[if_pos e,zn4 (by rw[zak];omega),zak,show j - row.length=0 by omega];rfl
  · rw[if_neg e,zjO (by rw[zak];omega)]
    exact zaD (fun j=>-vI row j) _ _ _ (by omega)
theorem zeU {row:List Int} {cap:Int} {n j:Nat} (hl:row.length=n) (hj:j<n+1):vI (zlE cap row).1 j=if j=n then 0 else vI row j:=by
  show (row++[0]).getD j 0=_
  by_cases e:j=n
  · rw[if_pos e,zn4 (by omega),show j - row.length=0 by omega];rfl
  · rw[if_neg e,zjO (by omega)]
theorem zd4 {n k j:Nat} (hj:j<n+1):vI (zly n k).1 j=if j=k then 1 else 0:=zeD (n:=n+1) hj
theorem zeI {n k j:Nat} (hj:j<n+1):vI (zlo n k).1 j=if j=k then -1 else 0:=zeD (n:=n+1) hj
/-! ### A corner that is accepted -/
abbrev bQ (b:List BndD) (i j:Nat):Rat:=qI (vI (bdN b i).1 j)
abbrev zbS (b:List BndD) (i:Nat):Int:=(bdN b i).2.1
theorem zsm {l:List Int}:∀ {k:Nat},(∀i,i≤k→0≤vI l i)→0≤mn l k
  | 0,h=>h 0 (Nat.le_refl _)
  | k+1,h=>by
    have h1:=zsm (l:=l) (k:=k) fun i hi=>h i (by omega)
    have h2:=h (k+1) (Nat.le_refl _)
    simp only[mn];split
    · exact h2
    · exact h1
theorem zkZ {b:List BndD} {x:List Int} {d:Int}:∀ {n:Nat},(∀k,k<n→okB b x d k=true)→zdM b x d n=true
  | 0,_=>rfl
  | n+1,h=>by simp only[zdM];rw[zkZ fun k hk=>h k (by omega),h n (by omega)];rfl
theorem ztM {a x:List Int} {n:Nat} (h:a.length=n):qI (dotI a x)=S (fun j=>qI (vI a j)*qI (vI x j)) n:=by
  unfold dotI;rw[zqq,h]
  exact zat n fun i _=>zkW _ _
theorem zpn {m:List (List Int)} {i j:Nat} (hi:i<m.length) (hj:j<m.length):vI (rowN (trM m) j) i=vI (rowN m i) j:=by
  have e:rowN (trM m) j=tab (fun i=>vI (rowN m i) j) m.length:=zaD (fun j=>tab (fun i=>vI (rowN m i) j) m.length) [] m.length j hj
  rw[e];exact zaD (fun i=>vI (rowN m i) j) 0 m.length i hi
theorem zq7 {b:List BndD} {l:List Int} (hg:goodA b l) (hd:D l.length (fun i=>bQ b (vI l i).toNat)≠0) {x y:Nat→Rat}
    (hx:∀i,i<l.length→S (fun j=>bQ b (vI l i).toNat j*x j) l.length=qI (zbS b (vI l i).toNat)) (hf:∀k,k<b.length→S (fun j=>bQ b k j*x j) l.length≤qI (zbS b k))
    (hy:∀j,j<l.length→S (fun k=>y k*bQ b (vI l k).toNat j) l.length=dl j (l.length - 1)) (hy0:∀k,k<l.length→0≤y k):(atR b l).2.1=true:=by
  have hN:=hg.le
  have hp:=hg.pos
  obtain⟨N,hNe⟩:∃N,N=l.length:=⟨_,rfl⟩
  have hs:=zgm hg
  have r1:(zaz b l l.length).length=l.length:=zaJ
  have r2:∀i,i<l.length→(rowN (zaz b l l.length) i).length=l.length:=fun i hi=>by rw[zfY hi];exact hg.len _ (hg.idx i hi).2
  have r3:∀i j,i<l.length→mQ (zaz b l l.length) i j=bQ b (vI l i).toNat j:=fun i j hi=>by
    show qI (vI (rowN _ i) j)=_
    rw[zfY hi]
  have hdet:detA (zaz b l l.length)≠0:=by
    rw[←zr7,zpa hN r1 (zfZ r1 r2),zeC l.length (fun i j hi hj=>r3 i j hi)]
    exact hd
  have hX:(atX b l).2.2.1=true:=zou hdet
  have sx:=zjY hN (right:=rhsP b l l.length) r1 r2 hdet (x:=x) (fun i hi=>by
    rw[zat l.length (fun j _=>by rw[r3 i j hi]),zj8 hi];exact hx i hi)
  have sX:∀j,j<l.length→qI (vI (atX b l).1 j)=qI (atX b l).2.1*x j:=sx.1
  have hden:0<(atX b l).2.1:=sx.2
  have hok:zdM b (atX b l).1 (atX b l).2.1 b.length=true:=zkZ fun k hk=>by
    unfold okB
    refine decide_eq_true (zls.1 ?_)
    rw[ztM (hg.len k hk),zkW,zat l.length (g:=fun j=>qI (atX b l).2.1*(bQ b k j*x j)) (fun j hj=>by rw[sX j hj];grind),zhi]
    have h1:=hf k hk
    have h2:0≤qI (atX b l).2.1:=by rw[←qI_0,zls];omega
    have h3:=Rat.mul_le_mul_of_nonneg_left h1 h2
    have h4:qI (zbS b k)*qI (atX b l).2.1=qI (atX b l).2.1*qI (zbS b k):=by grind
    show _≤qI (zbS b k)*qI (atX b l).2.1
    rw[h4];exact h3
  have t1:(trM (zaz b l l.length)).length=l.length:=by rw[zf9,zaJ]
  have ts:=zqd hs
  have t2:∀i,i<l.length→(rowN (trM (zaz b l l.length)) i).length=l.length:=fun i hi=>(ts.2 _ (zi4 ts hi)).1
  have hdt:detA (trM (zaz b l l.length))≠0:=by rw[zpo hN hs];exact hdet
  have sy:=zjY hN (right:=zbu (l.length:Int) ((l.length:Int) - 1) 1) t1 t2 hdt (x:=y) (fun j hj=>by
    rw [zat l.length (g:=fun k=>y k*bQ b (vI l k).toNat j) (fun k hk=>by
      show qI (vI (rowN (trM _) j) k)*y k=_
      rw[zpn (by rw[zaJ];exact hk) (by rw[zaJ];exact hj)]
      have:=r3 k j hk
      rw[←this];grind),hy j hj,show (l.length:Int) - 1=((l.length - 1:Nat):Int) by omega,zeD hj]
    by_cases e:j=l.length - 1
    · rw[if_pos e,e,zcX];rfl
    · rw[if_neg e,zce e];rfl)
  have hmn:¬mn (atY b l).1 (l.length - 1)<0:=by
    refine Int.not_lt.2 (zsm fun i hi=>?_)
    have h1:=sy.1 i (by omega)
    have h2:=hy0 i (by omega)
    have h3:(0:Int)<(atY b l).2.1:=sy.2
    have h4:0≤qI (atY b l).2.1:=by rw[←qI_0,zls];omega
    have h5:=Rat.mul_nonneg h4 h2
    have h6:qI (vI (atY b l).1 i)=qI (atY b l).2.1*y i:=h1
    rw[←h6,←qI_0,zls] at h5
    exact h5
  rw[at_4 hX hok hmn]
theorem ziG:∀(k f r:Nat) (l:List Nat),l.length=k→(∀i,i+1<k→bN l i<bN l (i+1))→(∀x∈l,f≤x∧x<f+r)→l.map Int.ofNat∈zbU k f r
  | 0,f,r,l,hl,_,_=>by rw[List.length_eq_zero_iff.1 hl];simp[zbU]
  | k+1,f,0,l,hl,_,hm=>by
    match l,hl with
    | x::l,_=>have:=hm x List.mem_cons_self;omega
  | k + 1, f,r+1,l,hl,hs,hm=>by
    match l,hl with
    | x :: l,hl=>
      have hl':l.length=k:=by simpa using hl
      have hx:=hm x List.mem_cons_self
      simp only[zbU,List.mem_append,List.mem_map]
      have hs':∀i,i+1<k→bN l i<bN l (i+1):=fun i hi=>by
        have:=hs (i+1) (by omega)
        simpa [bN] using this
      have asc:∀i,i<k→x<bN l i:=fun i=>by
        induction i with
        | zero=>intro hi;have:=hs 0 (by omega);simpa [bN] using this
        | succ i ih=>intro hi;have h1:=ih (by omega);have h2:=hs' i (by omega);omega
      have hgt:∀y∈l,x<y:=fun y hy=>by
        obtain⟨i,hi,e⟩:=List.getElem_of_mem hy
        have:=asc i (by omega)
        have e2:bN l i=y:=by simp[bN,List.getD,List.getElem?_eq_getElem hi,e]
        omega
      by_cases e:x=f
      · refine .inl ⟨l.map Int.ofNat,?_,by rw[e];rfl⟩
        refine ziG k (f+1) r l hl' hs' fun y hy=>?_
        have h1:=hgt y hy
        have h2:=hm y (List.mem_cons_of_mem _ hy)
        omega
      · refine .inr (ziG (k+1) (f+1) r (x::l) hl hs fun y hy=>?_)
        rcases List.mem_cons.1 hy with rfl|hy
        · omega
        · have h1:=hgt y hy
          have h2:=hm y (List.mem_cons_of_mem _ hy)
          omega
theorem zhV {b:List BndD}:∀ {l:List (List Int)} {c:List Int},c∈l→(atR b c).2.1=true→(zfW b l).isSome=true
  | d :: r,c,hc,h=>by
    simp only[zfW]
    split
    · rfl
    · rename_i hd
      rcases List.mem_cons.1 hc with rfl|hc
      · exact absurd h hd
      · exact zhV hc h
theorem zkB {t:List (List Int)} {cap:Int} (h:goodT t cap):(zgZ t cap).isSome=true:=by
  obtain⟨b,hb⟩:∃b,b=zc9 t cap (ncol t):=⟨_,rfl⟩
  obtain⟨n,hn⟩:∃n,n=ncol t:=⟨_,rfl⟩
  have hbl:b.length=t.length+t.length+n+n:=by rw[hb,ze4,hn]
  have g1:=h.le
  have g2:=h.cle
  have g3:=h.cpos
  have g4:=h.pos
  rw[←hn] at g2 g3
  -- the first basis
  obtain⟨B0,hB0⟩:∃B0:List Nat,B0=tab (fun k=>if k<n then t.length+t.length+k else 0) (n+1):=⟨_,rfl⟩
  have b0:∀k,k<n+1→bN B0 k=if k<n then t.length+t.length+k else 0:=fun k hk=>by rw[hB0];exact zaD _ _ _ _ hk
  have l0:B0.length=n+1:=by rw[hB0,zak]
  have m0:∀x∈B0,x<b.length:=fun x hx=>by
    rw[hB0] at hx
    obtain⟨i,hi,rfl⟩:=zbR hx
    split<;>omega
  have hr0:(rowN t 0).length=n:=by rw[hn]
  have hv:∀j,j<n→0≤vI (rowN t 0) j:=fun j hj=>(h.vals 0 j g4 (by rw[←hn];exact hj)).1
  obtain⟨A0,hA0⟩:∃A0:Nat→Nat→Rat,A0=fun k j=>if k<n then dl j k else if j=n then 1 else -qI (vI (rowN t 0) j):=⟨_,rfl⟩
  have a0:∀k j,k<n+1→j<n+1→rw' (bQ b) B0 k j=A0 k j:=fun k j hk hj=>by
    show qI (vI (bdN b (bN B0 k)).1 j)=_
    rw[b0 k hk,hA0]
    dsimp only
    by_cases e:k<n
    · rw[if_pos e,if_pos e,hb,zn2 (by rw[←hn];exact e),←hn,zd4 hj]
      by_cases e2:j=k
      · rw[if_pos e2,e2,zcX];rfl
      · rw[if_neg e2,zce e2];rfl
    · rw[if_neg e,if_neg e,hb,zp6 g4,zfr hr0 hj]
      split
      · rfl
      · exact zmK _
  obtain⟨G0,hG0⟩:∃G0:Nat→Nat→Rat,G0=fun j k=>if j<n then dl j k else if k=n then 1 else qI (vI (rowN t 0) k):=⟨_,rfl⟩
  have hI0 : Inv (n+1) A0 G0:=by
    refine⟨fun i j hi hj=>?_,fun k l hk hl=>?_⟩
    · by_cases e:i<n
      · rw[zee (p:=i) hi (fun k hk hne=>by rw[hG0];dsimp only;rw[if_pos e,zce (Ne.symm hne)];grind)]
        rw[hG0,hA0];dsimp only
        rw[if_pos e,if_pos e,zcX]
        by_cases e2:i=j
        · rw[e2];grind
        · rw[zce e2,zce (Ne.symm e2)];grind
      · have ei:i=n:=by omega
        simp only[S]
        have e1:S (fun k=>G0 i k*A0 k j) n=if j<n then qI (vI (rowN t 0) j) else 0:=by
          by_cases ej:j<n
          · rw[if_pos ej,zee (p:=j) ej (fun k hk hne=>by rw[hA0];dsimp only;rw[if_pos hk,zce (Ne.symm hne)];grind)]
            rw[hG0,hA0];dsimp only
            rw[if_neg e,if_neg (by omega),if_pos ej,zcX];grind
          · rw[if_neg ej]
            exact S_z fun k hk=>by rw[hA0];dsimp only;rw[if_pos hk,zce (by omega)];grind
        rw[e1]
        have e2:G0 i n=1:=by rw[hG0];dsimp only;rw[if_neg e,if_pos rfl]
        have e3:A0 n j=if j=n then 1 else -qI (vI (rowN t 0) j):=by rw[hA0];dsimp only;rw[if_neg (Nat.lt_irrefl n)]
        rw[e2,e3]
        by_cases ej:j=n
        · rw[if_neg (by omega),if_pos ej,ej,ei,zcX];grind
        · rw[if_pos (by omega),if_neg ej,zce (by omega)];grind
    · by_cases e:k<n
      · rw[zee (p:=k) hk (fun j hj hne=>by rw[hA0];dsimp only;rw[if_pos e,zce hne];grind)]
        rw[hG0,hA0];dsimp only
        rw[if_pos e,if_pos e,zcX];grind
      · have ek:k=n:=by omega
        simp only[S]
        have e1:S (fun j=>A0 k j*G0 j l) n=if l<n then -qI (vI (rowN t 0) l) else 0:=by
          by_cases el:l<n
          · rw[if_pos el,zee (p:=l) el (fun j hj hne=>by rw[hG0];dsimp only;rw[if_pos hj,zce hne];grind)]
            rw[hG0,hA0];dsimp only
            rw[if_neg e,if_neg (by omega),if_pos el,zcX];grind
          · rw[if_neg el]
            exact S_z fun j hj=>by rw[hG0];dsimp only;rw[if_pos hj,zce (by omega)];grind
        rw[e1]
        have e2:A0 k n=1:=by rw[hA0];dsimp only;rw[if_neg e,if_pos rfl]
        have e3:G0 n l=if l=n then 1 else qI (vI (rowN t 0) l):=by rw[hG0];dsimp only;rw[if_neg (Nat.lt_irrefl n)]
        rw[e2,e3]
        by_cases el:l=n
        · rw[if_neg (by omega),if_pos el,el,ek,zcX];grind
        · rw[if_pos (by omega),if_neg el,zce (by omega)];grind
  have hI:Inv (n+1) (rw' (bQ b) B0) G0:=⟨fun i j hi hj=>by
      rw[zat (n+1) (fun k hk=>by rw[a0 k j hk hj])];exact hI0.ga i j hi hj,fun k l hk hl=>by
      rw[zat (n+1) (fun j hj=>by rw[a0 k j hk hj])];exact hI0.ag k l hk hl⟩
  have hD:D (n+1) (rw' (bQ b) B0)≠0:=by
    rw[zeC (n+1) a0]
    have:D (n+1) A0=1:=by
      rw[hA0]
      have g:n=1∨n=2∨n=3:=by omega
      rcases g with e|e|e
      · subst e;rw[D2];simp[dl];grind
      · subst e;rw[D3];simp[dl];grind
      · subst e;rw[D4];simp[dl];grind
    rw[this];decide
  have hc:∀k,k<n+1→0≤lam (n+1) G0 (fun j=>dl j n) k:=fun k hk=>by
    have:lam (n+1) G0 (fun j=>dl j n) k=G0 n k:=by
      show S (fun i=>dl i n*G0 i k) (n+1)=_
      rw[zee (p:=n) (Nat.lt_succ_self n) (fun i _ hne=>by rw[zce hne];grind),zcX];grind
    rw[this,hG0];dsimp only
    rw[if_neg (Nat.lt_irrefl n)]
    split
    · decide
    · rw[←qI_0,zls];exact hv k (by omega)
  have hmost:∀i,i<b.length→(0:Int)≤zbS b i:=fun i hi=>by
    have:=(ziJ h _ (zlj (k:=i) (by rw[←hb];exact hi))).2.2.1
    rw[←hb] at this;exact this
  obtain ⟨B,G,k1,k2,k3,k4,k5,k6⟩:=lp (n:=n+1) (M:=b.length) (a:=bQ b) (b:=fun i=>qI (zbS b i)) (c:=fun j=>dl j n) (x0:=fun _=>0) (Q:=fun B=>D (n+1) (rw' (bQ b) B)≠0) l0 m0 hI hc hD
    (fun i hi=>by
      rw[S_z (fun j _=>by grind),←qI_0,zls];exact hmost i hi)
    (fun B G p r hl hI hp hr hne hq=>by
      have e:rw' (bQ b) (B.set p r)=pivA (rw' (bQ b) B) p (bQ b r):=by
        funext k
        simp only[rw',pivA]
        rw[zjN (by omega)]
        by_cases e:k=p
        · rw[if_pos e,if_pos e]
        · rw[if_neg e,if_neg e]
      rw[e,zt0 (by omega) hp hI]
      intro h0
      rcases Rat.mul_eq_zero.1 h0 with h0|h0
      · exact hne h0
      · exact hq h0)
  obtain⟨B,G,hF,hs⟩:=zm9 (by omega) (⟨k1,k2,k3,k4,k5,k6⟩:Fin' (n+1) b.length (bQ b) (fun i=>qI (zbS b i)) (fun j=>dl j n) B G)
  have hcl:(B.map Int.ofNat).length=n+1:=by rw[List.length_map];exact hF.len
  have hcv:∀i,i<n+1→(vI (B.map Int.ofNat) i).toNat=bN B i:=fun i hi=>by
    have hi':i<B.length:=by rw[hF.len];exact hi
    simp[vI,bN,List.getD,List.getElem?_eq_getElem hi']
  have hcm:(B.map Int.ofNat)∈zbU (n+1) 0 b.length:=ziG (n+1) 0 b.length B hF.len hs fun x hx=>⟨Nat.zero_le _,by have:=hF.lt x hx;omega⟩
  have hgc:goodA b (B.map Int.ofNat):=by
    have:=zeV h (B.map Int.ofNat) (by rw[←hb,←hn];exact hcm)
    rw[hb];exact this
  unfold zgZ zjL
  rw[←hb,←hn]
  refine zhV hcm (zq7 hgc ?_ (x:=ptX (n+1) (fun i=>qI (zbS b i)) B G) (y:=lam (n+1) G (fun j=>dl j n)) ?_ ?_ ?_ ?_)
  · rw[hcl,zeC (n+1) (A':=rw' (bQ b) B) (fun i j hi hj=>by rw[hcv i hi])]
    exact hF.det
  · rw[hcl]
    intro i hi
    rw[hcv i hi];exact zqs hF.inv hi
  · rw[hcl];exact hF.x
  · rw[hcl]
    intro j hj
    rw[zat (n+1) (g:=fun k=>lam (n+1) G (fun j=>dl j n) k*rw' (bQ b) B k j) (fun k hk=>by rw[hcv k hk])]
    exact co hF.inv (fun j=>dl j n) hj
  · rw[hcl];exact hF.y
end Go.Eng.Ar
namespace Go.Eng.Ar
open Go.Eng Go.Proofs
set_option linter.all false
set_option maxRecDepth 100000
set_option maxHeartbeats 8000000
abbrev pK (n:Nat):Prop:=n≤1000
def cmpI (n d m k:Int):Int:=if n*k<m*d then -1 else if m*d<n*k then 1 else 0
abbrev pCmp (n d m k:Int):Prop:=(-1000000000000000000≤n∧n≤1000000000000000000)∧(0<d∧d≤1000000000000000000)∧(-1000000000000000000≤m∧m≤1000000000000000000)∧0<k∧k≤1000000000000000000
theorem zjv {n d:Int} (hd:0<d):n - d<n / d*d∧n / d*d≤n∧n=n / d*d+n % d∧0≤n % d∧n % d<d:=by
  have h1:=Int.emod_nonneg n (show d≠0 by omega)
  have h2:=Int.emod_lt_of_pos n hd
  have h3:=Int.emod_def n d
  rw[Int.mul_comm] at h3
  omega
theorem zp1 {n d m k:Int} (hd:0<d) (hk:0<k) (h:n / d<m / k):cmpI n d m k = -1:=by
  obtain⟨a1,a2,a3,a4,a5⟩:=zjv (n:=n) hd
  obtain⟨b1,b2,b3,b4,b5⟩:=zjv (n:=m) hk
  refine if_pos ?_
  have h1:n+1≤(m / k)*d:=by
    have:(n / d+1)*d≤(m / k)*d:=Int.mul_le_mul_of_nonneg_right (by omega) (by omega)
    rw[Int.add_mul,Int.one_mul] at this;omega
  have h2:(n+1)*k≤(m / k)*d*k:=Int.mul_le_mul_of_nonneg_right h1 (by omega)
  have h3:(m / k*k)*d≤m*d:=Int.mul_le_mul_of_nonneg_right b2 (by omega)
  have h4:(m / k)*d*k=(m / k*k)*d:=by rw[Int.mul_assoc,Int.mul_comm d k,←Int.mul_assoc]
  rw[Int.add_mul,Int.one_mul] at h2
  omega
theorem zqX (n d m k:Int):cmpI n d m k = -cmpI m k n d:=by
  unfold cmpI
  by_cases h1:n*k<m*d
  · rw[if_pos h1,if_neg (by omega),if_pos h1]
  · rw[if_neg h1]
    by_cases h2:m*d<n*k
    · rw[if_pos h2,if_pos h2];rfl
    · rw[if_neg h2,if_neg h2,if_neg h1];rfl
theorem zsE {n d m k:Int} (hd:0<d) (hk:0<k) (h:m / k<n / d):cmpI n d m k=1:=by
  rw[zqX,zp1 hk hd h];rfl
theorem ziI {n d m k p:Int}:cmpI n d m k=cmpI (n - p*d) d (m - p*k) k:=by
  have e1:(n - p*d)*k=n*k - p*d*k:=Int.sub_mul _ _ _
  have e2:(m - p*k)*d=m*d - p*d*k:=by rw[Int.sub_mul,Int.mul_assoc p k d,Int.mul_comm k d,←Int.mul_assoc]
  unfold cmpI
  rw[e1,e2]
  generalize n*k=a
  generalize m*d=b
  generalize p*d*k=c
  by_cases h1:a<b
  · rw[if_pos h1,if_pos (show a - c<b - c by omega)]
  · rw[if_neg h1,if_neg (show ¬a - c<b - c by omega)]
    by_cases h2:b<a
    · rw[if_pos h2,if_pos (show b - c<a - c by omega)]
    · rw[if_neg h2,if_neg (show ¬b - c<a - c by omega)]
theorem zpc {n d m k:Int}:cmpI k m d n=cmpI n d m k:=by
  unfold cmpI;rw[Int.mul_comm k n,Int.mul_comm d m]
theorem zsF {d k:Int}:cmpI 0 d 0 k=0:=by unfold cmpI;rw[Int.zero_mul,Int.zero_mul];rfl
theorem ztQ {d m k:Int} (hd:0<d) (hm:0<m):cmpI 0 d m k = -1:=by
  refine if_pos ?_;rw[Int.zero_mul];exact Int.mul_pos hm hd
theorem ztP {n d k:Int} (hk:0<k) (hn:0<n):cmpI n d 0 k=1:=by
  unfold cmpI
  have:=Int.mul_pos hn hk
  rw[Int.zero_mul,if_neg (by omega),if_pos this]
@[reducible] def zkS:Spec:={pats:=[.dat I64,.dat I64,.dat I64,.dat I64],res:=[{t:=I64}],pre:=fun x=>pCmp x.1 x.2.1 x.2.2.1 x.2.2.2.1,f:=fun x=>(cmpI x.1 x.2.1 x.2.2.1 x.2.2.2.1,())}
def zsG (c:Int):LoopAnn:={σ:=Int×Int×Int×Int,pat:=fun s=>[sI 0 s.1,sI 1 s.2.1,sI 2 s.2.2.1,sI 3 s.2.2.2],inv:=fun s=>pCmp s.1 s.2.1 s.2.2.1 s.2.2.2∧cmpI s.1 s.2.1 s.2.2.1 s.2.2.2=c,meas:=fun s=>(s.2.1+s.2.2.2).toNat}
theorem h45:Ok 16 zkS:=by
  refine mk (ctr:=[(37,zpB)]) ⟨h82,trivial⟩ (nt:=47) Try.func16 rfl rfl rfl rfl (by kernel_rfl) (by kernel_rfl) (fun x=>[fun _=>zsG (cmpI x.1 x.2.1 x.2.2.1 x.2.2.2.1)]) ?_
  rintro⟨(n0:Int),(d0:Int),(m0:Int),(k0:Int),⟨⟩⟩ (h:pCmp n0 d0 m0 k0)
  repeat' (intro hzz;(try (rename Two=>hq;cases hq));(try dsimp only at hzz);(try simp only[zad,zac,eqD,inR,big,zab,zB] at hzz);(try simp only[zad,zac,eqD,inR,big,zab,zB,zjz] at hzz);(try (revert hzz;intro _)))
  all_goals try (rename Unit=>hq;clear hq)
  all_goals try ((with_reducible refine Held.mk ?_);(with_reducible (first|refine Frz.mk ?_|refine And.intro (Frz.mk ?_) ?_|refine And.intro ?_ (Frz.mk ?_)));repeat' first|exact True.intro|(change _=_;with_reducible rfl)|refine And.intro ?_ ?_|(with_reducible refine Frz.mk ?_))
  all_goals try (refine Held.mk ?_;(try dsimp only at *);(try simp only[zad,zac,eqD,inR,big,zab,zB] at *);(try simp only[zad,zac,eqD,inR,big,zab,zB,zjz] at *))
  all_goals try omega
  ·
    refine zaq.mk ?_
    refine Exists.intro (n0,d0,m0,k0) ?_
    refine And.intro (Leaf.mk ?_) ?_
    · repeat' first|exact True.intro|refine And.intro ?_ ?_
      all_goals try ((change _=_<;>try dsimp only)<;>try with_reducible rfl)
      all_goals try omega
    exact⟨h,rfl⟩
  · rename_i s hs h
    rw[←hs.2];exact (zp1 hs.1.2.1.1 hs.1.2.2.2.1 h).symm
  · rename_i s hs h1 h
    rw[←hs.2];exact (zsE hs.1.2.1.1 hs.1.2.2.2.1 h).symm
  all_goals (try (rename_i s hs h1 h2;obtain⟨⟨q1,q2,q3,q4⟩,q5⟩:=hs;have f1:=zjv (n:=s.1) q2.1;have f2:=zjv (n:=s.2.2.1) q4.1;omega))
  · rename_i s hs h1 h2 h3 h4
    obtain⟨⟨q1,q2,q3,q4⟩,q5⟩:=hs
    rw[←q5,ziI (p:=s.1 / s.2.1),h3,show s.1 / s.2.1=s.2.2.1 / s.2.2.2 from Int.le_antisymm h2 h1,h4];exact zsF.symm
  · rename_i s hs h1 h2 h3 h4 h5
    obtain⟨⟨q1,q2,q3,q4⟩,q5⟩:=hs
    have f2:=zjv (n:=s.2.2.1) q4.1
    rw[←q5,ziI (p:=s.1 / s.2.1),h3,show s.1 / s.2.1=s.2.2.1 / s.2.2.2 from Int.le_antisymm h2 h1]
    exact (ztQ q2.1 (by omega)).symm
  · rename_i s hs h1 h2 h3 h4 h5
    obtain⟨⟨q1,q2,q3,q4⟩,q5⟩:=hs
    have f1:=zjv (n:=s.1) q2.1
    rw[←q5,ziI (p:=s.2.2.1 / s.2.2.2),h5,←show s.1 / s.2.1=s.2.2.1 / s.2.2.2 from Int.le_antisymm h2 h1]
    exact (ztP q4.1 (by omega)).symm
  · rename_i s hs h1 h2 h3 h3' h4
    obtain⟨⟨q1,q2,q3,q4⟩,q5⟩:=hs
    have f1:=zjv (n:=s.1) q2.1
    have f2:=zjv (n:=s.2.2.1) q4.1
    have P:pCmp s.2.2.2 (s.2.2.1 - s.2.2.1 / s.2.2.2*s.2.2.2) s.2.1 (s.1 - s.1 / s.2.1*s.2.1):=⟨⟨by omega,by omega⟩,⟨by omega,by omega⟩,⟨by omega,by omega⟩,by omega,by omega⟩
    refine zaq.mk ?_
    refine Exists.intro (s.2.2.2,s.2.2.1 - s.2.2.1 / s.2.2.2*s.2.2.2,s.2.1,s.1 - s.1 / s.2.1*s.2.1) ?_
    refine And.intro (Leaf.mk ?_) ?_
    · repeat' first|exact True.intro|refine And.intro ?_ ?_
      all_goals try ((change _=_<;>try dsimp only)<;>try with_reducible rfl)
      all_goals try omega
    refine⟨⟨P,?_⟩,?_⟩
    · show cmpI s.2.2.2 (s.2.2.1 - s.2.2.1 / s.2.2.2*s.2.2.2) s.2.1 (s.1 - s.1 / s.2.1*s.2.1)=_
      rw[zpc,←q5,ziI (n:=s.1) (p:=s.1 / s.2.1),show s.1 / s.2.1=s.2.2.1 / s.2.2.2 from Int.le_antisymm h2 h1]
    · show (s.2.2.1 - s.2.2.1 / s.2.2.2*s.2.2.2+(s.1 - s.1 / s.2.1*s.2.1)).toNat<(s.2.1+s.2.2.2).toNat
      omega
theorem zon {a b:Int}:∃g:Int,0≤g∧gcd2 a b=g∧a=Int.tdiv a g*g∧b=Int.tdiv b g*g:=by
  refine⟨gcd2 a b,Int.natCast_nonneg _,rfl,?_,?_⟩
  · exact (Int.tdiv_mul_cancel (Int.ofNat_dvd_left.2 (Nat.gcd_dvd_left _ _))).symm
  · exact (Int.tdiv_mul_cancel (Int.ofNat_dvd_left.2 (Nat.gcd_dvd_right _ _))).symm
theorem zoY {a b:Int} (h:0<b):0<gcd2 a b:=by
  unfold gcd2
  have:Nat.gcd a.natAbs b.natAbs≠0:=fun e=>by have:=(Nat.gcd_eq_zero_iff.1 e).2;omega
  omega
@[reducible] def zkR:Spec:={pats:=[.dat (.sl I64)],res:=[{t:=.sl I64}],pre:=fun x=>pK (List.length (α:=Int) x.1),f:=fun x=>(x.1,())}
theorem h109:Ok 35 zkR:=by
  refine mk (ctr:=[]) trivial (nt:=6) Try.func35 rfl rfl rfl rfl (by kernel_rfl) (by kernel_rfl) (fun _=>[]) ?_
  rintro⟨(l:List Int),⟨⟩⟩ (hp:l.length≤1000)
  repeat' (intro hzz;(try (rename Two=>hq;cases hq));(try dsimp only at hzz);(try simp only[zad,zac,eqD,inR,big,zab,zB] at hzz);(try (revert hzz;intro _)))
  all_goals try (rename Unit=>hq;clear hq)
  all_goals try ((with_reducible refine Held.mk ?_);(with_reducible (first|refine Frz.mk ?_|refine And.intro (Frz.mk ?_) ?_|refine And.intro ?_ (Frz.mk ?_)));repeat' first|exact True.intro|(change _=_;with_reducible rfl)|refine And.intro ?_ ?_|(with_reducible refine Frz.mk ?_))
  all_goals try (refine Held.mk ?_;(try dsimp only at *);(try simp only[zad,zac,eqD,inR,big,zab,zB] at *))
  · show 0+l.length≤2147483648;omega
  · rfl
abbrev zjd (l:List (List Int)):Prop:=pK l.length∧∀i,i<l.length→pK (rowN l i).length
@[reducible] def zpG:Spec:={pats:=[.dat MatT],res:=[{t:=MatT}],pre:=fun x=>zjd x.1,f:=fun x=>(x.1,())}
theorem h103:Ok 28 zpG:=by
  refine mk (ctr:=[(35,zkR)]) ⟨h109,trivial⟩ (nt:=20) Try.func28 rfl rfl rfl rfl (by kernel_rfl) (by kernel_rfl) (fun x=>[fun _=>{σ:=Nat,pat:=fun k=>sI 4 k::zmp 3 60003 38 (tab (rowN x.1) k),inv:=fun k=>k≤List.length (α:=List Int) x.1,meas:=fun k=>List.length (α:=List Int) x.1 - k}]) ?_
  rintro⟨(l:List (List Int)),⟨⟩⟩ ⟨(hp:l.length≤1000),(hr:∀i,i<l.length→(rowN l i).length≤1000)⟩
  repeat' (intro hzz;(try (rename Two=>hq;cases hq));(try dsimp only at hzz);(try simp only[zad,zac,eqD,inR,big,zab,zB] at hzz);(try simp only[zad,zac,eqD,inR,big,zab,zB,zbO,Int.toNat_natCast,zak] at hzz);(try (revert hzz;intro _)))
  all_goals try (rename Unit=>hq;clear hq)
  all_goals try ((with_reducible refine Held.mk ?_);(with_reducible (first|refine Frz.mk ?_|refine And.intro (Frz.mk ?_) ?_|refine And.intro ?_ (Frz.mk ?_)));repeat' first|exact True.intro|(change _=_;with_reducible rfl)|refine And.intro ?_ ?_|(with_reducible refine Frz.mk ?_))
  all_goals try (refine Held.mk ?_;(try dsimp only at *);(try simp only[zad,zac,eqD,inR,big,zab,zB] at *);(try simp only[zad,zac,eqD,inR,big,zab,zB,zbO,Int.toNat_natCast,zak] at *))
  all_goals try omega
  ·
    refine zaq.mk ?_
    refine Exists.intro (0:Nat) ?_
    refine And.intro (Leaf.mk ?_) ?_
    · repeat' first|exact True.intro|refine And.intro ?_ ?_
      all_goals try ((change _=_<;>try dsimp only)<;>try with_reducible rfl)
      all_goals try omega
      all_goals (rfl)
    exact Nat.zero_le _
  · rename_i k hk hlt
    exact hr k (by omega)
  · rename_i k hk hlt
    show k+1≤2147483648;omega
  · rename_i k hk hlt
    refine zaq.mk ?_
    refine Exists.intro (k+1) ?_
    refine And.intro (Leaf.mk ?_) ?_
    · repeat' first|exact True.intro|refine And.intro ?_ ?_
      all_goals try ((change _=_<;>try dsimp only)<;>try with_reducible rfl)
      all_goals try omega
      all_goals (rfl)
    exact⟨(show k+1≤l.length by omega),(show l.length - (k+1)<l.length - k by omega)⟩
  · rename_i k hk hlt
    rw[show k=l.length by omega];exact (zoR [] l).symm
@[reducible] def zpD:Spec:={pats:=[.dat zhh],res:=[{t:=zhh}],pre:=fun x=>zjd x.1.1,f:=fun x=>(x.1,())}
theorem h42:Ok 10 zpD:=by
  refine mk (ctr:=[(28,zpG)]) ⟨h103,trivial⟩ (nt:=8) Try.func10 rfl rfl rfl rfl (by kernel_rfl) (by kernel_rfl) (fun _=>[]) ?_
  rintro⟨⟨(t:List (List Int)),(cap:Int),⟨⟩⟩,⟨⟩⟩ (h:zjd t)
  repeat' (intro hzz;(try (rename Two=>hq;cases hq));(try dsimp only at hzz);(try simp only[zad,zac,eqD,inR,big,zab,zB] at hzz);(try (revert hzz;intro _)))
  all_goals try (rename Unit=>hq;clear hq)
  all_goals try ((with_reducible refine Held.mk ?_);(with_reducible (first|refine Frz.mk ?_|refine And.intro (Frz.mk ?_) ?_|refine And.intro ?_ (Frz.mk ?_)));repeat' first|exact True.intro|(change _=_;with_reducible rfl)|refine And.intro ?_ ?_|(with_reducible refine Frz.mk ?_))
  all_goals try (refine Held.mk ?_;(try dsimp only at *);(try simp only[zad,zac,eqD,inR,big,zab,zB] at *))
  · exact h
@[reducible] def zpF:Spec:={pats:=[.dat zlZ],res:=[{t:=zlZ}],pre:=fun x=>pK (List.length (α:=Int) x.1.2.1),f:=fun x=>(x.1,())}
theorem h44:Ok 13 zpF:=by
  refine mk (ctr:=[(35,zkR)]) ⟨h109,trivial⟩ (nt:=8) Try.func13 rfl rfl rfl rfl (by kernel_rfl) (by kernel_rfl) (fun _=>[]) ?_
  rintro⟨⟨(d:Int),(l:List Int),⟨⟩⟩,⟨⟩⟩ (h:pK l.length)
  repeat' (intro hzz;(try (rename Two=>hq;cases hq));(try dsimp only at hzz);(try simp only[zad,zac,eqD,inR,big,zab,zB] at hzz);(try (revert hzz;intro _)))
  all_goals try (rename Unit=>hq;clear hq)
  all_goals try ((with_reducible refine Held.mk ?_);(with_reducible (first|refine Frz.mk ?_|refine And.intro (Frz.mk ?_) ?_|refine And.intro ?_ (Frz.mk ?_)));repeat' first|exact True.intro|(change _=_;with_reducible rfl)|refine And.intro ?_ ?_|(with_reducible refine Frz.mk ?_))
  all_goals try (refine Held.mk ?_;(try dsimp only at *);(try simp only[zad,zac,eqD,inR,big,zab,zB] at *))
  · exact h
abbrev pWgt (a b c:Nat):Prop:=pK a∧pK b∧pK c
@[reducible] def zpC:Spec:={pats:=[.dat zdB],res:=[{t:=zdB}],pre:=fun x=>pWgt (List.length (α:=Int) x.1.2.1) (List.length (α:=Int) x.1.2.2.1) (List.length (α:=Int) x.1.2.2.2.1),f:=fun x=>(x.1,())}
theorem h56:Ok 15 zpC:=by
  refine mk (ctr:=[(35,zkR)]) ⟨h109,trivial⟩ (nt:=16) Try.func15 rfl rfl rfl rfl (by kernel_rfl) (by kernel_rfl) (fun _=>[]) ?_
  rintro⟨⟨(d:Int),(l:List Int),(m:List Int),(c:List Int),⟨⟩⟩,⟨⟩⟩ ⟨(h1:pK l.length),(h2:pK m.length),(h3:pK c.length)⟩
  repeat' (intro hzz;(try (rename Two=>hq;cases hq));(try dsimp only at hzz);(try simp only[zad,zac,eqD,inR,big,zab,zB] at hzz);(try (revert hzz;intro _)))
  all_goals try (rename Unit=>hq;clear hq)
  all_goals try ((with_reducible refine Held.mk ?_);(with_reducible (first|refine Frz.mk ?_|refine And.intro (Frz.mk ?_) ?_|refine And.intro ?_ (Frz.mk ?_)));repeat' first|exact True.intro|(change _=_;with_reducible rfl)|refine And.intro ?_ ?_|(with_reducible refine Frz.mk ?_))
  all_goals try (refine Held.mk ?_;(try dsimp only at *);(try simp only[zad,zac,eqD,inR,big,zab,zB] at *))
  · exact h1
  · exact h2
  · exact h3
theorem ze7 {l:List Int} {m:Int} (h:∀i,i<l.length→0≤vI l i∧vI l i≤m):allE l m=0:=by
  unfold allE
  rw[if_neg]
  intro ha
  obtain⟨x,hx,h2⟩:=List.any_eq_true.1 ha
  obtain⟨i,hi,rfl⟩:=zk3 hx
  have:=h i hi
  simp only[outM] at h2
  rw[show zan (vI l i) 0 m=true from decide_eq_true this] at h2
  cases h2
theorem zlk {l:List Int} {m:Int}:allE l m=0∨allE l m=2:=by unfold allE;split<;>simp
def gets (t:List (List Int)) (l:List Int) (k:Nat):List Int:=tab (fun i=>dotI (rowN t i) l) k
theorem zcq {t l k}:(gets t l k).length=k:=zak _ _
theorem zd8 {t:List (List Int)} {l:List Int} {k i:Nat} (h:i<k):vI (gets t l k) i=dotI (rowN t i) l:=zaD (fun i=>dotI (rowN t i) l) 0 k i h
def opE0 (n:Nat) (d:Int) (l:List Int):Int:=if 1≤d∧d≤1000000000000 then (if l.length=n then allE l d else 10) else 2
def opE (t:List (List Int)) (cap d:Int) (l:List Int):Int:=if opE0 (ncol t) d l=0 then (if cap*d<mx (gets t l t.length) (t.length - 1) then 24 else 0) else opE0 (ncol t) d l
def lowP (a b:Int):zcJ.Den:=(Int.tdiv a (gcd2 a b),Int.tdiv b (gcd2 a b),())
def opV (t:List (List Int)) (d:Int) (l:List Int):zcJ.Den:=lowP (mn (gets t l t.length) (t.length - 1)) d
def opR (t:List (List Int)) (cap d:Int) (l:List Int):zcJ.Den×Int×Unit:=if opE t cap d l=0 then (opV t d l,0,()) else ((0,0,()),opE t cap d l,())
def opRA (t:List (List Int)) (cap d:Int) (l:List Int):zcJ.Den×Int×Unit:=if chkT t cap=0 then opR t cap d l else ((0,0,()),chkT t cap,())
@[reducible] def zmr:Spec:={pats:=[.dat zhh,.dat zlZ],res:=[{t:=zcJ},{t:=I64}],pre:=fun x=>pLen (List.length (α:=Int) x.2.1.2.1),f:=fun x=>opRA x.1.1 x.1.2.1 x.2.1.1 x.2.1.2.1}
theorem zhs {n:Nat} {d:Int} {l:List Int} (h:opE0 n d l=0):(1≤d∧d≤1000000000000)∧l.length=n∧∀i,i<l.length→0≤vI l i∧vI l i≤d:=by
  unfold opE0 at h
  split at h
  · rename_i h1
    split at h
    · rename_i h2;exact⟨h1,h2,zg1 h⟩
    · cases h
  · cases h
theorem zoI {t:List (List Int)} {cap d:Int} {l:List Int} (h:opE t cap d l=0):opE0 (ncol t) d l=0∧mx (gets t l t.length) (t.length - 1)≤cap*d:=by
  unfold opE at h
  split at h
  · rename_i h1
    split at h
    · cases h
    · rename_i h2;exact⟨h1,by omega⟩
  · rename_i h1;exact absurd h h1
theorem zmk {f:Nat→Int} {B:Int}:∀k:Nat,(∀i,i<k→0≤f i∧f i≤B)→0≤sm f k∧sm f k≤(k:Int)*B
  | 0,_=>⟨Int.le_refl _,by simp[sm]⟩
  | k+1,h=>by
    have h1:=zmk k fun i hi=>h i (by omega)
    have h2:=h k (by omega)
    have e:(((k+1:Nat):Int)*B)=(k:Int)*B+B:=by rw[Int.natCast_add,Int.add_mul];simp
    rw[e]
    show 0≤sm f k+f k∧sm f k+f k≤_
    omega
theorem zex {a b A B:Int} (h1:0≤a∧a≤A) (h2:0≤b∧b≤B):0≤a*b∧a*b≤A*B:=⟨Int.mul_nonneg h1.1 h2.1,Int.mul_le_mul h1.2 h2.2 h2.1 (Int.le_trans h1.1 h1.2)⟩
theorem znt {t:List (List Int)} {cap d:Int} {l:List Int} (hg:goodT t cap) (h:opE0 (ncol t) d l=0) {i:Nat} (hi:i<t.length):(0≤dotI (rowN t i) l∧dotI (rowN t i) l≤300000000000000)∧pDot (rowN t i) l∧∀k,k≤ncol t→0≤sm (fun j=>vI (rowN t i) j*vI l j) k∧sm (fun j=>vI (rowN t i) j*vI l j) k≤300000000000000:=by
  obtain⟨h1,h2,h3⟩:=zhs h
  have hr:=hg.rows i hi
  have hc:=hg.cle
  have hb:∀j,j<ncol t→0≤vI (rowN t i) j*vI l j∧vI (rowN t i) j*vI l j≤100000000000000:=fun j hj=>by
    have q1:=hg.vals i j hi hj
    have q2:=h3 j (by omega)
    have:=zex q1 (show 0≤vI l j∧vI l j≤1000000000000 by omega)
    omega
  have hs:∀k,k≤ncol t→0≤sm (fun j=>vI (rowN t i) j*vI l j) k∧sm (fun j=>vI (rowN t i) j*vI l j) k≤300000000000000:=fun k hk=>by
    have:=zmk (f:=fun j=>vI (rowN t i) j*vI l j) (B:=100000000000000) k fun j hj=>hb j (by omega)
    omega
  refine⟨?_,⟨by omega,by omega,fun j hj=>?_⟩,hs⟩
  · unfold dotI;rw[hr];exact hs _ (Nat.le_refl _)
  · have:=hb j (by omega);omega
theorem zqx {xs : List Int} {c:Int}:∀ {k:Nat},mx xs k≤c↔∀i,i≤k→vI xs i≤c
  | 0 => ⟨fun h i hi => by obtain rfl:i=0:=by omega
                           exact h,fun h=>h 0 (Nat.le_refl _)⟩
  | k + 1=>by
    have ih:=zqx (xs:=xs) (c:=c) (k:=k)
    simp only[mx]
    constructor
    · intro h i hi
      split at h
      · rename_i h1
        by_cases e:i=k+1
        · subst e;exact h
        · exact ih.1 (by omega) i (by omega)
      · rename_i h1
        by_cases e:i=k+1
        · subst e;show xs.getD (k+1) 0≤c;omega
        · exact ih.1 h i (by omega)
    · intro h
      split
      · exact h (k+1) (Nat.le_refl _)
      · exact ih.2 fun i hi=>h i (by omega)
theorem zm7 {xs:List Int} {A B:Int}:∀ {k:Nat},(∀i,i≤k→A≤vI xs i∧vI xs i≤B)→A≤mn xs k∧mn xs k≤B
  | 0,h=>h 0 (Nat.le_refl _)
  | k+1,h=>by
    have ih:=zm7 (xs:=xs) (k:=k) fun i hi=>h i (by omega)
    have:=h (k+1) (Nat.le_refl _)
    simp only[mn];split
    · exact this
    · exact ih
theorem zby {n:Nat} {d:Int} {l:List Int}:zaT [bif zan d 1 1000000000000 then 0 else 2,bif decide ((l.length:Int)=(n:Int)) then 0 else 10,allE l d]=opE0 n d l:=by
  simp only[zaT,opE0]
  by_cases h1:1≤d∧d≤1000000000000
  · rw [if_pos h1,show zan d 1 1000000000000=true from decide_eq_true h1]
    show (if (0:Int)=0 then _ else _)=_
    rw[if_pos rfl]
    by_cases h2:l.length=n
    · rw[if_pos h2,decide_eq_true (show (l.length:Int)=(n:Int) by omega)]
      show (if (0:Int)=0 then _ else _)=_
      rw[if_pos rfl]
      split
      · rename_i h;exact h.symm
      · rfl
    · rw[if_neg h2,decide_eq_false (show ¬(l.length:Int)=(n:Int) by omega)];rfl
  · rw[if_neg h1,show zan d 1 1000000000000=false from decide_eq_false h1];rfl
def ztO (t:List (List Int)) (l:List Int):LoopAnn:={σ:=Nat,pat:=fun k=>sI 45 k::sOwn 8 60008 3 (gets t l k),inv:=fun k=>k≤t.length,meas:=fun k=>t.length - k}
theorem zsj {t:List (List Int)} {cap d:Int} {l:List Int} (h:¬chkT t cap=0):opRA t cap d l=((0,0,()),chkT t cap,()):=if_neg h
theorem ztx {t:List (List Int)} {cap d:Int} {l:List Int} (h:¬opE0 (ncol t) d l=0):opR t cap d l=((0,0,()),opE0 (ncol t) d l,()):=by
  have e:opE t cap d l=opE0 (ncol t) d l:=if_neg h
  unfold opR;rw[e,if_neg h]
theorem ztw {t:List (List Int)} {cap d:Int} {l:List Int} (h:opE0 (ncol t) d l=0) (h2:cap*d<mx (gets t l t.length) (t.length - 1)):opR t cap d l=((0,0,()),24,()):=by
  have e:opE t cap d l=24:=(if_pos h).trans (if_pos h2)
  unfold opR;rw[e];rfl
theorem ztv {t:List (List Int)} {cap d:Int} {l:List Int} (h:opE0 (ncol t) d l=0) (h2:¬cap*d<mx (gets t l t.length) (t.length - 1)):opR t cap d l=(opV t d l,0,()):=by
  have e:opE t cap d l=0:=(if_pos h).trans (if_neg h2)
  unfold opR;rw[e,if_pos rfl]
theorem ztS {cap d:Int} (h1:0≤cap∧cap≤1000) (h2:1≤d∧d≤1000000000000):0≤cap*d∧cap*d≤1000000000000000:=by
  have:=zex h1 (show 0≤d∧d≤1000000000000 by omega)
  omega
theorem h43:Ok 12 zmr:=by
  refine mk (ctr:=[(26,zlp),(21,zfH),(23,zbV),(24,zci),(30,zoy),(31,sDot),(32,sMax),(33,sLow),(34,sMin)]) ⟨h65,h73,h85,h88,h104,h105,h106,h107,h108,trivial⟩ (nt:=71) Try.func12 rfl rfl rfl rfl (by kernel_rfl) (by kernel_rfl) (fun x=>[fun _=>ztO x.1.1 x.2.1.2.1]) ?_
  rintro⟨⟨(t:List (List Int)),(cap:Int),⟨⟩⟩,⟨(d:Int),(l:List Int),⟨⟩⟩,⟨⟩⟩ (hp:pLen l.length)
  repeat' (intro hzz;(try (rename Two=>hq;cases hq));(try dsimp only at hzz);(try simp only[zad,zac,eqD,inR,big,zab,zB] at hzz);(try simp only[zad,zac,eqD,inR,big,zab,zB,zbO,zcl,zaP,Int.toNat_natCast] at hzz);(try (revert hzz;intro _)))
  all_goals try (rename Unit=>hq;clear hq)
  all_goals try ((with_reducible refine Held.mk ?_);(with_reducible (first|refine Frz.mk ?_|refine And.intro (Frz.mk ?_) ?_|refine And.intro ?_ (Frz.mk ?_)));repeat' first|exact True.intro|(change _=_;with_reducible rfl)|refine And.intro ?_ ?_|(with_reducible refine Frz.mk ?_))
  all_goals try (refine Held.mk ?_;(try dsimp only at *);(try simp only[zad,zac,eqD,inR,big,zab,zB] at *);(try simp only[zad,zac,eqD,inR,big,zab,zB,zbO,zcl,zaP,Int.toNat_natCast] at *))
  all_goals try (have hg:=zds (by assumption:chkT t cap=0);have g1:=hg.pos;have g2:=hg.le;have g3:=hg.cap0)
  · rename_i h
    rw[zsj h];exact⟨⟨rfl,rfl⟩,rfl⟩
  · omega
  · exact hp
  · show ((3:Nat):Int)≤4611686018427387904;decide
  · rename_i h1 h
    have e:opRA t cap d l=opR t cap d l:=if_pos h1
    have h2:¬opE0 (ncol t) d l=0:=fun q=>h ((zby (n:=ncol t) (d:=d) (l:=l)).trans q)
    rw[e,ztx h2];exact⟨⟨rfl,rfl⟩,zby (n:=ncol t) (d:=d) (l:=l)⟩
  · rename_i h1 h
    refine zaq.mk ?_
    refine Exists.intro (0:Nat) ?_
    refine And.intro (Leaf.mk ?_) ?_
    · repeat' first|exact True.intro|refine And.intro ?_ ?_
      all_goals try ((change _=_<;>try dsimp only)<;>try with_reducible rfl)
      all_goals try omega
      all_goals (rfl)
    exact Nat.zero_le _
  · omega
  · rename_i h1 h k hk hlt
    have h:opE0 (ncol t) d l=0:=(zby (n:=ncol t) (d:=d) (l:=l)).symm.trans h
    exact (znt hg h (by omega)).2.1
  · rename_i h1 h k hk hlt
    have h:opE0 (ncol t) d l=0:=(zby (n:=ncol t) (d:=d) (l:=l)).symm.trans h
    show (gets t l k).length+1≤2147483648
    rw[zcq];omega
  · omega
  · rename_i h1 h k hk hlt
    have h:opE0 (ncol t) d l=0:=(zby (n:=ncol t) (d:=d) (l:=l)).symm.trans h
    have e:(gets t l (k+1)).length=k+1:=zcq
    refine zaq.mk ?_
    refine Exists.intro (k+1) ?_
    refine And.intro (Leaf.mk ?_) ?_
    · repeat' first|exact True.intro|refine And.intro ?_ ?_
      all_goals try ((change _=_<;>try dsimp only)<;>try with_reducible rfl)
      all_goals try omega
      all_goals (first|rfl|exact e|exact e.symm|(rw[List.length_append,zcq];rfl))
    exact⟨(show k+1≤t.length by omega),(show t.length - (k+1)<t.length - k by omega)⟩
  all_goals try exact zcq.symm
  · rename_i h1 h k hk hlt
    have h:opE0 (ncol t) d l=0:=(zby (n:=ncol t) (d:=d) (l:=l)).symm.trans h
    rw[zcq]
    exact⟨by omega,(show (k:Int)≤4611686018427387904 by omega)⟩
  · rename_i h1 h k hk hlt
    have h:opE0 (ncol t) d l=0:=(zby (n:=ncol t) (d:=d) (l:=l)).symm.trans h
    have:=ztS (cap:=cap) (d:=d) g3 (zhs h).1
    omega
  · rename_i h1 h k hk hlt hm
    have h:opE0 (ncol t) d l=0:=(zby (n:=ncol t) (d:=d) (l:=l)).symm.trans h
    rw[zcq,show k=t.length by omega] at hm
    have e:opRA t cap d l=opR t cap d l:=if_pos h1
    rw[e,ztw h hm];exact⟨⟨rfl,rfl⟩,rfl⟩
  · rename_i h1 h k hk hlt hm
    have h:opE0 (ncol t) d l=0:=(zby (n:=ncol t) (d:=d) (l:=l)).symm.trans h
    rw[zcq]
    exact⟨by omega,(show (k:Int)≤4611686018427387904 by omega)⟩
  · rename_i h1 h k hk hlt hm
    have h:opE0 (ncol t) d l=0:=(zby (n:=ncol t) (d:=d) (l:=l)).symm.trans h
    rw[zcq,show k=t.length by omega]
    have q:=zm7 (xs:=gets t l t.length) (A:=0) (B:=300000000000000) (k:=t.length - 1) fun i hi=>by
      rw[zd8 (by omega)];exact (znt hg h (by omega)).1
    have q2:=(zhs h).1
    exact⟨by omega,by omega,by omega⟩
  · rename_i h1 h k hk hlt hm
    have h:opE0 (ncol t) d l=0:=(zby (n:=ncol t) (d:=d) (l:=l)).symm.trans h
    rw[zcq,show k=t.length by omega] at hm ⊢
    have e:opRA t cap d l=opR t cap d l:=if_pos h1
    rw[e,ztv h (Int.not_lt.2 hm)];exact⟨⟨rfl,rfl⟩,rfl⟩
theorem zml (f g:Nat→Int):∀n,sm (fun i=>f i+g i) n=sm f n+sm g n
  | 0=>rfl
  | n+1=>by simp only[sm,zml f g n];omega
theorem zkN (c:Int) (f:Nat→Int):∀n,sm (fun i=>c*f i) n=c*sm f n
  | 0=>by simp[sm]
  | n+1=>by simp only[sm,zkN c f n];rw[Int.mul_add]
theorem zch (c:Int) (f:Nat→Int) (n:Nat):sm (fun i=>f i*c) n=sm f n*c:=by
  rw[zar n (g:=fun i=>c*f i) (fun i _=>Int.mul_comm _ _),zkN,Int.mul_comm]
theorem zcV:∀n,sm (fun _=>0) n=0
  | 0=>rfl
  | n+1=>by simp only[sm,zcV n];rfl
theorem zj0 (f:Nat→Nat→Int) (m:Nat):∀n,sm (fun i=>sm (fun j=>f i j) m) n=sm (fun j=>sm (fun i=>f i j) n) m
  | 0=>by simp only[sm];exact (zcV m).symm
  | n+1=>by simp only[sm];rw[zj0 f m n,zml]
theorem zh6 {f g:Nat→Int}:∀n,(∀i,i<n→f i≤g i)→sm f n≤sm g n
  | 0,_=>Int.le_refl _
  | n+1,h=>by
    have h1:=zh6 n fun i hi=>h i (by omega)
    have h2:=h n (by omega)
    simp only[sm];omega
def colW (t:List (List Int)) (lo hi:List Int) (j i:Nat):Int:=sm (fun i=>(vI lo i - vI hi i)*vI (rowN t i) j) i
def okW (t:List (List Int)) (lo hi cs:List Int):Nat→Bool
  | 0=>true
  | j+1=>okW t lo hi cs j&&decide (colW t lo hi j t.length≤vI cs j)
theorem zpP {t:List (List Int)} {lo hi cs:List Int} {k:Nat} (h:vI cs k<colW t lo hi k t.length):∀n,k<n→okW t lo hi cs n=false
  | 0,hk=>absurd hk (Nat.not_lt_zero _)
  | n+1,hk=>by
    simp only[okW]
    by_cases e:k=n
    · subst e;rw[decide_eq_false (by omega),Bool.and_false]
    · rw[zpP h n (by omega),Bool.false_and]
theorem zmS {t:List (List Int)} {lo hi cs:List Int}:∀ {n:Nat},okW t lo hi cs n=true→∀k,k<n→colW t lo hi k t.length≤vI cs k
  | n+1,h,k,hk=>by
    simp only[okW,Bool.and_eq_true] at h
    by_cases e:k=n
    · subst e;exact of_decide_eq_true h.2
    · exact zmS h.1 k (by omega)
def wtE0 (m n:Nat) (d:Int) (lo hi cs:List Int):Int:=if 1≤d∧d≤1000000000000 then (if lo.length=m∧hi.length=m∧cs.length=n then (if allE lo 1000000000000=0 then (if allE hi 1000000000000=0 then allE cs 1000000000000 else 2) else 2) else 10) else 2
def wtE (t:List (List Int)) (d:Int) (lo hi cs:List Int):Int:=if wtE0 t.length (ncol t) d lo hi cs=0 then (if sumI lo=d then (if okW t lo hi cs (ncol t)=true then 0 else 20) else 20) else wtE0 t.length (ncol t) d lo hi cs
def wtV (cap d:Int) (hi cs:List Int):zcJ.Den:=lowP (sumI hi*cap+sumI cs) d
def wtR (t:List (List Int)) (cap d:Int) (lo hi cs:List Int):zcJ.Den×Int×Unit:=if wtE t d lo hi cs=0 then (wtV cap d hi cs,0,()) else ((0,0,()),wtE t d lo hi cs,())
def wtRA (t:List (List Int)) (cap d:Int) (lo hi cs:List Int):zcJ.Den×Int×Unit:=if chkT t cap=0 then wtR t cap d lo hi cs else ((0,0,()),chkT t cap,())
abbrev pW3 (a b c:Nat):Prop:=pLen a∧pLen b∧pLen c
@[reducible] def zmq:Spec:={pats:=[.dat zhh,.dat zdB],res:=[{t:=zcJ},{t:=I64}],pre:=fun x=>pW3 (List.length (α:=Int) x.2.1.2.1) (List.length (α:=Int) x.2.1.2.2.1) (List.length (α:=Int) x.2.1.2.2.2.1),f:=fun x=>wtRA x.1.1 x.1.2.1 x.2.1.1 x.2.1.2.1 x.2.1.2.2.1 x.2.1.2.2.2.1}
theorem zbQ {m n:Nat} {d:Int} {lo hi cs:List Int} (h:wtE0 m n d lo hi cs=0):(1≤d∧d≤1000000000000)∧(lo.length=m∧hi.length=m∧cs.length=n)∧(∀i,i<m→0≤vI lo i∧vI lo i≤1000000000000)∧(∀i,i<m→0≤vI hi i∧vI hi i≤1000000000000)∧∀i,i<n→0≤vI cs i∧vI cs i≤1000000000000:=by
  unfold wtE0 at h
  split at h
  · rename_i h1
    split at h
    · rename_i h2
      split at h
      · rename_i h3
        split at h
        · rename_i h4
          exact⟨h1,h2,fun i hi=>zg1 h3 i (by omega),fun i hi=>zg1 h4 i (by omega),fun i hi=>zg1 h i (by omega)⟩
        · cases h
      · cases h
    · cases h
  · cases h
theorem zog {t:List (List Int)} {d:Int} {lo hi cs:List Int} (h:wtE t d lo hi cs=0):wtE0 t.length (ncol t) d lo hi cs=0∧sumI lo=d∧okW t lo hi cs (ncol t)=true:=by
  unfold wtE at h
  split at h
  · rename_i h1
    split at h
    · rename_i h2
      split at h
      · rename_i h3;exact⟨h1,h2,h3⟩
      · cases h
    · cases h
  · rename_i h1;exact absurd h h1
theorem znR {t:List (List Int)} {cap d:Int} {lo hi cs:List Int} (hg:goodT t cap) (h:wtE0 t.length (ncol t) d lo hi cs=0) {j i:Nat} (hj:j<ncol t) (hi':i≤t.length):(-400000000000000≤colW t lo hi j i∧colW t lo hi j i≤400000000000000)∧(∀i,i<t.length→-100000000000000≤(vI lo i - vI hi i)*vI (rowN t i) j∧(vI lo i - vI hi i)*vI (rowN t i) j≤100000000000000):=by
  obtain⟨_,_,h1,h2,_⟩:=zbQ h
  have hb:∀i,i<t.length→-100000000000000≤(vI lo i - vI hi i)*vI (rowN t i) j∧(vI lo i - vI hi i)*vI (rowN t i) j≤100000000000000:=fun i hi=>by
    have q1:=zex (h1 i hi) (hg.vals i j hi hj)
    have q2:=zex (h2 i hi) (hg.vals i j hi hj)
    rw[Int.sub_mul]
    omega
  refine⟨?_,hb⟩
  have:=zmj (f:=fun i=>(vI lo i - vI hi i)*vI (rowN t i) j) (B:=100000000000000) i fun k hk=>hb k (by omega)
  have hl:=hg.le
  unfold colW
  omega
theorem zjV {l:List Int} {n:Nat} (hl:l.length=n) (hn:n≤4) (h:∀i,i<n→0≤vI l i∧vI l i≤1000000000000):(0≤sumI l∧sumI l≤4000000000000)∧pSum l:=by
  have:=zmk (f:=fun i=>vI l i) (B:=1000000000000) n fun i hi=>h i hi
  refine⟨?_,by omega,fun i hi=>?_⟩
  · unfold sumI;rw[hl];omega
  · have:=h i (by omega);omega
theorem zgX {t:List (List Int)} {cap d:Int} {lo hi cs:List Int} (hg:goodT t cap) (h:wtE0 t.length (ncol t) d lo hi cs=0):(0≤sumI hi*cap∧sumI hi*cap≤4000000000000000)∧(0≤sumI cs∧sumI cs≤4000000000000)∧(pSum lo∧pSum hi∧pSum cs)∧0≤sumI lo∧sumI lo≤4000000000000:=by
  obtain⟨_,⟨l1,l2,l3⟩,h1,h2,h3⟩:=zbQ h
  have q0:=zjV l1 hg.le h1
  have q1:=zjV l2 hg.le h2
  have q2:=zjV l3 (by have:=hg.cle;omega) h3
  have q3:=zex q1.1 hg.cap0
  exact⟨by omega,q2.1,⟨q0.2,q1.2,q2.2⟩,q0.1⟩
theorem wt_a {m n:Nat} {d:Int} {lo hi cs:List Int} (a:(lo.length:Int)=(m:Int)) (b:(hi.length:Int)=(m:Int)):zaT [bif zan d 1 1000000000000 then 0 else 2,bif decide ((cs.length:Int)=(n:Int)) then 0 else 10,allE lo 1000000000000,allE hi 1000000000000,allE cs 1000000000000]=wtE0 m n d lo hi cs:=by
  simp only[zaT,wtE0]
  by_cases h1:1≤d∧d≤1000000000000
  · rw [if_pos h1,show zan d 1 1000000000000=true from decide_eq_true h1]
    show (if (0:Int)=0 then _ else _)=_
    rw[if_pos rfl]
    by_cases c:cs.length=n
    · rw [if_pos (show lo.length=m∧hi.length=m∧cs.length=n from ⟨by omega,by omega,c⟩),decide_eq_true (show (cs.length:Int)=(n:Int) by omega)]
      show (if (0:Int)=0 then _ else _)=_
      rw[if_pos rfl]
      have e1:=zlk (l:=lo) (m:=1000000000000)
      have e2:=zlk (l:=hi) (m:=1000000000000)
      by_cases h3:allE lo 1000000000000=0
      · rw [if_pos h3,if_pos h3]
        by_cases h4:allE hi 1000000000000=0
        · rw[if_pos h4,if_pos h4]
          split
          · rename_i h;exact h.symm
          · rfl
        · rw[if_neg h4,if_neg h4]
          rcases e2 with e|e
          · exact absurd e h4
          · exact e
      · rw[if_neg h3,if_neg h3]
        rcases e1 with e|e
        · exact absurd e h3
        · exact e
    · rw[if_neg (fun h:lo.length=m∧hi.length=m∧cs.length=n=>c h.2.2),decide_eq_false (show ¬(cs.length:Int)=(n:Int) by omega)];rfl
  · rw[if_neg h1,show zan d 1 1000000000000=false from decide_eq_false h1];rfl
theorem wt_b {m n:Nat} {d x y z:Int} {lo hi cs:List Int} (a:¬((lo.length:Int)=(m:Int)∧(hi.length:Int)=(m:Int))):zaT [bif zan d 1 1000000000000 then 0 else 2,bif false then 0 else 10,x,y,z]=wtE0 m n d lo hi cs:=by
  simp only[zaT,wtE0]
  by_cases h1:1≤d∧d≤1000000000000
  · rw[if_pos h1,show zan d 1 1000000000000=true from decide_eq_true h1,if_neg (fun h:lo.length=m∧hi.length=m∧cs.length=n=>a ⟨by omega,by omega⟩)];rfl
  · rw[if_neg h1,show zan d 1 1000000000000=false from decide_eq_false h1];rfl
theorem zqQ {x:Int} {r:List Int}:¬zaT (x::(bif false then 0 else 10)::r)=0:=by
  simp only[zaT]
  split
  · exact fun h=>by cases h
  · assumption
theorem zqa {t:List (List Int)} {cap d:Int} {lo hi cs:List Int} (h:¬wtE0 t.length (ncol t) d lo hi cs=0):wtR t cap d lo hi cs=((0,0,()),wtE0 t.length (ncol t) d lo hi cs,()):=by
  have e:wtE t d lo hi cs=wtE0 t.length (ncol t) d lo hi cs:=if_neg h
  unfold wtR;rw[e,if_neg h]
theorem zrl {t:List (List Int)} {cap d:Int} {lo hi cs:List Int} (h:wtE0 t.length (ncol t) d lo hi cs=0) (h2:¬(sumI lo=d∧okW t lo hi cs (ncol t)=true)):wtR t cap d lo hi cs=((0,0,()),20,()):=by
  have e:wtE t d lo hi cs=20:=by
    unfold wtE;rw[if_pos h]
    by_cases e1:sumI lo=d
    · rw[if_pos e1,if_neg fun e2=>h2 ⟨e1,e2⟩]
    · rw[if_neg e1]
  unfold wtR;rw[e];rfl
theorem zsQ {t:List (List Int)} {cap d:Int} {lo hi cs:List Int} (h:wtE0 t.length (ncol t) d lo hi cs=0) (h2:sumI lo=d) (h3:okW t lo hi cs (ncol t)=true):wtR t cap d lo hi cs=(wtV cap d hi cs,0,()):=by
  have e:wtE t d lo hi cs=0:=by unfold wtE;rw[if_pos h,if_pos h2,if_pos h3]
  unfold wtR;rw[e];rfl
def cwA1 (t:List (List Int)) (lo hi cs:List Int):LoopAnn:={σ:=Nat,pat:=fun k=>[sI 78 k],inv:=fun k=>k≤cs.length∧okW t lo hi cs k=true,meas:=fun k=>cs.length - k}
def cwA2 (t:List (List Int)) (lo hi:List Int) (st:St):LoopAnn:=zlm 78 st fun j=>{σ:=Nat,pat:=fun i=>[sI 86 i,sI 11 (colW t lo hi j.toNat i)],inv:=fun i=>i≤t.length,meas:=fun i=>t.length - i}
theorem h64:Ok 36 zmq:=by
  refine mk (ctr:=[(26,zlp),(21,zfH),(23,zbV),(24,zci),(30,zoy),(33,sLow),(52,sSum)]) ⟨h65,h73,h85,h88,h104,h107,h124,trivial⟩ (nt:=128) Try.func36 rfl rfl rfl rfl (by kernel_rfl) (by kernel_rfl) (fun x=>[fun _=>cwA1 x.1.1 x.2.1.2.1 x.2.1.2.2.1 x.2.1.2.2.2.1,cwA2 x.1.1 x.2.1.2.1 x.2.1.2.2.1]) ?_
  rintro⟨⟨(t:List (List Int)),(cap:Int),⟨⟩⟩,⟨(d:Int),(lo:List Int),(hi:List Int),(cs:List Int),⟨⟩⟩,⟨⟩⟩ ⟨(hp1:pLen lo.length),(hp2:pLen hi.length),(hp3:pLen cs.length)⟩
  repeat' (intro hzz;(try (rename Two=>hq;cases hq));(try dsimp only at hzz);(try simp only[zad,zac,eqD,inR,big,zab,zB] at hzz);(try simp only[zad,zac,eqD,inR,big,zab,zB,zbO,zcl,zaP,Int.toNat_natCast] at hzz);(try (exact absurd (by assumption:zaT [bif zan d 1 1000000000000 then 0 else 2,bif false then 0 else 10,allE lo 1000000000000,allE hi 1000000000000,allE cs 1000000000000]=0) zqQ));(try (revert hzz;intro _)))
  all_goals try (rename Unit=>hq;clear hq)
  all_goals try ((with_reducible refine Held.mk ?_);(with_reducible (first|refine Frz.mk ?_|refine And.intro (Frz.mk ?_) ?_|refine And.intro ?_ (Frz.mk ?_)));repeat' first|exact True.intro|(change _=_;with_reducible rfl)|refine And.intro ?_ ?_|(with_reducible refine Frz.mk ?_))
  all_goals try (refine Held.mk ?_;(try dsimp only at *);(try simp only[zad,zac,eqD,inR,big,zab,zB] at *);(try simp only[zad,zac,eqD,inR,big,zab,zB,zbO,zcl,zaP,Int.toNat_natCast] at *))
  all_goals try omega
  all_goals try (have hg:=zds (by assumption:chkT t cap=0);have g1:=hg.pos;have g2:=hg.le;have g3:=hg.cap0)
  · rename_i h
    rw[show wtRA t cap d lo hi cs=_ from if_neg h];exact⟨⟨rfl,rfl⟩,rfl⟩
  all_goals try with_reducible exact hp1
  all_goals try with_reducible exact hp2
  all_goals try with_reducible exact hp3
  all_goals try omega
  all_goals try (show ((5:Nat):Int)≤4611686018427387904;decide)
  all_goals try have hc3:=hg.cle
  · rename_i h0 h1 h2 h
    have e:=wt_a (n:=ncol t) (d:=d) (cs:=cs) h1 h2
    have h3:¬wtE0 t.length (ncol t) d lo hi cs=0:=fun q=>h (e.trans q)
    rw[show wtRA t cap d lo hi cs=_ from if_pos h0,zqa h3];exact⟨⟨rfl,rfl⟩,e⟩
  · rename_i h0 h1 h2 h
    have hW:wtE0 t.length (ncol t) d lo hi cs=0:=(wt_a (n:=ncol t) (d:=d) (cs:=cs) h1 h2).symm.trans h
    obtain⟨w1,⟨w2,w3,w4⟩,w5,w6,w7⟩:=zbQ hW
    exact (zgX hg hW).2.2.1.1
  · rename_i h0 h1 h2 h hs
    have hW:wtE0 t.length (ncol t) d lo hi cs=0:=(wt_a (n:=ncol t) (d:=d) (cs:=cs) h1 h2).symm.trans h
    obtain⟨w1,⟨w2,w3,w4⟩,w5,w6,w7⟩:=zbQ hW
    rw[show wtRA t cap d lo hi cs=_ from if_pos h0,zrl hW (fun q=>hs q.1)];exact⟨⟨rfl,rfl⟩,rfl⟩
  · rename_i h0 h1 h2 h hs
    refine zaq.mk ?_
    refine Exists.intro (0:Nat) ?_
    refine And.intro (Leaf.mk ?_) ?_
    · repeat' first|exact True.intro|refine And.intro ?_ ?_
      all_goals try ((change _=_<;>try dsimp only)<;>try with_reducible rfl)
      all_goals try omega
      all_goals (first|rfl|exact (decide_eq_true h2).symm|exact (decide_eq_true h1).symm|exact decide_eq_true h2|exact decide_eq_true h1)
    exact⟨Nat.zero_le _,rfl⟩
  · rename_i h0 h1 h2 h hs k hk hlt
    refine zaq.mk ?_
    refine Exists.intro (0:Nat) ?_
    refine And.intro (Leaf.mk ?_) ?_
    · repeat' first|exact True.intro|refine And.intro ?_ ?_
      all_goals try ((change _=_<;>try dsimp only)<;>try with_reducible rfl)
      all_goals try omega
      all_goals (first|rfl|exact (decide_eq_true h2).symm|exact (decide_eq_true h1).symm|exact decide_eq_true h2|exact decide_eq_true h1)
    exact Nat.zero_le _
  · rename_i h0 h1 h2 h hs k hk hlt i hi' hit
    have hW:wtE0 t.length (ncol t) d lo hi cs=0:=(wt_a (n:=ncol t) (d:=d) (cs:=cs) h1 h2).symm.trans h
    obtain⟨w1,⟨w2,w3,w4⟩,w5,w6,w7⟩:=zbQ hW
    have q1:=w5 i (by omega)
    have q2:=w6 i (by omega)
    show -9223372036854775808≤vI lo i - vI hi i∧vI lo i - vI hi i≤9223372036854775807
    omega
  · rename_i h0 h1 h2 h hs k hk hlt i hi' hit
    have hW:wtE0 t.length (ncol t) d lo hi cs=0:=(wt_a (n:=ncol t) (d:=d) (cs:=cs) h1 h2).symm.trans h
    obtain⟨w1,⟨w2,w3,w4⟩,w5,w6,w7⟩:=zbQ hW
    have e:(rowN t i).length=ncol t:=hg.rows i (by omega)
    show 0≤(k:Int)∧(k:Int)<((rowN t i).length:Int)
    omega
  · rename_i h0 h1 h2 h hs k hk hlt i hi' hit
    have hW:wtE0 t.length (ncol t) d lo hi cs=0:=(wt_a (n:=ncol t) (d:=d) (cs:=cs) h1 h2).symm.trans h
    obtain⟨w1,⟨w2,w3,w4⟩,w5,w6,w7⟩:=zbQ hW
    have q:=(znR hg hW (j:=k) (i:=0) (by omega) (by omega)).2 i (by omega)
    exact⟨Int.le_trans (by decide) q.1,Int.le_trans q.2 (by decide)⟩
  · rename_i h0 h1 h2 h hs k hk hlt i hi' hit
    have hW:wtE0 t.length (ncol t) d lo hi cs=0:=(wt_a (n:=ncol t) (d:=d) (cs:=cs) h1 h2).symm.trans h
    obtain⟨w1,⟨w2,w3,w4⟩,w5,w6,w7⟩:=zbQ hW
    have q:=(znR hg hW (j:=k) (i:=i+1) (by omega) (by omega)).1
    exact⟨Int.le_trans (by decide) q.1,Int.le_trans q.2 (by decide)⟩
  · rename_i h0 h1 h2 h hs k hk hlt i hi' hit
    refine zaq.mk ?_
    refine Exists.intro (i+1) ?_
    refine And.intro (Leaf.mk ?_) ?_
    · repeat' first|exact True.intro|refine And.intro ?_ ?_
      all_goals try ((change _=_<;>try dsimp only)<;>try with_reducible rfl)
      all_goals try omega
      all_goals (first|rfl|exact (decide_eq_true h2).symm|exact (decide_eq_true h1).symm|exact decide_eq_true h2|exact decide_eq_true h1)
    exact⟨(show i+1≤t.length by omega),(show t.length - (i+1)<t.length - i by omega)⟩
  · rename_i h0 h1 h2 h hs k hk hlt i hi' hit hm
    have hW:wtE0 t.length (ncol t) d lo hi cs=0:=(wt_a (n:=ncol t) (d:=d) (cs:=cs) h1 h2).symm.trans h
    obtain⟨w1,⟨w2,w3,w4⟩,w5,w6,w7⟩:=zbQ hW
    rw[show i=t.length by omega] at hm
    have hno:okW t lo hi cs (ncol t)=false:=zpP (k:=k) hm _ (by omega)
    rw[show wtRA t cap d lo hi cs=_ from if_pos h0,zrl hW (fun q=>by rw[hno] at q;cases q.2)];exact⟨⟨rfl,rfl⟩,rfl⟩
  · rename_i h0 h1 h2 h hs k hk hlt i hi' hit hm
    have hW:wtE0 t.length (ncol t) d lo hi cs=0:=(wt_a (n:=ncol t) (d:=d) (cs:=cs) h1 h2).symm.trans h
    obtain⟨w1,⟨w2,w3,w4⟩,w5,w6,w7⟩:=zbQ hW
    omega
  · rename_i h0 h1 h2 h hs k hk hlt i hi' hit hm
    rw[show i=t.length by omega] at hm
    have hm:colW t lo hi k t.length≤vI cs k:=hm
    refine zaq.mk ?_
    refine Exists.intro (k+1) ?_
    refine And.intro (Leaf.mk ?_) ?_
    · repeat' first|exact True.intro|refine And.intro ?_ ?_
      all_goals try ((change _=_<;>try dsimp only)<;>try with_reducible rfl)
      all_goals try omega
      all_goals (first|rfl|exact (decide_eq_true h2).symm|exact (decide_eq_true h1).symm|exact decide_eq_true h2|exact decide_eq_true h1)
    exact⟨⟨(show k+1≤cs.length by omega),(show (okW t lo hi cs k&&decide (colW t lo hi k t.length≤vI cs k))=true by rw[hk.2,decide_eq_true hm];rfl)⟩,(show cs.length - (k+1)<cs.length - k by omega)⟩
  · rename_i h0 h1 h2 h hs k hk hlt
    have hW:wtE0 t.length (ncol t) d lo hi cs=0:=(wt_a (n:=ncol t) (d:=d) (cs:=cs) h1 h2).symm.trans h
    obtain⟨w1,⟨w2,w3,w4⟩,w5,w6,w7⟩:=zbQ hW
    exact (zgX hg hW).2.2.1.2.1
  · rename_i h0 h1 h2 h hs k hk hlt
    have hW:wtE0 t.length (ncol t) d lo hi cs=0:=(wt_a (n:=ncol t) (d:=d) (cs:=cs) h1 h2).symm.trans h
    obtain⟨w1,⟨w2,w3,w4⟩,w5,w6,w7⟩:=zbQ hW
    have:=(zgX hg hW).1
    omega
  · rename_i h0 h1 h2 h hs k hk hlt
    have hW:wtE0 t.length (ncol t) d lo hi cs=0:=(wt_a (n:=ncol t) (d:=d) (cs:=cs) h1 h2).symm.trans h
    obtain⟨w1,⟨w2,w3,w4⟩,w5,w6,w7⟩:=zbQ hW
    exact (zgX hg hW).2.2.1.2.2
  · rename_i h0 h1 h2 h hs k hk hlt
    have hW:wtE0 t.length (ncol t) d lo hi cs=0:=(wt_a (n:=ncol t) (d:=d) (cs:=cs) h1 h2).symm.trans h
    obtain⟨w1,⟨w2,w3,w4⟩,w5,w6,w7⟩:=zbQ hW
    have:=zgX hg hW
    omega
  · rename_i h0 h1 h2 h hs k hk hlt
    have hW:wtE0 t.length (ncol t) d lo hi cs=0:=(wt_a (n:=ncol t) (d:=d) (cs:=cs) h1 h2).symm.trans h
    obtain⟨w1,⟨w2,w3,w4⟩,w5,w6,w7⟩:=zbQ hW
    have:=zgX hg hW
    exact⟨by omega,by omega,by omega⟩
  · rename_i h0 h1 h2 h hs k hk hlt
    have hW:wtE0 t.length (ncol t) d lo hi cs=0:=(wt_a (n:=ncol t) (d:=d) (cs:=cs) h1 h2).symm.trans h
    obtain⟨w1,⟨w2,w3,w4⟩,w5,w6,w7⟩:=zbQ hW
    have e:=hk.2
    rw[show k=ncol t by omega] at e
    rw[show wtRA t cap d lo hi cs=_ from if_pos h0,zsQ hW hs e];exact⟨⟨rfl,rfl⟩,rfl⟩
  · rename_i h0 h1 h2 h
    have e:=wt_b (m:=t.length) (n:=ncol t) (d:=d) (lo:=lo) (hi:=hi) (cs:=cs) (x:=allE lo 1000000000000) (y:=allE hi 1000000000000) (z:=allE cs 1000000000000) (fun q=>h2 q.2)
    have h3:¬wtE0 t.length (ncol t) d lo hi cs=0:=fun q=>h (e.trans q)
    rw[show wtRA t cap d lo hi cs=_ from if_pos h0,zqa h3];exact⟨⟨rfl,rfl⟩,e⟩
  · rename_i h0 h1 h
    have e:=wt_b (m:=t.length) (n:=ncol t) (d:=d) (lo:=lo) (hi:=hi) (cs:=cs) (x:=allE lo 1000000000000) (y:=allE hi 1000000000000) (z:=allE cs 1000000000000) (fun q=>h1 q.1)
    have h3:¬wtE0 t.length (ncol t) d lo hi cs=0:=fun q=>h (e.trans q)
    rw[show wtRA t cap d lo hi cs=_ from if_pos h0,zqa h3];exact⟨⟨rfl,rfl⟩,e⟩
/-! ### Lowest terms -/
def lowA (a b:Int):Int:=Int.tdiv a (gcd2 a b)
def lowC (a b:Int):Int:=Int.tdiv b (gcd2 a b)
theorem zoO {a b:Int} (hb:0<b):∃g,0<g∧a=lowA a b*g∧b=lowC a b*g∧0<lowC a b:=by
  obtain⟨g,h0,h1,h2,h3⟩:=@zon a b
  have hg:=zoY (a:=a) hb
  rw[h1] at hg
  have e1:lowA a b=Int.tdiv a g:=by unfold lowA;rw[h1]
  have e2:lowC a b=Int.tdiv b g:=by unfold lowC;rw[h1]
  refine⟨g,hg,by rw[e1];exact h2,by rw[e2];exact h3,?_⟩
  rw[e2]
  refine Int.not_le.1 fun h=>?_
  have:=Int.mul_le_mul_of_nonneg_right h h0
  rw[Int.zero_mul] at this
  omega
theorem zpU {a b:Int} {A B:Int} (h1 : -A≤a∧a≤A) (hb:0<b∧b≤B):(-A≤lowA a b∧lowA a b≤A)∧0<lowC a b∧lowC a b≤B:=by
  obtain⟨g,hg,e1,e2,h0⟩:=zoO (a:=a) hb.1
  generalize lowA a b=x at *
  generalize lowC a b=y at *
  have k1:y*1≤y*g:=Int.mul_le_mul_of_nonneg_left (by omega) (by omega)
  refine⟨?_,h0,by omega⟩
  rcases Int.le_total 0 x with hx|hx
  · have k2:x*1≤x*g:=Int.mul_le_mul_of_nonneg_left (by omega) hx
    have k3:0≤x*g:=Int.mul_nonneg hx (by omega)
    omega
  · have k2:(-x)*1≤(-x)*g:=Int.mul_le_mul_of_nonneg_left (by omega) (by omega)
    simp only[Int.neg_mul,Int.mul_one] at k2
    have k3:0≤(-x)*g:=Int.mul_nonneg (by omega) (by omega)
    rw[Int.neg_mul] at k3
    omega
/-! ### No value is greater than a bound -/
theorem zqz {xs : List Int}:∀ {k i:Nat},i≤k→mn xs k≤vI xs i
  | 0, i, h => by obtain rfl:i=0:=by omega
                  exact Int.le_refl _
  | k + 1,i,h=>by
    simp only[mn]
    by_cases e:i=k+1
    · subst e;split
      · exact Int.le_refl _
      · rename_i h1;exact Int.not_lt.1 h1
    · have:=zqz (xs:=xs) (k:=k) (i:=i) (by omega)
      split<;>omega
theorem weak {t:List (List Int)} {cap d D:Int} {l lo hi cs:List Int} (hg:goodT t cap) (ho:opE t cap d l=0) (hw:wtE t D lo hi cs=0) :
    mn (gets t l t.length) (t.length - 1)*D≤(sumI hi*cap+sumI cs)*d:=by
  obtain⟨o1,o2⟩:=zoI ho
  obtain⟨p1,p2,p3⟩:=zhs o1
  obtain⟨w1,w2,w3⟩:=zog hw
  obtain⟨q1,⟨q2,q3,q4⟩,q5,q6,q7⟩:=zbQ w1
  obtain⟨V,hV⟩:∃V,V=mn (gets t l t.length) (t.length - 1):=⟨_,rfl⟩
  rw[←hV]
  have g1:=hg.pos
  have hget:∀i,i<t.length→V≤dotI (rowN t i) l∧dotI (rowN t i) l≤cap*d:=fun i hi=>by
    have h1:=zqz (xs:=gets t l t.length) (k:=t.length - 1) (i:=i) (by omega)
    rw[zd8 hi,←hV] at h1
    have h2:=zqx.1 o2 i (by omega)
    rw[zd8 hi] at h2
    exact⟨h1,h2⟩
  have hdot:∀i,i<t.length→dotI (rowN t i) l=sm (fun j=>vI (rowN t i) j*vI l j) (ncol t):=fun i hi=>by unfold dotI;rw[hg.rows i hi]
  -- V D is at most the sum of lo times what the seats get
  have s1:V*D≤sm (fun i=>vI lo i*dotI (rowN t i) l) t.length:=by
    rw[←w2,Int.mul_comm]
    unfold sumI
    rw[q2,←zch]
    exact zh6 _ fun i hi=>Int.mul_le_mul_of_nonneg_left (hget i hi).1 (q5 i hi).1
  have s2:sm (fun i=>vI lo i*dotI (rowN t i) l) t.length=sm (fun i=>(vI lo i - vI hi i)*dotI (rowN t i) l) t.length+sm (fun i=>vI hi i*dotI (rowN t i) l) t.length:=by
    rw[←zml]
    exact zar _ fun i _=>by rw[←Int.add_mul];congr 1;omega
  have s3:sm (fun i=>(vI lo i - vI hi i)*dotI (rowN t i) l) t.length=sm (fun j=>colW t lo hi j t.length*vI l j) (ncol t):=by
    rw [zar (g:=fun i=>sm (fun j=>(vI lo i - vI hi i)*vI (rowN t i) j*vI l j) (ncol t)) t.length (fun i hi'=>by
      show (vI lo i - vI hi i)*dotI (rowN t i) l=_
      rw[hdot i hi',←zkN];exact zar _ fun j _=>(Int.mul_assoc _ _ _).symm),zj0]
    exact zar _ fun j _=>by
      show sm (fun i=>(vI lo i - vI hi i)*vI (rowN t i) j*vI l j) t.length=_
      rw[zch];rfl
  have s4:sm (fun j=>colW t lo hi j t.length*vI l j) (ncol t)≤sm (fun j=>vI cs j) (ncol t)*d:=by
    rw[←zch]
    refine zh6 _ fun j hj=>?_
    have h1:=p3 j (by omega)
    have h2:=zmS w3 j hj
    have h3:=q7 j hj
    exact Int.le_trans (Int.mul_le_mul_of_nonneg_right h2 h1.1) (Int.mul_le_mul_of_nonneg_left h1.2 h3.1)
  have s5:sm (fun i=>vI hi i*dotI (rowN t i) l) t.length≤sm (fun i=>vI hi i) t.length*(cap*d):=by
    rw[←zch]
    exact zh6 _ fun i hi'=>Int.mul_le_mul_of_nonneg_left (hget i hi').2 (q6 i hi').1
  have s6:(sumI hi*cap+sumI cs)*d=sm (fun i=>vI hi i) t.length*(cap*d)+sm (fun j=>vI cs j) (ncol t)*d:=by
    unfold sumI;rw[q3,q4,Int.add_mul,Int.mul_assoc]
  rw[s6]
  omega
/-! ### Levels -/
def lvE (n:Int):Int:=if 0≤n∧n≤1000 then 0 else 2
@[reducible] def sLvE:Spec:={pats:=[.dat I64],res:=[{t:=I64}],pre:=fun _=>True,f:=fun x=>(lvE x.1,())}
theorem h114:Ok 29 sLvE:=by
  refine mk (ctr:=[(23,zbV),(24,zci)]) ⟨h85,h88,trivial⟩ (nt:=6) Try.func29 rfl rfl rfl rfl (by kernel_rfl) (by kernel_rfl) (fun _=>[]) ?_
  rintro⟨(n:Int),⟨⟩⟩ _
  repeat' (intro hzz;(try (rename Two=>hq;cases hq));(try dsimp only at hzz);(try simp only[zad,zac,eqD,inR,big,zab,zB] at hzz);(try simp only[zad,zac,eqD,inR,big,zab,zB,zan] at hzz);(try (revert hzz;intro _)))
  all_goals try (rename Unit=>hq;clear hq)
  all_goals try ((with_reducible refine Held.mk ?_);(with_reducible (first|refine Frz.mk ?_|refine And.intro (Frz.mk ?_) ?_|refine And.intro ?_ (Frz.mk ?_)));repeat' first|exact True.intro|(change _=_;with_reducible rfl)|refine And.intro ?_ ?_|(with_reducible refine Frz.mk ?_))
  all_goals try (refine Held.mk ?_;(try dsimp only at *);(try simp only[zad,zac,eqD,inR,big,zab,zB] at *);(try simp only[zad,zac,eqD,inR,big,zab,zB,zan] at *))
  all_goals (simp only[lvE];split<;>first|rfl|(rw[decide_eq_true (by omega)];rfl)|(rw[decide_eq_false (by omega)];rfl))
def wtV1 (cap d:Int) (hi cs:List Int):Int:=lowA (sumI hi*cap+sumI cs) d
def wtV2 (cap d:Int) (hi cs:List Int):Int:=lowC (sumI hi*cap+sumI cs) d
def opV1 (t:List (List Int)) (d:Int) (l:List Int):Int:=lowA (mn (gets t l t.length) (t.length - 1)) d
def opV2 (t:List (List Int)) (d:Int) (l:List Int):Int:=lowC (mn (gets t l t.length) (t.length - 1)) d
def crR (t:List (List Int)) (cap n d:Int) (lo hi cs:List Int):Int:=
  if chkT t cap=0 then (if lvE n=0 then (if wtE t d lo hi cs=0 then (if wtV1 cap d hi cs<n*wtV2 cap d hi cs then 0 else 20) else wtE t d lo hi cs) else lvE n) else chkT t cap
@[reducible] def zms:Spec:={pats:=[.dat zhh,.dat I64,.dat zdB],res:=[{t:=I64}],pre:=fun x=>pW3 (List.length (α:=Int) x.2.2.1.2.1) (List.length (α:=Int) x.2.2.1.2.2.1) (List.length (α:=Int) x.2.2.1.2.2.2.1),f:=fun x=>(crR x.1.1 x.1.2.1 x.2.1 x.2.2.1.1 x.2.2.1.2.1 x.2.2.1.2.2.1 x.2.2.1.2.2.2.1,())}
theorem zsR {t:List (List Int)} {cap d:Int} {lo hi cs:List Int} (h:wtE t d lo hi cs=0):wtR t cap d lo hi cs=((wtV1 cap d hi cs,wtV2 cap d hi cs,()),0,()):=if_pos h
theorem zsP {t:List (List Int)} {cap d:Int} {lo hi cs:List Int} (h:¬wtE t d lo hi cs=0):wtR t cap d lo hi cs=((0,0,()),wtE t d lo hi cs,()):=if_neg h
theorem zrk {t:List (List Int)} {cap d:Int} {lo hi cs:List Int} (hg:goodT t cap) (h:wtE t d lo hi cs=0):(-5000000000000000≤wtV1 cap d hi cs∧wtV1 cap d hi cs≤5000000000000000)∧0<wtV2 cap d hi cs∧wtV2 cap d hi cs≤1000000000000:=by
  have h1:=zgX hg (zog h).1
  have h2:=(zbQ (zog h).1).1
  exact zpU (by omega) (by omega)
theorem zsh {t:List (List Int)} {cap d:Int} {l:List Int} (hg:goodT t cap) (h:opE t cap d l=0):(-300000000000000≤opV1 t d l∧opV1 t d l≤300000000000000)∧0<opV2 t d l∧opV2 t d l≤1000000000000:=by
  have g1:=hg.pos
  have q:=zm7 (xs:=gets t l t.length) (A:=0) (B:=300000000000000) (k:=t.length - 1) fun i hi=>by
    rw[zd8 (by omega)];exact (znt hg (zoI h).1 (by omega)).1
  have q2:=(zhs (zoI h).1).1
  exact zpU (by omega) (by omega)
theorem h55:Ok 14 zms:=by
  refine mk (ctr:=[(36,zmq),(26,zlp),(21,zfH),(23,zbV),(29,sLvE)]) ⟨h64,h65,h73,h85,h114,trivial⟩ (nt:=36) Try.func14 rfl rfl rfl rfl (by kernel_rfl) (by kernel_rfl) (fun _=>[]) ?_
  rintro⟨⟨(t:List (List Int)),(cap:Int),⟨⟩⟩,(n:Int),⟨(d:Int),(lo:List Int),(hi:List Int),(cs:List Int),⟨⟩⟩,⟨⟩⟩ (hp:pW3 lo.length hi.length cs.length)
  have hF:zaT [chkT t cap,lvE n]=if chkT t cap=0 then lvE n else chkT t cap:=by
    simp only[zaT]
    split
    · split
      · rename_i h;exact h.symm
      · rfl
    · rfl
  by_cases h0:chkT t cap=0
  · have hg:=zds h0
    have hA:wtRA t cap d lo hi cs=wtR t cap d lo hi cs:=if_pos h0
    rw[if_pos h0] at hF
    by_cases h1:lvE n=0
    · by_cases h2:wtE t d lo hi cs=0
      · have hV:=zrk hg h2
        rw[zsR h2] at hA
        obtain⟨b1,hb1⟩:∃b1:Int,wtV1 cap d hi cs=b1:=⟨_,rfl⟩
        obtain⟨b2,hb2⟩:∃b2:Int,wtV2 cap d hi cs=b2:=⟨_,rfl⟩
        rw[hb1,hb2] at hV hA
        have hn:0≤n∧n≤1000:=by
          unfold lvE at h1;split at h1
          · assumption
          · cases h1
        have hm:=zex hn (show 0≤b2∧b2≤1000000000000 by omega)
        have e:crR t cap n d lo hi cs=bif decide (b1<n*b2) then 0 else 20:=by
          unfold crR;rw[if_pos h0,if_pos h1,if_pos h2,hb1,hb2]
          by_cases q:b1<n*b2
          · rw[if_pos q,decide_eq_true q];rfl
          · rw[if_neg q,decide_eq_false q];rfl
        have hF2:zaT [0,lvE n]=0:=by rw[h0] at hF;rw[hF,h1]
        repeat' (intro hzz;(try (rename Two=>hq;cases hq));(try dsimp only at hzz);(try simp only[zad,zac,eqD,inR,big,zab,zB] at hzz);(try simp only[zad,zac,eqD,inR,big,zab,zB,hF2,hA,h0,h1,h2] at hzz);(try (first|contradiction|(exfalso;omega)));(try (revert hzz;intro _)))
        all_goals try (rename Unit=>hq;clear hq)
        all_goals try ((with_reducible refine Held.mk ?_);(with_reducible (first|refine Frz.mk ?_|refine And.intro (Frz.mk ?_) ?_|refine And.intro ?_ (Frz.mk ?_)));repeat' first|exact True.intro|(change _=_;with_reducible rfl)|refine And.intro ?_ ?_|(with_reducible refine Frz.mk ?_))
        all_goals try (refine Held.mk ?_;(try dsimp only at *);(try simp only[zad,zac,eqD,inR,big,zab,zB] at *);(try simp only[zad,zac,eqD,inR,big,zab,zB,hF2,hA,h0,h1,h2] at *))
        all_goals try omega
        all_goals first|exact hp|(show ((2:Nat):Int)≤4611686018427387904;decide)|exact e.symm|trace_state
      · have e:crR t cap n d lo hi cs=wtE t d lo hi cs:=by
          unfold crR;rw[if_pos h0,if_pos h1,if_neg h2]
        rw[zsP h2] at hA
        have hF2:zaT [0,lvE n]=0:=by rw[h0] at hF;rw[hF,h1]
        repeat' (intro hzz;(try (rename Two=>hq;cases hq));(try dsimp only at hzz);(try simp only[zad,zac,eqD,inR,big,zab,zB] at hzz);(try simp only[zad,zac,eqD,inR,big,zab,zB,hF2,hA,h0,h1,h2,e] at hzz);(try (first|contradiction|(exfalso;omega)));(try (revert hzz;intro _)))
        all_goals try (rename Unit=>hq;clear hq)
        all_goals try ((with_reducible refine Held.mk ?_);(with_reducible (first|refine Frz.mk ?_|refine And.intro (Frz.mk ?_) ?_|refine And.intro ?_ (Frz.mk ?_)));repeat' first|exact True.intro|(change _=_;with_reducible rfl)|refine And.intro ?_ ?_|(with_reducible refine Frz.mk ?_))
        all_goals try (refine Held.mk ?_;(try dsimp only at *);(try simp only[zad,zac,eqD,inR,big,zab,zB] at *);(try simp only[zad,zac,eqD,inR,big,zab,zB,hF2,hA,h0,h1,h2,e] at *))
        all_goals try omega
        all_goals first|exact hp|(show ((2:Nat):Int)≤4611686018427387904;decide)|exact e.symm|trace_state
    · have e:crR t cap n d lo hi cs=lvE n:=by
        unfold crR;rw[if_pos h0,if_neg h1]
      have hF2:zaT [0,lvE n]=lvE n:=by rw[h0] at hF;exact hF
      repeat' (intro hzz;(try (rename Two=>hq;cases hq));(try dsimp only at hzz);(try simp only[zad,zac,eqD,inR,big,zab,zB] at hzz);(try simp only[zad,zac,eqD,inR,big,zab,zB,hF2,h0,h1,e] at hzz);(try (first|contradiction|(exfalso;omega)));(try (revert hzz;intro _)))
      all_goals try (rename Unit=>hq;clear hq)
      all_goals try ((with_reducible refine Held.mk ?_);(with_reducible (first|refine Frz.mk ?_|refine And.intro (Frz.mk ?_) ?_|refine And.intro ?_ (Frz.mk ?_)));repeat' first|exact True.intro|(change _=_;with_reducible rfl)|refine And.intro ?_ ?_|(with_reducible refine Frz.mk ?_))
      all_goals try (refine Held.mk ?_;(try dsimp only at *);(try simp only[zad,zac,eqD,inR,big,zab,zB] at *);(try simp only[zad,zac,eqD,inR,big,zab,zB,hF2,h0,h1,e] at *))
      all_goals try omega
      all_goals first|exact hp|(show ((2:Nat):Int)≤4611686018427387904;decide)|exact e.symm|trace_state
  · have e:crR t cap n d lo hi cs=chkT t cap:=by
      unfold crR;rw[if_neg h0]
    rw[if_neg h0] at hF
    repeat' (intro hzz;(try (rename Two=>hq;cases hq));(try dsimp only at hzz);(try simp only[zad,zac,eqD,inR,big,zab,zB] at hzz);(try simp only[zad,zac,eqD,inR,big,zab,zB,hF,h0,e] at hzz);(try (first|contradiction|(exfalso;omega)));(try (revert hzz;intro _)))
    all_goals try (rename Unit=>hq;clear hq)
    all_goals try ((with_reducible refine Held.mk ?_);(with_reducible (first|refine Frz.mk ?_|refine And.intro (Frz.mk ?_) ?_|refine And.intro ?_ (Frz.mk ?_)));repeat' first|exact True.intro|(change _=_;with_reducible rfl)|refine And.intro ?_ ?_|(with_reducible refine Frz.mk ?_))
    all_goals try (refine Held.mk ?_;(try dsimp only at *);(try simp only[zad,zac,eqD,inR,big,zab,zB] at *);(try simp only[zad,zac,eqD,inR,big,zab,zB,hF,h0,e] at *))
    all_goals try omega
    all_goals first|exact hp|(show ((2:Nat):Int)≤4611686018427387904;decide)|exact e.symm|trace_state
end Go.Eng.Ar
namespace Go.Eng.Ar
open Go.Eng Go.Proofs Go.Eng.LP
set_option linter.all false
set_option maxRecDepth 100000
set_option maxHeartbeats 4000000
/-! ### Determinants of rows of small numbers -/
def sqB (X:Int) (N:Nat) (rows:List (List Int)):Prop:=rows.length=N∧∀r∈rows,r.length=N∧∀x∈r,-X≤x∧x≤X
def detX (X:Int):Nat→Int
  | 0=>1
  | n+1=>(n+1)*(X*detX X n)
theorem zot {X:Int} {N k:Nat} {rows:List (List Int)} (h:sqB X (N+1) rows) (hk:k<N+1):sqB X N (zaH 0 k 0 rows):=by
  obtain⟨h1,h2⟩:=h
  cases rows with
  | nil=>simp at h1
  | cons r t=>
    have e:zaH 0 k 0 (r::t)=t.map (zaW k 0):=by
      simp only[zaH,Int.natCast_zero,if_true]
      exact zcT k t 0
    rw[e]
    refine⟨by simp at h1 ⊢;omega,fun q hq=>?_⟩
    obtain⟨p,hp,rfl⟩:=List.mem_map.1 hq
    obtain⟨h3,h4⟩:=h2 p (List.mem_cons_of_mem _ hp)
    exact⟨by rw[zeB,if_pos (by omega)];omega,fun x hx=>h4 x (zdu _ _ _ _ hx)⟩
theorem zmb {X:Int} {f:List (List Int)→Int} {rows:List (List Int)} {N:Nat} {B:Int} (hf:∀k:Nat,k<N→-B≤f (zaH 0 k 0 rows)∧f (zaH 0 k 0 rows)≤B) :
    ∀(l:List Int) (sign:Int) (k:Nat),(sign=1∨sign = -1)→k+l.length≤N→(∀x∈l,-X≤x∧x≤X)→-(l.length*(X*B))≤sumD f rows sign k l∧sumD f rows sign k l≤l.length*(X*B)
  | [],_,_,_,_,_=>by simp[sumD]
  | x :: r,sign,k,hs,hk,hx=>by
    simp only[List.length_cons] at hk
    have ih:=zmb hf r (-sign) (k+1) (by omega) (by omega) (fun y hy=>hx y (List.mem_cons_of_mem _ hy))
    have hx0:=hx x List.mem_cons_self
    have hf0:=hf k (by omega)
    have h1 : -X≤sign*x∧sign*x≤X:=by rcases hs with rfl|rfl<;>omega
    have h2:=zjk h1.1 h1.2 hf0.1 hf0.2
    simp only[sumD,List.length_cons]
    have e:(((r.length+1:Nat):Int)*(X*B))=(r.length:Int)*(X*B)+X*B:=by
      rw[Int.natCast_add,Int.add_mul];simp
    rw[e]
    generalize (r.length:Int)*(X*B)=z at *
    generalize X*B=y at *
    omega
theorem znM {X:Int}:∀(n:Nat) (rows:List (List Int)),sqB X n rows→-(detX X n)≤detN n rows∧detN n rows≤detX X n
  | 0,rows,_=>by simp[detN,detX]
  | n + 1,rows,h=>by
    have hr:(rows.getD 0 []).length=n+1∧∀x∈rows.getD 0 [],-X≤x∧x≤X:=by
      cases rows with
      | nil=>have:=h.1;simp at this
      | cons r t=>exact h.2 r List.mem_cons_self
    have:=zmb (f:=detN n) (rows:=rows) (N:=n+1) (B:=detX X n) (fun k hk=>znM n _ (zot h hk)) (rows.getD 0 []) 1 0 (.inl rfl) (by omega) hr.2
    rw[hr.1] at this
    simp only[detN,detX]
    push_cast at this
    exact this
theorem znP {N:Nat} (hN:N≤4) {m:List (List Int)} (h:sqB 100 N m) : -1000000000000≤detA m∧detA m≤1000000000000:=by
  have h1:=znM N m h
  have h2:detX 100 N≤1000000000000:=by
    have g:N=0∨N=1∨N=2∨N=3∨N=4:=by omega
    rcases g with rfl|rfl|rfl|rfl|rfl<;>decide
  unfold detA
  rw[h.1];omega
/-! ### Solutions, in whole numbers -/
theorem zr8 {a b:Int} (h:qI a=qI b):a=b:=Rat.intCast_inj.1 h
theorem zkL {N:Nat} (hN:N≤4) {m:List (List Int)} {right:List Int} (h1:m.length=N) (h2:∀i,i<N→(rowN m i).length=N) (hd:detA m≠0) :
    (∀i,i<N→sm (fun j=>vI (rowN m i) j*vI (zay m right).1 j) N=vI right i*(zay m right).2.1)∧0<(zay m right).2.1:=by
  have hD:D N (mQ m)≠0:=by rw[←zpa hN h1 (zfZ h1 h2)];exact zr7.2 hd
  obtain⟨x,hx⟩:=sol hN hD (fun i=>qI (vI right i))
  obtain⟨sx,sd⟩:=zjY hN (right:=right) h1 h2 hd hx
  refine⟨fun i hi=>zr8 ?_,sd⟩
  rw[zqq,zkW,←hx i hi,←zdI]
  exact zat N fun j hj=>by rw[zkW,sx j hj];grind
/-! ### Sums in parts -/
theorem zb5 (f:Nat→Int) (a:Nat):∀b,sm f (a+b)=sm f a+sm (fun i=>f (a+i)) b
  | 0=>by simp[sm]
  | b+1=>by
    rw[←Nat.add_assoc]
    simp only[sm]
    rw[zb5 f a b];omega
theorem zkM (f g:Nat→Int):∀n,sm (fun i=>f i - g i) n=sm f n - sm g n
  | 0=>rfl
  | n+1=>by simp only[sm,zkM f g n];omega
theorem zmi {f g:Nat→Int} {p:Nat}:∀ {n},p<n→(∀i,i<n→i≠p→g i=f i)→sm g n=sm f n - f p+g p
  | n + 1,hp,h=>by
    simp only[sm]
    by_cases e:p=n
    · subst e
      rw[zar (g:=f) p (fun i hi=>h i (by omega) (by omega))];omega
    · rw[zmi (n:=n) (by omega) (fun i hi hq=>h i (by omega) hq),h n (by omega) (by omega)];omega
theorem ziY {f:Nat→Int} {p:Nat} {n:Nat} (hp:p<n) (h:∀i,i<n→i≠p→f i=0):sm f n=f p:=by
  rw[zmi (f:=fun _=>0) hp h,zcV];omega
/-! ### The chosen bounds -/
theorem zgP:∀(k f r:Nat) (c:List Int),c∈zbU k f r→∀i j,i<j→j<k→vI c i<vI c j
  | 0,_,_,_,_,_,_,_,h=>absurd h (Nat.not_lt_zero _)
  | k+1,f,0,c,h,_,_,_,_=>by simp[zbU] at h
  | k + 1,f,r+1,c,h,i,j,hij,hj=>by
    simp only[zbU,List.mem_append,List.mem_map] at h
    rcases h with ⟨d,hd,rfl⟩|h
    · obtain ⟨h1,h2⟩:=zc6 k (f+1) r d hd
      match i,j,hij with
      | 0,j+1,_=>
        have:=(h2 _ (zhl (l:=d) (i:=j) (by omega))).1
        show (f:Int)<vI d j
        omega
      | i+1,j+1,hij=>exact zgP k (f+1) r d hd i j (by omega) (by omega)
    · exact zgP (k+1) (f+1) r c h i j hij hj
theorem zkG {l:List Int} {p k:Nat} {v:Int} (hp:p<l.length):vI (l.set p v) k=if k=p then v else vI l k:=by
  simp only[vI,List.getD_eq_getElem?_getD,List.getElem?_set]
  by_cases e:p=k
  · subst e;rw[if_pos rfl,if_pos hp,if_pos rfl];rfl
  · rw[if_neg e,if_neg (fun h=>e h.symm)]
theorem zjS {n:Nat} {k:Nat}:vI (repl (n:Int) (0:Int)) k=0:=by
  rw[zeu]
  simp only[vI,List.getD_eq_getElem?_getD,List.getElem?_replicate]
  split<;>rfl
theorem zpl {M:Nat} {c y:List Int} {N:Nat} (hc:∀i,i<N→(vI c i).toNat<M) (ha:∀i j,i<j→j<N→(vI c i).toNat≠(vI c j).toNat) (g:Nat→Int) :
    ∀i,i≤N→sm (fun k=>vI (wsP M c y i) k*g k) M=sm (fun i=>vI y i*g (vI c i).toNat) i
  | 0,_=>by
    simp only[wsP,sm]
    rw[zar (g:=fun _=>0) M (fun k _=>by rw[zjS,Int.zero_mul]),zcV]
  | i + 1,hi=>by
    have ih:=zpl (y:=y) hc ha g i (by omega)
    have hz:∀k,k≤i→vI (wsP M c y k) (vI c i).toNat=0:=fun k=>by
      induction k with
      | zero=>intro _;exact zjS
      | succ k ihk=>
        intro hk
        simp only[wsP]
        rw[zkG (by rw[zdC];exact hc k (by omega)),if_neg (fun e=>ha k i (by omega) (by omega) e.symm)]
        exact ihk (by omega)
    rw [zmi (f:=fun k=>vI (wsP M c y i) k*g k) (hc i (by omega)) (fun k _ hne=>by
      simp only[wsP]
      rw[zkG (by rw[zdC];exact hc i (by omega)),if_neg hne]),ih]
    rw[hz i (Nat.le_refl _)]
    simp only[wsP,sm]
    rw[zkG (by rw[zdC];exact hc i (by omega)),if_pos rfl];omega
theorem zrn {M:Nat} {c y:List Int} {N:Nat} {B:Int} (hB:0≤B) (hc:∀i,i<N→(vI c i).toNat<M) (hy:∀i,i<N→0≤vI y i∧vI y i≤B):∀i,i≤N→∀k,0≤vI (wsP M c y i) k∧vI (wsP M c y i) k≤B
  | 0,_,k=>by
    have e:vI (wsP M c y 0) k=0:=zjS
    omega
  | i+1,hi,k=>by
    simp only[wsP]
    rw[zkG (by rw[zdC];exact hc i (by omega))]
    split
    · exact hy i (by omega)
    · exact zrn hB hc hy i (by omega) k
theorem zoM {m:List (List Int)} {r:List Int} (h:r∈m):∃k,k<m.length∧r=rowN m k:=by
  obtain⟨k,hk,e⟩:=List.getElem_of_mem h
  exact⟨k,hk,by simp[rowN,List.getD,List.getElem?_eq_getElem hk,e]⟩
theorem zjf {b:List BndD} {x:List Int} {d:Int}:∀ {n:Nat},zdM b x d n=true→∀k,k<n→dotI (bdN b k).1 x≤zbS b k*d
  | n+1,h,k,hk=>by
    simp only[zdM,Bool.and_eq_true] at h
    by_cases e:k=n
    · subst e;exact of_decide_eq_true h.2
    · exact zjf h.1 k (by omega)
structure cornV (t:List (List Int)) (cap:Int) (x:zck):Prop where
  l1:List.length (α:=Int) x.1=ncol t+1
  l2:List.length (α:=Int) x.2.2.1=t.length+t.length+ncol t+ncol t
  d1:(0:Int)<x.2.1∧x.2.1≤(1000000000000:Int)
  d2:(0:Int)<x.2.2.2.1∧x.2.2.2.1≤(1000000000000:Int)
  low:∀i,i<t.length→vI x.1 (ncol t)≤sm (fun j=>vI (rowN t i) j*vI x.1 j) (ncol t)
  high:∀i,i<t.length→sm (fun j=>vI (rowN t i) j*vI x.1 j) (ncol t)≤cap*x.2.1
  box:∀j,j<ncol t→0≤vI x.1 j∧vI x.1 j≤x.2.1
  ws:∀k,0≤vI x.2.2.1 k∧vI x.2.2.1 k≤1000000000000
  slow:sm (fun i=>vI x.2.2.1 i) t.length=x.2.2.2.1
  col:∀j,j<ncol t→sm (fun i=>(vI x.2.2.1 i - vI x.2.2.1 (t.length+i))*vI (rowN t i) j) t.length≤vI x.2.2.1 (t.length+t.length+j)
  val:vI x.1 (ncol t)*x.2.2.2.1=(sm (fun i=>vI x.2.2.1 (t.length+i)) t.length*cap+sm (fun j=>vI x.2.2.1 (t.length+t.length+j)) (ncol t))*x.2.1
theorem zqW {t:List (List Int)} {cap:Int} {x:zck} (h:goodT t cap) (hx:zgZ t cap=some x):cornV t cap x:=by
  obtain⟨c,hc,h1,h2⟩:=zgY hx
  have hg:=zeV h c hc
  have hm:=zc6 _ _ _ c hc
  have hasc:=zgP _ _ _ c hc
  obtain⟨b,hb⟩:∃b,b=zc9 t cap (ncol t):=⟨_,rfl⟩
  obtain⟨n,hn⟩:∃n,n=ncol t:=⟨_,rfl⟩
  obtain⟨m,hmm⟩:∃m,m=t.length:=⟨_,rfl⟩
  have bl:∀i,i<m→bdN b i=lowB (rowN t i):=fun i hi=>by rw[hb];exact zp6 (by omega)
  have bh:∀i,i<m→bdN b (m+i)=zlE cap (rowN t i):=fun i hi=>by rw[hb,hmm];exact zq6 (by omega)
  have bo:∀j,j<n→bdN b (m+m+j)=zly n j:=fun j hj=>by rw[hb,hmm,hn];exact zn2 (by omega)
  have bs:∀j,j<n→bdN b (m+m+n+j)=zlo n j:=fun j hj=>by rw[hb,hmm,hn];exact zq5 (by omega)
  have hbl:b.length=m+m+n+n:=by rw[hb,ze4,←hmm,←hn]
  have g1:=h.le
  have g2:=h.cle
  have hrow:∀i,i<m→(rowN t i).length=n:=fun i hi=>by rw[hn];exact h.rows i (by omega)
  rw[←hb] at h1 h2 hg
  rw[←hb,←hn] at hm
  rw[←hn] at hasc g2
  rw[←hmm] at g1
  have hcl:c.length=n+1:=hm.1
  have hp:=hg.pos
  -- the parts of at
  have hX:(atX b c).2.2.1=true:=by
    cases e:(atX b c).2.2.1 with
    | true=>rfl
    | false=>rw[at_1 e] at h1;cases h1
  have hO:zdM b (atX b c).1 (atX b c).2.1 b.length=true:=by
    cases e:zdM b (atX b c).1 (atX b c).2.1 b.length with
    | true=>rfl
    | false=>rw[at_2 hX e] at h1;cases h1
  have hM:¬mn (atY b c).1 (c.length - 1)<0:=fun e=>by rw[at_3 hX hO e] at h1;cases h1
  rw[at_4 hX hO hM] at h2
  have hdet:=zjR hX
  have hdet2:=zof hg hX
  have r1:(zaz b c c.length).length=n+1:=by rw[zaJ,hcl]
  have rr:∀i,i<n+1→rowN (zaz b c c.length) i=(bdN b (vI c i).toNat).1:=fun i hi=>zfY (by omega)
  have r2:∀i,i<n+1→(rowN (zaz b c c.length) i).length=n+1:=fun i hi=>by rw[rr i hi,←hcl];exact hg.len _ (hg.idx i (by omega)).2
  have t1:(trM (zaz b c c.length)).length=n+1:=by rw[zf9,r1]
  have hs:=zgm hg
  have ts:=zqd hs
  have t2:∀i,i<n+1→(rowN (trM (zaz b c c.length)) i).length=n+1:=fun i hi=>by
    rw[←hcl];exact (ts.2 _ (zi4 ts (by omega))).1
  obtain⟨eX,pD⟩:=zkL (N:=n+1) (by omega) (right:=rhsP b c c.length) r1 r2 hdet
  obtain⟨eY,pE⟩:=zkL (N:=n+1) (by omega) (right:=zbu (c.length:Int) ((c.length:Int) - 1) 1) t1 t2 hdet2
  -- small numbers
  have small:∀k j,k<b.length→j<n+1→-100≤vI (bdN b k).1 j∧vI (bdN b k).1 j≤100:=fun k j hk hj=>by
    have q:∀i,i<m→j<n→0≤vI (rowN t i) j∧vI (rowN t i) j≤100:=fun i hi hj=>h.vals i j (by omega) (by omega)
    by_cases e1:k<m
    · rw[bl k e1,zfr (hrow k e1) hj]
      split
      · omega
      · have:=q k e1 (by omega);omega
    by_cases e2:k<m+m
    · rw[show k=m+(k - m) by omega,bh _ (by omega),zeU (hrow _ (by omega)) hj]
      split
      · omega
      · have:=q (k - m) (by omega) (by omega);omega
    by_cases e3:k<m+m+n
    · rw[show k=m+m+(k - (m+m)) by omega,bo _ (by omega),zd4 hj];split<;>omega
    · rw[show k=m+m+n+(k - (m+m+n)) by omega,bs _ (by omega),zeI hj];split<;>omega
  have hsm:sqB 100 (n+1) (zaz b c c.length):=⟨r1,fun r hr=>by
    obtain⟨i,hi,rfl⟩:=zbR hr
    have e:=hg.idx i hi
    have e2:(bdL b c i).1.length=n+1:=by rw[←hcl];exact hg.len _ e.2
    refine⟨e2,fun x hx=>?_⟩
    obtain⟨j,hj,rfl⟩:=zk3 hx
    exact small _ j e.2 (by rw[←e2];exact hj)⟩
  have hd1:(atX b c).2.1≤1000000000000:=by
    have:=znP (by omega) hsm
    show (zay _ _).2.1≤_
    unfold zay
    rw[if_neg hdet]
    split
    · show -detA _≤_;omega
    · show detA _≤_;omega
  have hsq2:sqB 100 (n+1) (trM (zaz b c c.length)):=⟨t1,fun r hr=>by
    obtain⟨j,hj,rfl⟩:=zbR hr
    refine⟨by rw[zak,r1],fun x hx=>?_⟩
    obtain⟨i,hi,rfl⟩:=zbR hx
    rw[r1] at hi hj
    rw[rr i hi]
    exact small _ j (hg.idx i (by omega)).2 hj⟩
  have hd2:(atY b c).2.1≤1000000000000:=by
    have:=znP (by omega) hsq2
    show (zay _ _).2.1≤_
    unfold zay
    rw[if_neg hdet2]
    split
    · show -detA _≤_;omega
    · show detA _≤_;omega
  have eu:∀j,j<n+1→vI (zbu (c.length:Int) ((c.length:Int) - 1) 1) j=if j=n then 1 else 0:=fun j hj=>by
    rw[show (c.length:Int) - 1=((n:Nat):Int) by omega,hcl]
    exact zeD hj
  have hyb:∀i,i<n+1→0≤vI (atY b c).1 i∧vI (atY b c).1 i≤1000000000000:=fun i hi=>by
    have q1:=zqz (xs:=(atY b c).1) (k:=c.length - 1) (i:=i) (by omega)
    refine⟨by omega,?_⟩
    have hc2:sqB 100 (n+1) (chk (trM (zaz b c c.length)) (zbu (c.length:Int) ((c.length:Int) - 1) 1) i (trM (zaz b c c.length)).length):=⟨by rw[zdx,t1],fun r hr=>by
      obtain⟨k,hk,e2⟩:=zoM hr
      rw[zdx,t1] at hk
      have e3:rowN (chk (trM (zaz b c c.length)) (zbu (c.length:Int) ((c.length:Int) - 1) 1) i (trM (zaz b c c.length)).length) k=(rowN (trM (zaz b c c.length)) k).set i (vI (zbu (c.length:Int) ((c.length:Int) - 1) 1) k):=by
        have:=zaD (fun r=>if r<(trM (zaz b c c.length)).length then (rowN (trM (zaz b c c.length)) r).set i (vI (zbu (c.length:Int) ((c.length:Int) - 1) 1) r) else []) [] (trM (zaz b c c.length)).length k (by omega)
        rw[if_pos (by omega)] at this
        exact this
      rw[e2,e3]
      refine⟨by rw[List.length_set];exact t2 k hk,fun x hx=>?_⟩
      rcases List.mem_or_eq_of_mem_set hx with hx|rfl
      · exact (hsq2.2 _ (by rw[rowN,List.getD_eq_getElem?_getD,List.getElem?_eq_getElem (by omega)];exact List.getElem_mem _)).2 x hx
      · rw[eu k hk];split<;>omega⟩
    have hb2:=znP (by omega) hc2
    show vI (zay _ _).1 i≤_
    unfold zay
    rw[if_neg hdet2]
    split
    · have e:vI (negd (dets (trM (zaz b c c.length)) (zbu (c.length:Int) ((c.length:Int) - 1) 1) (trM (zaz b c c.length)).length) (trM (zaz b c c.length)).length) i = -vI (dets (trM (zaz b c c.length)) (zbu (c.length:Int) ((c.length:Int) - 1) 1) (trM (zaz b c c.length)).length) i:=by
        have:=zaD (fun j=>if j<(trM (zaz b c c.length)).length then -vI (dets (trM (zaz b c c.length)) (zbu (c.length:Int) ((c.length:Int) - 1) 1) (trM (zaz b c c.length)).length) j else vI (dets (trM (zaz b c c.length)) (zbu (c.length:Int) ((c.length:Int) - 1) 1) (trM (zaz b c c.length)).length) j) 0 (dets (trM (zaz b c c.length)) (zbu (c.length:Int) ((c.length:Int) - 1) 1) (trM (zaz b c c.length)).length).length i (by rw[zdv];omega)
        rw[if_pos (by omega)] at this
        exact this
      show vI (negd _ _) i≤_
      rw[e,ziD (by omega)];omega
    · show vI (dets _ _ _) i≤_
      rw[ziD (by omega)];omega
  -- the equations
  have eX':∀i,i<n+1→sm (fun j=>vI (bdN b (vI c i).toNat).1 j*vI (atX b c).1 j) (n+1)=zbS b (vI c i).toNat*(atX b c).2.1:=fun i hi=>by
    have:=eX i hi
    rw[rr i hi,zj8 (by omega)] at this
    exact this
  have eY':∀j,j<n+1→sm (fun k=>vI (atY b c).1 k*vI (bdN b (vI c k).toNat).1 j) (n+1)=(if j=n then 1 else 0)*(atY b c).2.1:=fun j hj=>by
    have:=eY j hj
    rw[eu j hj] at this
    refine Eq.trans ?_ this
    refine zar _ fun k hk=>?_
    rw[zpn (by omega) (by omega),rr k hk,Int.mul_comm];rfl
  obtain⟨X,hXe⟩:∃X:List Int,X=(atX b c).1:=⟨_,rfl⟩
  obtain⟨Dn,hDe⟩:∃Dn:Int,Dn=(atX b c).2.1:=⟨_,rfl⟩
  obtain⟨Y,hYe⟩:∃Y:List Int,Y=(atY b c).1:=⟨_,rfl⟩
  obtain⟨En,hEe⟩:∃En:Int,En=(atY b c).2.1:=⟨_,rfl⟩
  obtain⟨Ws,hWe⟩:∃Ws:List Int,Ws=wsP b.length c Y (n+1):=⟨_,rfl⟩
  have hxl:X.length=n+1:=by rw[hXe,zp9 hX,hcl]
  rw[←hXe,←hDe] at eX' hO
  rw[←hYe] at hyb
  rw[←hYe,←hEe] at eY'
  rw[←hXe,←hDe,←hYe,←hEe,hcl,←hWe] at h2
  rw[←hDe] at hd1
  rw[←hEe] at hd2
  have pD:0<Dn:=by rw[hDe];exact pD
  have pE:0<En:=by rw[hEe];exact pE
  have hidx:∀i,i<n+1→(vI c i).toNat<b.length:=fun i hi=>(hg.idx i (by omega)).2
  have hdist:∀i j,i<j→j<n+1→(vI c i).toNat≠(vI c j).toNat:=fun i j hij hj e=>by
    have q1:=hasc i j hij hj
    have q2:=(hg.idx i (by omega)).1
    have q3:=(hg.idx j (by omega)).1
    omega
  have hwl:Ws.length=b.length:=by rw[hWe,zdC]
  have hsum:∀g:Nat→Int,sm (fun k=>vI Ws k*g k) b.length=sm (fun i=>vI Y i*g (vI c i).toNat) (n+1):=fun g=>by
    rw[hWe];exact zpl hidx hdist g (n+1) (Nat.le_refl _)
  have hwb:∀k,0≤vI Ws k∧vI Ws k≤1000000000000:=fun k=>by
    rw[hWe];exact zrn (by decide) hidx hyb (n+1) (Nat.le_refl _) k
  have hok:=zjf hO
  have dot:∀k,k<b.length→dotI (bdN b k).1 X=sm (fun j=>vI (bdN b k).1 j*vI X j) n+vI (bdN b k).1 n*vI X n:=fun k hk=>by
    unfold dotI
    rw[hg.len k hk,hcl];rfl
  subst h2
  refine⟨by rw[←hn];exact hxl,by rw[←hn,←hmm,←hbl];exact hwl,⟨pD,hd1⟩,⟨pE,hd2⟩,fun i hi=>?_,fun i hi=>?_,fun j hj=>?_,hwb,?_,fun j hj=>?_,?_⟩
  all_goals (try rw[←hmm] at hi)
  all_goals (try rw[←hn] at hj)
  all_goals (try rw[←hn])
  all_goals (try rw[←hmm])
  · have q:=hok i (by omega)
    rw[dot i (by omega),bl i hi,zfr (hrow i hi) (Nat.lt_succ_self n),if_pos rfl] at q
    rw[zar (g:=fun j=>-(vI (rowN t i) j*vI X j)) n (fun j hj=>by rw[zfr (hrow i hi) (by omega),if_neg (by omega),Int.neg_mul])] at q
    have q2:=zkM (fun _=>0) (fun j=>vI (rowN t i) j*vI X j) n
    rw[zcV] at q2
    rw[zar (g:=fun j=>0 - vI (rowN t i) j*vI X j) n (fun j _=>by omega),q2] at q
    have e:zbS b i=0:=by rw[zbS,bl i hi];rfl
    rw[e] at q
    show vI X n≤sm (fun j=>vI (rowN t i) j*vI X j) n
    omega
  · have q:=hok (m+i) (by omega)
    rw[dot _ (by omega),bh i hi,zeU (hrow i hi) (Nat.lt_succ_self n),if_pos rfl] at q
    rw[zar (g:=fun j=>vI (rowN t i) j*vI X j) n (fun j hj=>by rw[zeU (hrow i hi) (by omega),if_neg (by omega)])] at q
    have e:zbS b (m+i)=cap:=by rw[zbS,bh i hi];rfl
    rw[e] at q
    show sm (fun j=>vI (rowN t i) j*vI X j) n≤cap*Dn
    omega
  · have q:=hok (m+m+j) (by omega)
    rw[dot _ (by omega),bo j hj,zd4 (Nat.lt_succ_self n),if_neg (by omega)] at q
    rw[zar (g:=fun k=>(if k=j then 1 else 0)*vI X k) n (fun k hk=>by rw[zd4 (by omega)]),ziY (p:=j) hj (fun k _ hne=>by rw[if_neg hne,Int.zero_mul]),if_pos rfl] at q
    have e:zbS b (m+m+j)=1:=by rw[zbS,bo j hj];rfl
    rw[e] at q
    have q':=hok (m+m+n+j) (by omega)
    rw[dot _ (by omega),bs j hj,zeI (Nat.lt_succ_self n),if_neg (by omega)] at q'
    rw[zar (g:=fun k=>(if k=j then -1 else 0)*vI X k) n (fun k hk=>by rw[zeI (by omega)]),ziY (p:=j) hj (fun k _ hne=>by rw[if_neg hne,Int.zero_mul]),if_pos rfl] at q'
    have e':zbS b (m+m+n+j)=0:=by rw[zbS,bs j hj];rfl
    rw[e'] at q'
    show 0≤vI X j∧vI X j≤Dn
    omega
  · have q:=eY' n (Nat.lt_succ_self n)
    rw[if_pos rfl,←hsum (fun k=>vI (bdN b k).1 n),hbl,zb5,zb5,zb5] at q
    rw[zar (g:=fun i=>vI Ws i) m (fun i hi=>by rw[bl i hi,zfr (hrow i hi) (Nat.lt_succ_self n),if_pos rfl,Int.mul_one])] at q
    rw[zar (g:=fun _=>0) (f:=fun i=>vI Ws (m+i)*vI (bdN b (m+i)).1 n) m (fun i hi=>by rw[bh i hi,zeU (hrow i hi) (Nat.lt_succ_self n),if_pos rfl,Int.mul_zero])] at q
    rw[zar (g:=fun _=>0) (f:=fun i=>vI Ws (m+m+i)*vI (bdN b (m+m+i)).1 n) n (fun i hi=>by rw[bo i hi,zd4 (Nat.lt_succ_self n),if_neg (by omega),Int.mul_zero])] at q
    rw[zar (g:=fun _=>0) (f:=fun i=>vI Ws (m+m+n+i)*vI (bdN b (m+m+n+i)).1 n) n (fun i hi=>by rw[bs i hi,zeI (Nat.lt_succ_self n),if_neg (by omega),Int.mul_zero])] at q
    rw[zcV,zcV] at q
    show sm (fun i=>vI Ws i) m=En
    omega
  · have q:=eY' j (by omega)
    rw[if_neg (by omega),←hsum (fun k=>vI (bdN b k).1 j),hbl,zb5,zb5,zb5] at q
    rw[zar (g:=fun i=>-(vI Ws i*vI (rowN t i) j)) m (fun i hi=>by rw[bl i hi,zfr (hrow i hi) (by omega),if_neg (by omega),Int.mul_neg])] at q
    rw[zar (g:=fun i=>vI Ws (m+i)*vI (rowN t i) j) (f:=fun i=>vI Ws (m+i)*vI (bdN b (m+i)).1 j) m (fun i hi=>by rw[bh i hi,zeU (hrow i hi) (by omega),if_neg (by omega)])] at q
    rw[zar (g:=fun i=>vI Ws (m+m+i)*(if j=i then 1 else 0)) (f:=fun i=>vI Ws (m+m+i)*vI (bdN b (m+m+i)).1 j) n (fun i hi=>by rw[bo i hi,zd4 (by omega)]),ziY (p:=j) hj (fun i _ hne=>by rw[if_neg (Ne.symm hne),Int.mul_zero]),if_pos rfl] at q
    rw[zar (g:=fun i=>vI Ws (m+m+n+i)*(if j=i then -1 else 0)) (f:=fun i=>vI Ws (m+m+n+i)*vI (bdN b (m+m+n+i)).1 j) n (fun i hi=>by rw[bs i hi,zeI (by omega)]),ziY (p:=j) hj (fun i _ hne=>by rw[if_neg (Ne.symm hne),Int.mul_zero]),if_pos rfl] at q
    have q2:=zkM (fun _=>0) (fun i=>vI Ws i*vI (rowN t i) j) m
    rw[zcV] at q2
    rw[zar (g:=fun i=>0 - vI Ws i*vI (rowN t i) j) m (fun i _=>by omega),q2] at q
    have q3:=zkM (fun i=>vI Ws i*vI (rowN t i) j) (fun i=>vI Ws (m+i)*vI (rowN t i) j) m
    have q4:=hwb (m+m+n+j)
    show sm (fun i=>(vI Ws i - vI Ws (m+i))*vI (rowN t i) j) m≤vI Ws (m+m+j)
    rw[zar (g:=fun i=>vI Ws i*vI (rowN t i) j - vI Ws (m+i)*vI (rowN t i) j) m (fun i _=>Int.sub_mul _ _ _),q3]
    omega
  · -- the value is the bound
    have q1:sm (fun j=>sm (fun k=>vI Y k*vI (bdN b (vI c k).toNat).1 j) (n+1)*vI X j) (n+1)=vI X n*En:=by
      rw[zar (g:=fun j=>((if j=n then 1 else 0)*En)*vI X j) (n+1) (fun j hj=>by rw[eY' j hj]),ziY (p:=n) (Nat.lt_succ_self n) (fun j _ hne=>by rw[if_neg hne,Int.zero_mul,Int.zero_mul]),if_pos rfl,Int.one_mul,Int.mul_comm]
    have q2:sm (fun j=>sm (fun k=>vI Y k*vI (bdN b (vI c k).toNat).1 j) (n+1)*vI X j) (n+1)=sm (fun k=>vI Y k*zbS b (vI c k).toNat) (n+1)*Dn:=by
      rw[zar (g:=fun j=>sm (fun k=>vI Y k*vI (bdN b (vI c k).toNat).1 j*vI X j) (n+1)) (n+1) (fun j _=>(zch _ _ _).symm),zj0,←zch]
      refine zar _ fun k hk=>?_
      rw[Int.mul_assoc,←eX' k hk,←zkN]
      exact zar _ fun j _=>Int.mul_assoc _ _ _
    have q3:sm (fun k=>vI Y k*zbS b (vI c k).toNat) (n+1)=sm (fun i=>vI Ws (m+i)) m*cap+sm (fun j=>vI Ws (m+m+j)) n:=by
      rw[←hsum (fun k=>zbS b k),hbl,zb5,zb5,zb5]
      rw[zar (g:=fun _=>0) m (fun i hi=>by rw[zbS,bl i hi];exact Int.mul_zero _)]
      rw[zar (g:=fun i=>vI Ws (m+i)*cap) (f:=fun i=>vI Ws (m+i)*zbS b (m+i)) m (fun i hi=>by rw[zbS,bh i hi];rfl)]
      rw[zar (g:=fun i=>vI Ws (m+m+i)) (f:=fun i=>vI Ws (m+m+i)*zbS b (m+m+i)) n (fun i hi=>by rw[zbS,bo i hi];exact Int.mul_one _)]
      rw[zar (g:=fun _=>0) (f:=fun i=>vI Ws (m+m+n+i)*zbS b (m+m+n+i)) n (fun i hi=>by rw[zbS,bs i hi];exact Int.mul_zero _)]
      rw[zcV,zcV,zch];omega
    show vI X n*En=(sm (fun i=>vI Ws (m+i)) m*cap+sm (fun j=>vI Ws (m+m+j)) n)*Dn
    rw[←q1,q2,q3]
theorem zjn {a b k:Int} (hk:0<k):lowA (a*k) (b*k)=lowA a b∧lowC (a*k) (b*k)=lowC a b:=by
  have e:gcd2 (a*k) (b*k)=gcd2 a b*k:=by
    unfold gcd2
    rw[Int.natAbs_mul,Int.natAbs_mul,Nat.gcd_mul_right,Int.natCast_mul]
    congr 1;omega
  unfold lowA lowC
  rw[e]
  exact⟨Int.mul_tdiv_mul_of_pos_left _ _ hk,Int.mul_tdiv_mul_of_pos_left _ _ hk⟩
theorem zk6 {a b c d:Int} (hb:0<b) (hd:0<d) (h:a*d=c*b):lowA a b=lowA c d∧lowC a b=lowC c d:=by
  have h1:=zjn (a:=a) (b:=b) hd
  have h2:=zjn (a:=c) (b:=d) hb
  rw[h,Int.mul_comm b d] at h1
  exact⟨h1.1.symm.trans h2.1,h1.2.symm.trans h2.2⟩
theorem zns {xs:List Int}:∀ {k i:Nat},i<k→((gf xs k:Nat):Int)∣vI xs i
  | k+1,i,h=>by
    simp only[gf]
    by_cases e:i=k
    · subst e;exact Int.ofNat_dvd_left.2 (Nat.gcd_dvd_right _ _)
    · exact Int.dvd_trans (Int.ofNat_dvd.2 (Nat.gcd_dvd_left _ _)) (zns (by omega))
theorem zkV {l:List Int} {d:Int} (hd:0<d):∃g:Int,0<g∧d=(redL l d).2*g∧(∀i,i<l.length→vI l i=vI (redL l d).1 i*g)∧(redL l d).1.length=l.length:=by
  have g2:(l++[d]).length=l.length+1:=by simp
  have g1:vI (l++[d]) l.length=d:=by simp[vI]
  have g3:redG l d≠0:=by
    have:=znr (xs:=l++[d]) (k:=l.length) (by rw[g1];omega)
    show ((gf (l++[d]) (l++[d]).length:Nat):Int)≠0
    rw[g2];exact this
  have g4:0<redG l d:=by
    have:0≤redG l d:=Int.natCast_nonneg _
    omega
  refine⟨redG l d,g4,?_,fun i hi=>?_,zak _ _⟩
  · have h:=zns (xs:=l++[d]) (k:=(l++[d]).length) (i:=l.length) (by omega)
    rw[g1] at h
    exact (Int.tdiv_mul_cancel h).symm
  · have h:=zns (xs:=l++[d]) (k:=(l++[d]).length) (i:=i) (by omega)
    have e:vI (l++[d]) i=vI l i:=by simp[vI,List.getElem?_append_left hi]
    rw[e] at h
    have e2:vI (redL l d).1 i=Int.tdiv (vI l i) (redG l d):=zaD (fun i=>Int.tdiv (vI l i) (redG l d)) 0 _ i hi
    rw[e2]
    exact (Int.tdiv_mul_cancel h).symm
theorem zh1 {l:List Int} {k i:Nat} (h:i<k):vI (l.take k) i=vI l i:=by simp[vI,List.getD,List.getElem?_take,h]
theorem zl0 {l:List Int} {k i:Nat}:vI (l.drop k) i=vI l (k+i):=by simp[vI,List.getD,List.getElem?_drop]
theorem zbZ {a b g:Int} (hg:0<g) (h:a*g≤b*g):a≤b:=Int.le_of_mul_le_mul_right h hg
theorem zsn {xs:List Int}:∀ {k:Nat},∃i,i≤k∧mn xs k=vI xs i
  | 0=>⟨0,Nat.le_refl _,rfl⟩
  | k+1=>by
    obtain⟨i,hi,e⟩:=zsn (xs:=xs) (k:=k)
    simp only[mn]
    split
    · exact⟨k+1,Nat.le_refl _,rfl⟩
    · exact⟨i,by omega,e⟩
theorem zsk {t:List (List Int)} {cap d:Int} {l:List Int} (hp:0<t.length) (h1:1≤d∧d≤1000000000000) (h2:l.length=ncol t) (h3:∀i,i<l.length→0≤vI l i∧vI l i≤d) (h4:∀i,i<t.length→dotI (rowN t i) l≤cap*d):opE t cap d l=0:=by
  have e:opE0 (ncol t) d l=0:=by
    unfold opE0;rw[if_pos h1,if_pos h2];exact ze7 h3
  unfold opE
  rw[if_pos e,if_neg]
  refine Int.not_lt.2 (zqx.2 fun i hi=>?_)
  rw[zd8 (by omega)]
  exact h4 i (by omega)
theorem zpO {t:List (List Int)} {lo hi cs:List Int}:∀ {n:Nat},(∀k,k<n→colW t lo hi k t.length≤vI cs k)→okW t lo hi cs n=true
  | 0,_=>rfl
  | n+1,h=>by
    simp only[okW]
    rw[zpO fun k hk=>h k (by omega),decide_eq_true (h n (by omega))];rfl
theorem zrm {t:List (List Int)} {d:Int} {lo hi cs:List Int} (h1:1≤d∧d≤1000000000000) (l1:lo.length=t.length) (l2:hi.length=t.length) (l3:cs.length=ncol t)
    (b1:∀i,i<t.length→0≤vI lo i∧vI lo i≤1000000000000) (b2:∀i,i<t.length→0≤vI hi i∧vI hi i≤1000000000000) (b3:∀i,i<ncol t→0≤vI cs i∧vI cs i≤1000000000000)
    (hs:sumI lo=d) (hc:∀k,k<ncol t→colW t lo hi k t.length≤vI cs k):wtE t d lo hi cs=0:=by
  have e:wtE0 t.length (ncol t) d lo hi cs=0:=by
    unfold wtE0
    rw[if_pos h1,if_pos ⟨l1,l2,l3⟩,if_pos (ze7 (l:=lo) fun i hi'=>b1 i (by omega)),if_pos (ze7 (l:=hi) fun i hi'=>b2 i (by omega))]
    exact ze7 fun i hi'=>b3 i (by omega)
  unfold wtE
  rw[if_pos e,if_pos hs,if_pos (zpO hc)]
structure foundV (t:List (List Int)) (cap:Int) (o:zre) (w:WgtD) (v1 v2:Int):Prop where
  op:opE t cap o.1 o.2.1=0
  wt:wtE t w.1 w.2.1 w.2.2.1 w.2.2.2.1=0
  vo:opV1 t o.1 o.2.1=v1∧opV2 t o.1 o.2.1=v2
  vw:wtV1 cap w.1 w.2.2.1 w.2.2.2.1=v1∧wtV2 cap w.1 w.2.2.1 w.2.2.2.1=v2
theorem zlI {t:List (List Int)} {cap:Int} (hg:goodT t cap) {X W:List Int} {D E:Int} (l1:X.length=ncol t+1) (l2:W.length=t.length+t.length+ncol t+ncol t) (d1:0<D∧D≤1000000000000) (d2:0<E∧E≤1000000000000)
    (low:∀i,i<t.length→vI X (ncol t)≤sm (fun j=>vI (rowN t i) j*vI X j) (ncol t)) (high:∀i,i<t.length→sm (fun j=>vI (rowN t i) j*vI X j) (ncol t)≤cap*D)
    (box:∀j,j<ncol t→0≤vI X j∧vI X j≤D) (ws:∀k,0≤vI W k∧vI W k≤1000000000000) (slow:sm (fun i=>vI W i) t.length=E)
    (col:∀j,j<ncol t→sm (fun i=>(vI W i - vI W (t.length+i))*vI (rowN t i) j) t.length≤vI W (t.length+t.length+j))
    (val:vI X (ncol t)*E=(sm (fun i=>vI W (t.length+i)) t.length*cap+sm (fun j=>vI W (t.length+t.length+j)) (ncol t))*D) :
    foundV t cap (bO (X,D,W,E,()) (ncol t)) (bW (X,D,W,E,()) t.length (ncol t)) (bV (X,D,W,E,()) (ncol t)).1 (bV (X,D,W,E,()) (ncol t)).2.1:=by
  have hp:=hg.pos
  obtain⟨g,hg0,e1,e2,e3⟩:=zkV (l:=X.take (ncol t)) d1.1
  obtain⟨h,hh0,f1,f2,f3⟩:=zkV (l:=W.take (2*t.length+ncol t)) d2.1
  have tl:(X.take (ncol t)).length=ncol t:=by rw[List.length_take];omega
  have wl:(W.take (2*t.length+ncol t)).length=2*t.length+ncol t:=by rw[List.length_take];omega
  obtain⟨l',hl'⟩:∃l',l'=(redL (X.take (ncol t)) D).1:=⟨_,rfl⟩
  obtain⟨d',hd'⟩:∃d',d'=(redL (X.take (ncol t)) D).2:=⟨_,rfl⟩
  obtain⟨w',hw'⟩:∃w',w'=(redL (W.take (2*t.length+ncol t)) E).1:=⟨_,rfl⟩
  obtain⟨E',hE'⟩:∃E',E'=(redL (W.take (2*t.length+ncol t)) E).2:=⟨_,rfl⟩
  rw[←hd'] at e1
  rw[←hl'] at e2 e3
  rw[←hE'] at f1
  rw[←hw'] at f2 f3
  rw[tl] at e2 e3
  rw[wl] at f2 f3
  have e2:∀j,j<ncol t→vI X j=vI l' j*g:=fun j hj=>by rw[←zh1 (l:=X) hj];exact e2 j hj
  have f2:∀j,j<2*t.length+ncol t→vI W j=vI w' j*h:=fun j hj=>by rw[←zh1 (l:=W) hj];exact f2 j hj
  have eO:bO (X,D,W,E,()) (ncol t)=(d',l',()):=by rw[hd',hl'];rfl
  have eW:bW (X,D,W,E,()) t.length (ncol t)=(E',w'.take t.length,(w'.take (2*t.length)).drop t.length,w'.drop (2*t.length),()):=by rw[hE',hw'];rfl
  have eV1:(bV (X,D,W,E,()) (ncol t)).1=lowA (vI X (ncol t)) D:=rfl
  have eV2:(bV (X,D,W,E,()) (ncol t)).2.1=lowC (vI X (ncol t)) D:=rfl
  rw[eO,eW,eV1,eV2]
  -- denominators
  have hd0:0<d':=by
    refine Int.not_le.1 fun q=>?_
    have:=Int.mul_le_mul_of_nonneg_right q (show 0≤g by omega)
    omega
  have hd1:d'≤D:=by
    have:=Int.mul_le_mul_of_nonneg_left (show 1≤g by omega) (show 0≤d' by omega)
    omega
  have hE0:0<E':=by
    refine Int.not_le.1 fun q=>?_
    have:=Int.mul_le_mul_of_nonneg_right q (show 0≤h by omega)
    omega
  have hE1:E'≤E:=by
    have:=Int.mul_le_mul_of_nonneg_left (show 1≤h by omega) (show 0≤E' by omega)
    omega
  have hdot:∀i,i<t.length→dotI (rowN t i) l'*g=sm (fun j=>vI (rowN t i) j*vI X j) (ncol t):=fun i hi=>by
    unfold dotI
    rw[hg.rows i hi,←zch]
    exact zar _ fun j hj=>by rw[e2 j hj,Int.mul_assoc]
  have HO:opE t cap d' l'=0:=by
    refine zsk hp ⟨by omega,by omega⟩ e3 (fun j hj=>?_) fun i hi=>?_
    · have hj:j<ncol t:=by omega
      have q:=box j hj
      rw[e2 j hj] at q
      refine⟨zbZ hg0 (by rw[Int.zero_mul];exact q.1),zbZ hg0 (by rw[←e1];exact q.2)⟩
    · refine zbZ hg0 ?_
      rw[hdot i hi,Int.mul_assoc,←e1]
      exact high i hi
  have v1:∀i,i<t.length→vI (w'.take t.length) i=vI w' i:=fun i hi=>zh1 hi
  have v2:∀i,i<t.length→vI ((w'.take (2*t.length)).drop t.length) i=vI w' (t.length+i):=fun i hi=>by rw[zl0,zh1 (by omega)]
  have v3:∀i,vI (w'.drop (2*t.length)) i=vI w' (t.length+t.length+i):=fun i=>by rw[zl0];congr 1;omega
  have n1:(w'.take t.length).length=t.length:=by rw[List.length_take];omega
  have n2:((w'.take (2*t.length)).drop t.length).length=t.length:=by rw[List.length_drop,List.length_take];omega
  have n3:(w'.drop (2*t.length)).length=ncol t:=by rw[List.length_drop];omega
  have wb:∀k,k<2*t.length+ncol t→0≤vI w' k∧vI w' k≤1000000000000:=fun k hk=>by
    have q:=ws k
    rw[f2 k hk] at q
    have q1:0≤vI w' k:=zbZ hh0 (by rw[Int.zero_mul];exact q.1)
    have:=Int.mul_le_mul_of_nonneg_left (show 1≤h by omega) q1
    omega
  have HW:wtE t E' (w'.take t.length) ((w'.take (2*t.length)).drop t.length) (w'.drop (2*t.length))=0:=by
    refine zrm ⟨by omega,by omega⟩ n1 n2 n3 (fun i hi=>by rw[v1 i hi];exact wb i (by omega)) (fun i hi=>by rw[v2 i hi];exact wb _ (by omega)) (fun i hi=>by rw[v3];exact wb _ (by omega)) ?_ fun j hj=>?_
    · refine Int.eq_of_mul_eq_mul_right (show h≠0 by omega) ?_
      rw[←f1,←slow]
      unfold sumI
      rw[n1,←zch]
      exact zar _ fun i hi=>by rw[v1 i hi,f2 i (by omega)]
    · refine zbZ hh0 ?_
      rw[v3,←f2 _ (by omega)]
      unfold colW
      rw [←zch,zar (g:=fun i=>(vI W i - vI W (t.length+i))*vI (rowN t i) j) t.length fun i hi=>by
        rw[v1 i hi,v2 i hi,f2 i (by omega),f2 (t.length+i) (by omega),←Int.sub_mul,Int.mul_assoc,Int.mul_assoc,Int.mul_comm h]]
      exact col j hj
  -- the values
  obtain⟨V,hV⟩:∃V,V=mn (gets t l' t.length) (t.length - 1):=⟨_,rfl⟩
  obtain⟨B,hB⟩:∃B,B=sumI ((w'.take (2*t.length)).drop t.length)*cap+sumI (w'.drop (2*t.length)):=⟨_,rfl⟩
  have eB:B*h=sm (fun i=>vI W (t.length+i)) t.length*cap+sm (fun j=>vI W (t.length+t.length+j)) (ncol t):=by
    rw[hB]
    unfold sumI
    rw[n2,n3,Int.add_mul,Int.mul_assoc,Int.mul_comm cap,←Int.mul_assoc,←zch _ (fun i=>vI ((w'.take (2*t.length)).drop t.length) i),←zch _ (fun i=>vI (w'.drop (2*t.length)) i)]
    rw[zar (g:=fun i=>vI W (t.length+i)) t.length fun i hi=>by rw[v2 i hi,f2 _ (by omega)]]
    rw[zar (g:=fun j=>vI W (t.length+t.length+j)) (ncol t) fun j hj=>by rw[v3,f2 _ (by omega)]]
  have a1:vI X (ncol t)≤V*g:=by
    obtain⟨i,hi,e⟩:=zsn (xs:=gets t l' t.length) (k:=t.length - 1)
    rw[hV,e,zd8 (by omega),hdot i (by omega)]
    exact low i (by omega)
  have a2:V*E'≤B*d':=by
    have:=weak hg HO HW
    rw[←hV,←hB] at this;exact this
  have a3:vI X (ncol t)*E=B*h*D:=by rw[val,eB]
  have a4:V*g=vI X (ncol t):=by
    refine Int.le_antisymm (zbZ d2.1 ?_) a1
    have q1:=Int.mul_le_mul_of_nonneg_right a2 (show 0≤h*g by exact Int.mul_nonneg (by omega) (by omega))
    have q2:V*g*E=V*E'*(h*g):=by rw[f1];simp only[Int.mul_assoc,Int.mul_comm,Int.mul_left_comm]
    have q3:vI X (ncol t)*E=B*d'*(h*g):=by rw[a3,e1];simp only[Int.mul_assoc,Int.mul_comm,Int.mul_left_comm]
    rw[q2,q3];exact q1
  refine⟨HO,HW,?_,?_⟩
  · show lowA (mn (gets t l' t.length) (t.length - 1)) d'=_∧lowC (mn (gets t l' t.length) (t.length - 1)) d'=_
    rw[←hV]
    refine zk6 hd0 d1.1 ?_
    rw[←a4,e1,Int.mul_assoc,Int.mul_comm g d']
  · show lowA (sumI ((w'.take (2*t.length)).drop t.length)*cap+sumI (w'.drop (2*t.length))) E'=_∧lowC (sumI ((w'.take (2*t.length)).drop t.length)*cap+sumI (w'.drop (2*t.length))) E'=_
    rw[←hB]
    refine zk6 hE0 d1.1 ?_
    refine Int.eq_of_mul_eq_mul_right (show h≠0 by omega) ?_
    have q1:B*D*h=B*h*D:=by simp only[Int.mul_assoc,Int.mul_comm,Int.mul_left_comm]
    rw[q1,←a3,f1,Int.mul_assoc]
theorem zo4 {t:List (List Int)} {cap:Int} {x:zck} (hg:goodT t cap) (V:cornV t cap x):foundV t cap (bO x (ncol t)) (bW x t.length (ncol t)) (bV x (ncol t)).1 (bV x (ncol t)).2.1:=by
  obtain⟨l1,l2,d1,d2,low,high,box,ws,slow,col,val⟩:=V
  obtain⟨X,D,W,E,⟨⟩⟩:=x
  exact zlI hg l1 l2 d1 d2 low high box ws slow col val
theorem zhU {t:List (List Int)} {cap:Int} (h:goodT t cap):foundV t cap (bO (bX t cap) (ncol t)) (bW (bX t cap) t.length (ncol t)) (bV (bX t cap) (ncol t)).1 (bV (bX t cap) (ncol t)).2.1:=by
  obtain⟨x,hx⟩:=Option.isSome_iff_exists.1 (zkB h)
  have e:bX t cap=x:=by show (zgZ t cap).getD zfV=x;rw[hx];rfl
  rw[e]
  exact zo4 h (zqW h hx)
theorem zp5 {t:List (List Int)} {cap:Int} (h:goodT t cap):(-300000000000000≤(bV (bX t cap) (ncol t)).1∧(bV (bX t cap) (ncol t)).1≤300000000000000)∧0<(bV (bX t cap) (ncol t)).2.1∧(bV (bX t cap) (ncol t)).2.1≤1000000000000:=by
  have f:=zhU h
  have:=zsh h f.op
  rw[f.vo.1,f.vo.2] at this
  exact this
end Go.Eng.Ar
namespace Go.Eng.Ar
open Go.Eng Go.Proofs
set_option linter.all false
set_option maxRecDepth 100000
set_option maxHeartbeats 8000000
def reR (t:List (List Int)) (cap n:Int):Bool×Int×Unit:=if chkT t cap=0 then (if lvE n=0 then (decide (n*(bV (bX t cap) (ncol t)).2.1≤(bV (bX t cap) (ncol t)).1),0,()) else (false,lvE n,())) else (false,chkT t cap,())
@[reducible] def zpx:Spec:={pats:=[.dat zhh,.dat I64],res:=[{t:=.bool},{t:=I64}],pre:=fun _=>True,f:=fun x=>reR x.1.1 x.1.2.1 x.2.1}
theorem h50:Ok 11 zpx:=by
  refine mk (ctr:=[(26,zlp),(21,zfH),(27,zj3),(29,sLvE)]) ⟨h65,h73,h102,h114,trivial⟩ (nt:=32) Try.func11 rfl rfl rfl rfl (by kernel_rfl) (by kernel_rfl) (fun _=>[]) ?_
  rintro⟨⟨(t:List (List Int)),(cap:Int),⟨⟩⟩,(n:Int),⟨⟩⟩ _
  have hF:zaT [chkT t cap,lvE n]=if chkT t cap=0 then lvE n else chkT t cap:=by
    simp only[zaT]
    split
    · split
      · rename_i h;exact h.symm
      · rfl
    · rfl
  by_cases h0:chkT t cap=0
  · have hg:=zds h0
    have hpb:Hid (pBO t cap):=⟨hg,zkB hg⟩
    rw[if_pos h0] at hF
    by_cases h1:lvE n=0
    · have hn:0≤n∧n≤1000:=by
        unfold lvE at h1;split at h1
        · assumption
        · cases h1
      obtain ⟨v1,v2,e1,q1,q2⟩:∃v1 v2:Int,bV (bX t cap) (ncol t)=(v1,v2,())∧(-300000000000000≤v1∧v1≤300000000000000)∧0<v2∧v2≤1000000000000:=by
        have hp:=zp5 hg
        exact⟨_,_,rfl,hp.1,hp.2⟩
      have hm:=zex hn (show 0≤v2∧v2≤1000000000000 by omega)
      have hr:Hid (-9223372036854775808≤n*v2∧n*v2≤9223372036854775807):=by show _∧_;omega
      have hF2:zaT [0,lvE n]=0:=by rw[h0] at hF;rw[hF,h1]
      have e:reR t cap n=(decide (n*v2≤v1),0,()):=by unfold reR;rw[if_pos h0,if_pos h1,e1]
      clear hm
      repeat' (intro hzz;(try (rename Two=>hq;cases hq));(try dsimp only at hzz);(try simp only[zad,zac,eqD,inR,big,zab,zB] at hzz);(try simp only[zad,zac,eqD,inR,big,zab,zB,hF2,h0,h1,e1,e] at hzz);(try (first|contradiction|(exfalso;omega)));(try (revert hzz;intro _)))
      all_goals try (rename Unit=>hq;clear hq)
      all_goals try ((with_reducible refine Held.mk ?_);(with_reducible (first|refine Frz.mk ?_|refine And.intro (Frz.mk ?_) ?_|refine And.intro ?_ (Frz.mk ?_)));repeat' first|exact True.intro|(change _=_;with_reducible rfl)|refine And.intro ?_ ?_|(with_reducible refine Frz.mk ?_))
      all_goals try (refine Held.mk ?_;(try dsimp only at *);(try simp only[zad,zac,eqD,inR,big,zab,zB] at *);(try simp only[zad,zac,eqD,inR,big,zab,zB,hF2,h0,h1,e1,e] at *))
      all_goals try omega
      all_goals first|exact hpb|exact hr|(show ((2:Nat):Int)≤4611686018427387904;decide)|exact⟨rfl,trivial⟩|rfl|trace_state
    · have hF2:zaT [0,lvE n]=lvE n:=by rw[h0] at hF;exact hF
      have e:reR t cap n=(false,lvE n,()):=by unfold reR;rw[if_pos h0,if_neg h1]
      repeat' (intro hzz;(try (rename Two=>hq;cases hq));(try dsimp only at hzz);(try simp only[zad,zac,eqD,inR,big,zab,zB] at hzz);(try simp only[zad,zac,eqD,inR,big,zab,zB,hF2,h0,h1,e] at hzz);(try (first|contradiction|(exfalso;omega)));(try (revert hzz;intro _)))
      all_goals try (rename Unit=>hq;clear hq)
      all_goals try ((with_reducible refine Held.mk ?_);(with_reducible (first|refine Frz.mk ?_|refine And.intro (Frz.mk ?_) ?_|refine And.intro ?_ (Frz.mk ?_)));repeat' first|exact True.intro|(change _=_;with_reducible rfl)|refine And.intro ?_ ?_|(with_reducible refine Frz.mk ?_))
      all_goals try (refine Held.mk ?_;(try dsimp only at *);(try simp only[zad,zac,eqD,inR,big,zab,zB] at *);(try simp only[zad,zac,eqD,inR,big,zab,zB,hF2,h0,h1,e] at *))
      all_goals try omega
      all_goals first|(show ((2:Nat):Int)≤4611686018427387904;decide)|trace_state
  · rw[if_neg h0] at hF
    have e:reR t cap n=(false,chkT t cap,()):=by unfold reR;rw[if_neg h0]
    repeat' (intro hzz;(try (rename Two=>hq;cases hq));(try dsimp only at hzz);(try simp only[zad,zac,eqD,inR,big,zab,zB] at hzz);(try simp only[zad,zac,eqD,inR,big,zab,zB,hF,h0,e] at hzz);(try (first|contradiction|(exfalso;omega)));(try (revert hzz;intro _)))
    all_goals try (rename Unit=>hq;clear hq)
    all_goals try ((with_reducible refine Held.mk ?_);(with_reducible (first|refine Frz.mk ?_|refine And.intro (Frz.mk ?_) ?_|refine And.intro ?_ (Frz.mk ?_)));repeat' first|exact True.intro|(change _=_;with_reducible rfl)|refine And.intro ?_ ?_|(with_reducible refine Frz.mk ?_))
    all_goals try (refine Held.mk ?_;(try dsimp only at *);(try simp only[zad,zac,eqD,inR,big,zab,zB] at *);(try simp only[zad,zac,eqD,inR,big,zab,zB,hF,h0,e] at *))
    all_goals try omega
    all_goals first|(show ((2:Nat):Int)≤4611686018427387904;decide)|trace_state
def e0 (L:List RayD) (k:Nat):Int:=sm (fun i=>(endR (rayN L i)).1.1) k
def e1 (L:List RayD) (k:Nat):Int:=sm (fun i=>(endR (rayN L i)).1.2.1) k
def e2 (L:List RayD) (k:Nat):Int:=sm (fun i=>(endR (rayN L i)).2.1.1) k
def e3 (L:List RayD) (k:Nat):Int:=sm (fun i=>(endR (rayN L i)).2.1.2.1) k
def gL (x:RayD):Int:=x.1.2.1*x.2.1.1
def gU (x:RayD):Int:=x.1.2.1*x.2.1.2.1
def n0 (L:List RayD) (k:Nat):Int:=sm (fun i=>gL (rayN L i)*gL (rayN L i)) k
def n1 (L:List RayD) (k:Nat):Int:=sm (fun i=>gU (rayN L i)*gU (rayN L i)) k
def zmJ (r v:Int) (xs:List SpkD) (p:zal):List RayD:=zff r v xs p xs.length
theorem zmH {r v:Int} {xs:List SpkD} {p:zal}:(zmJ r v xs p).length=xs.length:=zak _ _
theorem zmI {r v:Int} {xs:List SpkD} {p:zal} {i:Nat} (hi:i<xs.length):rayN (zmJ r v xs p) i=zoB r v p (spkN xs i):=zaD _ _ _ _ hi
abbrev plN (l:List zal) (i:Nat):zal:=l.getD i (Ty.dflt zbc)
@[reducible] def zpE:Spec:={pats:=[.dat (.sl zbc)],res:=[{t:=.sl zbc}],pre:=fun x=>pTen (List.length (α:=zal) x.1),f:=fun x=>(x.1,())}
theorem h37:Ok 8 zpE:=by
  refine mk (ctr:=[]) trivial (nt:=6) Try.func8 rfl rfl rfl rfl (by kernel_rfl) (by kernel_rfl) (fun _=>[]) ?_
  rintro⟨(l:List zal),_⟩ (hp:l.length≤1000)
  repeat' (intro hzz;(try (rename Two=>hq;cases hq));(try dsimp only at hzz);(try simp only[zad,zac,eqD,inR,big,zab,zB] at hzz);(try (revert hzz;intro _)))
  all_goals try (rename Unit=>hq;clear hq)
  all_goals try ((with_reducible refine Held.mk ?_);(with_reducible (first|refine Frz.mk ?_|refine And.intro (Frz.mk ?_) ?_|refine And.intro ?_ (Frz.mk ?_)));repeat' first|exact True.intro|(change _=_;with_reducible rfl)|refine And.intro ?_ ?_|(with_reducible refine Frz.mk ?_))
  all_goals try (refine Held.mk ?_;(try dsimp only at *);(try simp only[zad,zac,eqD,inR,big,zab,zB] at *))
  · show 0+l.length≤2147483648;omega
  · rfl
def tbW (xs:List SpkD) (p:zal) (j:Nat):Int:=1000*stL (spkN xs j).1 p
def tbV (xs:List SpkD) (p:zal) (u:Int) (j:Nat):Int:=(tbW xs p j*tbW xs p j) / u
def zdN (xs:List SpkD) (p:zal) (u:Int) (k:Nat):List Int:=tab (tbV xs p u) k
def okR (xs:List SpkD) (p:zal) (u:Int):Nat→Bool
  | 0=>true
  | k+1=>okR xs p u k&&decide (tbV xs p u k≤100)
theorem zpQ {xs:List SpkD} {p:zal} {u:Int} {k:Nat} (h:100<tbV xs p u k):∀n,k<n→okR xs p u n=false
  | 0,hk=>absurd hk (Nat.not_lt_zero _)
  | n+1,hk=>by
    simp only[okR]
    by_cases e:k=n
    · subst e;rw[decide_eq_false (by omega),Bool.and_false]
    · rw[zpQ h n (by omega),Bool.false_and]
theorem zmT {xs:List SpkD} {p:zal} {u:Int}:∀ {n:Nat},okR xs p u n=true→∀k,k<n→tbV xs p u k≤100
  | n+1,h,k,hk=>by
    simp only[okR,Bool.and_eq_true] at h
    by_cases e:k=n
    · subst e;exact of_decide_eq_true h.2
    · exact zmT h.1 k (by omega)
def stE (xs:List SpkD) (u:Int) (p:zal):Int:=if zbH xs p=0 then (if okR xs p u xs.length=true then 0 else 8) else zbH xs p
def stsE (xs:List SpkD) (u:Int) (l:List zal):Int:=zaT (l.map (stE xs u))
theorem znJ {xs:List zal} {i:Nat} (h:i<xs.length):xs.drop i=plN xs i::xs.drop (i+1):=by
  rw[List.drop_eq_getElem_cons h]
  simp[plN,List.getD,List.getElem?_eq_getElem h]
theorem zgf {xs:List SpkD} {u:Int} {l:List zal} {i:Nat} (h:i<l.length):stsE xs u (l.drop i)=if stE xs u (plN l i)=0 then stsE xs u (l.drop (i+1)) else stE xs u (plN l i):=by
  unfold stsE;rw[znJ h];rfl
def tbH (r v:Int) (xs:List SpkD) (n:Nat) (u:Int):Int:=if (chkA r v xs).2=0 then (if n=0 then 10 else if ¬(n≤4∧xs.length≤3) then 8 else if 1≤u∧u≤1000000000000000000 then 0 else 2) else (chkA r v xs).2
def tbE (r v:Int) (xs:List SpkD) (l:List zal) (u:Int):Int:=if tbH r v xs l.length u=0 then stsE xs u l else tbH r v xs l.length u
def tbT (xs:List SpkD) (l:List zal) (u:Int) (k:Nat):List (List Int):=tab (fun i=>zdN xs (plN l i) u xs.length) k
def tbR (r v:Int) (xs:List SpkD) (l:List zal) (u:Int):List (List Int)×Int×Unit:=if tbE r v xs l u=0 then (tbT xs l u l.length,0,()) else ([],tbE r v xs l u,())
theorem zqf {r v:Int} {xs:List SpkD} {n:Nat} {u:Int} (h:tbH r v xs n u=0):(chkA r v xs).2=0∧(0<n∧n≤4∧xs.length≤3)∧1≤u∧u≤1000000000000000000:=by
  unfold tbH at h
  split at h
  · rename_i h1
    split at h
    · cases h
    · split at h
      · cases h
      · split at h
        · rename_i h2 h3 h4
          refine⟨h1,?_,h4⟩
          have:=Classical.not_not.1 h3
          omega
        · cases h
  · rename_i h1;exact absurd h h1
theorem zpp {xs:List SpkD} {p:zal} {j:Nat} (hs:inP (spkN xs j).1) (hp:inP p) (hn:100≤sqP (spkN xs j).1 p):(0≤tbW xs p j∧tbW xs p j≤100000000)∧0≤tbW xs p j*tbW xs p j∧tbW xs p j*tbW xs p j≤10000000000000000:=by
  have h:=(zpq hs hp hn).1
  have h1:0≤tbW xs p j∧tbW xs p j≤100000000:=by unfold tbW;omega
  exact⟨h1,zrv h1.1 h1.2⟩
theorem zrp {xs:List SpkD} {p:zal} {j:Nat} {u:Int} (hs:inP (spkN xs j).1) (hp:inP p) (hn:100≤sqP (spkN xs j).1 p) (hu:1≤u):0≤tbV xs p u j∧tbV xs p u j≤10000000000000000:=by
  have h:=(zpp hs hp hn).2
  have:=zle (b:=u) h.1 (by omega)
  unfold tbV;omega
abbrev tbF (r v:Int) (xs:List SpkD) (n:Nat) (u:Int):Int:=zaT [(chkA r v xs).2,bif decide ((0:Int)<(n:Int)) then 0 else 10,bif (bif decide ((n:Int)≤4) then decide ((xs.length:Int)≤3) else false) then 0 else 8,bif zan u 1 1000000000000000000 then 0 else 2]
theorem zrq (r v:Int) (xs:List SpkD) (n:Nat) (u:Int):tbF r v xs n u=tbH r v xs n u:=by
  simp only[tbF,zaT,tbH]
  split
  · by_cases h1:n=0
    · subst h1;rfl
    · rw [decide_eq_true (show (0:Int)<(n:Int) by omega),if_neg h1]
      show (if (0:Int)=0 then _ else _)=_
      rw[if_pos rfl]
      by_cases h2:n≤4∧xs.length≤3
      · rw[decide_eq_true (show (n:Int)≤4 by omega),decide_eq_true (show (xs.length:Int)≤3 by omega),if_neg (fun h:¬(n≤4∧xs.length≤3)=>h h2)]
        show (if (0:Int)=0 then _ else _)=_
        rw[if_pos rfl]
        by_cases h3:1≤u∧u≤1000000000000000000
        · rw[if_pos h3,show zan u 1 1000000000000000000=true from decide_eq_true h3];rfl
        · rw[if_neg h3,show zan u 1 1000000000000000000=false from decide_eq_false h3];rfl
      · rw[if_pos h2]
        by_cases h3:n≤4
        · rw[decide_eq_true (show (n:Int)≤4 by omega),decide_eq_false (show ¬(xs.length:Int)≤3 by omega)];rfl
        · rw[decide_eq_false (show ¬(n:Int)≤4 by omega)];rfl
  · rfl
def zoJ (r v:Int) (xs:List SpkD):Prop:=(chkA r v xs).2=0
theorem zl7 {r v:Int} {xs:List SpkD} {p:zal} (h:zoJ r v xs) (hs:zbH xs p=0):(zaY r v xs (p.1,p.2.1,p.2.2.1,())).1=zmJ r v xs p:=by
  have:zfl r v xs p=0:=(if_pos h).trans hs
  have e:zaY r v xs (p.1,p.2.1,p.2.2.1,())=zaY r v xs p:=rfl
  rw[e];unfold zaY;rw[if_pos this];rfl
theorem ziT {r v:Int} {xs:List SpkD} {p:zal} {j:Nat} (h:zoJ r v xs) (hs:zbH xs p=0) (hj:j<xs.length):(List.getD (zaY r v xs (p.1,p.2.1,p.2.2.1,())).1 j (Ty.dflt RayT)).2.1.1=stL (spkN xs j).1 p:=by
  rw[zl7 h hs]
  exact congrArg (fun z:RayD=>z.2.1.1) (zmI (r:=r) (v:=v) (p:=p) hj)
theorem zhm {r v:Int} {xs:List SpkD} {p:zal} (h:zoJ r v xs) (hs:zbH xs p=0):List.length (α:=RayD) (zaY r v xs (p.1,p.2.1,p.2.2.1,())).1=xs.length:=by
  rw[zl7 h hs];exact zmH
theorem zl8 {r v u:Int} {xs:List SpkD} {p:zal} {j:Nat} (ha:goodArr r v xs) (hs:zbH xs p=0) (hj:j<xs.length) (hu:1≤u):((0≤tbW xs p j∧tbW xs p j≤100000000)∧0≤tbW xs p j*tbW xs p j∧tbW xs p j*tbW xs p j≤10000000000000000)∧0≤tbV xs p u j∧tbV xs p u j≤10000000000000000:=by
  have h1:=(ha.sp j hj).1
  have h2:=(zgj hs).1
  have h3:=znA h1 h2 ((zgj hs).2 j hj)
  exact⟨zpp h1 h2 h3,zrp h1 h2 h3 hu⟩
theorem zop {r v u:Int} {xs:List SpkD} {p:zal} {j:Nat} (ha:goodArr r v xs) (hs:zbH xs p=0) (hj:j<xs.length) (hu:1≤u):(tbW xs p j*tbW xs p j).tdiv u=tbV xs p u j:=Int.tdiv_eq_ediv_of_nonneg (zl8 ha hs hj hu).1.2.1
@[reducible] def zkO:Spec:={pats:=[.dat ArrT,.dat (.sl zbc),.dat I64],res:=[{t:=.sl (.sl I64)},{t:=I64}],pre:=fun x=>pLen (List.length (α:=SpkD) x.1.2.2.1)∧pLen (List.length (α:=zal) x.2.1),f:=fun x=>tbR x.1.1 x.1.2.1 x.1.2.2.1 x.2.1 x.2.2.1}
def tbA1 (xs:List SpkD) (l:List zal) (u:Int):LoopAnn:={σ:=Nat,pat:=fun k=>sI 46 k::zmp 10 60010 38 (tbT xs l u k),inv:=fun k=>k≤l.length∧stsE xs u (l.drop k)=stsE xs u l,meas:=fun k=>l.length - k}
def tbA2 (xs:List SpkD) (l:List zal) (u:Int) (st:St):LoopAnn:=zlm 46 st fun i=>{σ:=Nat,pat:=fun k=>sI 61 k::sOwn 15 60015 3 (zdN xs (plN l i.toNat) u k),inv:=fun k=>k≤xs.length∧okR xs (plN l i.toNat) u k=true,meas:=fun k=>xs.length - k}
theorem h36:Ok 6 zkO:=by
  refine mk (ctr:=[(21,zfH),(23,zbV),(22,zj5),(24,zci),(25,zqk)]) ⟨h73,h85,h87,h88,h93,trivial⟩ (nt:=87) Try.func6 rfl rfl rfl rfl (by kernel_rfl) (by kernel_rfl) (fun x=>[fun _=>tbA1 x.1.2.2.1 x.2.1 x.2.2.1,tbA2 x.1.2.2.1 x.2.1 x.2.2.1]) ?_
  rintro⟨⟨(r:Int),(v:Int),(xs:List SpkD),⟨⟩⟩,(l:List zal),(u:Int),⟨⟩⟩ ⟨(hp:pLen xs.length),(hq:pLen l.length)⟩
  have hF:=zrq r v xs l.length u
  by_cases h0:tbH r v xs l.length u=0
  · rw [h0] at hF
    obtain⟨q1,⟨q2,q3,q4⟩,q5⟩:=zqf h0
    have ha:=zhW q1
    have hE:∀p:zal,(zaY r v xs (p.1,p.2.1,p.2.2.1,())).2.1=zbH xs p:=fun p=>by
      have:zfl r v xs p=zbH xs p:=if_pos q1
      have e:zaY r v xs (p.1,p.2.1,p.2.2.1,())=zaY r v xs p:=rfl
      rw[e];unfold zaY
      split
      · rename_i h;rw[this] at h;exact h.symm
      · exact this
    have hR:∀p:zal,zbH xs p=0→(zaY r v xs (p.1,p.2.1,p.2.2.1,())).1=zmJ r v xs p:=fun p h=>by
      have:zfl r v xs p=0:=(if_pos q1).trans h
      have e:zaY r v xs (p.1,p.2.1,p.2.2.1,())=zaY r v xs p:=rfl
      rw[e];unfold zaY;rw[if_pos this];rfl
    have c1:(l.length:Int)≤4:=by omega
    have c2:(xs.length:Int)≤3:=by omega
    have c3:(0:Int)<l.length:=by omega
    have hF2:zaT [0,0,0,bif zan u 1 1000000000000000000 then 0 else 2]=0:=by
      rw[show zan u 1 1000000000000000000=true from decide_eq_true q5];rfl
    have hid:Hid (∀p:zal,zbH xs p=0→(zaY r v xs (p.1,p.2.1,p.2.2.1,())).1=zmJ r v xs p):=hR
    clear hR
    have hck:zoJ r v xs:=q1
    clear hid
    repeat' (intro hzz;(try (rename Two=>hq;cases hq));(try dsimp only at hzz);(try simp only[zad,zac,eqD,inR,big,zab,zB] at hzz);(try simp only[zad,zac,eqD,inR,big,zab,zB,Int.toNat_natCast,hE,q1,c1,c2,c3,decide_true,cond_true,hF2] at hzz);(try (first|contradiction|(exfalso;omega)));(try (revert hzz;intro _)))
    all_goals try (rename Unit=>hq;clear hq)
    all_goals try ((with_reducible refine Held.mk ?_);(with_reducible (first|refine Frz.mk ?_|refine And.intro (Frz.mk ?_) ?_|refine And.intro ?_ (Frz.mk ?_)));repeat' first|exact True.intro|(change _=_;with_reducible rfl)|refine And.intro ?_ ?_|(with_reducible refine Frz.mk ?_))
    all_goals try (refine Held.mk ?_;(try dsimp only at *);(try simp only[zad,zac,eqD,inR,big,zab,zB] at *);(try simp only[zad,zac,eqD,inR,big,zab,zB,Int.toNat_natCast,hE,q1,c1,c2,c3,decide_true,cond_true,hF2] at *))
    all_goals try omega
    · show ((4:Nat):Int)≤4611686018427387904;decide
    ·
      refine zaq.mk ?_
      refine Exists.intro (0:Nat) ?_
      refine And.intro (Leaf.mk ?_) ?_
      · repeat' first|exact True.intro|refine And.intro ?_ ?_
        all_goals try ((change _=_<;>try dsimp only)<;>try with_reducible rfl)
        all_goals try omega
        all_goals (rfl)
      exact⟨Nat.zero_le _,rfl⟩
    · rename_i _ _ k hk hlt hs
      have hs:¬zbH xs (plN l k)=0:=hs
      have e:=hk.2
      have e2:stE xs u (plN l k)=zbH xs (plN l k):=if_neg hs
      rw[zgf (by omega),e2,if_neg hs] at e
      have e3:tbE r v xs l u=zbH xs (plN l k):=(if_pos h0).trans e.symm
      have e4:tbR r v xs l u=([],zbH xs (plN l k),()):=by unfold tbR;rw[e3,if_neg hs]
      rw[e4];exact⟨rfl,rfl⟩
    · rename_i _ _ k hk hlt hs
      refine zaq.mk ?_
      refine Exists.intro (0:Nat) ?_
      refine And.intro (Leaf.mk ?_) ?_
      · repeat' first|exact True.intro|refine And.intro ?_ ?_
        all_goals try ((change _=_<;>try dsimp only)<;>try with_reducible rfl)
        all_goals try omega
        all_goals (rfl)
      exact⟨Nat.zero_le _,rfl⟩
    · rename_i _ _ k hk hlt hs j hj hjl
      have hs:zbH xs (plN l k)=0:=hs
      have hjl:(j:Int)<(List.length (α:=RayD) (zaY r v xs ((plN l k).1,(plN l k).2.1,(plN l k).2.2.1,())).1:Int):=hjl
      rw[zhm hck hs] at hjl
      have e:=ziT (j:=j) hck hs (by omega)
      have q:=(zl8 (u:=u) (j:=j) ha hs (by omega) q5.1).1.1
      show -9223372036854775808≤1000*(List.getD (zaY r v xs ((plN l k).1,(plN l k).2.1,(plN l k).2.2.1,())).1 j (Ty.dflt RayT)).2.1.1∧1000*(List.getD (zaY r v xs ((plN l k).1,(plN l k).2.1,(plN l k).2.2.1,())).1 j (Ty.dflt RayT)).2.1.1≤9223372036854775807
      rw[e]
      exact⟨Int.le_trans (by decide) q.1,Int.le_trans q.2 (by decide)⟩
    · rename_i _ _ k hk hlt hs j hj hjl
      have hs:zbH xs (plN l k)=0:=hs
      have hjl:(j:Int)<(List.length (α:=RayD) (zaY r v xs ((plN l k).1,(plN l k).2.1,(plN l k).2.2.1,())).1:Int):=hjl
      rw[zhm hck hs] at hjl
      have e:=ziT (j:=j) hck hs (by omega)
      have q:=(zl8 (u:=u) (j:=j) ha hs (by omega) q5.1).1.2
      rw[show List.getD (zaY r v xs ((l.getD k zbc.dflt).1,(l.getD k zbc.dflt).2.1,(l.getD k zbc.dflt).2.2.1,())).1 j RayT.dflt=List.getD (zaY r v xs ((plN l k).1,(plN l k).2.1,(plN l k).2.2.1,())).1 j (Ty.dflt RayT) from rfl,e]
      exact⟨Int.le_trans (by decide) q.1,Int.le_trans q.2 (by decide)⟩
    · rename_i _ _ k hk hlt hs j hj hjl
      have hs:zbH xs (plN l k)=0:=hs
      have hjl:(j:Int)<(List.length (α:=RayD) (zaY r v xs ((plN l k).1,(plN l k).2.1,(plN l k).2.2.1,())).1:Int):=hjl
      rw[zhm hck hs] at hjl
      have e:=ziT (j:=j) hck hs (by omega)
      have q:=(zl8 (u:=u) (j:=j) ha hs (by omega) q5.1).2
      have q2:=zop (j:=j) ha hs (by omega) q5.1
      rw[show List.getD (zaY r v xs ((l.getD k zbc.dflt).1,(l.getD k zbc.dflt).2.1,(l.getD k zbc.dflt).2.2.1,())).1 j RayT.dflt=List.getD (zaY r v xs ((plN l k).1,(plN l k).2.1,(plN l k).2.2.1,())).1 j (Ty.dflt RayT) from rfl,e]
      refine⟨by omega,?_⟩
      show -9223372036854775808≤(tbW xs (plN l k) j*tbW xs (plN l k) j).tdiv u∧(tbW xs (plN l k) j*tbW xs (plN l k) j).tdiv u≤9223372036854775807
      rw[q2]
      exact⟨Int.le_trans (by decide) q.1,Int.le_trans q.2 (by decide)⟩
    · rename_i _ _ k hk hlt hs j hj hjl hm
      have hs:zbH xs (plN l k)=0:=hs
      have hjl:(j:Int)<(List.length (α:=RayD) (zaY r v xs ((plN l k).1,(plN l k).2.1,(plN l k).2.2.1,())).1:Int):=hjl
      rw[zhm hck hs] at hjl
      have e:=ziT (j:=j) hck hs (by omega)
      rw[show List.getD (zaY r v xs ((l.getD k zbc.dflt).1,(l.getD k zbc.dflt).2.1,(l.getD k zbc.dflt).2.2.1,())).1 j RayT.dflt=List.getD (zaY r v xs ((plN l k).1,(plN l k).2.1,(plN l k).2.2.1,())).1 j (Ty.dflt RayT) from rfl,e] at hm
      have hm:100<(tbW xs (plN l k) j*tbW xs (plN l k) j).tdiv u:=hm
      rw[zop (j:=j) ha hs (by omega) q5.1] at hm
      have hno:okR xs (plN l k) u xs.length=false:=zpQ hm _ (by omega)
      have e:=hk.2
      have e2:stE xs u (plN l k)=8:=(if_pos hs).trans (if_neg (by rw[hno];decide))
      rw[zgf (by omega),e2,if_neg (by decide)] at e
      have e3:tbE r v xs l u=8:=(if_pos h0).trans e.symm
      have e4:tbR r v xs l u=([],8,()):=by unfold tbR;rw[e3];rfl
      rw[e4];exact⟨rfl,rfl⟩
    · rename_i _ _ k hk hlt hs j hj hjl hm
      show (zdN xs (plN l k) u j).length+1≤2147483648
      rw[show (zdN xs (plN l k) u j).length=j from zak _ _];omega
    · rename_i _ _ k hk hlt hs j hj hjl hm
      have hs:zbH xs (plN l k)=0:=hs
      have hjl:(j:Int)<(List.length (α:=RayD) (zaY r v xs ((plN l k).1,(plN l k).2.1,(plN l k).2.2.1,())).1:Int):=hjl
      rw[zhm hck hs] at hjl
      have e:=ziT (j:=j) hck hs (by omega)
      rw[show List.getD (zaY r v xs ((l.getD k zbc.dflt).1,(l.getD k zbc.dflt).2.1,(l.getD k zbc.dflt).2.2.1,())).1 j RayT.dflt=List.getD (zaY r v xs ((plN l k).1,(plN l k).2.1,(plN l k).2.2.1,())).1 j (Ty.dflt RayT) from rfl,e] at hm
      have hm:(tbW xs (plN l k) j*tbW xs (plN l k) j).tdiv u≤100:=hm
      rw[zop (j:=j) ha hs (by omega) q5.1] at hm
      have e5:(1000*(List.getD (zaY r v xs ((plN l k).1,(plN l k).2.1,(plN l k).2.2.1,())).1 j (Ty.dflt RayT)).2.1.1*(1000*(List.getD (zaY r v xs ((plN l k).1,(plN l k).2.1,(plN l k).2.2.1,())).1 j (Ty.dflt RayT)).2.1.1)).tdiv u=tbV xs (plN l k) u j:=by
        rw[e];exact zop (j:=j) ha hs (by omega) q5.1
      have e6:zdN xs (plN l k) u j++[(1000*(List.getD (zaY r v xs ((plN l k).1,(plN l k).2.1,(plN l k).2.2.1,())).1 j (Ty.dflt RayT)).2.1.1*(1000*(List.getD (zaY r v xs ((plN l k).1,(plN l k).2.1,(plN l k).2.2.1,())).1 j (Ty.dflt RayT)).2.1.1)).tdiv u]=zdN xs (plN l k) u (j+1):=by rw[e5];rfl
      have e7:(zdN xs (plN l k) u j).length+1=(zdN xs (plN l k) u (j+1)).length:=by rw[show (zdN xs (plN l k) u j).length=j from zak _ _,show (zdN xs (plN l k) u (j+1)).length=j+1 from zak _ _]
      refine zaq.mk ?_
      refine Exists.intro (j+1) ?_
      refine And.intro (Leaf.mk ?_) ?_
      · repeat' first|exact True.intro|refine And.intro ?_ ?_
        all_goals try ((change _=_<;>try dsimp only)<;>try with_reducible rfl)
        all_goals try omega
        all_goals (first|rfl|exact e6|exact congrArg List.length e6|exact (congrArg List.length e6).symm|exact e7|exact e7.symm)
      exact⟨⟨(show j+1≤xs.length by omega),(show (okR xs (plN l k) u j&&decide (tbV xs (plN l k) u j≤100))=true by rw[hj.2,decide_eq_true hm];rfl)⟩,(show xs.length - (j+1)<xs.length - j by omega)⟩
    · rename_i _ _ k hk hlt hs j hj hjl
      show (tbT xs l u k).length+1≤2147483648
      rw[show (tbT xs l u k).length=k from zak _ _];omega
    · rename_i _ _ k hk hlt hs j hj hjl
      have hs:zbH xs (plN l k)=0:=hs
      have hjl:(List.length (α:=RayD) (zaY r v xs ((plN l k).1,(plN l k).2.1,(plN l k).2.2.1,())).1:Int)≤(j:Int):=hjl
      rw[zhm hck hs] at hjl
      have ej:j=xs.length:=by omega
      subst ej
      have e:=hk.2
      have e2:stE xs u (plN l k)=0:=(if_pos hs).trans (if_pos hj.2)
      rw[zgf (by omega),e2,if_pos rfl] at e
      have e7:(tbT xs l u k).length+1=(tbT xs l u (k+1)).length:=by rw[show (tbT xs l u k).length=k from zak _ _,show (tbT xs l u (k+1)).length=k+1 from zak _ _]
      refine zaq.mk ?_
      refine Exists.intro (k+1) ?_
      refine And.intro (Leaf.mk ?_) ?_
      · repeat' first|exact True.intro|refine And.intro ?_ ?_
        all_goals try ((change _=_<;>try dsimp only)<;>try with_reducible rfl)
        all_goals try omega
        all_goals (first|rfl|exact e7|exact e7.symm)
      exact⟨⟨(show k+1≤l.length by omega),e⟩,(show l.length - (k+1)<l.length - k by omega)⟩
    · rename_i _ _ k hk hlt
      have e:=hk.2
      rw[List.drop_eq_nil_of_le (by omega)] at e
      have e3:tbE r v xs l u=0:=(if_pos h0).trans e.symm
      have e4:tbR r v xs l u=(tbT xs l u l.length,0,()):=if_pos e3
      rw[e4,show k=l.length by omega];exact⟨rfl,rfl⟩
  · have eE:tbE r v xs l u=tbH r v xs l.length u:=if_neg h0
    have eR:tbR r v xs l u=([],tbH r v xs l.length u,()):=by unfold tbR;rw[eE,if_neg h0]
    by_cases c1:(l.length:Int)≤4
    · have hN:zaT [(chkA r v xs).2,bif decide ((0:Int)<(l.length:Int)) then 0 else 10,bif decide ((xs.length:Int)≤3) then 0 else 8,bif zan u 1 1000000000000000000 then 0 else 2]=tbH r v xs l.length u:=by
        rw[←hF];unfold tbF;rw[decide_eq_true c1];rfl
      repeat' (intro hzz;(try (rename Two=>hq;cases hq));(try dsimp only at hzz);(try simp only[zad,zac,eqD,inR,big,zab,zB] at hzz);(try simp only[zad,zac,eqD,inR,big,zab,zB,Int.toNat_natCast,c1,hN,h0] at hzz);(try (first|contradiction|(exfalso;omega)));(try (revert hzz;intro _)))
      all_goals try (rename Unit=>hq;clear hq)
      all_goals try ((with_reducible refine Held.mk ?_);(with_reducible (first|refine Frz.mk ?_|refine And.intro (Frz.mk ?_) ?_|refine And.intro ?_ (Frz.mk ?_)));repeat' first|exact True.intro|(change _=_;with_reducible rfl)|refine And.intro ?_ ?_|(with_reducible refine Frz.mk ?_))
      all_goals try (refine Held.mk ?_;(try dsimp only at *);(try simp only[zad,zac,eqD,inR,big,zab,zB] at *);(try simp only[zad,zac,eqD,inR,big,zab,zB,Int.toNat_natCast,c1,hN,h0] at *))
      all_goals try omega
      all_goals first|(with_reducible exact hp)|(show ((4:Nat):Int)≤4611686018427387904;decide)|(rw[eR];exact⟨rfl,rfl⟩)|trace_state
    · have hN:zaT [(chkA r v xs).2,bif decide ((0:Int)<(l.length:Int)) then 0 else 10,bif false then 0 else 8,bif zan u 1 1000000000000000000 then 0 else 2]=tbH r v xs l.length u:=by
        rw[←hF];unfold tbF;rw[decide_eq_false c1];rfl
      repeat' (intro hzz;(try (rename Two=>hq;cases hq));(try dsimp only at hzz);(try simp only[zad,zac,eqD,inR,big,zab,zB] at hzz);(try simp only[zad,zac,eqD,inR,big,zab,zB,Int.toNat_natCast,c1,hN,h0] at hzz);(try (first|contradiction|(exfalso;omega)));(try (revert hzz;intro _)))
      all_goals try (rename Unit=>hq;clear hq)
      all_goals try ((with_reducible refine Held.mk ?_);(with_reducible (first|refine Frz.mk ?_|refine And.intro (Frz.mk ?_) ?_|refine And.intro ?_ (Frz.mk ?_)));repeat' first|exact True.intro|(change _=_;with_reducible rfl)|refine And.intro ?_ ?_|(with_reducible refine Frz.mk ?_))
      all_goals try (refine Held.mk ?_;(try dsimp only at *);(try simp only[zad,zac,eqD,inR,big,zab,zB] at *);(try simp only[zad,zac,eqD,inR,big,zab,zB,Int.toNat_natCast,c1,hN,h0] at *))
      all_goals try omega
      all_goals first|(with_reducible exact hp)|(show ((4:Nat):Int)≤4611686018427387904;decide)|(rw[eR];exact⟨rfl,rfl⟩)|trace_state
theorem zkK {xs:List SpkD} {u:Int}:∀ {l:List zal},stsE xs u l=0→∀p∈l,stE xs u p=0
  | [],_,p,hp=>by cases hp
  | q :: l,h,p,hp=>by
    unfold stsE at h
    simp only[List.map_cons,zaT] at h
    by_cases e:stE xs u q=0
    · rw[if_pos e] at h
      rcases List.mem_cons.1 hp with rfl|hp
      · exact e
      · exact zkK h p hp
    · rw[if_neg e] at h;exact absurd h e
theorem zhO {n0:Nat}:∀ {t:List (List Int)},(∀r∈t,r.length=n0∧allE r 100=0)→zb3 n0 t=0
  | [],_=>rfl
  | r::t,h=>by
    obtain⟨h1,h2⟩:=h r List.mem_cons_self
    simp only[zb3]
    rw[if_pos h1,if_pos h2]
    exact zhO fun q hq=>h q (List.mem_cons_of_mem _ hq)
theorem zl9 {r v u cap:Int} {xs:List SpkD} {l:List zal} (h:tbE r v xs l u=0):chkT (tbT xs l u l.length) cap=if 0≤cap∧cap≤1000 then 0 else 2:=by
  unfold tbE at h
  split at h
  · rename_i h0
    obtain⟨hc,⟨a1,a2,a3⟩,hu1,hu2⟩:=zqf h0
    have hg:=zhW hc
    have hx:=hg.pos
    have hl:(tbT xs l u l.length).length=l.length:=zak _ _
    have hr:∀i,i<l.length→(tbT xs l u l.length).getD i []=zdN xs (plN l i) u xs.length:=fun i hi=>zaD (fun i=>zdN xs (plN l i) u xs.length) [] _ _ hi
    have hrl:∀p,(zdN xs p u xs.length).length=xs.length:=fun p=>zak _ _
    have hn:ncol (tbT xs l u l.length)=xs.length:=by
      show ((tbT xs l u l.length).getD 0 []).length=_
      rw[hr 0 a1,hrl]
    have hrows:zb3 (ncol (tbT xs l u l.length)) (tbT xs l u l.length)=0:=zhO fun q hq=>by
      obtain⟨i,hi,rfl⟩:=zbR hq
      refine⟨by rw[hn];exact hrl _,ze7 fun j hj=>?_⟩
      have hj:j<xs.length:=by rw[←hrl (plN l i)];exact hj
      have hp:plN l i∈l:=by
        have e:plN l i=l[i]:=by simp[plN,List.getD,List.getElem?_eq_getElem hi]
        rw[e];exact List.getElem_mem hi
      have hst:=zkK h _ hp
      unfold stE at hst
      split at hst
      · rename_i hse
        split at hst
        · rename_i hok
          have e:vI (zdN xs (plN l i) u xs.length) j=tbV xs (plN l i) u j:=zaD (tbV xs (plN l i) u) 0 _ j hj
          rw[e]
          exact⟨(zl8 hg hse hj hu1).2.1,zmT hok j hj⟩
        · cases hst
      · rename_i hse;exact absurd hst hse
    unfold chkT
    rw[hl,hn,if_neg (by omega),if_neg (by omega),if_neg (by omega),if_neg (by omega),←hn,if_pos hrows]
  · rename_i h0;exact absurd h h0
theorem zsW {r v u:Int} {xs:List SpkD} {l:List zal} (h:tbE r v xs l u=0):tbR r v xs l u=(tbT xs l u l.length,0,()):=if_pos h
theorem zsV {r v u:Int} {xs:List SpkD} {l:List zal} (h:¬tbE r v xs l u=0):tbR r v xs l u=([],tbE r v xs l u,()):=if_neg h
theorem zqE {r v u:Int} {xs:List SpkD} {l:List zal} (h:tbE r v xs l u=0):zjd (tbT xs l u l.length):=by
  have hl:(tbT xs l u l.length).length=l.length:=zak _ _
  unfold tbE at h
  split at h
  · rename_i h0
    obtain⟨hc,⟨a1,a2,a3⟩,_⟩:=zqf h0
    refine⟨by show (tbT xs l u l.length).length≤1000;omega,fun i hi=>?_⟩
    have hr:rowN (tbT xs l u l.length) i=zdN xs (plN l i) u xs.length:=zaD (fun i=>zdN xs (plN l i) u xs.length) [] _ _ (by omega)
    show (rowN (tbT xs l u l.length) i).length≤1000
    rw[hr,show (zdN xs (plN l i) u xs.length).length=xs.length from zak _ _];omega
  · rename_i h0;exact absurd h h0
theorem zsi {t:List (List Int)} {cap d:Int} {l:List Int} (h:opE t cap d l=0):opR t cap d l=((opV1 t d l,opV2 t d l,()),0,()):=if_pos h
theorem zfi (a b:Int):(zbA (List.replicate 2 I64)).beq (a,b,()) (a,b,())=true:=by
  show (decide (a=a)&&(decide (b=b)&&true))=true
  simp
theorem znS {b1 b2 n:Int}:0≤cmpI b1 b2 n 1↔n*b2≤b1:=by
  unfold cmpI
  rw[Int.mul_one]
  by_cases h:b1<n*b2
  · rw[if_pos h];exact⟨fun q=>absurd q (by decide),fun q=>by omega⟩
  · rw[if_neg h]
    refine⟨fun _=>by omega,fun _=>?_⟩
    split<;>decide
structure BestG (t:List (List Int)) (cap:Int):Type where
  od:Int
  ol:List Int
  wd:Int
  lo:List Int
  hi:List Int
  cs:List Int
  v1:Int
  v2:Int
  e1:zjM t cap=((od,ol,()),(wd,lo,hi,cs,()),(v1,v2,()),0,())
  b:(-300000000000000≤v1∧v1≤300000000000000)∧0<v2∧v2≤1000000000000
  f1:opRA t cap od ol=((v1,v2,()),0,())
  wt:wtE t wd lo hi cs=0
  w1:wtV1 cap wd hi cs=v1
  w2:wtV2 cap wd hi cs=v2
  l1:ol.length≤9
  l2:lo.length≤9
  l3:hi.length≤9
  l4:cs.length≤9
  z:bV (bX t cap) (ncol t)=(v1,v2,())
theorem zkC {t:List (List Int)} {cap:Int} (h0:chkT t cap=0):Nonempty (BestG t cap):=by
  have hg:=zds h0
  have f:=zhU hg
  have hp:=zp5 hg
  have q1:=(zhs (zoI f.op).1).2.1
  obtain⟨_,⟨q2,q3,q4⟩,_⟩:=zbQ (zog f.wt).1
  have g1:=hg.le
  have g2:=hg.cle
  have o1:=zsi (cap:=cap) f.op
  rw[f.vo.1,f.vo.2] at o1
  exact⟨⟨_,_,_,_,_,_,_,_,if_pos h0,hp,(if_pos h0).trans o1,f.wt,f.vw.1,f.vw.2,Nat.le_trans (Nat.le_of_eq q1) (by omega),Nat.le_trans (Nat.le_of_eq q2) (by omega),Nat.le_trans (Nat.le_of_eq q3) (by omega),Nat.le_trans (Nat.le_of_eq q4) (by omega),rfl⟩⟩
@[reducible] def zrL:Spec:={pats:=[],res:=[{t:=.bool}],pre:=fun _=>True,f:=fun _=>(true,())}
theorem ztB:Ok 4 zrL:=by
  refine mk (ctr:=[(17,zpy),(18,zrD),(19,zrA),(20,sNum)]) ⟨h34,h72,h46,h49,trivial⟩ (nt:=16) Try.func4 rfl rfl rfl rfl (by kernel_rfl) (by kernel_rfl) (fun _=>[]) ?_
  rintro⟨⟩ _
  have e1:zfl zg7.1 zg7.2.1 zg7.2.2.1 (0,0,500,())=0:=zsx
  have e2:zkr (prC (zaY zg7.1 zg7.2.1 zg7.2.2.1 (0,0,500,()))) (cpxI 3250000 0)=true:=by
    rw[show zaY zg7.1 zg7.2.1 zg7.2.2.1 (0,0,500,())=zaY 34000 34000 [((0,0,0,()),1000,0,()),((0,0,100,()),500,400,())] (0,0,500,()) from rfl,ztI]
    simp[zkr]
  repeat' (intro hzz;(try (rename Two=>hq;cases hq));(try dsimp only at hzz);(try simp only[zad,zac,eqD,inR,big,zab,zB] at hzz);(try simp only[zad,zac,eqD,inR,big,zab,zB,e1] at hzz);(try (revert hzz;intro _)))
  all_goals try (rename Unit=>hq;clear hq)
  all_goals try ((with_reducible refine Held.mk ?_);(with_reducible (first|refine Frz.mk ?_|refine And.intro (Frz.mk ?_) ?_|refine And.intro ?_ (Frz.mk ?_)));repeat' first|exact True.intro|(change _=_;with_reducible rfl)|refine And.intro ?_ ?_|(with_reducible refine Frz.mk ?_))
  all_goals try (refine Held.mk ?_;(try dsimp only at *);(try simp only[zad,zac,eqD,inR,big,zab,zB] at *);(try simp only[zad,zac,eqD,inR,big,zab,zB,e1] at *))
  all_goals first|exact e2|(rename_i h;exact absurd (e2.symm.trans h) (by decide))|(rename_i h;exact absurd e1 h)|(show ((2:Nat):Int)≤4611686018427387904;decide)|trace_state
abbrev CovT:Ty:=.cons I64 (.cons I64 (.cons I64 .nil))
@[reducible] def zsY:Spec:={pats:=[.dat ArrT,.dat (.sl zbc),.dat CovT],res:=[{t:=.bool}],pre:=fun _=>True,f:=fun _=>(true,())}
theorem hCov : Ok 3 zsY:=by
  refine mk (ctr:=[(4,zrL),(5,zci),(6,zkO),(7,zrK),(8,zpE),(9,zi3),(10,zpD),(11,zpx),(12,zmr),(13,zpF),(14,zms),(15,zpC),(16,zkS)]) ⟨ztB,h29,h36,h26,h37,h41,h42,h50,h43,h44,h55,h56,h45,trivial⟩ (nt:=136) Try.func3 rfl rfl rfl rfl (by kernel_rfl) (by kernel_rfl) (fun _=>[]) ?_
  rintro⟨⟨(r:Int),(v:Int),(xs:List SpkD),⟨⟩⟩,(l:List zal),⟨(u:Int),(cap:Int),(n:Int),⟨⟩⟩,⟨⟩⟩ _
  by_cases hx:xs.length≤10∧l.length≤6
  · have hx1 := hx.1
    have hx2:=hx.2
    have hP:Hid (pTen xs.length):=Nat.le_trans hx1 (by decide)
    have hQ:Hid (pTen l.length):=Nat.le_trans hx2 (by decide)
    have hT:Hid (pLen xs.length∧pLen l.length):=⟨by show (xs.length:Int)≤4611686018427387904;omega,by show (l.length:Int)≤4611686018427387904;omega⟩
    have g1:¬((10:Int)<(xs.length:Int)):=by omega
    have g2:¬((6:Int)<(l.length:Int)):=by omega
    by_cases hn:0≤n∧n≤1000
    · by_cases ht:tbE r v xs l u=0
      · obtain ⟨t,et⟩:∃t,t=tbT xs l u l.length:=⟨_,rfl⟩
        have hk:=zl9 (cap:=cap) ht
        have hL:Hid (zjd t):=by rw[et];exact zqE ht
        have eT:=zsW ht
        rw[←et] at hk eT
        clear et ht hx hx1 hx2
        have hB:Hid (zpN t cap):=fun h=>zkB (zds h)
        by_cases hc:0≤cap∧cap≤1000
        · have h0:chkT t cap=0:=hk.trans (if_pos hc)
          clear hk
          obtain⟨F⟩:=zkC h0
          obtain⟨od,ol,wd,lo,hi,cs,v1,v2,e1,b,f1,wt,w1,w2,l1,l2,l3,l4,z⟩:=F
          have hO:Hid (pLen ol.length):=by show (ol.length:Int)≤4611686018427387904;omega
          have hK:Hid (pK ol.length):=by show ol.length≤1000;omega
          have hW3:Hid (pW3 lo.length hi.length cs.length):=⟨by show (lo.length:Int)≤4611686018427387904;omega,by show (hi.length:Int)≤4611686018427387904;omega,by show (cs.length:Int)≤4611686018427387904;omega⟩
          have hW2:Hid (pWgt lo.length hi.length cs.length):=⟨by show lo.length≤1000;omega,by show hi.length≤1000;omega,by show cs.length≤1000;omega⟩
          have ps:=zfi v1 v2
          have hl0:lvE n=0:=if_pos hn
          have hpc:Hid (pCmp v1 v2 n 1):=⟨by omega,by omega,by omega,by omega,by omega⟩
          have hv1:¬v2<1:=by omega
          clear b l1 l2 l3 l4
          by_cases hq:n*v2≤v1
          · have e3:crR t cap n wd lo hi cs=20:=by unfold crR;rw[if_pos h0,if_pos hl0,if_pos wt,w1,w2,if_neg (by omega)]
            have e4:reR t cap n=(true,0,()):=by unfold reR;rw[if_pos h0,if_pos hl0,z];show (decide (n*v2≤v1),_)=_;rw[decide_eq_true hq]
            have c1:0≤cmpI v1 v2 n 1:=znS.2 hq
            clear wt w1 w2 z hl0
            repeat' (intro hzz;(try (rename Two=>hq;cases hq));(try dsimp only at hzz);(try simp only[zad,zac,eqD,inR,big,zab,zB] at hzz);(try simp only[zad,zac,eqD,inR,big,zab,zB,g1,g2,eT,h0,e1,e3,e4,f1,ps,zan,hn,hc,c1,hv1,Bool.false_eq_true,not_true_eq_false,not_false_eq_true] at hzz);(try (revert hzz;intro _)))
            all_goals try (rename Unit=>hq;clear hq)
            all_goals try ((with_reducible refine Held.mk ?_);(with_reducible (first|refine Frz.mk ?_|refine And.intro (Frz.mk ?_) ?_|refine And.intro ?_ (Frz.mk ?_)));repeat' first|exact True.intro|(change _=_;with_reducible rfl)|refine And.intro ?_ ?_|(with_reducible refine Frz.mk ?_))
            all_goals try (refine Held.mk ?_;(try dsimp only at *);(try simp only[zad,zac,eqD,inR,big,zab,zB] at *);(try simp only[zad,zac,eqD,inR,big,zab,zB,g1,g2,eT,h0,e1,e3,e4,f1,ps,zan,hn,hc,c1,hv1,Bool.false_eq_true,not_true_eq_false,not_false_eq_true] at *))
            all_goals try omega
            all_goals first|exact hP|exact hQ|exact hT|exact hL|exact hB|exact hO|exact hK|exact hW2|exact hW3|exact hpc|rfl|decide|(rename (zbA _).beq _ _=false=>hx;exact absurd ((zfi _ _).symm.trans hx) (by decide))|(rename (_ == decide _)=false=>hx;simp at hx;done)|(rename (decide _ == _)=false=>hx;revert hx;decide)|trace_state
          · have e3:crR t cap n wd lo hi cs=0:=by unfold crR;rw[if_pos h0,if_pos hl0,if_pos wt,w1,w2,if_pos (by omega)]
            have e4:reR t cap n=(false,0,()):=by unfold reR;rw[if_pos h0,if_pos hl0,z];show (decide (n*v2≤v1),_)=_;rw[decide_eq_false hq]
            have c1:¬0≤cmpI v1 v2 n 1:=fun q=>hq (znS.1 q)
            clear wt w1 w2 z hl0
            repeat' (intro hzz;(try (rename Two=>hq;cases hq));(try dsimp only at hzz);(try simp only[zad,zac,eqD,inR,big,zab,zB] at hzz);(try simp only[zad,zac,eqD,inR,big,zab,zB,g1,g2,eT,h0,e1,e3,e4,f1,ps,zan,hn,hc,c1,hv1,Bool.false_eq_true,not_true_eq_false,not_false_eq_true] at hzz);(try (revert hzz;intro _)))
            all_goals try (rename Unit=>hq;clear hq)
            all_goals try ((with_reducible refine Held.mk ?_);(with_reducible (first|refine Frz.mk ?_|refine And.intro (Frz.mk ?_) ?_|refine And.intro ?_ (Frz.mk ?_)));repeat' first|exact True.intro|(change _=_;with_reducible rfl)|refine And.intro ?_ ?_|(with_reducible refine Frz.mk ?_))
            all_goals try (refine Held.mk ?_;(try dsimp only at *);(try simp only[zad,zac,eqD,inR,big,zab,zB] at *);(try simp only[zad,zac,eqD,inR,big,zab,zB,g1,g2,eT,h0,e1,e3,e4,f1,ps,zan,hn,hc,c1,hv1,Bool.false_eq_true,not_true_eq_false,not_false_eq_true] at *))
            all_goals try omega
            all_goals first|exact hP|exact hQ|exact hT|exact hL|exact hB|exact hO|exact hK|exact hW2|exact hW3|exact hpc|rfl|decide|(rename (zbA _).beq _ _=false=>hx;exact absurd ((zfi _ _).symm.trans hx) (by decide))|(rename (_ == decide _)=false=>hx;simp at hx;done)|(rename (decide _ == _)=false=>hx;revert hx;decide)|trace_state
        · have h0:chkT t cap=2:=hk.trans (if_neg hc)
          clear hk
          have e1:zjM t cap=((0,[],()),(0,[],[],[],()),(0,0,()),chkT t cap,()):=if_neg (by rw[h0];decide)
          rw[h0] at e1
          repeat' (intro hzz;(try (rename Two=>hq;cases hq));(try dsimp only at hzz);(try simp only[zad,zac,eqD,inR,big,zab,zB] at hzz);(try simp only[zad,zac,eqD,inR,big,zab,zB,g1,g2,eT,e1,zan,hn,hc,Bool.false_eq_true,not_true_eq_false,not_false_eq_true] at hzz);(try (revert hzz;intro _)))
          all_goals try (rename Unit=>hq;clear hq)
          all_goals try ((with_reducible refine Held.mk ?_);(with_reducible (first|refine Frz.mk ?_|refine And.intro (Frz.mk ?_) ?_|refine And.intro ?_ (Frz.mk ?_)));repeat' first|exact True.intro|(change _=_;with_reducible rfl)|refine And.intro ?_ ?_|(with_reducible refine Frz.mk ?_))
          all_goals try (refine Held.mk ?_;(try dsimp only at *);(try simp only[zad,zac,eqD,inR,big,zab,zB] at *);(try simp only[zad,zac,eqD,inR,big,zab,zB,g1,g2,eT,e1,zan,hn,hc,Bool.false_eq_true,not_true_eq_false,not_false_eq_true] at *))
          all_goals try omega
          all_goals first|exact hP|exact hQ|exact hT|exact hL|exact hB|rfl|decide|trace_state
      · have eT:=zsV ht
        clear hx hx1 hx2
        repeat' (intro hzz;(try (rename Two=>hq;cases hq));(try dsimp only at hzz);(try simp only[zad,zac,eqD,inR,big,zab,zB] at hzz);(try simp only[zad,zac,eqD,inR,big,zab,zB,g1,g2,eT,ht,zan,hn,List.length_nil,Bool.false_eq_true,not_true_eq_false,not_false_eq_true] at hzz);(try (revert hzz;intro _)))
        all_goals try (rename Unit=>hq;clear hq)
        all_goals try ((with_reducible refine Held.mk ?_);(with_reducible (first|refine Frz.mk ?_|refine And.intro (Frz.mk ?_) ?_|refine And.intro ?_ (Frz.mk ?_)));repeat' first|exact True.intro|(change _=_;with_reducible rfl)|refine And.intro ?_ ?_|(with_reducible refine Frz.mk ?_))
        all_goals try (refine Held.mk ?_;(try dsimp only at *);(try simp only[zad,zac,eqD,inR,big,zab,zB] at *);(try simp only[zad,zac,eqD,inR,big,zab,zB,g1,g2,eT,ht,zan,hn,List.length_nil,Bool.false_eq_true,not_true_eq_false,not_false_eq_true] at *))
        all_goals try omega
        all_goals first|exact hP|exact hQ|exact hT|rfl|decide|trace_state
    · clear hx hx1 hx2 hT hP hQ
      repeat' (intro hzz;(try (rename Two=>hq;cases hq));(try dsimp only at hzz);(try simp only[zad,zac,eqD,inR,big,zab,zB] at hzz);(try simp only[zad,zac,eqD,inR,big,zab,zB,g1,g2,zan,hn,Bool.false_eq_true,not_true_eq_false,not_false_eq_true] at hzz);(try (revert hzz;intro _)))
      all_goals try (rename Unit=>hq;clear hq)
      all_goals try ((with_reducible refine Held.mk ?_);(with_reducible (first|refine Frz.mk ?_|refine And.intro (Frz.mk ?_) ?_|refine And.intro ?_ (Frz.mk ?_)));repeat' first|exact True.intro|(change _=_;with_reducible rfl)|refine And.intro ?_ ?_|(with_reducible refine Frz.mk ?_))
      all_goals try (refine Held.mk ?_;(try dsimp only at *);(try simp only[zad,zac,eqD,inR,big,zab,zB] at *);(try simp only[zad,zac,eqD,inR,big,zab,zB,g1,g2,zan,hn,Bool.false_eq_true,not_true_eq_false,not_false_eq_true] at *))
      all_goals try omega
      all_goals first|rfl|decide|trace_state
  · by_cases h1:xs.length≤10
    · have g1:¬((10:Int)<(xs.length:Int)):=by omega
      have g2:(6:Int)<(l.length:Int):=by omega
      have g3:¬((l.length:Int)≤6):=by omega
      clear hx h1
      repeat' (intro hzz;(try (rename Two=>hq;cases hq));(try dsimp only at hzz);(try simp only[zad,zac,eqD,inR,big,zab,zB] at hzz);(try simp only[zad,zac,eqD,inR,big,zab,zB,g1,g2,g3,zan,Bool.false_eq_true,not_true_eq_false,not_false_eq_true] at hzz);(try (revert hzz;intro _)))
      all_goals try (rename Unit=>hq;clear hq)
      all_goals try ((with_reducible refine Held.mk ?_);(with_reducible (first|refine Frz.mk ?_|refine And.intro (Frz.mk ?_) ?_|refine And.intro ?_ (Frz.mk ?_)));repeat' first|exact True.intro|(change _=_;with_reducible rfl)|refine And.intro ?_ ?_|(with_reducible refine Frz.mk ?_))
      all_goals try (refine Held.mk ?_;(try dsimp only at *);(try simp only[zad,zac,eqD,inR,big,zab,zB] at *);(try simp only[zad,zac,eqD,inR,big,zab,zB,g1,g2,g3,zan,Bool.false_eq_true,not_true_eq_false,not_false_eq_true] at *))
      all_goals try omega
      all_goals first|rfl|decide|trace_state
    · have g1:(10:Int)<(xs.length:Int):=by omega
      have g3:¬((xs.length:Int)≤10):=by omega
      clear hx h1
      repeat' (intro hzz;(try (rename Two=>hq;cases hq));(try dsimp only at hzz);(try simp only[zad,zac,eqD,inR,big,zab,zB] at hzz);(try simp only[zad,zac,eqD,inR,big,zab,zB,g1,g3,zan,Bool.false_eq_true,not_true_eq_false,not_false_eq_true] at hzz);(try (revert hzz;intro _)))
      all_goals try (rename Unit=>hq;clear hq)
      all_goals try ((with_reducible refine Held.mk ?_);(with_reducible (first|refine Frz.mk ?_|refine And.intro (Frz.mk ?_) ?_|refine And.intro ?_ (Frz.mk ?_)));repeat' first|exact True.intro|(change _=_;with_reducible rfl)|refine And.intro ?_ ?_|(with_reducible refine Frz.mk ?_))
      all_goals try (refine Held.mk ?_;(try dsimp only at *);(try simp only[zad,zac,eqD,inR,big,zab,zB] at *);(try simp only[zad,zac,eqD,inR,big,zab,zB,g1,g3,zan,Bool.false_eq_true,not_true_eq_false,not_false_eq_true] at *))
      all_goals try omega
      all_goals first|rfl|decide|trace_state
end Go.Eng.Ar
