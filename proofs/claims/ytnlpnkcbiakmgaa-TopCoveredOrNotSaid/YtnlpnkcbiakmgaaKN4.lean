/- Texts A8 A9 C1 A10 A11 C2 D1 C3 C4 C5 C6 C7 C8 C9, as far as they are used. Conditions: each lemma's own. -/
import Derived.Test.YtnlpnkcbiakmgaaKN3
import Derived.WalkKit
import Derived.Deep.QuietTactic
import Derived.BigQuiet
import Derived.StillTail
namespace Go.Eng.Ar
open Go.Eng Go.Proofs
set_option linter.all false
set_option maxRecDepth 100000
set_option maxHeartbeats 8000000
theorem zqv {f:Nat} {pats:List Pat} {res:List RC} {pre pre':(zac pats).Den→Prop} {F F':(zac pats).Den→(zad res).Den} (h:Ok f {pats:=pats,res:=res,pre:=pre,f:=F}) (hp:∀x,pre' x→pre x) (hf:∀x,pre' x→F x=F' x):Ok f {pats:=pats,res:=res,pre:=pre',f:=F'}:=by
  refine⟨fun w M x vs bs hM hA hx=>?_,h.2⟩
  have h1:=h.1 w M x vs bs hM hA (hp x hx)
  have h2:F x=F' x:=hf x hx
  refine h1.mono fun e w' ⟨rs,g,e1,e2,e3⟩=>⟨rs,g,e1,e2,?_⟩
  have e3:ze9 w' _ _ res (F x) rs g:=e3
  rw[h2] at e3;exact e3
abbrev zal:Type:=zbc.Den
abbrev wr (n:Int):Int:=RowKit.wrap64 n
theorem zoh {n:Int} (h : -9223372036854775808≤n∧n≤9223372036854775807):wr n=n:=by
  unfold wr RowKit.wrap64;omega
def dW (x y:Int):Int:=wr (wr (x - y)*wr (x - y))
def dP (x y:Int):Int:=(x - y)*(x - y)
def sqWC (a1 a2 a3 b1 b2 b3:Int):Int:=wr (wr (dW a1 b1+dW a2 b2)+dW a3 b3)
def sqC (a1 a2 a3 b1 b2 b3:Int):Int:=dP a1 b1+dP a2 b2+dP a3 b3
def sqW (a b:zal):Int:=sqWC a.1 a.2.1 a.2.2.1 b.1 b.2.1 b.2.2.1
def sqP (a b:zal):Int:=sqC a.1 a.2.1 a.2.2.1 b.1 b.2.1 b.2.2.1
def inC (x:Int):Prop:=-5000≤x∧x≤5000
def inP (p:zal):Prop:=inC p.1∧inC p.2.1∧inC p.2.2.1
theorem zpV {p:zal} (h:zg6 p.1 p.2.1 p.2.2.1=0):inP p:=by
  simp only[zg6] at h
  split at h
  · assumption
  · cases h
theorem sq_b {x:Int} (h1 : -10000≤x) (h2:x≤10000):0≤x*x∧x*x≤100000000:=by
  by_cases h:0≤x
  · exact⟨Int.mul_nonneg h h,Int.mul_le_mul h2 h2 h (by omega)⟩
  · have e:x*x=(-x)*(-x):=by rw[Int.neg_mul_neg]
    have h3 : -x≤10000:=by omega
    have h4:0≤-x:=by omega
    rw[e]
    exact⟨Int.mul_nonneg h4 h4,Int.mul_le_mul h3 h3 h4 (by decide)⟩
theorem zkx {x y:Int} (hx:inC x) (hy:inC y):0≤dP x y∧dP x y≤100000000:=by
  obtain⟨h1,h2⟩:=hx
  obtain⟨h3,h4⟩:=hy
  exact sq_b (by omega) (by omega)
theorem zqU {x y:Int} (hx:inC x) (hy:inC y):dW x y=dP x y:=by
  have h:=zkx hx hy
  obtain⟨h1,h2⟩:=hx
  obtain⟨h3,h4⟩:=hy
  unfold dW dP at *
  rw[zoh (n:=x - y) (by omega),zoh (by omega)]
theorem zps {a b:zal} (ha:inP a) (hb:inP b):0≤sqP a b∧sqP a b≤300000000:=by
  have h1:=zkx ha.1 hb.1
  have h2:=zkx ha.2.1 hb.2.1
  have h3:=zkx ha.2.2 hb.2.2
  unfold sqP sqC;omega
theorem zpr {a b:zal} (ha:inP a) (hb:inP b):sqW a b=sqP a b:=by
  have h1:=zkx ha.1 hb.1
  have h2:=zkx ha.2.1 hb.2.1
  have h3:=zkx ha.2.2 hb.2.2
  unfold sqW sqP sqWC sqC
  rw[zqU ha.1 hb.1,zqU ha.2.1 hb.2.1,zqU ha.2.2 hb.2.2]
  rw[zoh (n:=dP a.1 b.1+dP a.2.1 b.2.1) (by omega)]
  exact zoh (by omega)
@[reducible] def zj2:Spec:={pats:=[.dat WayT],res:=[{t:=I64}],pre:=fun _=>True,f:=fun x=>(sqW x.1.1 x.1.2.1,())}
def cl (n b:Int):Int:=-(-n / b)
theorem znU {n b:Int} (hn:0≤n) (hb:0<b):(n+b - 1).tdiv b=cl n b:=by
  rw[Int.tdiv_eq_ediv_of_nonneg (by omega)]
  unfold cl
  have h1:=Int.emod_nonneg (n+b - 1) (show b≠0 by omega)
  have h2:=Int.emod_lt_of_pos (n+b - 1) hb
  have h3:=Int.emod_def (n+b - 1) b
  have h4:(-n) / b = -((n+b - 1) / b):=by
    refine Int.ediv_eq_iff_of_pos hb |>.2 ⟨?_,?_⟩
    · rw[Int.neg_mul];rw[Int.mul_comm] ;omega
    · rw[Int.neg_mul,Int.mul_comm];omega
  omega
abbrev pNs (n:Int):Prop:=0≤n∧n≤1000000000000000000
abbrev pAb (n b:Int):Prop:=(0≤n∧n≤1000000000000000000)∧(0<b∧b≤1000000000000000000)
@[reducible] def zmt:Spec:={pats:=[.dat I64,.dat I64],res:=[{t:=I64}],pre:=fun x=>pAb x.1 x.2.1,f:=fun x=>(cl x.1 x.2.1,())}
theorem zle {n b:Int} (hn:0≤n) (hb:0<b):0≤n / b∧n / b≤n:=⟨Int.ediv_nonneg hn (by omega),Int.ediv_le_self _ hn⟩
theorem zqY {n b:Int} (hn:0≤n) (hb:0<b):0≤cl n b∧cl n b≤n:=by
  rw[←znU hn hb,Int.tdiv_eq_ediv_of_nonneg (by omega)]
  refine⟨Int.ediv_nonneg (by omega) (by omega),?_⟩
  by_cases h0:n=0
  · subst h0
    have:=Int.ediv_eq_zero_of_lt (a:=0+b - 1) (b:=b) (by omega) (by omega)
    omega
  · refine Int.lt_add_one_iff.1 (Int.ediv_lt_of_lt_mul hb ?_)
    have:1*(b - 1)≤n*(b - 1):=Int.mul_le_mul_of_nonneg_right (by omega) (by omega)
    rw[Int.one_mul,Int.mul_sub,Int.mul_one] at this
    rw[Int.add_mul,Int.one_mul]
    omega
theorem h136:Ok 60 zmt:=by
  refine mk (ctr:=[]) trivial (nt:=11) Try.func60 rfl rfl rfl rfl (by kernel_rfl) (by kernel_rfl) (fun _=>[]) ?_
  rintro⟨(n:Int),(b:Int),_⟩ ⟨(h1:0≤n∧n≤1000000000000000000),(h2:0<b∧b≤1000000000000000000)⟩
  have e:=znU h1.1 h2.1
  have e2:=zqY h1.1 h2.1
  repeat' (intro hzz;(try (rename Two=>hq;cases hq));(try dsimp only at hzz);(try simp only[zad,zac,eqD,inR,big,zab,zB] at hzz);(try simp only[zad,zac,eqD,inR,big,zab,zB,e] at hzz);(try (revert hzz;intro _)))
  all_goals try (rename Unit=>hq;clear hq)
  all_goals try ((with_reducible refine Held.mk ?_);(with_reducible (first|refine Frz.mk ?_|refine And.intro (Frz.mk ?_) ?_|refine And.intro ?_ (Frz.mk ?_)));repeat' first|exact True.intro|(change _=_;with_reducible rfl)|refine And.intro ?_ ?_|(with_reducible refine Frz.mk ?_))
  all_goals try (refine Held.mk ?_;(try dsimp only at *);(try simp only[zad,zac,eqD,inR,big,zab,zB] at *);(try simp only[zad,zac,eqD,inR,big,zab,zB,e] at *))
  all_goals try omega
def rtU (n:Int):Int:=if rtI n*rtI n<n then rtI n+1 else rtI n
@[reducible] def zmn:Spec:={zox with f:=fun x=>(rtU x.1,())}
theorem h113:Ok 70 zmn:=by
  refine mk (ctr:=[(69,zox)]) ⟨h112,trivial⟩ (nt:=14) Try.func70 rfl rfl rfl rfl (by kernel_rfl) (by kernel_rfl) (fun _=>[]) ?_
  rintro⟨(n:Int),_⟩ (hn:zfk n)
  have h1:=zfX hn
  have h2:0≤rtI n*rtI n:=Int.mul_nonneg h1.1 h1.1
  have h3:=hn.2
  repeat' (intro hzz;(try (rename Two=>hq;cases hq));(try dsimp only at hzz);(try simp only[zad,zac,eqD,inR,big,zab,zB] at hzz);(try simp only[zad,zac,eqD,inR,big,zab,zB,zfk] at hzz);(try (revert hzz;intro _)))
  all_goals try (rename Unit=>hq;clear hq)
  all_goals try ((with_reducible refine Held.mk ?_);(with_reducible (first|refine Frz.mk ?_|refine And.intro (Frz.mk ?_) ?_|refine And.intro ?_ (Frz.mk ?_)));repeat' first|exact True.intro|(change _=_;with_reducible rfl)|refine And.intro ?_ ?_|(with_reducible refine Frz.mk ?_))
  all_goals try (refine Held.mk ?_;(try dsimp only at *);(try simp only[zad,zac,eqD,inR,big,zab,zB] at *);(try simp only[zad,zac,eqD,inR,big,zab,zB,zfk] at *))
  all_goals first|exact hn|omega|(simp only[rtU];split<;>omega)|trace_state
theorem zor (a b c d e f:Int) (w:World):Calls Try.prog 67 #[.agg #[.int .i64 a,.int .i64 b,.int .i64 c,.int .i64 d,.int .i64 e,.int .i64 f]] w fun r w'=>r=.returned (.int .i64 (sqW (a,b,c,()) (d,e,f,())))∧∃o nq,w'=(w.alloc o).drewN nq:=by
  have zed:=zed
  have t3:=Try.underlying3
  have hn:Try.f67.ntmps=38:=rfl
  go_enter Try.func67,hn
  go_wp2
  go_quiet (fail)
  go_wp2
  go_ret
  exact⟨rfl,_,_,rfl⟩
theorem h138:Ok 67 zj2:=by
  refine⟨?_,Try.f67,Try.func67,by kernel_rfl,by kernel_rfl⟩
  rintro w M ⟨⟨⟨a,b,c,_⟩,⟨d,e,f,_⟩,_⟩,_⟩ vs bs hM ⟨v,vs',rfl,hv,rfl,rfl⟩ _
  have hv:v=.agg #[.int .i64 a,.int .i64 b,.int .i64 c,.int .i64 d,.int .i64 e,.int .i64 f]:=by
    obtain⟨l,h1,h2⟩:=hv
    obtain⟨l1,l2,rfl,⟨m1,m2,rfl,h11,m3,m4,rfl,h12,m5,m6,rfl,h13,h14⟩,l3,l4,rfl,⟨n1,n2,rfl,h21,n3,n4,rfl,h22,n5,n6,rfl,h23,h24⟩,h5⟩:=h1
    subst h11 h12 h13 h14 h21 h22 h23 h24 h5
    rcases h2 with ⟨_,h⟩|⟨h,_⟩
    · exact h
    · cases h
  subst hv
  refine (zor a b c d e f w).mono ?_
  rintro r w' ⟨rfl,o,nq,rfl⟩
  refine⟨[_],none,rfl,?_,_,_,rfl,RepV.mk1 rfl rfl,rfl,rfl⟩
  refine⟨rfl,rfl,rfl,?_,fun b hb _=>?_,fun b hb=>by cases hb⟩
  · show w.heap.size≤(w.heap.push o).size
    rw[Array.size_push];exact Nat.le_succ _
  · show (w.heap.push o)[b]?=w.heap[b]?
    rw[Array.getElem?_push,if_neg (Nat.ne_of_lt hb)]
@[reducible] def pW (x:WayT.Den):Prop:=inP x.1∧inP x.2.1
@[reducible] def zkP:Spec:={zj2 with pre:=fun x=>pW x.1,f:=fun x=>(sqP x.1.1 x.1.2.1,())}
theorem ztD:Ok 67 zkP:=zqv h138 (fun _ _=>trivial) (fun x h=>congrArg (fun n=>(n,())) (zpr h.1 h.2))
def zlz (a b:zal):Bool:=decide (sqW a b<100)
@[reducible] def zrF:Spec:={pats:=[.dat WayT],res:=[{t:=.bool}],pre:=fun _=>True,f:=fun x=>(zlz x.1.1 x.1.2.1,())}
theorem h78:Ok 57 zrF:=by
  refine mk (ctr:=[(67,zj2)]) ⟨h138,trivial⟩ (nt:=6) Try.func57 rfl rfl rfl rfl (by kernel_rfl) (by kernel_rfl) (fun _=>[]) ?_
  rintro⟨⟨(a:zal),(b:zal),_⟩,_⟩ _
  repeat' (intro hzz;(try (rename Two=>hq;cases hq));(try dsimp only at hzz);(try simp only[zad,zac,eqD,inR,big,zab,zB] at hzz);(try simp only[zad,zac,eqD,inR,big,zab,zB,sqW] at hzz);(try (revert hzz;intro _)))
  all_goals try (rename Unit=>hq;clear hq)
  all_goals try ((with_reducible refine Held.mk ?_);(with_reducible (first|refine Frz.mk ?_|refine And.intro (Frz.mk ?_) ?_|refine And.intro ?_ (Frz.mk ?_)));repeat' first|exact True.intro|(change _=_;with_reducible rfl)|refine And.intro ?_ ?_|(with_reducible refine Frz.mk ?_))
  all_goals try (refine Held.mk ?_;(try dsimp only at *);(try simp only[zad,zac,eqD,inR,big,zab,zB] at *);(try simp only[zad,zac,eqD,inR,big,zab,zB,sqW] at *))
  all_goals rfl
def farN (a b:zal):Int:=sqC a.1 a.2.1 a.2.2.1 b.1 b.2.1 b.2.2.1*1000*1000
def ztG (a1 a2 a3 b1 b2 b3:Int):Int:=rtI (sqC a1 a2 a3 b1 b2 b3*1000*1000)
def ztF (a1 a2 a3 b1 b2 b3:Int):Int:=rtU (sqC a1 a2 a3 b1 b2 b3*1000*1000)
def farL (a b:zal):Int:=ztG a.1 a.2.1 a.2.2.1 b.1 b.2.1 b.2.2.1
def farU (a b:zal):Int:=ztF a.1 a.2.1 a.2.2.1 b.1 b.2.1 b.2.2.1
theorem zqR (a b:zal):farN a b=sqP a b*1000*1000:=rfl
theorem zgG {a b:zal} (ha:inP a) (hb:inP b):zfk (farN a b)∧farN a b≤300000000000000:=by
  have:=zps ha hb
  rw[zqR];unfold zfk;omega
theorem zrM {n:Int} (h:zfk n):rtI n≤rtU n∧rtU n≤rtI n+1:=by
  simp only[rtU];split<;>omega
theorem zsZ {n r:Int} (h:zfk n) (hr:0≤r) (hn:n<r*r):rtI n<r:=by
  obtain⟨h1,h2,h3,h4⟩:=zfX h
  by_cases hl:rtI n<r
  · exact hl
  · have:=Int.mul_le_mul (show r≤rtI n by omega) (show r≤rtI n by omega) hr h1
    omega
theorem zs0 {n r:Int} (h:zfk n) (hr:0≤r) (hn:r*r≤n):r≤rtI n:=by
  obtain⟨h1,h2,h3,h4⟩:=zfX h
  by_cases hl:r≤rtI n
  · exact hl
  · have:=Int.mul_le_mul (show rtI n+1≤r by omega) (show rtI n+1≤r by omega) (by omega) hr
    omega
theorem zld {a b:zal} (ha:inP a) (hb:inP b):(0≤farL a b∧farL a b<17320509)∧(farL a b≤farU a b∧farU a b≤farL a b+1):=by
  obtain⟨h1,h2⟩:=zgG ha hb
  exact⟨⟨(zfX h1).1,zsZ h1 (by decide) (Int.lt_of_le_of_lt h2 (by decide))⟩,zrM h1⟩
theorem zpX {a b:zal} (ha:inP a) (hb:inP b) (h:100≤sqP a b):10000≤farL a b:=
  zs0 (zgG ha hb).1 (by decide) (by show 10000*10000≤sqP a b*1000*1000;omega)
@[reducible] def sFar:Spec:={pats:=[.dat WayT],res:=[{t:=zfa}],pre:=fun x=>pW x.1,f:=fun x=>((farL x.1.1 x.1.2.1,farU x.1.1 x.1.2.1,()),())}
theorem h135:Ok 59 sFar:=by
  refine mk (ctr:=[(67,zkP),(69,zox),(70,zmn)]) ⟨ztD,h112,h113,trivial⟩ (nt:=13) Try.func59 rfl rfl rfl rfl (by kernel_rfl) (by kernel_rfl) (fun _=>[]) ?_
  rintro⟨⟨(a:zal),(b:zal),_⟩,_⟩ ⟨(ha:inP a),(hb:inP b)⟩
  have h1:=zps ha hb
  have h2:=(zgG ha hb).1
  repeat' (intro hzz;(try (rename Two=>hq;cases hq));(try dsimp only at hzz);(try simp only[zad,zac,eqD,inR,big,zab,zB] at hzz);(try simp only[zad,zac,eqD,inR,big,zab,zB,sqW,sqP,farL,farU,pAb,pNs] at hzz);(try (revert hzz;intro _)))
  all_goals try (rename Unit=>hq;clear hq)
  all_goals try ((with_reducible refine Held.mk ?_);(with_reducible (first|refine Frz.mk ?_|refine And.intro (Frz.mk ?_) ?_|refine And.intro ?_ (Frz.mk ?_)));repeat' first|exact True.intro|(change _=_;with_reducible rfl)|refine And.intro ?_ ?_|(with_reducible refine Frz.mk ?_))
  all_goals try (refine Held.mk ?_;(try dsimp only at *);(try simp only[zad,zac,eqD,inR,big,zab,zB] at *);(try simp only[zad,zac,eqD,inR,big,zab,zB,sqW,sqP,farL,farU,pAb,pNs] at *))
  all_goals try simp only[farN] at h2
  all_goals first|omega|exact h2|exact⟨ha,hb⟩|exact⟨rfl,rfl⟩|trace_state
abbrev SndD:Type:=zcJ.Den
def inS (x:SndD):Prop:=(8000≤x.1∧x.1≤192000)∧(30000≤x.2.1∧x.2.1≤40000)
theorem zsq {x:SndD} (h:zjZ x.1 x.2.1=0):inS x:=by
  simp only[zjZ] at h
  split at h
  · assumption
  · cases h
@[reducible] def pWX (w:WayT.Den) (x:SndD):Prop:=(inP w.1∧inP w.2.1)∧inS x
theorem zo0 {n r:Int} (h1:0≤n) (h2:n≤17320509) (h3:8000≤r∧r≤192000):0≤n*r∧n*r≤3325537728000:=by
  refine⟨Int.mul_nonneg h1 (by omega),?_⟩
  have:=Int.mul_le_mul h2 h3.2 (by omega) (show (0:Int)≤17320509 by omega)
  omega
def nuL (a b:zal) (x:SndD):Int:=((farL a b*x.1) / x.2.1+500) / 1000
def nuU (a b:zal) (x:SndD):Int:=(cl (farU a b*x.1) x.2.1+500) / 1000
@[reducible] def zrE:Spec:={pats:=[.dat WayT,.dat zcJ],res:=[{t:=zfa}],pre:=fun x=>pWX x.1 x.2.1,f:=fun x=>((nuL x.1.1 x.1.2.1 x.2.1,nuU x.1.1 x.1.2.1 x.2.1,()),())}
@[reducible] def zkQ:Spec:={pats:=[.dat I64],res:=[{t:=I64}],pre:=fun x=>pNs x.1,f:=fun x=>((x.1+500) / 1000,())}
theorem h137:Ok 61 zkQ:=by
  refine mk (ctr:=[]) trivial (nt:=6) Try.func61 rfl rfl rfl rfl (by kernel_rfl) (by kernel_rfl) (fun _=>[]) ?_
  rintro⟨(n:Int),_⟩ ⟨(h1:0≤n),(h2:n≤1000000000000000000)⟩
  have e1:(n+500).tdiv 1000=(n+500) / 1000:=Int.tdiv_eq_ediv_of_nonneg (by omega)
  repeat' (intro hzz;(try (rename Two=>hq;cases hq));(try dsimp only at hzz);(try simp only[zad,zac,eqD,inR,big,zab,zB] at hzz);(try simp only[zad,zac,eqD,inR,big,zab,zB,sqW,sqP,farL,farU,e1] at hzz);(try (revert hzz;intro _)))
  all_goals try (rename Unit=>hq;clear hq)
  all_goals try ((with_reducible refine Held.mk ?_);(with_reducible (first|refine Frz.mk ?_|refine And.intro (Frz.mk ?_) ?_|refine And.intro ?_ (Frz.mk ?_)));repeat' first|exact True.intro|(change _=_;with_reducible rfl)|refine And.intro ?_ ?_|(with_reducible refine Frz.mk ?_))
  all_goals try (refine Held.mk ?_;(try dsimp only at *);(try simp only[zad,zac,eqD,inR,big,zab,zB] at *);(try simp only[zad,zac,eqD,inR,big,zab,zB,sqW,sqP,farL,farU,e1] at *))
  all_goals try omega
theorem h77:Ok 43 zrE:=by
  refine mk (ctr:=[(59,sFar),(60,zmt),(61,zkQ)]) ⟨h135,h136,h137,trivial⟩ (nt:=30) Try.func43 rfl rfl rfl rfl (by kernel_rfl) (by kernel_rfl) (fun _=>[]) ?_
  rintro⟨⟨(a:zal),(b:zal),_⟩,⟨(r:Int),(v:Int),_⟩,_⟩ ⟨⟨(ha:inP a),(hb:inP b)⟩,(hx:(8000≤r∧r≤192000)∧(30000≤v∧v≤40000))⟩
  have h1:=zld ha hb
  have h2:=zo0 (n:=farL a b) (r:=r) (by omega) (by omega) hx.1
  have h3:=zo0 (n:=farU a b) (r:=r) (by omega) (by omega) hx.1
  have e1:(farL a b*r).tdiv v=(farL a b*r) / v:=Int.tdiv_eq_ediv_of_nonneg h2.1
  have h4:=zle (b:=v) h2.1 (by omega)
  have h5:=zqY (b:=v) h3.1 (by omega)
  repeat' (intro hzz;(try (rename Two=>hq;cases hq));(try dsimp only at hzz);(try simp only[zad,zac,eqD,inR,big,zab,zB] at hzz);(try simp only[zad,zac,eqD,inR,big,zab,zB,sqW,sqP,farL,farU,pAb,pNs,e1] at hzz);(try (revert hzz;intro _)))
  all_goals try (rename Unit=>hq;clear hq)
  all_goals try ((with_reducible refine Held.mk ?_);(with_reducible (first|refine Frz.mk ?_|refine And.intro (Frz.mk ?_) ?_|refine And.intro ?_ (Frz.mk ?_)));repeat' first|exact True.intro|(change _=_;with_reducible rfl)|refine And.intro ?_ ?_|(with_reducible refine Frz.mk ?_))
  all_goals try (refine Held.mk ?_;(try dsimp only at *);(try simp only[zad,zac,eqD,inR,big,zab,zB] at *);(try simp only[zad,zac,eqD,inR,big,zab,zB,sqW,sqP,farL,farU,pAb,pNs,e1] at *))
  all_goals first|omega|exact⟨ha,hb⟩|exact⟨rfl,rfl⟩|trace_state
def stL (a b:zal):Int:=1000000000 / farU a b
def stU (a b:zal):Int:=cl 1000000000 (farL a b)
@[reducible] def pWN (w:WayT.Den):Prop:=(inP w.1∧inP w.2.1)∧100≤sqP w.1 w.2.1
@[reducible] def sStr:Spec:={pats:=[.dat WayT],res:=[{t:=zfa}],pre:=fun x=>pWN x.1,f:=fun x=>((stL x.1.1 x.1.2.1,stU x.1.1 x.1.2.1,()),())}
theorem h79:Ok 42 sStr:=by
  refine mk (ctr:=[(59,sFar),(60,zmt)]) ⟨h135,h136,trivial⟩ (nt:=13) Try.func42 rfl rfl rfl rfl (by kernel_rfl) (by kernel_rfl) (fun _=>[]) ?_
  rintro⟨⟨(a:zal),(b:zal),_⟩,_⟩ ⟨⟨(ha:inP a),(hb:inP b)⟩,(hn:100≤sqP a b)⟩
  have h1:=zld ha hb
  have h2:=zpX ha hb hn
  have e1:(1000000000:Int).tdiv (farU a b)=1000000000 / farU a b:=Int.tdiv_eq_ediv_of_nonneg (by decide)
  have h4:=zle (n:=1000000000) (b:=farU a b) (by omega) (by omega)
  repeat' (intro hzz;(try (rename Two=>hq;cases hq));(try dsimp only at hzz);(try simp only[zad,zac,eqD,inR,big,zab,zB] at hzz);(try simp only[zad,zac,eqD,inR,big,zab,zB,sqW,sqP,farL,farU,pAb,pNs,e1] at hzz);(try (revert hzz;intro _)))
  all_goals try (rename Unit=>hq;clear hq)
  all_goals try ((with_reducible refine Held.mk ?_);(with_reducible (first|refine Frz.mk ?_|refine And.intro (Frz.mk ?_) ?_|refine And.intro ?_ (Frz.mk ?_)));repeat' first|exact True.intro|(change _=_;with_reducible rfl)|refine And.intro ?_ ?_|(with_reducible refine Frz.mk ?_))
  all_goals try (refine Held.mk ?_;(try dsimp only at *);(try simp only[zad,zac,eqD,inR,big,zab,zB] at *);(try simp only[zad,zac,eqD,inR,big,zab,zB,sqW,sqP,farL,farU,pAb,pNs,e1] at *))
  all_goals first|omega|exact⟨ha,hb⟩|exact⟨rfl,rfl⟩|trace_state
theorem zos {a b:zal} (ha:inP a) (hb:inP b):zlz a b=decide (sqP a b<100):=by
  unfold zlz;rw[zpr ha hb]
theorem zom {n b:Int} (hb:0<b) (h:n.tmod b<0):n.tdiv b - 1=n / b:=by
  have h1:=Int.tmod_eq_emod (a:=n) (b:=b)
  have h2:=Int.tdiv_eq_ediv (a:=n) (b:=b)
  have h3:=Int.emod_nonneg n (show b≠0 by omega)
  split at h1
  · omega
  · rename_i hc
    rw[if_neg hc] at h2
    have:b.sign=1:=Int.sign_eq_one_of_pos hb
    omega
theorem zol {n b:Int} (hb:0<b) (h:0≤n.tmod b):n.tdiv b=n / b:=by
  have h1:=Int.tmod_eq_emod (a:=n) (b:=b)
  have h2:=Int.tdiv_eq_ediv (a:=n) (b:=b)
  have h3:=Int.emod_lt_of_pos n hb
  split at h1
  · rename_i hc
    rw[if_pos hc] at h2
    omega
  · omega
theorem zqe {n b:Int} (h1 : -9000000000000000000≤n) (h2:n≤9000000000000000000) : -9000000000000000000≤n.tdiv b∧n.tdiv b≤9000000000000000000:=by
  have h3:=Int.natAbs_tdiv_le_natAbs n b
  omega
abbrev zmP (n b:Int):Prop:=0<b∧-9000000000000000000≤n∧n≤9000000000000000000
abbrev zjz (n b:Int):Int:=n / b
@[reducible] def zpB:Spec:={pats:=[.dat I64,.dat I64],res:=[{t:=I64}],pre:=fun x=>zmP x.1 x.2.1,f:=fun x=>(zjz x.1 x.2.1,())}
theorem h82:Ok 37 zpB:=by
  refine mk (ctr:=[]) trivial (nt:=16) Try.func37 rfl rfl rfl rfl (by kernel_rfl) (by kernel_rfl) (fun _=>[]) ?_
  rintro⟨(n:Int),(b:Int),_⟩ ⟨h1,h2,h3⟩
  repeat' (intro hzz;(try (rename Two=>hq;cases hq));(try dsimp only at hzz);(try simp only[zad,zac,eqD,inR,big,zab,zB] at hzz);(try simp only[zad,zac,eqD,inR,big,zab,zB,zmP,zjz] at hzz);(try (revert hzz;intro _)))
  all_goals try (rename Unit=>hq;clear hq)
  all_goals try ((with_reducible refine Held.mk ?_);(with_reducible (first|refine Frz.mk ?_|refine And.intro (Frz.mk ?_) ?_|refine And.intro ?_ (Frz.mk ?_)));repeat' first|exact True.intro|(change _=_;with_reducible rfl)|refine And.intro ?_ ?_|(with_reducible refine Frz.mk ?_))
  all_goals try (refine Held.mk ?_;(try dsimp only at *);(try simp only[zad,zac,eqD,inR,big,zab,zB] at *);(try simp only[zad,zac,eqD,inR,big,zab,zB,zmP,zjz] at *))
  all_goals have hd:=zqe (b:=b) h2 h3
  · omega
  · omega
  · omega
  · rename_i h;exact zom h1 h
  · rename_i h;exact zol h1 h
theorem zrv {x B:Int} (h1:0≤x) (h2:x≤B):0≤x*x∧x*x≤B*B:=⟨Int.mul_nonneg h1 h1,Int.mul_le_mul h2 h2 h1 (by omega)⟩
theorem zpY (ad:Option Addr) (n c:Nat) (w:World):(binOp .eql 38 (.slice ad n c) (.slice none 0 0)).run Try.prog w=.ok (.bool ad.isNone) w:=by
  have hr:=run_equal_slice_nil (P:=Try.prog) w 38 3 ad n c Try.underlying38
  simp[binOp,hr]
theorem zsH (w:World):Calls Try.prog 48 #[.slice none 0 0] w fun r w'=>r=.returned (.slice none 0 0)∧w'=w:=by
  have zed:=zed
  have t3:=Try.underlying3
  have t76:=Try.underlying38
  have hq:(binOp .eql 38 (.slice none 0 0) (.slice none 0 0)).run Try.prog w=.ok (.bool true) w:=zpY none 0 0 w
  have hn:Try.f48.ntmps=8:=rfl
  go_enter Try.func48,hn
  go_wp2
  go_ret
  exact⟨rfl,rfl⟩
theorem zsI (ad:Addr) (c:Nat) (w:World):Calls Try.prog 48 #[.slice (some ad) 0 c] w fun r w'=>r=.returned (.slice (some ⟨w.heap.size,0,none⟩) 0 0)∧w'=w.alloc (.cells #[] 3 (0,0)):=by
  have zed:=zed
  have t3:=Try.underlying3
  have t76:=Try.underlying38
  have hq:(binOp .eql 38 (.slice (some ad) 0 c) (.slice none 0 0)).run Try.prog w=.ok (.bool false) w:=zpY (some ad) 0 c w
  have hn:Try.f48.ntmps=8:=rfl
  go_enter Try.func48,hn
  go_wp2
  go_ret
  exact⟨rfl,rfl⟩
abbrev zsf (n:Nat):Prop:=n≤2000000000
abbrev zqt (n:Nat):Prop:=0<n∧n≤2000000000
@[reducible] def zfI:Spec:={pats:=[.dat (.sl I64)],res:=[{own:=some 3,t:=.sl I64}],pre:=fun x=>zsf (List.length (α:=Int) x.1),f:=fun x=>(x.1,())}
@[reducible] def zql:Spec:={zfI with pre:=fun x=>zqt (List.length (α:=Int) x.1)}
theorem zsu:Ok 48 zql:=by
  refine mk (ctr:=[]) trivial (nt:=8) Try.func48 rfl rfl rfl rfl (by kernel_rfl) (by kernel_rfl) (fun _=>[]) ?_
  rintro⟨(xs:List Int),_⟩ ⟨(h0:0<xs.length),(h:xs.length≤2000000000)⟩
  repeat' (intro hzz;(try (rename Two=>hq;cases hq));(try dsimp only at hzz);(try simp only[zad,zac,eqD,inR,big,zab,zB] at hzz);(try (revert hzz;intro _)))
  all_goals try (rename Unit=>hq;clear hq)
  all_goals try ((with_reducible refine Held.mk ?_);(with_reducible (first|refine Frz.mk ?_|refine And.intro (Frz.mk ?_) ?_|refine And.intro ?_ (Frz.mk ?_)));repeat' first|exact True.intro|(change _=_;with_reducible rfl)|refine And.intro ?_ ?_|(with_reducible refine Frz.mk ?_))
  all_goals try (refine Held.mk ?_;(try dsimp only at *);(try simp only[zad,zac,eqD,inR,big,zab,zB] at *))
  all_goals first|exact h0|exact List.nil_append _|(show ([]:List Int).length+xs.length≤2147483648;simp;omega)
theorem zmM {OB:Nat→Obj→Prop} {w:World}:CPost OB w w []:=⟨rfl,rfl,rfl,Nat.le_refl _,fun _ _ _=>rfl,fun _ h=>by cases h⟩
theorem zlt {OB:Nat→Obj→Prop} {w:World} {o:Obj}:CPost OB w (w.alloc o) []:=by
  refine⟨rfl,rfl,rfl,?_,fun b hb _=>?_,fun b hb=>by cases hb⟩
  · show w.heap.size≤(w.heap.push o).size
    rw[Array.size_push];exact Nat.le_succ _
  · show (w.heap.push o)[b]?=w.heap[b]?
    rw[Array.getElem?_push,if_neg (Nat.ne_of_lt hb)]
theorem h145:Ok 48 zfI:=by
  refine⟨?_,zsu.2⟩
  rintro w M ⟨(xs:List Int),u⟩ vs bs hM hA (hp:xs.length≤2000000000)
  by_cases h0:0<xs.length
  · exact zsu.1 w M (xs,u) vs bs hM hA ⟨h0,hp⟩
  · have hx:xs=[]:=List.length_eq_zero_iff.1 (by omega)
    subst hx
    obtain⟨v,vs',rfl,⟨l,hl,h2⟩,rfl,rfl⟩:=hA
    obtain⟨a,cap,rfl,h3,h4,h5,h6⟩:=hl
    have hv:v=.slice a 0 cap:=by
      rcases h2 with ⟨h,_⟩|⟨_,h⟩
      · cases h
      · simpa using h.symm
    subst hv
    cases a with
    | none=>
      have:=(h5 rfl).2
      subst this
      refine (zsH w).mono ?_
      rintro e w' ⟨rfl,rfl⟩
      exact⟨[.slice none 0 0],none,rfl,zmM,_,_,rfl,⟨rfl,rfl⟩,.inl ⟨rfl,rfl,rfl⟩⟩
    | some ad=>
      refine (zsI ad cap w).mono ?_
      rintro e w' ⟨rfl,rfl⟩
      refine⟨[.slice (some ⟨w.heap.size,0,none⟩) 0 0],some w.heap.size,rfl,zlt,_,_,rfl,⟨rfl,rfl⟩,.inr ⟨w.heap.size,0,#[],rfl,rfl,Nat.le_refl _,?_,?_⟩⟩
      · show (w.heap.push _)[w.heap.size]?=_
        simp
      · exact⟨rfl,Nat.le_refl _,Nat.zero_le _,fun i x h=>by simp at h⟩
def tab {α:Type} (f:Nat→α):Nat→List α
  | 0=>[]
  | k+1=>tab f k++[f k]
def sm (f:Nat→Int):Nat→Int
  | 0=>0
  | k+1=>sm f k+f k
theorem zak {α:Type} (f:Nat→α):∀k,(tab f k).length=k
  | 0=>rfl
  | k+1=>by simp[tab,zak f k]
theorem zaD {α:Type} (f:Nat→α) (d:α):∀k i,i<k→(tab f k).getD i d=f i
  | 0,i,h=>by omega
  | k + 1,i,h=>by
    simp only[tab,List.getD_eq_getElem?_getD]
    by_cases hi:i<k
    · rw[List.getElem?_append_left (by rw[zak];exact hi)]
      have:=zaD f d k i hi
      rwa [List.getD_eq_getElem?_getD] at this
    · have:i=k:=by omega
      subst this
      rw[List.getElem?_append_right (by rw[zak];omega),zak]
      simp
theorem zgb {α:Type} {f g:Nat→α}:∀k,(∀i,i<k→f i=g i)→tab f k=tab g k
  | 0,_=>rfl
  | k+1,h=>by simp only[tab];rw[zgb k (fun i hi=>h i (by omega)),h k (by omega)]
theorem zar {f g:Nat→Int}:∀k,(∀i,i<k→f i=g i)→sm f k=sm g k
  | 0,_=>rfl
  | k+1,h=>by simp only[sm];rw[zar k (fun i hi=>h i (by omega)),h k (by omega)]
theorem zmj {f:Nat→Int} {B:Int}:∀k:Nat,(∀i,i<k→-B≤f i∧f i≤B)→-(k*B)≤sm f k∧sm f k≤k*B
  | 0,_=>by simp[sm]
  | k+1,h=>by
    have ih:=zmj k (fun i hi=>h i (by omega))
    have:=h k (by omega)
    simp only[sm]
    have e:(((k+1:Nat):Int)*B)=(k:Int)*B+B:=by rw[Int.natCast_add,Int.add_mul];simp
    rw[e]
    omega
theorem zoR {α:Type} (d:α):∀(xs:List α),xs=tab (fun i=>xs.getD i d) xs.length:=by
  intro xs
  apply List.ext_getElem?
  intro i
  by_cases hi:i<xs.length
  · have h1:=zaD (fun i=>xs.getD i d) d xs.length i hi
    rw[List.getD_eq_getElem?_getD] at h1
    have h2:(tab (fun i=>xs.getD i d) xs.length)[i]?=some ((tab (fun i=>xs.getD i d) xs.length)[i]'(by rw[zak];exact hi)):=List.getElem?_eq_getElem _
    rw[h2] at h1 ⊢
    simp only[Option.getD_some] at h1
    rw[h1]
    simp[List.getD,List.getElem?_eq_getElem hi]
  · rw[List.getElem?_eq_none (by omega),List.getElem?_eq_none (by rw[zak];omega)]
theorem zbR {α:Type} {f:Nat→α}:∀ {k:Nat} {x:α},x∈tab f k→∃i,i<k∧x=f i
  | 0,x,h=>by simp[tab] at h
  | k + 1,x,h=>by
    simp only[tab,List.mem_append,List.mem_singleton] at h
    rcases h with h|h
    · obtain⟨i,h1,h2⟩:=zbR h
      exact⟨i,by omega,h2⟩
    · exact⟨k,by omega,h⟩
abbrev vI (xs:List Int) (i:Nat):Int:=xs.getD i 0
def dotI (a b:List Int):Int:=sm (fun i=>vI a i*vI b i) a.length
def sumI (a:List Int):Int:=sm (fun i=>vI a i) a.length
abbrev pDot (a b:List Int):Prop:=a.length≤b.length∧a.length≤9∧∀i,i<a.length→-1000000000000000000≤vI a i*vI b i∧vI a i*vI b i≤1000000000000000000
abbrev pSum (a:List Int):Prop:=a.length≤9∧∀i,i<a.length→-1000000000000000000≤vI a i∧vI a i≤1000000000000000000
@[reducible] def sDot:Spec:={pats:=[.dat (.sl I64),.dat (.sl I64)],res:=[{t:=I64}],pre:=fun x=>pDot x.1 x.2.1,f:=fun x=>(dotI x.1 x.2.1,())}
@[reducible] def sSum:Spec:={pats:=[.dat (.sl I64)],res:=[{t:=I64}],pre:=fun x=>pSum x.1,f:=fun x=>(sumI x.1,())}
theorem sm_9 {f:Nat→Int} {k:Nat} (h:∀i,i<k→-1000000000000000000≤f i∧f i≤1000000000000000000) (hk:k≤9) : -9000000000000000000≤sm f k∧sm f k≤9000000000000000000:=by
  have:=zmj (f:=f) (B:=1000000000000000000) k h
  omega
def zsA (a b:List Int):LoopAnn:={σ:=Nat,pat:=fun k=>[sI 9 k,sI 5 (sm (fun i=>vI a i*vI b i) k)],inv:=fun k=>k≤a.length,meas:=fun k=>a.length - k}
def zrs (a:List Int):LoopAnn:={σ:=Nat,pat:=fun k=>[sI 8 k,sI 3 (sm (fun i=>vI a i) k)],inv:=fun k=>k≤a.length,meas:=fun k=>a.length - k}
theorem h105:Ok 31 sDot:=by
  refine mk (ctr:=[]) trivial (nt:=25) Try.func31 rfl rfl rfl rfl (by kernel_rfl) (by kernel_rfl) (fun x=>[fun _=>zsA x.1 x.2.1]) ?_
  rintro⟨(a:List Int),(b:List Int),_⟩ ⟨(h1:a.length≤b.length),(h2:a.length≤9),(h3:∀i,i<a.length→-1000000000000000000≤vI a i*vI b i∧vI a i*vI b i≤1000000000000000000)⟩
  repeat' (intro hzz;(try (rename Two=>hq;cases hq));(try dsimp only at hzz);(try simp only[zad,zac,eqD,inR,big,zab,zB] at hzz);(try simp only[zad,zac,eqD,inR,big,zab,zB,zaP] at hzz);(try (revert hzz;intro _)))
  all_goals try (rename Unit=>hq;clear hq)
  all_goals try ((with_reducible refine Held.mk ?_);(with_reducible (first|refine Frz.mk ?_|refine And.intro (Frz.mk ?_) ?_|refine And.intro ?_ (Frz.mk ?_)));repeat' first|exact True.intro|(change _=_;with_reducible rfl)|refine And.intro ?_ ?_|(with_reducible refine Frz.mk ?_))
  all_goals try (refine Held.mk ?_;(try dsimp only at *);(try simp only[zad,zac,eqD,inR,big,zab,zB] at *);(try simp only[zad,zac,eqD,inR,big,zab,zB,zaP] at *))
  all_goals try omega
  ·
    refine zaq.mk ?_
    refine Exists.intro 0 ?_
    refine And.intro (Leaf.mk ?_) ?_
    · repeat' first|exact True.intro|refine And.intro ?_ ?_
      all_goals try ((change _=_<;>try dsimp only)<;>try with_reducible rfl)
      all_goals try omega
      all_goals (rfl)
    exact Nat.zero_le _
  · rename_i k hk hg
    exact⟨by have:=(h3 k (by omega)).1;exact Int.le_trans (by decide) this,by have:=(h3 k (by omega)).2;exact Int.le_trans this (by decide)⟩
  · rename_i k hk hg
    have:=sm_9 (f:=fun i=>vI a i*vI b i) (k:=k+1) (fun i hi=>h3 i (by omega)) (by omega)
    simp only[sm,vI] at this ⊢
    omega
  · rename_i k hk hg
    refine zaq.mk ?_
    refine Exists.intro (k+1) ?_
    refine And.intro (Leaf.mk ?_) ?_
    · repeat' first|exact True.intro|refine And.intro ?_ ?_
      all_goals try ((change _=_<;>try dsimp only)<;>try with_reducible rfl)
      all_goals try omega
      all_goals (rfl)
    exact⟨by show k+1≤a.length;omega,by show a.length - (k+1)<a.length - k;omega⟩
  · rename_i k hk hg
    rw[show k=a.length by omega];rfl
theorem h124:Ok 52 sSum:=by
  refine mk (ctr:=[]) trivial (nt:=17) Try.func52 rfl rfl rfl rfl (by kernel_rfl) (by kernel_rfl) (fun x=>[fun _=>zrs x.1]) ?_
  rintro⟨(a:List Int),_⟩ ⟨(h2:a.length≤9),(h3:∀i,i<a.length→-1000000000000000000≤vI a i∧vI a i≤1000000000000000000)⟩
  repeat' (intro hzz;(try (rename Two=>hq;cases hq));(try dsimp only at hzz);(try simp only[zad,zac,eqD,inR,big,zab,zB] at hzz);(try simp only[zad,zac,eqD,inR,big,zab,zB,zaP] at hzz);(try (revert hzz;intro _)))
  all_goals try (rename Unit=>hq;clear hq)
  all_goals try ((with_reducible refine Held.mk ?_);(with_reducible (first|refine Frz.mk ?_|refine And.intro (Frz.mk ?_) ?_|refine And.intro ?_ (Frz.mk ?_)));repeat' first|exact True.intro|(change _=_;with_reducible rfl)|refine And.intro ?_ ?_|(with_reducible refine Frz.mk ?_))
  all_goals try (refine Held.mk ?_;(try dsimp only at *);(try simp only[zad,zac,eqD,inR,big,zab,zB] at *);(try simp only[zad,zac,eqD,inR,big,zab,zB,zaP] at *))
  all_goals try omega
  ·
    refine zaq.mk ?_
    refine Exists.intro 0 ?_
    refine And.intro (Leaf.mk ?_) ?_
    · repeat' first|exact True.intro|refine And.intro ?_ ?_
      all_goals try ((change _=_<;>try dsimp only)<;>try with_reducible rfl)
      all_goals try omega
      all_goals (rfl)
    exact Nat.zero_le _
  · rename_i k hk hg
    have:=sm_9 (f:=fun i=>vI a i) (k:=k+1) (fun i hi=>h3 i (by omega)) (by omega)
    simp only[sm,vI] at this ⊢
    omega
  · rename_i k hk hg
    refine zaq.mk ?_
    refine Exists.intro (k+1) ?_
    refine And.intro (Leaf.mk ?_) ?_
    · repeat' first|exact True.intro|refine And.intro ?_ ?_
      all_goals try ((change _=_<;>try dsimp only)<;>try with_reducible rfl)
      all_goals try omega
      all_goals (rfl)
    exact⟨by show k+1≤a.length;omega,by show a.length - (k+1)<a.length - k;omega⟩
  · rename_i k hk hg
    rw[show k=a.length by omega];rfl
def mx (xs:List Int):Nat→Int
  | 0=>xs.getD 0 0
  | k+1=>if xs.getD (k+1) 0>mx xs k then xs.getD (k+1) 0 else mx xs k
def mn (xs:List Int):Nat→Int
  | 0=>xs.getD 0 0
  | k+1=>if xs.getD (k+1) 0<mn xs k then xs.getD (k+1) 0 else mn xs k
abbrev pMx (n:Nat):Prop:=0<n∧pLen n
@[reducible] def sMax:Spec:={pats:=[.dat (.sl I64)],res:=[{t:=I64}],pre:=fun x=>pMx (List.length (α:=Int) x.1),f:=fun x=>(mx x.1 (List.length (α:=Int) x.1 - 1),())}
@[reducible] def sMin:Spec:={sMax with f:=fun x=>(mn x.1 (List.length (α:=Int) x.1 - 1),())}
theorem h106:Ok 32 sMax:=by
  refine mk (ctr:=[]) trivial (nt:=25) Try.func32 rfl rfl rfl rfl (by kernel_rfl) (by kernel_rfl) (fun x=>[fun _=>{σ:=Nat,pat:=fun k=>[sI 3 (mx x.1 k),sI 4 (k+1:Int)],inv:=fun k=>k+1≤List.length (α:=Int) x.1,meas:=fun k=>List.length (α:=Int) x.1 - k}]) ?_
  rintro⟨(xs:List Int),_⟩ ⟨(h1:0<xs.length),(h2:pLen xs.length)⟩
  have:=h2.out
  repeat' (intro hzz;(try (rename Two=>hq;cases hq));(try dsimp only at hzz);(try simp only[zad,zac,eqD,inR,big,zab,zB] at hzz);(try simp only[zad,zac,eqD,inR,big,zab,zB,zaP] at hzz);(try (first|contradiction|(exfalso;omega)));(try (revert hzz;intro _)))
  all_goals try (rename Unit=>hq;clear hq)
  all_goals try ((with_reducible refine Held.mk ?_);(with_reducible (first|refine Frz.mk ?_|refine And.intro (Frz.mk ?_) ?_|refine And.intro ?_ (Frz.mk ?_)));repeat' first|exact True.intro|(change _=_;with_reducible rfl)|refine And.intro ?_ ?_|(with_reducible refine Frz.mk ?_))
  all_goals try (refine Held.mk ?_;(try dsimp only at *);(try simp only[zad,zac,eqD,inR,big,zab,zB] at *);(try simp only[zad,zac,eqD,inR,big,zab,zB,zaP] at *))
  all_goals try omega
  ·
    refine zaq.mk ?_
    refine Exists.intro 0 ?_
    refine And.intro (Leaf.mk ?_) ?_
    · repeat' first|exact True.intro|refine And.intro ?_ ?_
      all_goals try ((change _=_<;>try dsimp only)<;>try with_reducible rfl)
      all_goals try omega
      all_goals (rfl)
    exact h1
  · rename_i k hk hg
    refine zaq.mk ?_
    refine Exists.intro (k+1) ?_
    refine And.intro (Leaf.mk ?_) ?_
    · repeat' first|exact True.intro|refine And.intro ?_ ?_
      all_goals try ((change _=_<;>try dsimp only)<;>try with_reducible rfl)
      all_goals try omega
      all_goals (rfl)
    exact⟨by show k+1+1≤xs.length;omega,by show xs.length - (k+1)<xs.length - k;omega⟩
  · rename_i k hk hg
    rw[show xs.length - 1=k from by omega]
theorem h108:Ok 34 sMin:=by
  refine mk (ctr:=[]) trivial (nt:=25) Try.func34 rfl rfl rfl rfl (by kernel_rfl) (by kernel_rfl) (fun x=>[fun _=>{σ:=Nat,pat:=fun k=>[sI 3 (mn x.1 k),sI 4 (k+1:Int)],inv:=fun k=>k+1≤List.length (α:=Int) x.1,meas:=fun k=>List.length (α:=Int) x.1 - k}]) ?_
  rintro⟨(xs:List Int),_⟩ ⟨(h1:0<xs.length),(h2:pLen xs.length)⟩
  have:=h2.out
  repeat' (intro hzz;(try (rename Two=>hq;cases hq));(try dsimp only at hzz);(try simp only[zad,zac,eqD,inR,big,zab,zB] at hzz);(try simp only[zad,zac,eqD,inR,big,zab,zB,zaP] at hzz);(try (first|contradiction|(exfalso;omega)));(try (revert hzz;intro _)))
  all_goals try (rename Unit=>hq;clear hq)
  all_goals try ((with_reducible refine Held.mk ?_);(with_reducible (first|refine Frz.mk ?_|refine And.intro (Frz.mk ?_) ?_|refine And.intro ?_ (Frz.mk ?_)));repeat' first|exact True.intro|(change _=_;with_reducible rfl)|refine And.intro ?_ ?_|(with_reducible refine Frz.mk ?_))
  all_goals try (refine Held.mk ?_;(try dsimp only at *);(try simp only[zad,zac,eqD,inR,big,zab,zB] at *);(try simp only[zad,zac,eqD,inR,big,zab,zB,zaP] at *))
  all_goals try omega
  ·
    refine zaq.mk ?_
    refine Exists.intro 0 ?_
    refine And.intro (Leaf.mk ?_) ?_
    · repeat' first|exact True.intro|refine And.intro ?_ ?_
      all_goals try ((change _=_<;>try dsimp only)<;>try with_reducible rfl)
      all_goals try omega
      all_goals (rfl)
    exact h1
  · rename_i k hk hg
    refine zaq.mk ?_
    refine Exists.intro (k+1) ?_
    refine And.intro (Leaf.mk ?_) ?_
    · repeat' first|exact True.intro|refine And.intro ?_ ?_
      all_goals try ((change _=_<;>try dsimp only)<;>try with_reducible rfl)
      all_goals try omega
      all_goals (rfl)
    exact⟨by show k+1+1≤xs.length;omega,by show xs.length - (k+1)<xs.length - k;omega⟩
  · rename_i k hk hg
    rw[show xs.length - 1=k from by omega]
def gf (xs:List Int):Nat→Nat
  | 0=>0
  | k+1=>Nat.gcd (gf xs k) (vI xs k).natAbs
abbrev pDiv (xs:List Int):Prop:=pLen xs.length∧∀i,i<xs.length→(vI xs i).natAbs≤9000000000000000000
@[reducible] def sDiv:Spec:={pats:=[.dat (.sl I64)],res:=[{t:=I64}],pre:=fun x=>pDiv x.1,f:=fun x=>((gf x.1 (List.length (α:=Int) x.1):Int),())}
def zsB (st:St):LoopAnn:=zlm 3 st fun g=>zlm 5 st fun n=>{σ:=Int×Int,pat:=fun s=>[sI 3 s.1,sI 5 s.2],inv:=fun s=>Nat.gcd s.1.natAbs s.2.natAbs=Nat.gcd g.natAbs n.natAbs∧s.1.natAbs≤9000000000000000000∧s.2.natAbs≤9000000000000000000,meas:=fun s=>s.2.natAbs}
def zsC (xs:List Int):LoopAnn:={σ:=Nat×Int,pat:=fun s=>[sI 8 s.1,sI 3 s.2],inv:=fun s=>s.1≤xs.length∧s.2.natAbs=gf xs s.1∧s.2.natAbs≤9000000000000000000,meas:=fun s=>xs.length - s.1}
theorem h148:Ok 51 sDiv:=by
  refine mk (ctr:=[]) trivial (nt:=23) Try.func51 rfl rfl rfl rfl (by kernel_rfl) (by kernel_rfl) (fun x=>[fun _=>zsC x.1,zsB]) ?_
  rintro⟨(xs:List Int),_⟩ ⟨(h1:pLen xs.length),(h2:∀i,i<xs.length→(vI xs i).natAbs≤9000000000000000000)⟩
  have:=h1.out
  repeat' (intro hzz;(try (rename Two=>hq;cases hq));(try dsimp only at hzz);(try simp only[zad,zac,eqD,inR,big,zab,zB] at hzz);(try simp only[zad,zac,eqD,inR,big,zab,zB,zaP] at hzz);(try (revert hzz;intro _)))
  all_goals try (rename Unit=>hq;clear hq)
  all_goals try ((with_reducible refine Held.mk ?_);(with_reducible (first|refine Frz.mk ?_|refine And.intro (Frz.mk ?_) ?_|refine And.intro ?_ (Frz.mk ?_)));repeat' first|exact True.intro|(change _=_;with_reducible rfl)|refine And.intro ?_ ?_|(with_reducible refine Frz.mk ?_))
  all_goals try (refine Held.mk ?_;(try dsimp only at *);(try simp only[zad,zac,eqD,inR,big,zab,zB] at *);(try simp only[zad,zac,eqD,inR,big,zab,zB,zaP] at *))
  all_goals try omega
  ·
    refine zaq.mk ?_
    refine Exists.intro ((0:Nat),(0:Int)) ?_
    refine And.intro (Leaf.mk ?_) ?_
    · repeat' first|exact True.intro|refine And.intro ?_ ?_
      all_goals try ((change _=_<;>try dsimp only)<;>try with_reducible rfl)
      all_goals try omega
      all_goals (rfl)
    exact⟨Nat.zero_le _,rfl,Nat.zero_le _⟩
  · rename_i s hs hg
    refine zaq.mk ?_
    refine Exists.intro (s.2,xs.getD s.1 0) ?_
    refine And.intro (Leaf.mk ?_) ?_
    · repeat' first|exact True.intro|refine And.intro ?_ ?_
      all_goals try ((change _=_<;>try dsimp only)<;>try with_reducible rfl)
      all_goals try omega
      all_goals (rfl)
    exact⟨rfl,hs.2.2,h2 s.1 (by omega)⟩
  · rename_i s hs hg t ht hn
    refine zaq.mk ?_
    refine Exists.intro (t.2,t.1.tmod t.2) ?_
    refine And.intro (Leaf.mk ?_) ?_
    · repeat' first|exact True.intro|refine And.intro ?_ ?_
      all_goals try ((change _=_<;>try dsimp only)<;>try with_reducible rfl)
      all_goals try omega
      all_goals (rfl)
    refine⟨⟨?_,ht.2.2,?_⟩,?_⟩
    · refine Eq.trans ?_ ht.1
      show Nat.gcd t.2.natAbs (t.1.tmod t.2).natAbs=_
      rw[Int.natAbs_tmod,Nat.gcd_comm,←Nat.gcd_rec,Nat.gcd_comm]
    · show (t.1.tmod t.2).natAbs≤_
      rw[Int.natAbs_tmod]
      exact Nat.le_trans (Nat.mod_le _ _) ht.2.1
    · show (t.1.tmod t.2).natAbs<t.2.natAbs
      rw[Int.natAbs_tmod]
      exact Nat.mod_lt _ (Nat.pos_of_ne_zero (fun h=>hn (Int.natAbs_eq_zero.1 h)))
  · rename_i s hs hg t ht hn
    refine zaq.mk ?_
    refine Exists.intro (s.1+1,t.1) ?_
    refine And.intro (Leaf.mk ?_) ?_
    · repeat' first|exact True.intro|refine And.intro ?_ ?_
      all_goals try ((change _=_<;>try dsimp only)<;>try with_reducible rfl)
      all_goals try omega
      all_goals (rfl)
    have e:=ht.1
    have hn:t.2=0:=hn
    rw[hn] at e
    have e:t.1.natAbs=Nat.gcd s.2.natAbs (xs.getD s.1 0).natAbs:=by simpa using e
    refine⟨⟨?_,?_,ht.2.1⟩,?_⟩
    · show s.1+1≤xs.length;omega
    · show t.1.natAbs=gf xs (s.1+1)
      rw[e,hs.2.1];rfl
    · show xs.length - (s.1+1)<xs.length - s.1;omega
  · rename_i s hs hg
    have e:s.1=xs.length:=by have:=hs.1;omega
    have e2:=hs.2.1
    rw[e] at e2
    rw[←e2]
    simp only[cond_true]
    split<;>omega
abbrev ArrD:Type:=ArrT.Den
abbrev spkN (xs:List SpkD) (i:Nat):SpkD:=xs.getD i spkZ
@[reducible] def zj5:Spec:={pats:=[.dat ArrT],res:=[{t:=I64}],pre:=fun x=>pLen (List.length (α:=SpkD) x.1.2.2.1),f:=fun x=>((chkA x.1.1 x.1.2.1 x.1.2.2.1).2,())}
theorem h87:Ok 22 zj5:=by
  refine mk (ctr:=[(40,zpJ)]) ⟨h25,trivial⟩ (nt:=11) Try.func22 rfl rfl rfl rfl (by kernel_rfl) (by kernel_rfl) (fun _=>[]) ?_
  rintro⟨⟨(r:Int),(v:Int),(xs:List SpkD),_⟩,_⟩ (hp:pLen xs.length)
  repeat' (intro hzz;(try (rename Two=>hq;cases hq));(try dsimp only at hzz);(try simp only[zad,zac,eqD,inR,big,zab,zB] at hzz);(try (revert hzz;intro _)))
  all_goals try (rename Unit=>hq;clear hq)
  all_goals try ((with_reducible refine Held.mk ?_);(with_reducible (first|refine Frz.mk ?_|refine And.intro (Frz.mk ?_) ?_|refine And.intro ?_ (Frz.mk ?_)));repeat' first|exact True.intro|(change _=_;with_reducible rfl)|refine And.intro ?_ ?_|(with_reducible refine Frz.mk ?_))
  all_goals try (refine Held.mk ?_;(try dsimp only at *);(try simp only[zad,zac,eqD,inR,big,zab,zB] at *))
  · exact hp
def zha (p:SpkD→Bool):List SpkD→Nat→Int
  | [],_=>-1
  | x::r,i=>if p x=true then i else zha p r (i+1)
theorem znI {xs:List SpkD} {i:Nat} (h:i<xs.length):xs.drop i=spkN xs i::xs.drop (i+1):=by
  rw[List.drop_eq_getElem_cons h]
  simp[spkN,List.getD,List.getElem?_eq_getElem h]
theorem zhG {p:SpkD→Bool} {xs:List SpkD} {i:Nat} (h:i<xs.length):zha p (xs.drop i) i=if p (spkN xs i)=true then (i:Int) else zha p (xs.drop (i+1)) (i+1):=by
  rw[znI h];rfl
theorem zjw (p:SpkD→Bool):∀(xs:List SpkD) (i:Nat),decide (zha p xs i≥0)=xs.any p
  | [],i=>by simp[zha]
  | x :: r,i=>by
    simp only[zha,List.any_cons]
    by_cases h:p x=true
    · have h2:(if p x=true then (i:Int) else zha p r (i+1))=i:=if_pos h
      simp only[h,if_true,Bool.true_or,decide_eq_true_eq]
      omega
    · have h':p x=false:=by simpa using h
      simp only[h',Bool.false_eq_true,if_false,Bool.false_or]
      exact zjw p r (i+1)
abbrev clN:Ty:=.clo 56 (.cons (.ptr zbc) .nil)
def nrS (seat:zal) (s:SpkD):Bool:=zlz s.1 seat
@[reducible] def zrG:Spec:={pats:=[.dat SpkT,.dat (.ptr zbc)],res:=[{t:=.bool}],pre:=fun _=>True,f:=fun x=>(nrS x.2.1 x.1,())}
theorem h161:Ok 56 zrG:=by
  refine mk (ctr:=[(57,zrF)]) ⟨h78,trivial⟩ (nt:=9) Try.func56 rfl rfl rfl rfl (by kernel_rfl) (by kernel_rfl) (fun _=>[]) ?_
  rintro⟨⟨(a:zal),(g:Int),(d:Int),_⟩,(p:zal),_⟩ _
  repeat' (intro hzz;(try (rename Two=>hq;cases hq));(try dsimp only at hzz);(try simp only[zad,zac,eqD,inR,big,zab,zB] at hzz);(try (revert hzz;intro _)))
  all_goals try (rename Unit=>hq;clear hq)
  all_goals try ((with_reducible refine Held.mk ?_);(with_reducible (first|refine Frz.mk ?_|refine And.intro (Frz.mk ?_) ?_|refine And.intro ?_ (Frz.mk ?_)));repeat' first|exact True.intro|(change _=_;with_reducible rfl)|refine And.intro ?_ ?_|(with_reducible refine Frz.mk ?_))
  all_goals try (refine Held.mk ?_;(try dsimp only at *);(try simp only[zad,zac,eqD,inR,big,zab,zB] at *))
  all_goals rfl
@[reducible] def zrI:Spec:={pats:=[.dat (.sl SpkT),.dat clN],res:=[{t:=I64}],pre:=fun x=>pLen (List.length (α:=SpkD) x.1),f:=fun x=>(zha (nrS x.2.1.1) x.1 0,())}
theorem h141:Ok 68 zrI:=by
  refine mk (ctr:=[(56,zrG)]) ⟨h161,trivial⟩ (nt:=19) Try.func68 rfl rfl rfl rfl (by kernel_rfl) (by kernel_rfl) (fun x=>[fun _=>{σ:=Nat,pat:=fun i=>[sI 8 i],inv:=fun i=>i≤List.length (α:=SpkD) x.1∧zha (nrS x.2.1.1) (List.drop (α:=SpkD) i x.1) i=zha (nrS x.2.1.1) x.1 0,meas:=fun i=>List.length (α:=SpkD) x.1 - i}]) ?_
  rintro⟨(xs:List SpkD),⟨(m:zal),_⟩,_⟩ (hp:pLen xs.length)
  have:=hp.out
  repeat' (intro hzz;(try (rename Two=>hq;cases hq));(try dsimp only at hzz);(try simp only[zad,zac,eqD,inR,big,zab,zB] at hzz);(try (first|contradiction|(exfalso;omega)));(try (revert hzz;intro _)))
  all_goals try (rename Unit=>hq;clear hq)
  all_goals try ((with_reducible refine Held.mk ?_);(with_reducible (first|refine Frz.mk ?_|refine And.intro (Frz.mk ?_) ?_|refine And.intro ?_ (Frz.mk ?_)));repeat' first|exact True.intro|(change _=_;with_reducible rfl)|refine And.intro ?_ ?_|(with_reducible refine Frz.mk ?_))
  all_goals try (refine Held.mk ?_;(try dsimp only at *);(try simp only[zad,zac,eqD,inR,big,zab,zB] at *))
  all_goals try omega
  ·
    refine zaq.mk ?_
    refine Exists.intro 0 ?_
    refine And.intro (Leaf.mk ?_) ?_
    · repeat' first|exact True.intro|refine And.intro ?_ ?_
      all_goals try ((change _=_<;>try dsimp only)<;>try with_reducible rfl)
      all_goals try omega
    exact⟨Nat.zero_le _,rfl⟩
  · rename_i i hi hg h
    have h1:=zhG (p:=nrS m) (xs:=xs) (i:=i) (by omega)
    rw[if_pos (show nrS m (spkN xs i)=true from h)] at h1
    exact h1.symm.trans hi.2
  · rename_i i hi hg h
    have h1:=zhG (p:=nrS m) (xs:=xs) (i:=i) (by omega)
    have h:nrS m (spkN xs i)=false:=h
    rw[if_neg (by rw[h];decide)] at h1
    refine zaq.mk ?_
    refine Exists.intro (i+1) ?_
    refine And.intro (Leaf.mk ?_) ?_
    · repeat' first|exact True.intro|refine And.intro ?_ ?_
      all_goals try ((change _=_<;>try dsimp only)<;>try with_reducible rfl)
      all_goals try omega
    exact⟨⟨by show i+1≤xs.length;omega,h1.symm.trans hi.2⟩,by show xs.length - (i+1)<xs.length - i;omega⟩
  · rename_i i hi hg
    have h1:=hi.2
    rw[List.drop_eq_nil_of_le (by omega)] at h1
    exact h1
@[reducible] def zpH:Spec:={pats:=[.dat (.sl SpkT),.dat clN],res:=[{t:=.bool}],pre:=fun x=>pLen (List.length (α:=SpkD) x.1),f:=fun x=>(List.any (α:=SpkD) x.1 (nrS x.2.1.1),())}
theorem h95:Ok 58 zpH:=by
  refine mk (ctr:=[(68,zrI)]) ⟨h141,trivial⟩ (nt:=9) Try.func58 rfl rfl rfl rfl (by kernel_rfl) (by kernel_rfl) (fun _=>[]) ?_
  rintro⟨(xs:List SpkD),⟨(m:zal),_⟩,_⟩ (hp:pLen xs.length)
  repeat' (intro hzz;(try (rename Two=>hq;cases hq));(try dsimp only at hzz);(try simp only[zad,zac,eqD,inR,big,zab,zB] at hzz);(try (revert hzz;intro _)))
  all_goals try (rename Unit=>hq;clear hq)
  all_goals try ((with_reducible refine Held.mk ?_);(with_reducible (first|refine Frz.mk ?_|refine And.intro (Frz.mk ?_) ?_|refine And.intro ?_ (Frz.mk ?_)));repeat' first|exact True.intro|(change _=_;with_reducible rfl)|refine And.intro ?_ ?_|(with_reducible refine Frz.mk ?_))
  all_goals try (refine Held.mk ?_;(try dsimp only at *);(try simp only[zad,zac,eqD,inR,big,zab,zB] at *))
  · exact hp
  · exact zjw _ _ _
def zij (xs:List SpkD) (seat:zal):Bool:=xs.any (nrS seat)
def zbH (xs:List SpkD) (seat:zal):Int:=if zg6 seat.1 seat.2.1 seat.2.2.1=0 then (if zij xs seat=true then 11 else 0) else zg6 seat.1 seat.2.1 seat.2.2.1
@[reducible] def xCN:Xt:={clos:=[(56,[zbc])]}
theorem zri:Its xCN.its:=True.intro
@[reducible] def zpw:Spec:={pats:=[.dat ArrT,.dat zbc],res:=[{t:=I64}],pre:=fun x=>pLen (List.length (α:=SpkD) x.1.2.2.1),f:=fun x=>(zbH x.1.2.2.1 x.2.1,())}
theorem h140:Ok 41 zpw:=by
  refine mkX (X:=xCN) (hX:=zri) (ctr:=[(21,zfH),(54,zmo),(23,zbV),(58,zpH)]) ⟨h73,h74,h85,h95,trivial⟩ (nt:=17) Try.func41 rfl rfl rfl rfl (by kernel_rfl) (by kernel_rfl) (fun _=>[]) ?_
  rintro⟨⟨(r:Int),(v:Int),(xs:List SpkD),_⟩,(p:zal),_⟩ (hp:pLen xs.length)
  repeat' (intro hzz;(try (rename Two=>hq;cases hq));(try dsimp only at hzz);(try simp only[zad,zac,eqD,inR,big,zab,zB] at hzz);(try (revert hzz;intro _)))
  all_goals try (rename Unit=>hq;clear hq)
  all_goals try ((with_reducible refine Held.mk ?_);(with_reducible (first|refine Frz.mk ?_|refine And.intro (Frz.mk ?_) ?_|refine And.intro ?_ (Frz.mk ?_)));repeat' first|exact True.intro|(change _=_;with_reducible rfl)|refine And.intro ?_ ?_|(with_reducible refine Frz.mk ?_))
  all_goals try (refine Held.mk ?_;(try dsimp only at *);(try simp only[zad,zac,eqD,inR,big,zab,zB] at *))
  · exact hp
  · show ((2:Nat):Int)≤4611686018427387904;decide
  · show zaT [zg6 p.1 p.2.1 p.2.2.1,bif !zij xs p then 0 else 11]=zbH xs p
    simp only[zaT,zbH]
    split
    · cases zij xs p<;>rfl
    · rfl
abbrev RayD:Type:=RayT.Den
def inSp (s:SpkD):Prop:=inP s.1∧(0≤(s.2.1:Int)∧(s.2.1:Int)≤1000)∧(0≤(s.2.2.1:Int)∧(s.2.2.1:Int)≤10000)
theorem ztE {g d:Int} (h:zlG g d=0):(0≤g∧g≤1000)∧(0≤d∧d≤10000):=by
  simp only[zlG] at h
  split at h
  · assumption
  · cases h
theorem zqN {s:SpkD} (h:zg5 s=0):inSp s:=by
  unfold zg5 at h
  split at h
  · rename_i h1;exact⟨zpV h1,ztE h⟩
  · rename_i h1;exact absurd h h1
theorem zlh {xs:List SpkD}:∀(k i:Nat),i+k=xs.length→(zky xs k i).2=0→∀j,i≤j→j<xs.length→inSp (spkN xs j)
  | 0,i,hk,_,j,h1,h2=>by omega
  | k + 1,i,hk,h,j,h1,h2=>by
    simp only[zky] at h
    split at h
    · rename_i hs
      by_cases e:j=i
      · subst e;exact zqN hs
      · exact zlh k (i+1) (by omega) h j (by omega) h2
    · rename_i hs;exact absurd h hs
structure goodArr (r v:Int) (xs:List SpkD):Prop where
  snd:(8000≤r∧r≤192000)∧(30000≤v∧v≤40000)
  pos:0<xs.length
  le:xs.length≤8
  sp:∀i,i<xs.length→inSp (spkN xs i)
theorem zhW {r v:Int} {xs:List SpkD} (h:(chkA r v xs).2=0):goodArr r v xs:=by
  unfold chkA at h
  split at h
  · rename_i h0
    unfold znq at h0
    split at h0
    · rename_i h1
      split at h0
      · cases h0
      · split at h0
        · rename_i h2 h3
          refine⟨?_,by omega,h3,fun i hi=>zlh xs.length 0 (by omega) h i (Nat.zero_le _) hi⟩
          have:=zsq (x:=(r,v,())) h1
          exact this
        · cases h0
    · rename_i h1;exact absurd h0 h1
  · rename_i h0;exact absurd h h0
theorem zgj {xs:List SpkD} {p:zal} (h:zbH xs p=0):inP p∧∀i,i<xs.length→zlz (spkN xs i).1 p=false:=by
  unfold zbH at h
  split at h
  · rename_i h1
    split at h
    · cases h
    · rename_i h2
      refine⟨zpV h1,fun i hi=>?_⟩
      have h3:zij xs p=false:=by simpa using h2
      have h4:=List.any_eq_false.1 h3 (spkN xs i) (by
        have:spkN xs i=xs[i]:=by simp[spkN,List.getD,List.getElem?_eq_getElem hi]
        rw[this];exact List.getElem_mem hi)
      simpa [nrS] using h4
  · rename_i h1;exact absurd h h1
theorem znA {a b:zal} (ha:inP a) (hb:inP b) (h:zlz a b=false):100≤sqP a b:=by
  rw[zos ha hb] at h
  have:=of_decide_eq_false h
  omega
def zoB (r v:Int) (p:zal) (s:SpkD):RayD:=(s,(stL s.1 p,stU s.1 p,()),(nuL s.1 p (r,v,()),nuU s.1 p (r,v,()),()),())
def zfl (r v:Int) (xs:List SpkD) (p:zal):Int:=if (chkA r v xs).2=0 then zbH xs p else (chkA r v xs).2
def zff (r v:Int) (xs:List SpkD) (p:zal) (k:Nat):List RayD:=tab (fun i=>zoB r v p (spkN xs i)) k
def zaY (r v:Int) (xs:List SpkD) (p:zal):List RayD×Int×Unit:=if zfl r v xs p=0 then (zff r v xs p xs.length,0,()) else ([],zfl r v xs p,())
@[reducible] def zqk:Spec:={pats:=[.dat ArrT,.dat zbc],res:=[{t:=.sl RayT},{t:=I64}],pre:=fun x=>pLen (List.length (α:=SpkD) x.1.2.2.1),f:=fun x=>zaY x.1.1 x.1.2.1 x.1.2.2.1 x.2.1}
def zty (r v:Int) (xs:List SpkD) (p:zal):LoopAnn:={σ:=Nat,pat:=fun k=>[sI 26 k,.slot 8 (.one (.o 60008 k)),.row 60008 75 RayT (zff r v xs p k)],inv:=fun k=>k≤xs.length,meas:=fun k=>xs.length - k}
theorem h93:Ok 25 zqk:=by
  refine mk (ctr:=[(43,zrE),(42,sStr),(44,zh9),(22,zj5),(41,zpw)]) ⟨h77,h79,h84,h87,h140,trivial⟩ (nt:=47) Try.func25 rfl rfl rfl rfl (by kernel_rfl) (by kernel_rfl) (fun x=>[fun _=>zty x.1.1 x.1.2.1 x.1.2.2.1 x.2.1]) ?_
  rintro⟨⟨(r:Int),(v:Int),(xs:List SpkD),_⟩,(p:zal),_⟩ (hp:pLen xs.length)
  repeat' (intro hzz;(try (rename Two=>hq;cases hq));(try dsimp only at hzz);(try simp only[zad,zac,eqD,inR,big,zab,zB] at hzz);(try (revert hzz;intro _)))
  all_goals try (rename Unit=>hq;clear hq)
  all_goals try ((with_reducible refine Held.mk ?_);(with_reducible (first|refine Frz.mk ?_|refine And.intro (Frz.mk ?_) ?_|refine And.intro ?_ (Frz.mk ?_)));repeat' first|exact True.intro|(change _=_;with_reducible rfl)|refine And.intro ?_ ?_|(with_reducible refine Frz.mk ?_))
  all_goals try (refine Held.mk ?_;(try dsimp only at *);(try simp only[zad,zac,eqD,inR,big,zab,zB] at *))
  · exact hp
  · rename_i h
    have e:zfl r v xs p=(chkA r v xs).2:=if_neg h
    have e2:zaY r v xs p=([],(chkA r v xs).2,()):=by unfold zaY;rw[e,if_neg h]
    rw[e2];exact⟨rfl,rfl⟩
  · exact hp
  · rename_i h1 h
    have h:¬zbH xs p=0:=h
    have e:zfl r v xs p=zbH xs p:=if_pos h1
    have e2:zaY r v xs p=([],zbH xs p,()):=by unfold zaY;rw[e,if_neg h]
    rw[e2];exact⟨rfl,rfl⟩
  · rename_i h1 h
    refine zaq.mk ?_
    refine Exists.intro (0:Nat) ?_
    refine And.intro (Leaf.mk ?_) ?_
    · repeat' first|exact True.intro|refine And.intro ?_ ?_
      all_goals try ((change _=_<;>try dsimp only)<;>try with_reducible rfl)
      all_goals try omega
      all_goals (rfl)
    exact Nat.zero_le _
  · rename_i h1 h k hk hg;omega
  · rename_i h1 h k hk hg
    have ha:=zhW h1
    have hs:=zgj h
    have h2:=(ha.sp k (by omega)).1
    exact⟨⟨h2,hs.1⟩,znA h2 hs.1 (hs.2 k (by omega))⟩
  · rename_i h1 h k hk hg
    have ha:=zhW h1
    have hs:=zgj h
    exact⟨⟨(ha.sp k (by omega)).1,hs.1⟩,ha.snd⟩
  · rename_i h1 h k hk hg
    have e:(zff r v xs p k).length=k:=zak _ _
    have ha:=(zhW h1).le
    refine⟨e.symm,?_⟩
    rw[e];show k+1≤2147483648;omega
  · rename_i h1 h k hk hg
    have:=hp.out
    omega
  · rename_i h1 h k hk hg
    have e:(zff r v xs p (k+1)).length=k+1:=zak _ _
    refine zaq.mk ?_
    refine Exists.intro (k+1) ?_
    refine And.intro (Leaf.mk ?_) ?_
    · repeat' first|exact True.intro|refine And.intro ?_ ?_
      all_goals try ((change _=_<;>try dsimp only)<;>try with_reducible rfl)
      all_goals try omega
      all_goals (first|rfl|exact e.symm|exact e|(rw[List.length_append,zak];rfl))
    exact⟨by show k+1≤xs.length;omega,by show xs.length - (k+1)<xs.length - k;omega⟩
  all_goals try exact (zak _ _).symm
  · rename_i h1 h k hk hg
    have h:zbH xs p=0:=h
    have e:zfl r v xs p=0:=(if_pos h1).trans h
    have e2:zaY r v xs p=(zff r v xs p xs.length,0,()):=if_pos e
    rw[e2,show k=xs.length by omega];exact⟨rfl,rfl⟩
def shr (m z:Int):Int×Int:=if m % 4=0 then (z,0) else if m % 4=1 then (0,-z) else if m % 4=2 then (-z,0) else (0,z)
abbrev pShr (n d z:Int):Prop:=(0≤n+d∧n+d≤1000000000000000000)∧(0≤z∧z≤1000000000000000000)
@[reducible] def zpv:Spec:={pats:=[.dat RayT,.dat I64,.dat I64],res:=[{t:=zcJ}],pre:=fun x=>pShr x.2.1 x.1.1.2.2.1 x.2.2.1,f:=fun x=>(((shr (x.2.1+x.1.1.2.2.1) x.2.2.1).1,(shr (x.2.1+x.1.1.2.2.1) x.2.2.1).2,()),())}
theorem h98:Ok 38 zpv:=by
  refine mk (ctr:=[]) trivial (nt:=29) Try.func38 rfl rfl rfl rfl (by kernel_rfl) (by kernel_rfl) (fun _=>[]) ?_
  rintro⟨⟨⟨(a:zal),(g:Int),(d:Int),_⟩,s,n,_⟩,(m:Int),(z:Int),_⟩ ⟨(h1:0≤m+d∧m+d≤1000000000000000000),(h2:0≤z∧z≤1000000000000000000)⟩
  have e:(m+d).tmod 4=(m+d) % 4:=Int.tmod_eq_emod_of_nonneg h1.1
  repeat' (intro hzz;(try (rename Two=>hq;cases hq));(try dsimp only at hzz);(try simp only[zad,zac,eqD,inR,big,zab,zB] at hzz);(try simp only[zad,zac,eqD,inR,big,zab,zB,e] at hzz);(try (revert hzz;intro _)))
  all_goals try (rename Unit=>hq;clear hq)
  all_goals try ((with_reducible refine Held.mk ?_);(with_reducible (first|refine Frz.mk ?_|refine And.intro (Frz.mk ?_) ?_|refine And.intro ?_ (Frz.mk ?_)));repeat' first|exact True.intro|(change _=_;with_reducible rfl)|refine And.intro ?_ ?_|(with_reducible refine Frz.mk ?_))
  all_goals try (refine Held.mk ?_;(try dsimp only at *);(try simp only[zad,zac,eqD,inR,big,zab,zB] at *);(try simp only[zad,zac,eqD,inR,big,zab,zB,e] at *))
  all_goals try omega
  · rename_i h
    have e:shr (m+d) z=(z,0):=if_pos h
    rw[e];exact⟨rfl,rfl⟩
  · rename_i h1 h
    have e:shr (m+d) z=(0,-z):=(if_neg h1).trans (if_pos h)
    rw[e];exact⟨rfl,rfl⟩
  · rename_i h1 h2 h
    have e:shr (m+d) z=(-z,0):=(if_neg h1).trans ((if_neg h2).trans (if_pos h))
    rw[e];exact⟨rfl,rfl⟩
  · rename_i h1 h2 h
    have e:shr (m+d) z=(0,z):=(if_neg h1).trans ((if_neg h2).trans (if_neg h))
    rw[e];exact⟨rfl,rfl⟩
@[reducible] def xF4:Xt:={fuel:=4}
theorem zrh:Its xF4.its:=True.intro
abbrev rayZ:RayD:=Ty.dflt RayT
abbrev rayN (l:List RayD) (i:Nat):RayD:=l.getD i rayZ
def giv (x:RayD):Int×Int:=shr (x.2.2.1.1+x.1.2.2.1) (x.1.2.1*x.2.1.1)
def reT (l:List RayD) (k:Nat):Int:=sm (fun i=>(giv (rayN l i)).1) k
def imT (l:List RayD) (k:Nat):Int:=sm (fun i=>(giv (rayN l i)).2) k
theorem zry {m z B:Int} (h:0≤z∧z≤B):(-B≤(shr m z).1∧(shr m z).1≤B)∧(-B≤(shr m z).2∧(shr m z).2≤B):=by
  unfold shr
  split
  · show (-B≤z∧z≤B)∧(-B≤0∧0≤B);omega
  · split
    · show (-B≤0∧0≤B)∧(-B≤-z∧-z≤B);omega
    · split
      · show (-B≤-z∧-z≤B)∧(-B≤0∧0≤B);omega
      · show (-B≤0∧0≤B)∧(-B≤z∧z≤B);omega
structure goodRay (x:RayD):Prop where
  g:0≤(x.1.2.1:Int)∧(x.1.2.1:Int)≤1000
  d:0≤(x.1.2.2.1:Int)∧(x.1.2.2.1:Int)≤10000
  s:0≤(x.2.1.1:Int)∧(x.2.1.1:Int)≤100000
  su:(x.2.1.1:Int)≤(x.2.1.2.1:Int)∧(x.2.1.2.1:Int)≤100000
  n:0≤(x.2.2.1.1:Int)∧(x.2.2.1.1:Int)≤1000000000
  nu:(x.2.2.1.1:Int)≤(x.2.2.1.2.1:Int)∧(x.2.2.1.2.1:Int)≤1000000000
theorem zm6 {a b A B:Int} (h1:0≤a∧a≤A) (h2:0≤b∧b≤B):0≤a*b∧a*b≤A*B:=⟨Int.mul_nonneg h1.1 h2.1,Int.mul_le_mul h1.2 h2.2 h2.1 (Int.le_trans h1.1 h1.2)⟩
abbrev CD:Type:=Nat×Nat
def cpxI (re im:Int):CD:=(floatOfInt .f64 re,floatOfInt .f64 im)
@[reducible] def sNum:Spec:={pats:=[.dat I64,.dat I64],res:=[{t:=C128}],pre:=fun _=>True,f:=fun x=>(cpxI x.1 x.2.1,())}
theorem h49:Ok 20 sNum:=by
  refine mk (ctr:=[]) trivial (nt:=10) Try.func20 rfl rfl rfl rfl (by kernel_rfl) (by kernel_rfl) (fun _=>[]) ?_
  rintro⟨(a:Int),(b:Int),_⟩ _
  repeat' (intro hzz;(try (rename Two=>hq;cases hq));(try dsimp only at hzz);(try simp only[zad,zac,eqD,inR,big,zab,zB] at hzz);(try (revert hzz;intro _)))
  all_goals try (rename Unit=>hq;clear hq)
  all_goals try ((with_reducible refine Held.mk ?_);(with_reducible (first|refine Frz.mk ?_|refine And.intro (Frz.mk ?_) ?_|refine And.intro ?_ (Frz.mk ?_)));repeat' first|exact True.intro|(change _=_;with_reducible rfl)|refine And.intro ?_ ?_|(with_reducible refine Frz.mk ?_))
  all_goals try (refine Held.mk ?_;(try dsimp only at *);(try simp only[zad,zac,eqD,inR,big,zab,zB] at *))
  all_goals rfl
def zkr (a b:Nat×Nat):Bool:=decide (a.1=b.1)&&decide (a.2=b.2)
@[reducible] def zrA:Spec:={pats:=[.dat C128,.dat C128],res:=[{t:=.bool}],pre:=fun _=>True,f:=fun x=>(zkr x.1 x.2.1,())}
theorem h46:Ok 19 zrA:=by
  refine mk (ctr:=[]) trivial (nt:=21) Try.func19 rfl rfl rfl rfl (by kernel_rfl) (by kernel_rfl) (fun _=>[]) ?_
  rintro⟨⟨a,b⟩,⟨c,d⟩,_⟩ _
  repeat' (intro hzz;(try (rename Two=>hq;cases hq));(try dsimp only at hzz);(try simp only[zad,zac,eqD,inR,big,zab,zB] at hzz);(try (revert hzz;intro _)))
  all_goals try (rename Unit=>hq;clear hq)
  all_goals try ((with_reducible refine Held.mk ?_);(with_reducible (first|refine Frz.mk ?_|refine And.intro (Frz.mk ?_) ?_|refine And.intro ?_ (Frz.mk ?_)));repeat' first|exact True.intro|(change _=_;with_reducible rfl)|refine And.intro ?_ ?_|(with_reducible refine Frz.mk ?_))
  all_goals try (refine Held.mk ?_;(try dsimp only at *);(try simp only[zad,zac,eqD,inR,big,zab,zB] at *))
  · rename_i h
    have h:a=c:=Int.ofNat_inj.1 h
    show decide ((b:Int)=(d:Int))=zkr (a,b) (c,d)
    subst h
    by_cases hb:b=d<;>simp[zkr,hb,Int.ofNat_inj]
  · rename_i h
    have h:¬a=c:=fun e=>h (by rw[e])
    show false=zkr (a,b) (c,d)
    simp[zkr,h]
theorem zpq {a b:zal} (ha:inP a) (hb:inP b) (h:100≤sqP a b):(0≤stL a b∧stL a b≤100000)∧(stL a b≤stU a b∧stU a b≤100000):=by
  have h1:=zld ha hb
  have h2:=zpX ha hb h
  have e1:stU a b=(1000000000+farL a b - 1) / farL a b:=by
    have:=znU (n:=1000000000) (b:=farL a b) (by decide) (by omega)
    rw[Int.tdiv_eq_ediv_of_nonneg (by omega)] at this
    exact this.symm
  have h3:stL a b≤100000:=Int.ediv_le_of_le_mul (by omega) (by omega)
  have h4:0≤stL a b:=Int.ediv_nonneg (by decide) (by omega)
  have h5:stU a b≤100000:=by
    rw[e1]
    refine Int.lt_add_one_iff.1 (Int.ediv_lt_of_lt_mul (by omega) ?_)
    omega
  have h6:stL a b≤stU a b:=by
    rw[e1]
    have q0:stL a b*farU a b≤1000000000:=Int.ediv_mul_le _ (by omega)
    have q1:stL a b*farL a b≤stL a b*farU a b:=Int.mul_le_mul_of_nonneg_left (by omega) h4
    exact Int.le_ediv_of_mul_le (by omega) (by omega)
  exact⟨⟨h4,h3⟩,h6,h5⟩
theorem zlr {r v:Int} {p:zal} {s:SpkD} (hx:inS (r,v,())) (hs:inSp s) (hp:inP p) (hn:100≤sqP s.1 p):goodRay (zoB r v p s):=by
  have h1:=zld hs.1 hp
  have h2:0≤farL s.1 p*r∧farL s.1 p*r≤3325537728000:=zo0 (by omega) (by omega) hx.1
  have h3:0≤farU s.1 p*r∧farU s.1 p*r≤3325537728000:=zo0 (by omega) (by omega) hx.1
  have hv:(30000:Int)≤v∧v≤40000:=hx.2
  have hr:(8000:Int)≤r∧r≤192000:=hx.1
  have h4:=zle (b:=v) h2.1 (by omega)
  have h5:=zqY (b:=v) h3.1 (by omega)
  have h6:(farL s.1 p*r) / v≤cl (farU s.1 p*r) v:=by
    have q:=znU (n:=farU s.1 p*r) (b:=v) h3.1 (by omega)
    rw[Int.tdiv_eq_ediv_of_nonneg (by omega)] at q
    rw[←q]
    refine Int.ediv_le_ediv (by omega) ?_
    have:=Int.mul_le_mul_of_nonneg_right h1.2.1 (show 0≤r by omega)
    omega
  have h7:=zpq hs.1 hp hn
  have h8:(farL s.1 p*r) / v≤200000000:=Int.ediv_le_of_le_mul (by omega) (by omega)
  have h9:cl (farU s.1 p*r) v≤200000000:=by
    have q:=znU (n:=farU s.1 p*r) (b:=v) h3.1 (by omega)
    rw[Int.tdiv_eq_ediv_of_nonneg (by omega)] at q
    rw[←q]
    exact Int.ediv_le_of_le_mul (by omega) (by omega)
  refine⟨hs.2.1,hs.2.2,h7.1,h7.2,?_,?_⟩
  · show 0≤((farL s.1 p*r) / v+500) / 1000∧((farL s.1 p*r) / v+500) / 1000≤1000000000
    omega
  · show ((farL s.1 p*r) / v+500) / 1000≤(cl (farU s.1 p*r) v+500) / 1000∧(cl (farU s.1 p*r) v+500) / 1000≤1000000000
    omega
theorem zmR (r v:Int) (xs:List SpkD) (p:zal):∃L e,zaY r v xs p=(L,e,())∧L.length≤8∧(∀i,i<L.length→goodRay (rayN L i))∧e=zfl r v xs p:=by
  unfold zaY
  split
  · rename_i h
    refine⟨_,_,rfl,?_,?_,h.symm⟩
    all_goals
      unfold zfl at h
      split at h
      · rename_i h1
        have ha:=zhW h1
        have hs:=zgj h
        first
        | (rw[zff,zak];exact ha.le)
        | (intro i hi
           rw[zff,zak] at hi
           have q:rayN (zff r v xs p xs.length) i=zoB r v p (spkN xs i):=zaD _ _ _ _ hi
           rw[q]
           exact zlr ha.snd (ha.sp i hi) hs.1 (znA (ha.sp i hi).1 hs.1 (hs.2 i hi)))
      · rename_i h1;exact absurd h h1
  · exact⟨_,_,rfl,Nat.zero_le _,fun i hi=>absurd hi (Nat.not_lt_zero _),rfl⟩
theorem zpW {x:RayD} (h:goodRay x):(-100000000≤(giv x).1∧(giv x).1≤100000000)∧(-100000000≤(giv x).2∧(giv x).2≤100000000):=zry (zm6 h.g h.s)
theorem zrY {L:List RayD} {k:Nat} (h:∀i,i<k→goodRay (rayN L i)) (hk:k≤8):(-800000000≤reT L k∧reT L k≤800000000)∧(-800000000≤imT L k∧imT L k≤800000000):=by
  have h1:=zmj (f:=fun i=>(giv (rayN L i)).1) (B:=100000000) k fun i hi=>(zpW (h i hi)).1
  have h2:=zmj (f:=fun i=>(giv (rayN L i)).2) (B:=100000000) k fun i hi=>(zpW (h i hi)).2
  unfold reT imT
  omega
def prC (o:List RayD×Int×Unit):CD:=if o.2.1=0 then cpxI (reT o.1 o.1.length) (imT o.1 o.1.length) else (0,0)
@[reducible] def zpy:Spec:={pats:=[.dat ArrT,.dat zbc],res:=[{t:=C128},{t:=I64}],pre:=fun x=>pLen (List.length (α:=SpkD) x.1.2.2.1),f:=fun x=>(prC (zaY x.1.1 x.1.2.1 x.1.2.2.1 x.2.1),zfl x.1.1 x.1.2.1 x.1.2.2.1 x.2.1,())}
def ztq (l:List RayD):LoopAnn:={σ:=Nat,pat:=fun k=>[sI 24 k,cI 8 0 (reT l k),cI 8 1 (imT l k)],inv:=fun k=>k≤l.length,meas:=fun k=>l.length - k}
theorem h34:Ok 17 zpy:=by
  refine mkX (X:=xF4) (hX:=zrh) (ctr:=[(25,zqk),(38,zpv)]) ⟨h93,h98,trivial⟩ (nt:=59) Try.func17 rfl rfl rfl rfl (by kernel_rfl) (by kernel_rfl) (fun x=>[fun _=>ztq (zaY x.1.1 x.1.2.1 x.1.2.2.1 x.2.1).1]) ?_
  rintro⟨⟨(r:Int),(v:Int),(xs:List SpkD),⟨⟩⟩,⟨(pa:Int),(pb:Int),(pc:Int),⟨⟩⟩,⟨⟩⟩ (hp:pLen xs.length)
  obtain⟨L,e,he,hl,hg,hz⟩:=zmR r v xs (pa,pb,pc,())
  have hb:=fun (k:Nat) (hk:k≤L.length)=>zrY (L:=L) (k:=k) (fun i hi=>hg i (by omega)) (by omega)
  repeat' (intro hzz;(try (rename Two=>hq;cases hq));(try dsimp only at hzz);(try simp only[zad,zac,eqD,inR,big,zab,zB] at hzz);(try simp only[zad,zac,eqD,inR,big,zab,zB,he,pLen,Int.toNat_natCast] at hzz);(try (revert hzz;intro _)))
  all_goals try (rename Unit=>hq;clear hq)
  all_goals try ((with_reducible refine Held.mk ?_);(with_reducible (first|refine Frz.mk ?_|refine And.intro (Frz.mk ?_) ?_|refine And.intro ?_ (Frz.mk ?_)));repeat' first|exact True.intro|(change _=_;with_reducible rfl)|refine And.intro ?_ ?_|(with_reducible refine Frz.mk ?_))
  all_goals try (refine Held.mk ?_;(try dsimp only at *);(try simp only[zad,zac,eqD,inR,big,zab,zB] at *);(try simp only[zad,zac,eqD,inR,big,zab,zB,he,pLen,Int.toNat_natCast] at *))
  all_goals try omega
  all_goals try simp only[he,Int.toNat_natCast]
  · rename_i h
    refine⟨?_,hz⟩
    exact (if_neg h).symm
  · rename_i h
    refine zaq.mk ?_
    refine Exists.intro (0:Nat) ?_
    refine And.intro (Leaf.mk ?_) ?_
    · repeat' first|exact True.intro|refine And.intro ?_ ?_
      all_goals try ((change _=_<;>try dsimp only)<;>try with_reducible rfl)
      all_goals try omega
      all_goals (first|rfl|exact e)
    exact Nat.zero_le _
  · rename_i k hk hlt
    have q:=hg k (by omega)
    have:=zm6 q.g q.s
    exact⟨Int.le_trans (by decide) this.1,Int.le_trans this.2 (by decide)⟩
  · rename_i k hk hlt
    have q:=hg k (by omega)
    have:=zm6 q.g q.s
    exact⟨⟨Int.add_nonneg q.n.1 q.d.1,Int.le_trans (Int.add_le_add q.n.2 q.d.2) (by decide)⟩,this.1,Int.le_trans this.2 (by decide)⟩
  · rename_i k hk hlt _
    have:=(hb (k+1) (by omega)).1
    exact⟨Int.le_trans (by decide) this.1,Int.le_trans this.2 (by decide)⟩
  · rename_i k hk hlt _ _
    have:=(hb (k+1) (by omega)).2
    exact⟨Int.le_trans (by decide) this.1,Int.le_trans this.2 (by decide)⟩
  · rename_i k hk hlt _ _ _
    refine zaq.mk ?_
    refine Exists.intro (k+1) ?_
    refine And.intro (Leaf.mk ?_) ?_
    · repeat' first|exact True.intro|refine And.intro ?_ ?_
      all_goals try ((change _=_<;>try dsimp only)<;>try with_reducible rfl)
      all_goals try omega
      all_goals (first|rfl|exact e)
    exact⟨by show k+1≤L.length;omega,by show L.length - (k+1)<L.length - k;omega⟩
  · rename_i h k hk hlt
    refine⟨?_,h.symm.trans hz⟩
    have e2:k=L.length:=by omega
    subst e2
    exact (if_pos h).symm
def zg7:ArrD:=(34000,34000,([((0,0,0,()),1000,0,()),((0,0,100,()),500,400,())]:List SpkD),())
@[reducible] def zrD:Spec:={pats:=[],res:=[{t:=ArrT}],pre:=fun _=>True,f:=fun _=>(zg7,())}
theorem h72:Ok 18 zrD:=by
  refine mk (ctr:=[]) trivial (nt:=6) Try.func18 rfl rfl rfl rfl (by kernel_rfl) (by kernel_rfl) (fun _=>[]) ?_
  rintro⟨⟩ _
  repeat' (intro hzz;(try (rename Two=>hq;cases hq));(try dsimp only at hzz);(try simp only[zad,zac,eqD,inR,big,zab,zB] at hzz);(try (revert hzz;intro _)))
  all_goals try (rename Unit=>hq;clear hq)
  all_goals try ((with_reducible refine Held.mk ?_);(with_reducible (first|refine Frz.mk ?_|refine And.intro (Frz.mk ?_) ?_|refine And.intro ?_ (Frz.mk ?_)));repeat' first|exact True.intro|(change _=_;with_reducible rfl)|refine And.intro ?_ ?_|(with_reducible refine Frz.mk ?_))
  all_goals try (refine Held.mk ?_;(try dsimp only at *);(try simp only[zad,zac,eqD,inR,big,zab,zB] at *))
  all_goals exact⟨rfl,rfl,rfl⟩
abbrev sOwn (t k el:Nat) (xs:List Int):St:=[.slot t (.one (.o k xs.length)),.row k el I64 xs]
abbrev zmp (t k el:Nat) (xs:List (List Int)):St:=[.slot t (.one (.o k xs.length)),.row k el (.sl I64) xs]
abbrev MatT:Ty:=.sl (.sl I64)
abbrev zse (n at':Int):Prop:=0≤n∧n≤1000∧0≤at'∧at'<n
def zbu (n at' v:Int):List Int:=(repl n (0:Int)).set at'.toNat v
@[reducible] def zqj:Spec:={pats:=[.dat I64,.dat I64,.dat I64],res:=[{own:=some 3,t:=.sl I64}],pre:=fun x=>zse x.1 x.2.1,f:=fun x=>(zbu x.1 x.2.1 x.2.2.1,())}
theorem h162:Ok 62 zqj:=by
  refine mk (ctr:=[]) trivial (nt:=15) Try.func62 rfl rfl rfl rfl (by kernel_rfl) (by kernel_rfl) (fun _=>[]) ?_
  rintro⟨(n:Int),(k:Int),(v:Int),_⟩ ⟨h1,h2,h3,h4⟩
  have e:((repl n (0:Int)).length:Int)=n:=by rw[zcn];omega
  repeat' (intro hzz;(try (rename Two=>hq;cases hq));(try dsimp only at hzz);(try simp only[zad,zac,eqD,inR,big,zab,zB] at hzz);(try (revert hzz;intro _)))
  all_goals try (rename Unit=>hq;clear hq)
  all_goals try ((with_reducible refine Held.mk ?_);(with_reducible (first|refine Frz.mk ?_|refine And.intro (Frz.mk ?_) ?_|refine And.intro ?_ (Frz.mk ?_)));repeat' first|exact True.intro|(change _=_;with_reducible rfl)|refine And.intro ?_ ?_|(with_reducible refine Frz.mk ?_))
  all_goals try (refine Held.mk ?_;(try dsimp only at *);(try simp only[zad,zac,eqD,inR,big,zab,zB] at *))
  all_goals first|(exact⟨h1,Int.le_trans h2 (by decide)⟩)|(rw[e];exact⟨h3,h4⟩)|(exact⟨by rw[List.length_set],rfl⟩)|trace_state
theorem znr {xs:List Int} {k:Nat} (h:vI xs k≠0):(gf xs (k+1):Int)≠0:=by
  simp only[gf]
  intro e
  have e:Nat.gcd (gf xs k) (vI xs k).natAbs=0:=by omega
  exact h (Int.natAbs_eq_zero.1 (Nat.gcd_eq_zero_iff.1 e).2)
theorem zoo {n b:Int} (h1:n.natAbs≤9000000000000000000) : -9223372036854775808≤n.tdiv b∧n.tdiv b≤9223372036854775807:=by
  have h3:=Int.natAbs_tdiv_le_natAbs n b
  omega
def gcd2 (a b:Int):Int:=((Nat.gcd a.natAbs b.natAbs:Nat):Int)
abbrev pLow (a b:Int):Prop:=a.natAbs≤9000000000000000000∧b.natAbs≤9000000000000000000∧b≠0
@[reducible] def sLow:Spec:={pats:=[.dat I64,.dat I64],res:=[{t:=zcJ}],pre:=fun x=>pLow x.1 x.2.1,f:=fun x=>((Int.tdiv x.1 (gcd2 x.1 x.2.1),Int.tdiv x.2.1 (gcd2 x.1 x.2.1),()),())}
theorem h107:Ok 33 sLow:=by
  refine mk (ctr:=[(51,sDiv)]) ⟨h148,trivial⟩ (nt:=17) Try.func33 rfl rfl rfl rfl (by kernel_rfl) (by kernel_rfl) (fun _=>[]) ?_
  rintro⟨(a:Int),(b:Int),_⟩ ⟨h1,h2,h3⟩
  have e:(gf [a,b] [a,b].length:Int)=gcd2 a b:=by
    show ((Nat.gcd (Nat.gcd 0 a.natAbs) b.natAbs:Nat):Int)=_
    rw[Nat.gcd_zero_left];rfl
  have e2:gcd2 a b≠0:=by rw[←e];exact znr (xs:=[a,b]) (k:=1) h3
  have hd:pDiv [a,b]:=⟨by show ((2:Nat):Int)≤4611686018427387904;decide,fun i hi=>by
    have:i=0∨i=1:=by simp at hi;omega
    rcases this with rfl|rfl
    · exact h1
    · exact h2⟩
  repeat' (intro hzz;(try (rename Two=>hq;cases hq));(try dsimp only at hzz);(try simp only[zad,zac,eqD,inR,big,zab,zB] at hzz);(try simp only[zad,zac,eqD,inR,big,zab,zB,e] at hzz);(try (revert hzz;intro _)))
  all_goals try (rename Unit=>hq;clear hq)
  all_goals try ((with_reducible refine Held.mk ?_);(with_reducible (first|refine Frz.mk ?_|refine And.intro (Frz.mk ?_) ?_|refine And.intro ?_ (Frz.mk ?_)));repeat' first|exact True.intro|(change _=_;with_reducible rfl)|refine And.intro ?_ ?_|(with_reducible refine Frz.mk ?_))
  all_goals try (refine Held.mk ?_;(try dsimp only at *);(try simp only[zad,zac,eqD,inR,big,zab,zB] at *);(try simp only[zad,zac,eqD,inR,big,zab,zB,e] at *))
  all_goals first|exact hd|exact⟨e2,zoo h1⟩|exact⟨e2,zoo h2⟩|exact⟨rfl,rfl⟩|trace_state
def redG (l:List Int) (d:Int):Int:=(gf (l++[d]) (l++[d]).length:Int)
def redL (l:List Int) (d:Int):List Int×Int:=(tab (fun i=>Int.tdiv (vI l i) (redG l d)) l.length,Int.tdiv d (redG l d))
abbrev pRed (l:List Int) (d:Int):Prop:=l.length≤1000∧(∀i,i<l.length→(vI l i).natAbs≤9000000000000000000)∧d.natAbs≤9000000000000000000∧d≠0
@[reducible] def sRed:Spec:={pats:=[.dat (.sl I64),.dat I64],res:=[{own:=some 3,t:=.sl I64},{t:=I64}],pre:=fun x=>pRed x.1 x.2.1,f:=fun x=>((redL x.1 x.2.1).1,(redL x.1 x.2.1).2,())}
def zrX (l:List Int) (d:Int):LoopAnn:={σ:=Nat,pat:=fun k=>sI 18 k::sOwn 7 60007 3 (tab (fun i=>Int.tdiv (vI l i) (redG l d)) k),inv:=fun k=>k≤l.length,meas:=fun k=>l.length - k}
def zhb (p:Int→Bool):List Int→Nat→Int
  | [],_=>-1
  | x::r,i=>if p x=true then i else zhb p r (i+1)
theorem zhJ {p:Int→Bool} {xs:List Int} {i:Nat} (h:i<xs.length):zhb p (xs.drop i) i=if p (xs.getD i 0)=true then (i:Int) else zhb p (xs.drop (i+1)) (i+1):=by
  rw[ziC h];rfl
theorem zjx (p:Int→Bool):∀(xs:List Int) (i:Nat),decide (zhb p xs i≥0)=xs.any p
  | [],i=>by simp[zhb]
  | x :: r,i=>by
    simp only[zhb,List.any_cons]
    by_cases h:p x=true
    · have h2:(if p x=true then (i:Int) else zhb p r (i+1))=i:=if_pos h
      simp only[h,if_true,Bool.true_or,decide_eq_true_eq]
      omega
    · have h':p x=false:=by simpa using h
      simp only[h',Bool.false_eq_true,if_false,Bool.false_or]
      exact zjx p r (i+1)
abbrev clM:Ty:=.clo 50 (.cons (.ptr I64) .nil)
abbrev outM (m n:Int):Bool:=!zan n 0 m
@[reducible] def zrH:Spec:={pats:=[.dat I64,.dat (.ptr I64)],res:=[{t:=.bool}],pre:=fun _=>True,f:=fun x=>(outM x.2.1 x.1,())}
theorem h147:Ok 50 zrH:=by
  refine mk (ctr:=[(24,zci)]) ⟨h88,trivial⟩ (nt:=8) Try.func50 rfl rfl rfl rfl (by kernel_rfl) (by kernel_rfl) (fun _=>[]) ?_
  rintro⟨(n:Int),(m:Int),_⟩ _
  repeat' (intro hzz;(try (rename Two=>hq;cases hq));(try dsimp only at hzz);(try simp only[zad,zac,eqD,inR,big,zab,zB] at hzz);(try (revert hzz;intro _)))
  all_goals try (rename Unit=>hq;clear hq)
  all_goals try ((with_reducible refine Held.mk ?_);(with_reducible (first|refine Frz.mk ?_|refine And.intro (Frz.mk ?_) ?_|refine And.intro ?_ (Frz.mk ?_)));repeat' first|exact True.intro|(change _=_;with_reducible rfl)|refine And.intro ?_ ?_|(with_reducible refine Frz.mk ?_))
  all_goals try (refine Held.mk ?_;(try dsimp only at *);(try simp only[zad,zac,eqD,inR,big,zab,zB] at *))
@[reducible] def zrJ:Spec:={pats:=[.dat (.sl I64),.dat clM],res:=[{t:=I64}],pre:=fun x=>pLen (List.length (α:=Int) x.1),f:=fun x=>(zhb (outM x.2.1.1) x.1 0,())}
theorem h165:Ok 65 zrJ:=by
  refine mk (ctr:=[(50,zrH)]) ⟨h147,trivial⟩ (nt:=19) Try.func65 rfl rfl rfl rfl (by kernel_rfl) (by kernel_rfl) (fun x=>[fun _=>{σ:=Nat,pat:=fun i=>[sI 8 i],inv:=fun i=>i≤List.length (α:=Int) x.1∧zhb (outM x.2.1.1) (List.drop (α:=Int) i x.1) i=zhb (outM x.2.1.1) x.1 0,meas:=fun i=>List.length (α:=Int) x.1 - i}]) ?_
  rintro⟨(xs:List Int),⟨(m:Int),_⟩,_⟩ (hp:pLen xs.length)
  have:=hp.out
  repeat' (intro hzz;(try (rename Two=>hq;cases hq));(try dsimp only at hzz);(try simp only[zad,zac,eqD,inR,big,zab,zB] at hzz);(try simp only[zad,zac,eqD,inR,big,zab,zB,zaP] at hzz);(try (first|contradiction|(exfalso;omega)));(try (revert hzz;intro _)))
  all_goals try (rename Unit=>hq;clear hq)
  all_goals try ((with_reducible refine Held.mk ?_);(with_reducible (first|refine Frz.mk ?_|refine And.intro (Frz.mk ?_) ?_|refine And.intro ?_ (Frz.mk ?_)));repeat' first|exact True.intro|(change _=_;with_reducible rfl)|refine And.intro ?_ ?_|(with_reducible refine Frz.mk ?_))
  all_goals try (refine Held.mk ?_;(try dsimp only at *);(try simp only[zad,zac,eqD,inR,big,zab,zB] at *);(try simp only[zad,zac,eqD,inR,big,zab,zB,zaP] at *))
  all_goals try omega
  ·
    refine zaq.mk ?_
    refine Exists.intro 0 ?_
    refine And.intro (Leaf.mk ?_) ?_
    · repeat' first|exact True.intro|refine And.intro ?_ ?_
      all_goals try ((change _=_<;>try dsimp only)<;>try with_reducible rfl)
      all_goals try omega
    exact⟨Nat.zero_le _,rfl⟩
  · rename_i i hi hg h
    have h1:=zhJ (p:=outM m) (xs:=xs) (i:=i) (by omega)
    have h2:outM m (xs.getD i 0)=true:=by
      have h':zan (xs.getD i 0) 0 m=false:=decide_eq_false h
      simp only[outM,h',Bool.not_false]
    rw[if_pos h2] at h1
    exact h1.symm.trans hi.2
  · rename_i i hi hg h
    have h1:=zhJ (p:=outM m) (xs:=xs) (i:=i) (by omega)
    have h2:¬outM m (xs.getD i 0)=true:=by
      have h':zan (xs.getD i 0) 0 m=true:=decide_eq_true h
      simp only[outM,h',Bool.not_true];decide
    rw[if_neg h2] at h1
    refine zaq.mk ?_
    refine Exists.intro (i+1) ?_
    refine And.intro (Leaf.mk ?_) ?_
    · repeat' first|exact True.intro|refine And.intro ?_ ?_
      all_goals try ((change _=_<;>try dsimp only)<;>try with_reducible rfl)
      all_goals try omega
    exact⟨⟨by show i+1≤xs.length;omega,h1.symm.trans hi.2⟩,by show xs.length - (i+1)<xs.length - i;omega⟩
  · rename_i i hi hg
    have h1:=hi.2
    rw[List.drop_eq_nil_of_le (by omega)] at h1
    exact h1
@[reducible] def zpI:Spec:={pats:=[.dat (.sl I64),.dat clM],res:=[{t:=.bool}],pre:=fun x=>pLen (List.length (α:=Int) x.1),f:=fun x=>(List.any (α:=Int) x.1 (outM x.2.1.1),())}
theorem h146:Ok 49 zpI:=by
  refine mk (ctr:=[(65,zrJ)]) ⟨h165,trivial⟩ (nt:=9) Try.func49 rfl rfl rfl rfl (by kernel_rfl) (by kernel_rfl) (fun _=>[]) ?_
  rintro⟨(xs:List Int),⟨(m:Int),_⟩,_⟩ (hp:pLen xs.length)
  repeat' (intro hzz;(try (rename Two=>hq;cases hq));(try dsimp only at hzz);(try simp only[zad,zac,eqD,inR,big,zab,zB] at hzz);(try (revert hzz;intro _)))
  all_goals try (rename Unit=>hq;clear hq)
  all_goals try ((with_reducible refine Held.mk ?_);(with_reducible (first|refine Frz.mk ?_|refine And.intro (Frz.mk ?_) ?_|refine And.intro ?_ (Frz.mk ?_)));repeat' first|exact True.intro|(change _=_;with_reducible rfl)|refine And.intro ?_ ?_|(with_reducible refine Frz.mk ?_))
  all_goals try (refine Held.mk ?_;(try dsimp only at *);(try simp only[zad,zac,eqD,inR,big,zab,zB] at *))
  · exact hp
  · exact zjx _ _ _
def allE (l:List Int) (m:Int):Int:=if l.any (outM m)=true then 2 else 0
@[reducible] def xCM:Xt:={clos:=[(50,[I64])]}
theorem zrj:Its xCM.its:=True.intro
@[reducible] def zoy:Spec:={pats:=[.dat (.sl I64),.dat I64],res:=[{t:=I64}],pre:=fun x=>pLen (List.length (α:=Int) x.1),f:=fun x=>(allE x.1 x.2.1,())}
theorem h104:Ok 30 zoy:=by
  refine mkX (X:=xCM) (hX:=zrj) (ctr:=[(49,zpI),(23,zbV)]) ⟨h146,h85,trivial⟩ (nt:=10) Try.func30 rfl rfl rfl rfl (by kernel_rfl) (by kernel_rfl) (fun _=>[]) ?_
  rintro⟨(xs:List Int),(m:Int),_⟩ (hp:pLen xs.length)
  repeat' (intro hzz;(try (rename Two=>hq;cases hq));(try dsimp only at hzz);(try simp only[zad,zac,eqD,inR,big,zab,zB] at hzz);(try (revert hzz;intro _)))
  all_goals try (rename Unit=>hq;clear hq)
  all_goals try ((with_reducible refine Held.mk ?_);(with_reducible (first|refine Frz.mk ?_|refine And.intro (Frz.mk ?_) ?_|refine And.intro ?_ (Frz.mk ?_)));repeat' first|exact True.intro|(change _=_;with_reducible rfl)|refine And.intro ?_ ?_|(with_reducible refine Frz.mk ?_))
  all_goals try (refine Held.mk ?_;(try dsimp only at *);(try simp only[zad,zac,eqD,inR,big,zab,zB] at *))
  · exact hp
  · unfold allE
    cases xs.any (outM m)<;>rfl
theorem zg1 {l:List Int} {m:Int} (h:allE l m=0):∀i,i<l.length→0≤vI l i∧vI l i≤m:=by
  unfold allE at h
  split at h
  · cases h
  · rename_i hn
    intro i hi
    have h1:l.any (outM m)=false:=by simpa using hn
    have h2:=List.any_eq_false.1 h1 (vI l i) (by
      have:vI l i=l[i]:=by simp[vI,List.getD,List.getElem?_eq_getElem hi]
      rw[this];exact List.getElem_mem hi)
    simp only[outM,Bool.not_eq_true',Bool.not_eq_false] at h2
    exact of_decide_eq_true (by simpa using h2)
abbrev ncol (t:List (List Int)):Nat:=(t.getD 0 []).length
abbrev rowN (m:List (List Int)) (i:Nat):List Int:=m.getD i []
def zb3 (n0:Nat):List (List Int)→Int
  | []=>0
  | r::t=>if r.length=n0 then (if allE r 100=0 then zb3 n0 t else allE r 100) else 10
def chkT (t:List (List Int)) (cap:Int):Int:=
  if t.length=0 then 10 else if 4<t.length then 8 else if ncol t=0 then 10 else if 3<ncol t then 8 else if zb3 (ncol t) t=0 then (if 0≤cap∧cap≤1000 then 0 else 2) else zb3 (ncol t) t
theorem znK {xs:List (List Int)} {i:Nat} (h:i<xs.length):xs.drop i=xs.getD i []::xs.drop (i+1):=by
  rw[List.drop_eq_getElem_cons h]
  simp[List.getD,List.getElem?_eq_getElem h]
theorem zgS {n0:Nat} {t:List (List Int)} {i:Nat} (h:i<t.length):zb3 n0 (t.drop i)=if (t.getD i []).length=n0 then (if allE (t.getD i []) 100=0 then zb3 n0 (t.drop (i+1)) else allE (t.getD i []) 100) else 10:=by
  rw[znK h];rfl
theorem zbO (xs:List (List Int)) (i:Nat):List.getD xs ((i:Int)).toNat (Ty.dflt (.sl I64))=xs.getD i []:=rfl
theorem zcl (xs:List (List Int)):List.getD xs (Int.toNat 0) (Ty.dflt (.sl I64))=xs.getD 0 []:=rfl
@[reducible] def zlp:Spec:={pats:=[.dat zhh],res:=[{t:=I64}],pre:=fun _=>True,f:=fun x=>(chkT x.1.1 x.1.2.1,())}
def zq0 (t:List (List Int)):LoopAnn:={σ:=Nat,pat:=fun k=>[sI 33 k],inv:=fun k=>k≤t.length∧zb3 (ncol t) (t.drop k)=zb3 (ncol t) t,meas:=fun k=>t.length - k}
theorem h65:Ok 26 zlp:=by
  refine mk (ctr:=[(24,zci),(23,zbV),(30,zoy)]) ⟨h88,h85,h104,trivial⟩ (nt:=55) Try.func26 rfl rfl rfl rfl (by kernel_rfl) (by kernel_rfl) (fun x=>[fun _=>zq0 x.1.1]) ?_
  rintro⟨⟨(t:List (List Int)),(cap:Int),_⟩,_⟩ _
  repeat' (intro hzz;(try (rename Two=>hq;cases hq));(try dsimp only at hzz);(try simp only[zad,zac,eqD,inR,big,zab,zB] at hzz);(try simp only[zad,zac,eqD,inR,big,zab,zB,zbO,zcl,zan] at hzz);(try (revert hzz;intro _)))
  all_goals try (rename Unit=>hq;clear hq)
  all_goals try ((with_reducible refine Held.mk ?_);(with_reducible (first|refine Frz.mk ?_|refine And.intro (Frz.mk ?_) ?_|refine And.intro ?_ (Frz.mk ?_)));repeat' first|exact True.intro|(change _=_;with_reducible rfl)|refine And.intro ?_ ?_|(with_reducible refine Frz.mk ?_))
  all_goals try (refine Held.mk ?_;(try dsimp only at *);(try simp only[zad,zac,eqD,inR,big,zab,zB] at *);(try simp only[zad,zac,eqD,inR,big,zab,zB,zbO,zcl,zan] at *))
  · rename_i h
    unfold chkT;rw[if_pos (by omega)]
  · rename_i h1 h
    unfold chkT;rw[if_neg (by omega),if_pos (by omega)]
  · omega
  · rename_i h1 h2 h
    unfold chkT;rw[if_neg (by omega),if_neg (by omega),if_pos (show (t.getD 0 []).length=0 by omega)]
  · omega
  · rename_i h1 h2 h3 h
    unfold chkT;rw[if_neg (by omega),if_neg (by omega),if_neg (show ¬(t.getD 0 []).length=0 by omega),if_pos (show 3<(t.getD 0 []).length by omega)]
  · rename_i h1 h2 h3 h
    refine zaq.mk ?_
    refine Exists.intro (0:Nat) ?_
    refine And.intro (Leaf.mk ?_) ?_
    · repeat' first|exact True.intro|refine And.intro ?_ ?_
      all_goals try ((change _=_<;>try dsimp only)<;>try with_reducible rfl)
      all_goals try omega
      all_goals (rfl)
    exact⟨Nat.zero_le _,rfl⟩
  · rename_i h1 h2 h3 h4 k hk h;omega
  · omega
  · rename_i h1 h2 h3 h4 k hk hg h
    have e:=zgS (n0:=ncol t) (show k<t.length by omega)
    rw[if_neg (show ¬(t.getD k []).length=(t.getD 0 []).length by omega),hk.2] at e
    unfold chkT;rw[if_neg (by omega),if_neg (by omega),if_neg (show ¬(t.getD 0 []).length=0 by omega),if_neg (show ¬3<(t.getD 0 []).length by omega),e,if_neg (by decide)]
  · rename_i h1 h2 h3 h4 k hk hg h
    show ((t.getD k []).length:Int)≤4611686018427387904
    omega
  · rename_i h1 h2 h3 h4 k hk hg h5 h
    have e:=zgS (n0:=ncol t) (show k<t.length by omega)
    rw[if_pos (show (t.getD k []).length=(t.getD 0 []).length by omega),if_neg h,hk.2] at e
    unfold chkT;rw[if_neg (by omega),if_neg (by omega),if_neg (show ¬(t.getD 0 []).length=0 by omega),if_neg (show ¬3<(t.getD 0 []).length by omega),e,if_neg h]
  · omega
  · rename_i h1 h2 h3 h4 k hk hg h5 h
    have e:=zgS (n0:=ncol t) (show k<t.length by omega)
    rw[if_pos (show (t.getD k []).length=(t.getD 0 []).length by omega),if_pos h,hk.2] at e
    refine zaq.mk ?_
    refine Exists.intro (k+1) ?_
    refine And.intro (Leaf.mk ?_) ?_
    · repeat' first|exact True.intro|refine And.intro ?_ ?_
      all_goals try ((change _=_<;>try dsimp only)<;>try with_reducible rfl)
      all_goals try omega
      all_goals (rfl)
    exact⟨⟨by show k+1≤t.length;omega,e.symm⟩,by show t.length - (k+1)<t.length - k;omega⟩
  · rename_i h1 h2 h3 h4 k hk h
    have e:=hk.2
    rw[List.drop_eq_nil_of_le (by omega)] at e
    have e:(0:Int)=zb3 (ncol t) t:=e
    unfold chkT;rw[if_neg (by omega),if_neg (by omega),if_neg (show ¬(t.getD 0 []).length=0 by omega),if_neg (show ¬3<(t.getD 0 []).length by omega),←e,if_pos rfl]
    by_cases hc:0≤cap∧cap≤1000
    · rw[if_pos hc,decide_eq_true hc];rfl
    · rw[if_neg hc,decide_eq_false hc];rfl
structure goodT (t:List (List Int)) (cap:Int):Prop where
  pos:0<t.length
  le:t.length≤4
  cpos:0<ncol t
  cle:ncol t≤3
  rows:∀i,i<t.length→(rowN t i).length=ncol t
  vals:∀i j,i<t.length→j<ncol t→0≤vI (rowN t i) j∧vI (rowN t i) j≤100
  cap0:0≤cap∧cap≤1000
theorem zfB {n0:Nat}:∀ {t:List (List Int)},zb3 n0 t=0→∀r∈t,r.length=n0∧allE r 100=0
  | [],_,r,hr=>by cases hr
  | q :: t,h,r,hr=>by
    simp only[zb3] at h
    split at h
    · split at h
      · rcases List.mem_cons.1 hr with rfl|hr
        · exact⟨by assumption,by assumption⟩
        · exact zfB h r hr
      · rename_i h1 h2;exact absurd h h2
    · cases h
theorem zpK {t:List (List Int)} {i:Nat} (h:i<t.length):rowN t i∈t:=by
  have e:rowN t i=t[i]:=by simp[rowN,List.getD,List.getElem?_eq_getElem h]
  rw[e];exact List.getElem_mem h
theorem zds {t:List (List Int)} {cap:Int} (h:chkT t cap=0):goodT t cap:=by
  unfold chkT at h
  split at h
  · cases h
  split at h
  · cases h
  split at h
  · cases h
  split at h
  · cases h
  split at h
  · rename_i h1 h2 h3 h4 h5
    split at h
    · rename_i h6
      exact ⟨by omega,by omega,by omega,by omega,fun i hi=>(zfB h5 _ (zpK hi)).1,fun i j hi hj=>by
        have:=zfB h5 _ (zpK hi)
        exact zg1 this.2 j (by rw[this.1];exact hj),h6⟩
    · cases h
  · rename_i h5;exact absurd h h5
def zaW (c:Int):Nat→List Int→List Int
  | _,[]=>[]
  | k,n::r=>if (k:Int)=c then zaW c (k+1) r else n::zaW c (k+1) r
def zaH (rw' c:Int):Nat→List (List Int)→List (List Int)
  | _,[]=>[]
  | i,r::t=>if (i:Int)=rw' then zaH rw' c (i+1) t else zaW c 0 r::zaH rw' c (i+1) t
def sumD (f:List (List Int)→Int) (rows:List (List Int)):Int→Nat→List Int→Int
  | _,_,[]=>0
  | sign,k,x::r=>sign*x*f (zaH 0 k 0 rows)+sumD f rows (-sign) (k+1) r
def detN:Nat→List (List Int)→Int
  | 0,_=>1
  | n+1,rows=>sumD (detN n) rows 1 0 (rows.getD 0 [])
def zcY (N:Nat) (rows:List (List Int)):Prop:=rows.length=N∧∀r∈rows,r.length=N∧∀x∈r,-2000≤x∧x≤2000
def detB:Nat→Int
  | 0=>1
  | n+1=>(n+1)*(2000*detB n)
theorem zcT (c:Int):∀(t:List (List Int)) (i:Nat),zaH 0 c (i+1) t=t.map (zaW c 0)
  | [],_=>rfl
  | r::t,i=>by
    have h:¬((i+1:Nat):Int)=0:=by omega
    simp only[zaH,if_neg h,List.map_cons,zcT c t (i+1)]
theorem zeB (c:Nat):∀(row:List Int) (k:Nat),(zaW c k row).length=if k≤c∧c<k+row.length then row.length - 1 else row.length
  | [],k=>by simp[zaW]
  | n :: r,k=>by
    have ih:=zeB c r (k+1)
    simp only[zaW,List.length_cons]
    by_cases h:(k:Int)=c
    · rw[if_pos h,ih,if_neg (by omega),if_pos (by omega)]
      rfl
    · rw [if_neg h,List.length_cons,ih]
      by_cases h2:k+1≤c∧c<k+1+r.length
      · rw[if_pos h2,if_pos (by omega)]
        omega
      · rw[if_neg h2,if_neg (by omega)]
theorem zdu (c:Int):∀(row:List Int) (k:Nat) (x:Int),x∈zaW c k row→x∈row
  | [],_,_,h=>by simp[zaW] at h
  | n :: r,k,x,h=>by
    simp only[zaW] at h
    split at h
    · exact List.mem_cons_of_mem _ (zdu c r _ x h)
    · rcases List.mem_cons.1 h with rfl|h
      · exact List.mem_cons_self
      · exact List.mem_cons_of_mem _ (zdu c r _ x h)
theorem zjX {N k:Nat} {rows:List (List Int)} (h:zcY (N+1) rows) (hk:k<N+1):zcY N (zaH 0 k 0 rows):=by
  obtain⟨h1,h2⟩:=h
  cases rows with
  | nil=>simp at h1
  | cons r t=>
    have e:zaH 0 k 0 (r::t)=t.map (zaW k 0):=by
      simp only[zaH,Int.natCast_zero,if_true]
      exact zcT k t 0
    rw[e]
    refine⟨by simp at h1 ⊢;omega,fun q hq=>?_⟩
    obtain⟨p,hp,rfl⟩:=List.mem_map.1 hq
    obtain⟨h3,h4⟩:=h2 p (List.mem_cons_of_mem _ hp)
    exact⟨by rw[zeB,if_pos (by omega)];omega,fun x hx=>h4 x (zdu _ _ _ _ hx)⟩
theorem zjk {x d X B:Int} (h1 : -X≤x) (h2:x≤X) (h3 : -B≤d) (h4:d≤B) : -(X*B)≤x*d∧x*d≤X*B:=by
  have e:(x*d).natAbs=x.natAbs*d.natAbs:=Int.natAbs_mul x d
  have hX:(X.toNat:Int)=X:=Int.toNat_of_nonneg (by omega)
  have hB:(B.toNat:Int)=B:=Int.toNat_of_nonneg (by omega)
  have h5:x.natAbs*d.natAbs≤X.toNat*B.toNat:=Nat.mul_le_mul (by omega) (by omega)
  have h6:((X.toNat*B.toNat:Nat):Int)=X*B:=by rw[Int.natCast_mul,hX,hB]
  omega
theorem zmd {f:List (List Int)→Int} {rows:List (List Int)} {N:Nat} {B:Int} (hf:∀k:Nat,k<N→-B≤f (zaH 0 k 0 rows)∧f (zaH 0 k 0 rows)≤B) :
    ∀(l:List Int) (sign:Int) (k:Nat),(sign=1∨sign = -1)→k+l.length≤N→(∀x∈l,-2000≤x∧x≤2000)→-(l.length*(2000*B))≤sumD f rows sign k l∧sumD f rows sign k l≤l.length*(2000*B)
  | [],_,_,_,_,_=>by simp[sumD]
  | x :: r,sign,k,hs,hk,hx=>by
    simp only[List.length_cons] at hk
    have ih:=zmd hf r (-sign) (k+1) (by omega) (by omega) (fun y hy=>hx y (List.mem_cons_of_mem _ hy))
    have hx0:=hx x List.mem_cons_self
    have hf0:=hf k (by omega)
    have h1 : -2000≤sign*x∧sign*x≤2000:=by rcases hs with rfl|rfl<;>omega
    have h2:=zjk h1.1 h1.2 hf0.1 hf0.2
    simp only[sumD,List.length_cons]
    have e:(((r.length+1:Nat):Int)*(2000*B))=(r.length:Int)*(2000*B)+2000*B:=by
      rw[Int.natCast_add,Int.add_mul];simp
    rw[e]
    generalize (r.length:Int)*(2000*B)=z at *
    omega
theorem zkv:∀(n:Nat) (rows:List (List Int)),zcY n rows→-(detB n)≤detN n rows∧detN n rows≤detB n
  | 0,rows,_=>by simp[detN,detB]
  | n + 1,rows,h=>by
    have hr:(rows.getD 0 []).length=n+1∧∀x∈rows.getD 0 [],-2000≤x∧x≤2000:=by
      cases rows with
      | nil=>have:=h.1;simp at this
      | cons r t=>exact h.2 r List.mem_cons_self
    have:=zmd (f:=detN n) (rows:=rows) (N:=n+1) (B:=detB n) (fun k hk=>zkv n _ (zjX h hk)) (rows.getD 0 []) 1 0 (.inl rfl) (by omega) hr.2
    rw[hr.1] at this
    simp only[detN,detB]
    push_cast at this
    exact this
@[reducible] def sDet (N:Nat):Spec:={pats:=[.dat MatT],res:=[{t:=I64}],pre:=fun x=>zcY N x.1,f:=fun x=>(detN N x.1,())}
@[reducible] def zpz:Spec:={pats:=[.dat MatT],res:=[{t:=I64}],pre:=fun x=>False,f:=fun x=>((0:Int),())}
theorem zjB:zda Try.prog 75:=⟨Try.f75,Try.func75,by kernel_rfl,by kernel_rfl⟩
theorem zoK:Ok 75 zpz:=⟨fun w M x vs bs _ _ h=>h.elim,zjB⟩
theorem row0 {N:Nat} {rows:List (List Int)} (h:zcY (N+1) rows):(rows.getD 0 []).length=N+1∧∀k:Nat,k<N+1→-2000≤(rows.getD 0 []).getD k 0∧(rows.getD 0 []).getD k 0≤2000:=by
  cases rows with
  | nil=>have:=h.1;simp at this
  | cons r t=>
    obtain⟨h1,h2⟩:=h.2 r List.mem_cons_self
    refine⟨h1,fun k hk=>?_⟩
    have hk':k<r.length:=by omega
    have e:r.getD k 0=r[k]:=by simp[List.getD,List.getElem?_eq_getElem hk']
    change -2000≤r.getD k 0∧r.getD k 0≤2000
    rw[e]
    exact h2 _ (List.getElem_mem hk')
theorem zmc {f:List (List Int)→Int} {rows:List (List Int)} {sign:Int} {row:List Int} {k:Nat} (h:k<row.length) :
    sumD f rows sign k (row.drop k)=sign*row.getD k 0*f (zaH 0 k 0 rows)+sumD f rows (-sign) (k+1) (row.drop (k+1)):=by
  rw[ziC h];rfl
theorem znO {n:Nat} (h:n≤4):detB n≤400000000000000∧0≤detB n:=by
  match n,h with
  | 0,_=>decide
  | 1,_=>decide
  | 2,_=>decide
  | 3,_=>decide
  | 4,_=>decide
abbrev znN (N:Nat) (rows:List (List Int)) (k:Nat) (sum sign:Int):Prop:=k≤(rows.getD 0 []).length∧(sign=1∨sign = -1)∧sum+sumD (detN N) rows sign k ((rows.getD 0 []).drop k)=detN (N+1) rows∧-(k*(2000*detB N))≤sum∧sum≤k*(2000*detB N)
theorem zf5 {N:Nat} (hN:N<4) {rows:List (List Int)} (hp:zcY (N+1) rows) {k:Nat} {sum sign:Int} (hi:znN N rows k sum sign) (hk:k<(rows.getD 0 []).length) :
    (-9223372036854775808≤sign*(rows.getD 0 []).getD k 0*detN N (zaH 0 k 0 rows)∧sign*(rows.getD 0 []).getD k 0*detN N (zaH 0 k 0 rows)≤9223372036854775807)∧
    (-9223372036854775808≤sum+sign*(rows.getD 0 []).getD k 0*detN N (zaH 0 k 0 rows)∧sum+sign*(rows.getD 0 []).getD k 0*detN N (zaH 0 k 0 rows)≤9223372036854775807)∧
    znN N rows (k+1) (sum+sign*(rows.getD 0 []).getD k 0*detN N (zaH 0 k 0 rows)) (-sign):=by
  obtain⟨i1,i2,i3,i4,i5⟩:=hi
  have hr:=row0 hp
  have hx:=hr.2 k (by omega)
  have hd:=zkv N _ (zjX hp (k:=k) (by omega))
  have hB:=znO (n:=N) (by omega)
  have h1 : -2000≤sign*(rows.getD 0 []).getD k 0∧sign*(rows.getD 0 []).getD k 0≤2000:=by rcases i2 with rfl|rfl<;>omega
  have h2:=zjk h1.1 h1.2 hd.1 hd.2
  have e:(((k+1:Nat):Int)*(2000*detB N))=(k:Int)*(2000*detB N)+2000*detB N:=by
    rw[Int.natCast_add,Int.add_mul];simp
  have h3:(k:Int)*(2000*detB N)≤4*(2000*detB N):=Int.mul_le_mul_of_nonneg_right (by omega) (by omega)
  rw[zmc hk] at i3
  refine⟨by omega,by omega,by omega,by omega,by omega,?_,?_⟩
  · rw[e];omega
  · rw[e];omega
theorem zgO (c:Int):∀(row:List Int) (j m:Nat),c=j+m→zaW c j row=row.take m++row.drop (m+1)
  | [],j,m,_=>by simp[zaW]
  | n :: r,j,0,h=>by
    simp only[zaW]
    rw[if_pos (by omega)]
    have none:∀(l:List Int) (i:Nat),c<i→zaW c i l=l:=by
      intro l
      induction l with
      | nil=>intro i _;rfl
      | cons x l ih=>intro i hi;simp only[zaW];rw[if_neg (by omega),ih (i+1) (by omega)]
    rw[none r (j+1) (by omega)]
    simp
  | n::r,j,m+1,h=>by
    simp only[zaW]
    rw[if_neg (by omega),zgO c r (j+1) m (by omega)]
    simp
theorem zku {c:Int} {rows:List (List Int)} (h:0<rows.length):zaH 0 c 0 rows=(rows.drop 1).map (zaW c 0):=by
  cases rows with
  | nil=>simp at h
  | cons r t=>
    simp only[zaH,Int.natCast_zero,if_true]
    exact zcT c t 0
abbrev cutC (rows:List (List Int)) (k i:Nat):List Int:=((rows.drop 1).getD i []).take k++((rows.drop 1).getD i []).drop (k+1)
theorem zkJ {α:Type} {f:Nat→α} {xs:List α} {k:Nat} (d:α) (hl:xs.length=k) (h:∀i,i<k→f i=xs.getD i d):tab f k=xs:=by
  refine List.ext_getElem (by rw[zak,hl]) fun i h1 h2=>?_
  have h3:=zaD f d k i (by rw[zak] at h1;exact h1)
  rw[h i (by omega)] at h3
  simpa [List.getD,List.getElem?_eq_getElem h1,List.getElem?_eq_getElem h2] using h3
theorem zdS (xs:List (List Int)) (i:Nat):List.getD xs i (Ty.dflt (.sl I64))=xs.getD i []:=rfl
theorem zdT (xs:List Int) (i:Nat):List.getD xs i (Ty.dflt I64)=xs.getD i 0:=rfl
theorem zje:Int.toNat 1=1:=rfl
theorem zcu:Int.toNat 0=0:=rfl
theorem ziF {N k:Nat} {rows:List (List Int)} (hp:zcY (N+1) rows):tab (cutC rows k) N=zaH 0 k 0 rows:=by
  rw[zku (by rw[hp.1];omega)]
  refine zkJ [] (by rw[List.length_map,List.length_drop,hp.1];rfl) fun i hi=>?_
  have hi':i<(rows.drop 1).length:=by rw[List.length_drop,hp.1];omega
  simp only[List.getD_eq_getElem?_getD,List.getElem?_map,List.getElem?_eq_getElem hi',Option.map_some,Option.getD_some,cutC]
  rw[zgO (k:Int) _ 0 k (by omega)]
theorem zf0 {N:Nat} {rows:List (List Int)} (hp:zcY (N+1) rows) {i:Nat} (h:i<N):((rows.drop 1).getD i []).length=N+1:=by
  have hi':i<(rows.drop 1).length:=by rw[List.length_drop,hp.1];omega
  simp only[List.getD_eq_getElem?_getD,List.getElem?_eq_getElem hi',Option.getD_some]
  exact (hp.2 _ (List.mem_of_mem_drop (List.getElem_mem hi'))).1
def zp0 (N:Nat) (rows:List (List Int)):LoopAnn:=
  {σ:=Nat×Int×Int,pat:=fun s=>[sI 17 s.1,sI 3 s.2.1,sI 4 s.2.2],inv:=fun s=>znN N rows s.1 s.2.1 s.2.2,meas:=fun s=>(rows.getD 0 []).length - s.1}
def zpZ (N:Nat) (rows:List (List Int)) (st:St):LoopAnn:=zlm 17 st fun k=>{σ:=Nat,pat:=fun i=>sI 27 i::zmp 7 60007 38 (tab (cutC rows k.toNat) i),inv:=fun i=>i≤N,meas:=fun i=>N - i}
theorem zd1 (n:Nat):((n:Int)+1).toNat=n+1:=rfl
theorem zo8:Ok 75 (sDet 0):=by
  refine mk (ctr:=[(48,zfI),(75,zpz)]) ⟨h145,zoK,trivial⟩ (nt:=56) Try.func75 rfl rfl rfl rfl (by kernel_rfl) (by kernel_rfl) (fun x=>[fun _=>zp0 0 x.1,zpZ 0 x.1]) ?_
  rintro⟨(rows:List (List Int)),_⟩ (hp:zcY 0 rows)
  have hl:rows.length=0:=hp.1
  repeat' (intro hzz;(try (rename Two=>hq;cases hq));(try dsimp only at hzz);(try simp only[zad,zac,eqD,inR,big,zab,zB] at hzz);(try simp only[zad,zac,eqD,inR,big,zab,zB,zbO,zaP,zcl,Int.toNat_natCast,zd1] at hzz);(try (first|contradiction|(exfalso;omega)));(try (revert hzz;intro _)))
  all_goals try (rename Unit=>hq;clear hq)
  all_goals try ((with_reducible refine Held.mk ?_);(with_reducible (first|refine Frz.mk ?_|refine And.intro (Frz.mk ?_) ?_|refine And.intro ?_ (Frz.mk ?_)));repeat' first|exact True.intro|(change _=_;with_reducible rfl)|refine And.intro ?_ ?_|(with_reducible refine Frz.mk ?_))
  all_goals try (refine Held.mk ?_;(try dsimp only at *);(try simp only[zad,zac,eqD,inR,big,zab,zB] at *);(try simp only[zad,zac,eqD,inR,big,zab,zB,zbO,zaP,zcl,Int.toNat_natCast,zd1] at *))
  all_goals try omega
  · rfl
theorem zo9 {N:Nat} (hN:N<4) (ih:Ok 75 (sDet N)):Ok 75 (sDet (N+1)):=by
  refine mk (ctr:=[(48,zfI),(75,sDet N)]) ⟨h145,ih,trivial⟩ (nt:=56) Try.func75 rfl rfl rfl rfl (by kernel_rfl) (by kernel_rfl) (fun x=>[fun _=>zp0 N x.1,zpZ N x.1]) ?_
  rintro⟨(rows:List (List Int)),_⟩ (hp:zcY (N+1) rows)
  have hl:rows.length=N+1:=hp.1
  repeat' (intro hzz;(try (rename Two=>hq;cases hq));(try dsimp only at hzz);(try simp only[zad,zac,eqD,inR,big,zab,zB] at hzz);(try simp only[zad,zac,eqD,inR,big,zab,zB,zbO,zaP,zcl,Int.toNat_natCast,zd1,zak,List.length_drop,zje,zcu,zdS,zdT] at hzz);(try (revert hzz;intro _)))
  all_goals try (rename Unit=>hq;clear hq)
  all_goals try ((with_reducible refine Held.mk ?_);(with_reducible (first|refine Frz.mk ?_|refine And.intro (Frz.mk ?_) ?_|refine And.intro ?_ (Frz.mk ?_)));repeat' first|exact True.intro|(change _=_;with_reducible rfl)|refine And.intro ?_ ?_|(with_reducible refine Frz.mk ?_))
  all_goals try (refine Held.mk ?_;(try dsimp only at *);(try simp only[zad,zac,eqD,inR,big,zab,zB] at *);(try simp only[zad,zac,eqD,inR,big,zab,zB,zbO,zaP,zcl,Int.toNat_natCast,zd1,zak,List.length_drop,zje,zcu,zdS,zdT] at *))
  all_goals try omega
  all_goals try have hr:=row0 hp
  ·
    refine zaq.mk ?_
    refine Exists.intro ((0,0,1):Nat×Int×Int) ?_
    refine And.intro (Leaf.mk ?_) ?_
    · repeat' first|exact True.intro|refine And.intro ?_ ?_
      all_goals try ((change _=_<;>try dsimp only)<;>try with_reducible rfl)
      all_goals try omega
    refine⟨Nat.zero_le _,.inl rfl,?_,by simp,by simp⟩
    simp[detN]
  · rename_i h0 s hi hg hx
    refine zaq.mk ?_
    refine Exists.intro (0:Nat) ?_
    refine And.intro (Leaf.mk ?_) ?_
    · repeat' first|exact True.intro|refine And.intro ?_ ?_
      all_goals try ((change _=_<;>try dsimp only)<;>try with_reducible rfl)
      all_goals try omega
      all_goals (rfl)
    exact Nat.zero_le _
  · rename_i h0 s hi hg hx i hI hi2
    have:=zf0 hp (i:=i) (by omega)
    change 0≤(s.1:Int)∧(s.1:Int)≤(((rows.drop 1).getD i []).length:Int)
    omega
  · rename_i h0 s hi hg hx i hI hi2
    have:=zf0 hp (i:=i) (by omega)
    change (List.take s.1 ((rows.drop 1).getD i [])).length≤2000000000
    rw[List.length_take];omega
  · omega
  · rename_i h0 s hi hg hx i hI hi2
    have:=zf0 hp (i:=i) (by omega)
    change 0≤(s.1:Int)+1∧(s.1:Int)+1≤(((rows.drop 1).getD i []).length:Int)
    omega
  · rename_i h0 s hi hg hx i hI hi2
    have:=zf0 hp (i:=i) (by omega)
    change (List.take s.1 ((rows.drop 1).getD i [])).length+(List.drop (s.1+1) ((rows.drop 1).getD i [])).length≤2147483648
    rw[List.length_take,List.length_drop];omega
  · rename_i h0 s hi hg hx i hI hi2
    show i+1≤2147483648
    omega
  · rename_i h0 s hi hg hx i hI hi2
    refine zaq.mk ?_
    refine Exists.intro (i+1) ?_
    refine And.intro (Leaf.mk ?_) ?_
    · repeat' first|exact True.intro|refine And.intro ?_ ?_
      all_goals try ((change _=_<;>try dsimp only)<;>try with_reducible rfl)
      all_goals try omega
      all_goals (rfl)
    exact⟨by show i+1≤N;omega,by show N - (i+1)<N - i;omega⟩
  · rename_i h0 s hi hg hx i hI hi2
    have hx:=hr.2 s.1 (by omega)
    have hs:s.2.2=1∨s.2.2 = -1:=hi.2.1
    change -9223372036854775808≤s.2.2*(rows.getD 0 []).getD s.1 0∧s.2.2*(rows.getD 0 []).getD s.1 0≤9223372036854775807
    rcases hs with hs|hs<;>rw[hs]<;>omega
  · rename_i h0 s hi hg hx i hI hi2
    have e:i=N:=by omega
    subst e
    rw[ziF hp]
    exact zjX hp (by omega)
  · rename_i h0 s hi hg hx i hI hi2
    have e:i=N:=by omega
    subst e
    rw[ziF hp]
    exact (zf5 hN hp hi (by omega)).1
  · rename_i h0 s hi hg hx i hI hi2
    have e:i=N:=by omega
    subst e
    rw[ziF hp]
    exact (zf5 hN hp hi (by omega)).2.1
  · omega
  · rename_i h0 s hi hg hx i hI hi2
    have e:i=N:=by omega
    subst e
    have hd:=zf5 hN hp hi (by omega)
    rw[←ziF hp] at hd
    refine zaq.mk ?_
    refine Exists.intro ((s.1+1,s.2.1+s.2.2*(rows.getD 0 []).getD s.1 0*detN i (tab (cutC rows s.1) i),-s.2.2):Nat×Int×Int) ?_
    refine And.intro (Leaf.mk ?_) ?_
    · repeat' first|exact True.intro|refine And.intro ?_ ?_
      all_goals try ((change _=_<;>try dsimp only)<;>try with_reducible rfl)
      all_goals try omega
      all_goals (rfl)
    refine⟨hd.2.2,?_⟩
    change (rows.getD 0 []).length - (s.1+1)<(rows.getD 0 []).length - s.1
    omega
  · omega
  · rename_i h0 s hi hg hx
    have hd:=zf5 hN hp hi (by omega)
    have hx0:(rows.getD 0 []).getD s.1 0=0:=hx
    rw[hx0,Int.mul_zero,Int.zero_mul,Int.add_zero] at hd
    refine zaq.mk ?_
    refine Exists.intro ((s.1+1,s.2.1,-s.2.2):Nat×Int×Int) ?_
    refine And.intro (Leaf.mk ?_) ?_
    · repeat' first|exact True.intro|refine And.intro ?_ ?_
      all_goals try ((change _=_<;>try dsimp only)<;>try with_reducible rfl)
      all_goals try omega
      all_goals (rfl)
    refine⟨hd.2.2,?_⟩
    change (rows.getD 0 []).length - (s.1+1)<(rows.getD 0 []).length - s.1
    omega
  · rename_i h0 s hi hg
    obtain⟨i1,i2,i3,i4⟩:=hi
    rw[List.drop_eq_nil_of_le (by omega)] at i3
    simpa [sumD] using i3
theorem h200:∀N,N≤4→Ok 75 (sDet N)
  | 0,_=>zo8
  | N+1,h=>zo9 (by omega) (h200 N (by omega))
abbrev zmQ (m:List (List Int)):Prop:=∃N,N≤4∧zcY N m
def detA (m:List (List Int)):Int:=detN m.length m
@[reducible] def zia:Spec:={pats:=[.dat MatT],res:=[{t:=I64}],pre:=fun x=>zmQ x.1,f:=fun x=>(detA x.1,())}
theorem hDet:Ok 75 zia:=⟨fun w M x vs bs hM hA ⟨N,hN,hs⟩=>by
  have h:=(h200 N hN).1 w M x vs bs hM hA hs
  have e:(sDet N).f x=zia.f x:=by
    simp only[sDet,zia,detA]
    rw[←hs.1]
  rw[e] at h
  exact h,zjB⟩
theorem zkw {m:List (List Int)} (h:zmQ m) : -400000000000000≤detA m∧detA m≤400000000000000:=by
  obtain⟨N,hN,hs⟩:=h
  have h1:=zkv N m hs
  have h2:=znO hN
  unfold detA
  rw[hs.1];omega
end Go.Eng.Ar
namespace Go.Eng
set_option linter.all false
set_option maxRecDepth 100000
section
variable {P:Program} {Q:Exit→Act→World→Prop} {a:Act} {w:World} {K:Act→World→Prop}
theorem zaN {o:Oper} {v:Value} (hnd:∀d,o.op≠.defer d) (hr:(execOp a.eval o).run P w=.ok (.value v) w) (h:K (a.put o.dst v) w):o.wpIn (Fw none) 0 P a w K Q:=
  zas hnd hr h
theorem zih {o:Oper} {w':World} (hnd:∀d,o.op≠.defer d) (hr:(execOp a.eval o).run P w=.ok .skip w') (h:K (a.put o.dst undef) w'):o.wpIn (Fw none) 0 P a w K Q:=
  zas hnd hr h
theorem zoG {o:Oper} {f:Nat} {args:Array Value} (hnd:∀d,o.op≠.defer d) (hr:(execOp a.eval o).run P w=.ok (.enter f args) w)
    (h:Calls P f args w fun e w'=>∃v,e=.returned v∧K (a.put o.dst v) w'):o.wpIn (Fw none) 0 P a w K Q:=
  zas hnd hr ⟨fun h=>(by cases h),zgV (h.mono fun e w' ⟨v,h1,h2⟩=>by subst h1;exact h2)⟩
theorem zoF {o:Oper} {l f:Nat} {tmps:Array Value} {assign body:Code} (hnd:∀d,o.op≠.defer d) (hr:(execOp a.eval o).run P w=.ok (.round l f tmps assign body) w)
    (h:RoundIn (Fw none) 0 P l f tmps assign body w fun e w'=>∃v,e=.returned v∧K (a.put o.dst v) w'):o.wpIn (Fw none) 0 P a w K Q:=
  zas hnd hr ⟨fun h=>(by cases h),RoundIn.mono h (fun e w' ⟨v,h1,h2⟩=>by subst h1;exact h2)⟩
theorem zaO {ops:Array Oper} (h:Q .normal a w):wpListIn (Fw none) 0 P ops Q [] a w:=h
theorem zaj {ops:Array Oper} {o:Oper} {rest:List Oper} (hg:o.guard=none) (h:o.wpIn (Fw none) 0 P a w (wpListIn (Fw none) 0 P ops Q rest) Q):wpListIn (Fw none) 0 P ops Q (o::rest) a w:=by
  have hw:Region.wanted o (yielded ops a.tmps)=true:=by simp[Region.wanted,hg]
  simp only[wpListIn,hw,if_true]
  exact h
theorem zcO {ops:Array Oper} {o:Oper} {rest:List Oper} {v:Value} (h:wpListIn (Fw none) 0 P ops Q (o::rest) a w) (hg:o.guard=none) (hs:o.semAt (Fw none).round a.eval=execOp a.eval o) (hr:(execOp a.eval o).run P w=.ok (.value v) w) :
    wpListIn (Fw none) 0 P ops Q rest (a.put o.dst v) w:=by
  have hw:Region.wanted o (yielded ops a.tmps)=true:=by simp[Region.wanted,hg]
  simp only[wpListIn,hw,if_true] at h
  unfold Oper.wpIn at h
  have h:=h.2
  rw[hs,hr] at h
  simpa only [Oper.uponIn] using h
theorem zeR {ops:Array Oper} {o:Oper} {rest:List Oper} {w':World} (h:wpListIn (Fw none) 0 P ops Q (o::rest) a w) (hg:o.guard=none) (hs:o.semAt (Fw none).round a.eval=execOp a.eval o) (hr:(execOp a.eval o).run P w=.ok .skip w') :
    wpListIn (Fw none) 0 P ops Q rest (a.put o.dst undef) w':=by
  have hw:Region.wanted o (yielded ops a.tmps)=true:=by simp[Region.wanted,hg]
  simp only[wpListIn,hw,if_true] at h
  unfold Oper.wpIn at h
  have h:=h.2
  rw[hs,hr] at h
  simpa only [Oper.uponIn] using h
end
theorem zsg {P:Program} {o:Oper} {a:Act} {w:World} {K:Act→World→Prop} {Q Q':Exit→Act→World→Prop} (h:∀c a w,Q (.panic c) a w=Q' (.panic c) a w) (h2:LetsOut Q=LetsOut Q'):o.wpIn (Fw none) 0 P a w K Q=o.wpIn (Fw none) 0 P a w K Q':=by
  have e:∀r,o.uponIn (Fw none) 0 P a K Q r=o.uponIn (Fw none) 0 P a K Q' r:=by
    intro r
    unfold Oper.uponIn
    split<;>simp only[h,h2]
  unfold Oper.wpIn
  rw[e]
theorem zf2 {P:Program} {ops:Array Oper} {Q:Exit→Act→World→Prop} {l2:List Oper}:∀(l1:List Oper) (a:Act) (w:World),
    wpListIn (Fw none) 0 P ops (fun e a w=>match e with | .normal=>wpListIn (Fw none) 0 P ops Q l2 a w|e=>Q e a w) l1 a w→wpListIn (Fw none) 0 P ops Q (l1++l2) a w
  | [],a,w,h=>h
  | o :: l1,a,w,h=>by
    simp only[wpListIn,List.cons_append] at h ⊢
    split
    · rename_i hw
      rw[if_pos hw] at h
      refine Oper.wpIn_mono (zf2 l1) ?_
      rw[←zsg (Q:=fun e a w=>match e with | .normal=>wpListIn (Fw none) 0 P ops Q l2 a w|e=>Q e a w) (Q':=Q) (fun _ _ _=>rfl) rfl]
      exact h
    · rename_i hw
      rw[if_neg hw] at h
      exact⟨h.1,zf2 l1 _ _ h.2⟩
theorem zlx {F:Fence} {n:Nat} {P:Program} {Q Q':Exit→Act→World→Prop} {o:Oper} {a:Act} {w:World} {K K':Act→World→Prop} (h:∀a w,K a w→K' a w) (hq:∀e a w,Q e a w→Q' e a w)
    (hh:o.wpIn F n P a w K Q):o.wpIn F n P a w K' Q':=by
  unfold Oper.wpIn at *
  refine⟨hh.1,?_⟩
  have hh:=hh.2
  generalize (o.semAt F.round a.eval).run P w=r at *
  cases r with
  | ok x w'=>
    cases x<;>simp only[Oper.uponIn] at hh ⊢ <;>
      first
        | exact h _ _ hh
        | exact⟨hh.1,CallsIn.mono hh.2 (fun e w'' he=>by cases e<;>first|exact h _ _ he|exact hq _ _ _ he|exact (let ⟨a,w,h⟩:=he;⟨a,w,hq _ _ _ h⟩))⟩
        | exact⟨hh.1,RowsIn.mono hh.2 (fun _ _ he=>h _ _ he)⟩
        | exact⟨hh.1,RoundIn.mono hh.2 (fun e w'' he=>by cases e<;>first|exact h _ _ he|exact hq _ _ _ he|exact (let ⟨a,w,h⟩:=he;⟨a,w,hq _ _ _ h⟩))⟩
  | halt x w'=>cases x<;>simp only[Oper.uponIn] at hh ⊢<;>first|exact hh|exact hq _ _ _ hh
theorem zdR {F:Fence} {n:Nat} {P:Program} {ops:Array Oper} {Q Q':Exit→Act→World→Prop} (hq:∀e a w,Q e a w→Q' e a w):∀(l:List Oper) (a:Act) (w:World),wpListIn F n P ops Q l a w→wpListIn F n P ops Q' l a w
  | [],a,w,h=>hq _ _ _ h
  | o :: r,a,w,h=>by
    unfold wpListIn at h ⊢
    split
    · rename_i hw
      rw[if_pos hw] at h
      exact zlx (zdR hq r) hq h
    · rename_i hw
      rw[if_neg hw] at h
      exact⟨h.1,zdR hq r _ _ h.2⟩
theorem zj1 (w:World) {b b':Nat} (h:b≠b') (c c':Array Value):(w.setRow b c).setRow b' c'=(w.setRow b' c').setRow b c:=by
  have:∀(f g:Obj→Obj),(w.heap.modify b f).modify b' g=(w.heap.modify b' g).modify b f:=by
    intro f g
    refine Array.ext (by simp) fun i h1 h2=>?_
    simp only[Array.getElem_modify]
    split<;>split<;>first|rfl|omega
  simp only[World.setRow,this]
end Go.Eng
namespace Go.Eng.Ar
open Go.Eng Go.Proofs
set_option linter.all false
set_option maxRecDepth 100000
set_option maxHeartbeats 1000000
theorem ia76 (a:Act) (w:World) (o:Oper) (x y:Operand) (ho:o.op=.indexAddr 38 x y) {b off n c:Nat} {i:Nat} (hx:a.eval x=.slice (some ⟨b,off,none⟩) n c) (hy:a.eval y=.int .i64 i) (h1:i<n) :
    (execOp a.eval o).run Try.prog w=.ok (.value (.pointer (some ⟨b,off+i,none⟩))) w:=by
  have hS:=zaw row3 w
  have hs:i3.size=1:=rfl
  have h2:(i:Int)<(n:Int):=by omega
  simp[execOp,ho,hx,hy,Instr.indexAt,run_underlying Try.underlying38,asIntOf,hS,h2,hs,zaK]
  intro h;omega
theorem ia66 (a:Act) (w:World) (o:Oper) (x y:Operand) (ho:o.op=.indexAddr 30 x y) {b off n c:Nat} {i:Nat} (hx:a.eval x=.slice (some ⟨b,off,none⟩) n c) (hy:a.eval y=.int .i64 i) (h1:i<n) :
    (execOp a.eval o).run Try.prog w=.ok (.value (.pointer (some ⟨b,off+i,none⟩))) w:=by
  have hS:=zaw zmA w
  have hs:i38.size=1:=rfl
  have h2:(i:Int)<(n:Int):=by omega
  simp[execOp,ho,hx,hy,Instr.indexAt,run_underlying Try.underlying30,asIntOf,hS,h2,hs,zaK]
  intro h;omega
theorem ld3 (a:Act) (w:World) (o:Oper) (x:Operand) (ho:o.op=.load 3 x) {b off el:Nat} {cur:Array Value} {f:Nat×Nat} {v:Value} (hx:a.eval x=.pointer (some ⟨b,off,none⟩)) (hb:w.heap[b]?=some (.cells cur el f)) (hv:cur[off]?=some v) :
    (execOp a.eval o).run Try.prog w=.ok (.value v) w:=by
  have hl:(loadVar 3 ⟨b,off,none⟩).run Try.prog w=.ok v w:=zbk row3 rfl (by rw[zbE hb];exact hv)
  simp[execOp,ho,hx,Instr.loadAt,Instr.sureAddr,hl]
theorem ld76 (a:Act) (w:World) (o:Oper) (x:Operand) (ho:o.op=.load 38 x) {b off el:Nat} {cur:Array Value} {f:Nat×Nat} {v:Value} (hx:a.eval x=.pointer (some ⟨b,off,none⟩)) (hb:w.heap[b]?=some (.cells cur el f)) (hv:cur[off]?=some v) :
    (execOp a.eval o).run Try.prog w=.ok (.value v) w:=by
  have hl:(loadVar 38 ⟨b,off,none⟩).run Try.prog w=.ok v w:=zbk zmA rfl (by rw[zbE hb];exact hv)
  simp[execOp,ho,hx,Instr.loadAt,Instr.sureAddr,hl]
theorem zi1 {cur:Array Value} {i:Nat} {v:Value} (hi:i<cur.size):(cur.toList.take i++[v]++cur.toList.drop (i+1)).toArray=cur.set! i v:=by
  refine Array.ext' ?_
  simp only[Array.set!_eq_setIfInBounds,Array.toList_setIfInBounds]
  rw[List.set_eq_take_append_cons_drop,if_pos (by simpa using hi)]
  simp
theorem st3 (a:Act) (w:World) (o:Oper) (x y:Operand) (ho:o.op=.store 3 x y) {b off el:Nat} {cur:Array Value} {n:Int} (hx:a.eval x=.pointer (some ⟨b,off,none⟩)) (hy:a.eval y=.int .i64 n) (hb:w.heap[b]?=some (.cells cur el (0,0))) (hi:off<cur.size) :
    (execOp a.eval o).run Try.prog w=.ok .skip (w.setRow b (cur.set! off (.int .i64 n))):=by
  have hst:=zbn (P:=Try.prog) row3 (b:=b) (off:=off) (v:=.int .i64 n) hb rfl hi (fun u hu=>by
    have:u=.int .i64 n:=by simpa [Value.cells] using hu
    rw[this];rfl)
  have e:(cur.toList.take off++(Value.int .i64 n).cells.toList++cur.toList.drop (off+(Value.int .i64 n).cells.size)).toArray=cur.set! off (.int .i64 n):=zi1 hi
  rw[e] at hst
  simp[execOp,ho,hx,hy,Instr.storeAt,Instr.sureAddr,hst]
theorem st76 (a:Act) (w:World) (o:Oper) (x y:Operand) (ho:o.op=.store 38 x y) {b off el:Nat} {cur:Array Value} {ad:Option Addr} {n c:Nat} (hx:a.eval x=.pointer (some ⟨b,off,none⟩)) (hy:a.eval y=.slice ad n c) (hb:w.heap[b]?=some (.cells cur el (0,0))) (hi:off<cur.size) :
    (execOp a.eval o).run Try.prog w=.ok .skip (w.setRow b (cur.set! off (.slice ad n c))):=by
  have hst:=zbn (P:=Try.prog) zmA (b:=b) (off:=off) (v:=.slice ad n c) hb rfl hi (fun u hu=>by
    have:u=.slice ad n c:=by simpa [Value.cells] using hu
    rw[this];rfl)
  have e:(cur.toList.take off++(Value.slice ad n c).cells.toList++cur.toList.drop (off+(Value.slice ad n c).cells.size)).toArray=cur.set! off (.slice ad n c):=zi1 hi
  rw[e] at hst
  simp[execOp,ho,hx,hy,Instr.storeAt,Instr.sureAddr,hst]
theorem mvR (a:Act) (w:World) (o:Oper) (x:Operand) (ho:o.op=.move x) {v:Value} (hx:a.eval x=v):(execOp a.eval o).run Try.prog w=.ok (.value v) w:=by
  simp[execOp,ho,hx]
theorem zh0 {V:View} {k:IntKind} {n:Int} {v:Value} (h:RepV V (.int k) n v):v=.int k n:=by
  obtain⟨l,h1,⟨h2,_⟩|⟨_,h2⟩⟩:=h
  · cases h2
  · have h1:l=[.int k n]:=h1
    rw[h1] at h2;simpa using h2.symm
theorem zai (a:Act) (t:Nat) (v:Value):(a.put (some t) v).tmps.size=a.tmps.size:=by simp[Act.put]
theorem zag (a:Act) (t:Nat) (v:Value):(a.put (some t) v).defers=a.defers:=rfl
end Go.Eng.Ar
namespace Go.Eng
set_option linter.all false
set_option maxRecDepth 100000
section
variable {P:Program} {a:Act} {w:World} {ops:Array Oper}
theorem zef {Q:Act→Prop} {o:Oper} {v:Value} {rest:List Oper} (hg:o.guard=none) (hr:(execOp a.eval o).run P w=.ok (.value v) w) (h:wpStill P ops w Q rest (a.put o.dst v)):wpStill P ops w Q (o::rest) a:=by
  have hw:Region.wanted o (yielded ops a.tmps)=true:=by simp[Region.wanted,hg]
  simp only[wpStill,hw,if_true,Oper.still,hr,Oper.stillUpon]
  exact⟨trivial,h⟩
theorem zlu {Q:Exit→Act→World→Prop} {o:Oper} {w':World} (hnd:∀d,o.op≠.defer d) (hg:o.guard=none) (hr:(execOp a.eval o).run P w=.ok .skip w') (h:Q .normal (a.put o.dst undef) w'):wpList P ops Q [o] a w:=by
  have hw:Region.wanted o (yielded ops a.tmps)=true:=by simp[Region.wanted,hg]
  simp only[wpList,hw,if_true]
  unfold Oper.wp
  simp only[hr,Oper.upon]
  exact .inl h
theorem zrV {E:Env} {nt:Nat} {st:St} {a':Act} {ds:List Nat} (hR:RelS E nt st a w) (hsz:a'.tmps.size=nt) (hd:a'.defers=a.defers) (h:∀t,t ∉ ds→a'.tmps.getD t undef=a.tmps.getD t undef) (hds:∀u s,Fact.slot u s∈st→u ∉ ds):RelS E nt st a' w:=by
  obtain⟨η,g,H⟩:=hR
  refine⟨η,zi7 (E:=E) (E':=E) (ds:=ds) rfl rfl rfl rfl rfl rfl g H (fun b c h=>h) hsz (fun t ht=>(h t ht).symm) hds ?_ (fun hn=>by rw[hd];exact g.nd hn)⟩
  obtain⟨⟨ms,q1,q2⟩,q3⟩:=g.defers
  exact⟨⟨ms,by rw[hd];exact q1,q2⟩,q3⟩
theorem zmF {E:Env} {nt:Nat} {st:St} (n:Nat) (hR:RelS E nt st a w):RelS E nt st a {w with drawn:=n}:=by
  obtain⟨η,g,H⟩:=hR
  exact ⟨η,⟨g.size,g.lim,g.defers,g.os,g.tape,g.output,g.grow,g.keep,g.own,g.dis,g.inj,g.old,g.obkeep,g.nd⟩,fun f hf=>by
    have:=H f hf
    cases f<;>exact this⟩
theorem zqP:Fw none=Fence.wide:=rfl
end
section
variable {c:Cfg}
theorem zny {P:Program} {OB:Nat→Obj→Prop} (hC:CfgOk P OB c) {f:Nat} {fn:Func} {body:Code} {rs:List ResultVar} {sp:Spec}
    (hf:P.funcs[f]?=some fn) (hb:fn.body=some body) (hnt:fn.ntmps=c.nt) (hps:sp.pats.length≤c.nt) (hlim:c.nt≤1000000) (hob:zbY sp.pats≤1) (hrs:fn.results.toList=rs)
    (h : ∀x,sp.pre x→∀(M:Nat→Prop) (bs:List Nat) (w:World) (a:Act),a.defers=[]→RelS {P:=P,M:=M,mu:=fun b=>b∈bs,w0:=w,OB:=OB} c.nt (zaZ sp.pats x 0) a w→
      body.wpIn (Fw none) 0 P (zlY {P:=P,M:=M,mu:=fun b=>b∈bs,w0:=w,OB:=OB} c.nt fun e st=>match e with
        | .ret | .normal=>zfT c rs sp.res (sp.f x) st
        | _=>False) a w):zpj P OB f sp:=by
  intro w M x vs bs hM hA hpre
  obtain⟨o1,o2,o3,o4⟩:=zbX sp.pats x vs bs 0 hA
  let E:Env:={P:=P,M:=M,mu:=fun b=>b∈bs,w0:=w,OB:=OB}
  refine callsIn_wide.1 (callsIn_of_wp_marks (F:=Fence.wide) (n:=0) hf hb trivial ?_)
  have hsz:(vs.toArray++Array.replicate (fn.ntmps - vs.toArray.size) undef).size=c.nt:=by
    simp;omega
  have hR : RelS E c.nt (zaZ sp.pats x 0) {tmps:=vs.toArray++Array.replicate (fn.ntmps - vs.toArray.size) undef,defers:=[]} w:=by
    have hη:∀k b n,ziu (zbf sp.pats vs 0) k=some (b,n)→(k,b)∈zbf sp.pats vs 0∧n=0:=by
      intro k b n
      generalize zbf sp.pats vs 0=l
      induction l with
      | nil=>intro h;cases h
      | cons p r ih=>
        intro h
        simp only[ziu] at h
        split at h
        · rename_i hk
          simp only[Option.some.injEq,Prod.mk.injEq] at h
          obtain⟨rfl,rfl⟩:=h
          subst hk
          exact⟨List.mem_cons_self,rfl⟩
        · obtain⟨h1,h2⟩:=ih h
          exact⟨List.mem_cons_of_mem _ h1,h2⟩
    have hbs:∀k b,(k,b)∈zbf sp.pats vs 0→b∈bs:=fun k b hkb=>by rw[←o1];exact List.mem_map.2 ⟨_,hkb,rfl⟩
    refine⟨ziu (zbf sp.pats vs 0),?_,?_⟩
    · exact {
        size:=hsz,lim:=hlim,defers:=⟨⟨[],rfl,List.nodup_nil,fun _ h=>by cases h⟩,fun _ h=>by cases h⟩,os:=rfl,tape:=rfl,output:=rfl,grow:=Nat.le_refl _,keep:=fun _ _ _ _=>rfl,
        own:=fun k b n hk=>⟨(o4 b (hbs k b (hη k b n hk).1)).2,.inr (hbs k b (hη k b n hk).1)⟩,
        dis:=fun b hb h=>h.elim (fun h=>absurd (o4 b hb).2 (Nat.not_lt_of_le h)) id,
        inj := fun k k' b n n' hk hk'=>by
          have h1:=(hη k b n hk).1
          have h2:=(hη k' b n' hk').1
          have hl:(zbf sp.pats vs 0).length≤1:=by omega
          match hobs:zbf sp.pats vs 0,hl with
          | [],_=>rw[hobs] at h1;cases h1
          | [p],_=>
            rw[hobs] at h1 h2
            simp only[List.mem_singleton] at h1 h2
            rw[←h2] at h1
            simpa using h1
        old:=fun b hb h=>h.elim (fun h=>absurd (hM b hb) (Nat.not_lt_of_le h)) id,obkeep:=fun b i o _ _ h1 h2=>⟨o,h1,h2⟩}
    · refine zb0 rfl rfl (fun b h=>h.elim id fun⟨_,h⟩=>by cases h) rfl (fun k b n hk=>(o4 b (hbs k b (hη k b n hk).1)).1) sp.pats x vs bs 0 hA (by omega) (fun j v hj=>?_) (fun k b hkb=>?_)
      · simp only[Nat.zero_add]
        have hjl:=(List.getElem?_eq_some_iff.1 hj).1
        simp only[Array.getD_eq_getD_getElem?]
        rw[Array.getElem?_append_left (by simpa using hjl)]
        simp[hj]
      · have hl:(zbf sp.pats vs 0).length≤1:=by omega
        match hobs:zbf sp.pats vs 0,hl with
        | [],_=>rw[hobs] at hkb;cases hkb
        | [p],_=>
          rw[hobs] at hkb
          simp only[List.mem_singleton] at hkb
          subst hkb
          simp[ziu]
  have hCE:CfgOk E.P E.OB c:=hC
  refine wpIn_mono (h x hpre M bs w _ rfl hR) fun e a' w' ⟨xe,st',e1,e2,e3⟩=>?_
  subst e1
  have leave:∀(R:Ending→World→Prop) (st1:St) (η:Eta) (tmps:Array Value),(∀a1 w1,a1.tmps=tmps→Good E c.nt η a1 w1→(∀f∈st1,Fact.holds E η a1 w1 f)→∃v,(results fn tmps).run P w1=.ok v w1∧R (.returned v) w1)→
      ∀(ms:List Nat) (a1:Act) (w1:World),a1.tmps=tmps→a1.defers=ms.map mkD→ms.Nodup→(∀D∈ms,E.w0.heap.size≤D∧w1.heap[D]?=some (.deferred (some []))∧∀k c,η k≠some (D,c))→
      Good E c.nt η a1 w1→(∀f∈st1,Fact.holds E η a1 w1 f)→LeavesInM Fence.wide 0 P fn tmps R a1.defers .returning w1:=by
    intro R st1 η tmps hfin ms
    induction ms with
    | nil=>
      intro a1 w1 ht hd1 _ _ g H
      rw[hd1]
      exact hfin a1 w1 ht g H
    | cons D ms ih=>
      intro a1 w1 ht hd1 hn hm g H
      have ht2:=ziU rfl g H (by rw[hd1];rfl) hn hm
      rw[hd1]
      refine⟨by simp,.inl ⟨D,_,rfl,run_takeDeferred (hm D List.mem_cons_self).2.1,?_⟩⟩
      refine ih {a1 with defers:=ms.map mkD} _ ht rfl (List.nodup_cons.1 hn).2 (fun D' hD'=>?_) ht2.1 ht2.2
      obtain⟨p1,p2,p3⟩:=hm D' (List.mem_cons_of_mem _ hD')
      have hne:D'≠D:=fun e=>(List.nodup_cons.1 hn).1 (by rw[←e];exact hD')
      exact⟨p1,(World.putObj_heap_other hne).trans p2,p3⟩
  have fin : ∀st',zfT c rs sp.res (sp.f x) st'→RelS E c.nt st' a' w'→LeavesInM Fence.wide 0 P fn a'.tmps (fun e w'=>∃rs g,e=.returned (zcL rs)∧CPost OB w w' bs∧
      ze9 w' (fun b c=>¬M b∧g≠some b∧∃el f,w'.heap[b]?=some (.cells c el f)) w.heap.size sp.res (sp.f x) rs g) a'.defers .returning w':=by
    intro st' hr hR
    unfold zfT at hr
    split at hr
    case h_2=>exact hr.elim
    case h_1 p st1 hfz=>
      split at hr
      case h_2=>exact hr.elim
      case h_1 q y hq=>
        obtain⟨r1,hr⟩:=OP.andK_out hr
        obtain⟨r2,r3⟩:=hr.out
        have r3:=zen _ _ _ r3
        obtain⟨η,g,H⟩:=zbl hfz r1 hR
        obtain⟨⟨ms,m1,m2,m3⟩,_⟩:=g.defers
        refine leave _ st1 η a'.tmps (fun a1 w1 ht g H=>?_) ms a' w' rfl m1 m2 m3 g H
        obtain⟨vs',gb,k1,k2,k3,k4⟩:=zbW hCE.tbl g H rs sp.res q y hq r2 (.inr fun _ h=>h)
        rw[r3] at k4
        rw[←hrs,ht] at k1
        refine⟨_,zdg k1,vs',gb,rfl,?_,k4 _ (fun b c ⟨m1,m2,m3⟩=>⟨fun hm=>m1 (.inl hm),fun hg=>?_,m3⟩)⟩
        · exact {os:=g.os,tape:=g.tape,output:=g.output,size:=g.grow,keep:=fun b hb hn=>g.keep b hb hn (fun h=>h),obk:=fun b hb i o h1 h2=>g.obkeep b i o (o4 b hb).2 hb h1 h2}
        · obtain⟨k,n,hk⟩:=k2 b hg
          exact m2 k n hk
  cases xe with
  | normal=>exact fin st' e2 e3
  | exit id=>exact e2.elim
  | ret=>exact fin st' e2 e3
end
end Go.Eng
namespace Go.Eng.Ar
open Go.Eng Go.Proofs
set_option linter.all false
set_option maxRecDepth 100000
set_option maxHeartbeats 2000000
@[reducible] noncomputable def EH (M:Nat→Prop) (bs:List Nat) (w:World) (nd:Bool):Env:={P:=Try.prog,M:=M,mu:=fun b=>b∈bs,w0:=w,OB:=OB,x:={nd:=nd}}
theorem zsl {M:Nat→Prop} {bs:List Nat} {w0 w:World} {nt:Nat} {st:St} {a:Act} (hR:RelS (EH M bs w0 false) nt st a w) (hd:a.defers=[]):RelS (EH M bs w0 true) nt st a w:=
  let ⟨η,g,H⟩:=hR
  ⟨η,⟨g.size,g.lim,g.defers,g.os,g.tape,g.output,g.grow,g.keep,g.own,g.dis,g.inj,g.old,g.obkeep,fun _=>hd⟩,H⟩
theorem zm4 {M:Nat→Prop} {bs:List Nat} {w0 w:World} {nt:Nat} {st:St} {a:Act} (hR:RelS (EH M bs w0 true) nt st a w):RelS (EH M bs w0 false) nt st a w∧a.defers=[]:=
  let ⟨η,g,H⟩:=hR
  ⟨⟨η,⟨g.size,g.lim,g.defers,g.os,g.tape,g.output,g.grow,g.keep,g.own,g.dis,g.inj,g.old,g.obkeep,fun h=>by cases h⟩,H⟩,g.nd rfl⟩
noncomputable def b180:Code:=zeo Try.f73
noncomputable def zkj:Code:=match b180 with | .seq _ (.seq _ (.seq _ (.seq _ (.seq (.seq _ (.block _ (.loop x))) _))))=>x|c=>c
noncomputable def znc:Code:=match zkj with | .seq _ (.seq _ (.seq (.block _ (.seq _ (.seq _ (.seq (.seq _ (.block _ (.loop x))) _)))) _))=>x|c=>c
noncomputable def r12:Code:=match znc with | .seq _ (.seq _ (.seq (.block _ (.seq _ (.seq x _))) _))=>x|c=>c
noncomputable def r13:Code:=match znc with | .seq _ (.seq _ (.seq (.block _ (.seq _ (.seq _ x))) _))=>x|c=>c
noncomputable def zg8:List Oper:=match r12 with | .region _ x _=>x.toList | _=>[]
noncomputable def zts:List Oper:=match r13 with | .region _ x _=>x.toList | _=>[]
theorem zr0:r13=.region 13 zts.toArray true:=rfl
abbrev mk0 (d:Option Nat) (t:Nat) (op:Op):Oper:={dst:=d,op:=op,type:=t,pos:="", after:=#[],guard:=none}
def opsB:List Oper:=[mk0 (some 40) 38 (.move (.tmp 36)),mk0 (some 42) 3 (.move (.tmp 9)),mk0 (some 43) 38 (.move (.tmp 1)),mk0 (some 44) 3 (.move (.tmp 11)),mk0 (some 45) 0 (.indexAddr 38 (.tmp 43) (.tmp 44)),mk0 (some 46) 3 (.load 3 (.tmp 45)),
  mk0 (some 47) 0 (.indexAddr 38 (.tmp 40) (.tmp 42)),mk0 none 3 (.store 3 (.tmp 47) (.tmp 46)),mk0 (some 37) 0 (.indexAddr 30 (.tmp 33) (.tmp 34)),mk0 none 38 (.store 38 (.tmp 37) (.tmp 36))]
@[reducible] def stA (K:Nat) (m xs:List (List Int)) (right row outs:List Int) (den:Int) (i k n:Nat):St:=
  [.slot 33 (.one (.o K n)),sI 34 i,.slot 36 (.one (.o 36 row.length)),.row 36 3 I64 row,.slot 10 (.one (.o K n)),.row K 38 (.sl I64) xs,sI 28 i,.slot 26 (.one (.d MatT m)),sI 27 n,sI 11 i,sI 9 k,sI 20 k,sI 19 n,sI 7 den,.slot 8 (.one (.o 60008 outs.length)),.row 60008 3 I64 outs,.slot 0 (.one (.d MatT m)),.slot 1 (.one (.d (.sl I64) right))]
@[reducible] def stB (K:Nat) (m xs:List (List Int)) (right outs:List Int) (den:Int) (i k n:Nat):St:=
  [.slot 10 (.one (.o K n)),.row K 38 (.sl I64) xs,sI 28 i,.slot 26 (.one (.d MatT m)),sI 27 n,sI 9 k,sI 20 k,sI 19 n,sI 7 den,.slot 8 (.one (.o 60008 outs.length)),.row 60008 3 I64 outs,.slot 0 (.one (.d MatT m)),.slot 1 (.one (.d (.sl I64) right))]
abbrev cSv:List (Nat×Spec):=[(48,zfI),(75,zia)]
theorem zp4:All cSv:=⟨h145,hDet,trivial⟩
@[reducible] def cfS:Cfg:=cfg {} cSv 75
theorem vcB (m xs:List (List Int)) (right row outs:List Int) (den:Int) (i k n:Nat) (hi:i<n) (hn:xs.length=n) (hr:i<right.length) (hk:k<row.length):zdD cfS opsB.toArray opsB (stA 60010 m xs right row outs den i k n)
    (fun st=>Goal (∃s:Unit,ent st (stB 60010 m (xs.set i (row.set k (vI right i))) right outs den i k n)∧True)):=by
  repeat' (intro hzz;(try (rename Two=>hq;cases hq));(try dsimp only at hzz);(try simp only[zad,zac,eqD,inR,big,zab,zB] at hzz);(try simp only[zad,zac,eqD,inR,big,zab,zB,zaP] at hzz);(try (revert hzz;intro _)))
  all_goals try (rename Unit=>hq;clear hq)
  all_goals try ((with_reducible refine Held.mk ?_);(with_reducible (first|refine Frz.mk ?_|refine And.intro (Frz.mk ?_) ?_|refine And.intro ?_ (Frz.mk ?_)));repeat' first|exact True.intro|(change _=_;with_reducible rfl)|refine And.intro ?_ ?_|(with_reducible refine Frz.mk ?_))
  all_goals try (refine Held.mk ?_;(try dsimp only at *);(try simp only[zad,zac,eqD,inR,big,zab,zB] at *);(try simp only[zad,zac,eqD,inR,big,zab,zB,zaP] at *))
  all_goals try omega
  · show row.length=(row.set k (vI right i)).length
    rw[List.length_set]
  · show row.length=(row.set k (vI right i)).length
    rw[List.length_set]
  ·
    refine zaq.mk ?_
    refine Exists.intro () ?_
    refine And.intro (Leaf.mk ?_) ?_
    · repeat' first|exact True.intro|refine And.intro ?_ ?_
      all_goals try ((change _=_<;>try dsimp only)<;>try with_reducible rfl)
      all_goals try omega
      all_goals (first|rfl|(rw[List.length_set]))
    trivial
structure RawN (a:Act) (w:World) (row right:List Int) (i n:Nat) (bK cK:Nat) (curK:Array Value) (bC cC:Nat) (curC:Array Value) (bR oR cR elR:Nat) (curR:Array Value) (fR:Nat×Nat):Prop where
  t33:a.tmps.getD 33 undef=.slice (some ⟨bK,0,none⟩) n cK
  t10:a.tmps.getD 10 undef=.slice (some ⟨bK,0,none⟩) n cK
  t36:a.tmps.getD 36 undef=.slice (some ⟨bC,0,none⟩) row.length cC
  t1:a.tmps.getD 1 undef=.slice (some ⟨bR,oR,none⟩) right.length cR
  hK:w.heap[bK]?=some (.cells curK 38 (0,0))
  hC:w.heap[bC]?=some (.cells curC 3 (0,0))
  hR:w.heap[bR]?=some (.cells curR elR fR)
  sK:n≤curK.size
  sC:row.length≤curC.size
  gR:curR[oR+i]?=some (.int .i64 (vI right i))
  ne:bK≠bC
  neK:bR≠bK
  neC:bR≠bC
theorem zrZ {M:Nat→Prop} {bs:List Nat} {w0 w:World} {a:Act} {m xs:List (List Int)} {right row outs:List Int} {den:Int} {i k n:Nat} (hR:RelS (EH M bs w0 true) 75 (stA 60010 m xs right row outs den i k n) a w) (hi:i<n) (hn:xs.length=n) (hr:i<right.length) (hk:k<row.length) :
    ∃bK cK curK bC cC curC bR oR cR elR curR fR,RawN a w row right i n bK cK curK bC cC curC bR oR cR elR curR fR:=by
  obtain⟨η,g,H⟩:=hR
  have f33:=H (.slot 33 (.one (.o 60010 n))) (by simp)
  have f10:=H (.slot 10 (.one (.o 60010 n))) (by simp)
  have f36:=H (.slot 36 (.one (.o 36 row.length))) (by simp)
  have fK:=H (.row 60010 38 (.sl I64) xs) (by simp)
  have fC:=H (.row 36 3 I64 row) (by simp)
  have f1:=H (.slot 1 (.one (.d (.sl I64) right))) (by simp)
  simp only[Fact.holds,zam,zaF] at f33 f10 f36 fK fC f1
  rw[zbh (by decide)] at f33 f10 f36 f1
  rcases f33 with ⟨_,h,_⟩|⟨bK,cK,e1,e2,_⟩
  · omega
  rcases f10 with ⟨_,h,_⟩|⟨bK',cK',e3,e4,_⟩
  · omega
  rw[e1] at e3;cases e3
  rcases f36 with ⟨_,h,_⟩|⟨bC,cC,e5,e6,_⟩
  · omega
  rcases fK with ⟨h,_⟩|⟨b1,c1,curK,_,e7,hK,rK⟩
  · rw[e1] at h;cases h
  rw[e1] at e7;cases e7
  rcases fC with ⟨h,_⟩|⟨b2,c2,curC,_,e8,hC,rC⟩
  · rw[e5] at h;cases h
  rw[e5] at e8;cases e8
  obtain⟨l,⟨ad,cap,q1,q2,q3,q4,q5⟩,⟨hf,_⟩|⟨_,hv⟩⟩:=f1
  · cases hf
  rw[q1] at hv
  simp only[List.cons.injEq,and_true] at hv
  have hne:right≠[]:=by intro h;rw[h] at hr;simp at hr
  cases ad with
  | none=>exact absurd (q4 rfl).1 hne
  | some ad=>
    obtain⟨hsp,c,⟨v1,v2,el,f,v3⟩,hsz,hrep⟩:=q5 ad rfl hne
    obtain⟨bR,oR,sp⟩:=ad
    simp only at hsp v1 v2 v3 hsz hrep
    subst hsp
    have hg:=hrep i (vI right i) (by simp[vI,List.getElem?_eq_getElem hr])
    have hg:((c.toList.drop (oR+i*1)).take 1)=[.int .i64 (vI right i)]:=hg
    have hgr:c[oR+i]?=some (.int .i64 (vI right i)):=by
      have h2:=congrArg (fun l=>l[0]?) hg
      simpa [List.getElem?_take,List.getElem?_drop] using h2
    refine⟨bK,cK,curK,bC,cC,curC,bR,oR,cap,el,c,f,e2,e4,e6,hv.symm,hK,hC,v3,?_,?_,hgr,fun h=>?_,fun h=>?_,fun h=>?_⟩
    · have h1:=rK.1;have h2:=rK.2.1
      have:curK.size=cK*1:=h1
      have:xs.length≤cK:=h2
      omega
    · have h1:=rC.1;have h2:=rC.2.1
      have:curC.size=cC*1:=h1
      have:row.length≤cC:=h2
      omega
    · subst h
      have:=g.inj _ _ _ _ _ e1 e5
      cases this
    · subst h;exact v2 _ _ e1
    · subst h;exact v2 _ _ e5
theorem zmf {K:Nat} {m xs:List (List Int)} {right outs:List Int} {den:Int} {i k n:Nat} {u:Nat} {s:SV} (h:Fact.slot u s∈stB K m xs right outs den i k n):u ∉ [36,37,38,39,40,41,42,43,44,45,46,47]:=by
  simp only[stB,List.mem_cons,List.not_mem_nil,or_false,Fact.slot.injEq,reduceCtorEq,false_or] at h
  simp only[List.mem_cons,List.not_mem_nil,or_false]
  omega
theorem ev (a:Act) (t:Nat):a.eval (.tmp t)=a.tmps.getD t undef:=rfl
theorem nest {M:Nat→Prop} {bs:List Nat} {w0 w:World} {a:Act} {m xs:List (List Int)} {right row outs:List Int} {den:Int} {i k n:Nat} {Q:Exit→Act→World→Prop} (hR:RelS (EH M bs w0 true) 75 (stA 60010 m xs right row outs den i k n) a w) (hi:i<n) (hn:xs.length=n) (hr:i<right.length) (hk:k<row.length)
    (hQ:∀a' w',RelS (EH M bs w0 true) 75 (stB 60010 m (xs.set i (row.set k (vI right i))) right outs den i k n) a' w'→Q .normal a' w') :
    wpListIn (Fw none) 0 Try.prog zg8.toArray (fun e a w=>match e with | .normal=>r13.wpIn (Fw none) 0 Try.prog Q a w|e=>Q e a w) (zg8.drop 4) a w:=by
  obtain⟨bK,cK,curK,bC,cC,curC,bR,oR,cR,elR,curR,fR,r⟩:=zrZ hR hi hn hr hk
  have hsz:a.tmps.size=75:=by obtain⟨η,g,H⟩:=hR;exact g.size
  have s34:a.tmps.getD 34 undef=.int .i64 i:=by
    obtain⟨η,g,H⟩:=hR
    have h:=H (sI 34 i) (by simp)
    simp only[Fact.holds] at h
    rw[zbh (by decide)] at h
    exact zh0 h
  have s11:a.tmps.getD 11 undef=.int .i64 i:=by
    obtain⟨η,g,H⟩:=hR
    have h:=H (sI 11 i) (by simp)
    simp only[Fact.holds] at h
    rw[zbh (by decide)] at h
    exact zh0 h
  have s9:a.tmps.getD 9 undef=.int .i64 k:=by
    obtain⟨η,g,H⟩:=hR
    have h:=H (sI 9 k) (by simp)
    simp only[Fact.holds] at h
    rw[zbh (by decide)] at h
    exact zh0 h
  obtain⟨vC,hvC⟩:∃vC,vC=Value.slice (some ⟨bC,0,none⟩) row.length cC:=⟨_,rfl⟩
  obtain⟨x,hx⟩:∃x,x=vI right i:=⟨_,rfl⟩
  -- the way of B
  have hB:=zb9 (E:=EH M bs w0 true) (c:=cfS) (ro:=none) (q:=0) (znW (X:={}) trivial zp4) (ops:=opsB.toArray) (Q:=fun e a' w'=>e=.normal∧RelS (EH M bs w0 true) 75 (stB 60010 m (xs.set i (row.set k (vI right i))) right outs den i k n) a' w')
    (by intro o ho t ht
        have hall:(opsB.all fun o=>match o.dst with|some t=>Nat.blt t 75|none=>true)=true:=by kernel_rfl
        have:=List.all_eq_true.1 hall o (by simpa using ho)
        rw[ht] at this
        exact Nat.le_of_ble_eq_true this) opsB (fun o ho=>by simpa using ho) _ _ a w (vcB m xs right row outs den i k n hi hn hr hk) hR
    (fun st' a' w' h1 h2=>by obtain⟨_,h4,_⟩:=h1.out;exact⟨rfl,zbz h4 h2⟩)
  simp only[opsB] at hB
  have za:=hsz
  have e36:a.tmps.getD 36 undef=vC:=r.t36.trans hvC.symm
  have hB1:=zcO hB rfl rfl (mvR a w _ (.tmp 36) rfl e36)
  obtain⟨B1,qB1⟩:∃x,x=a.put (some 40) vC:=⟨_,rfl⟩
  have zB1:B1.tmps.size=75:=by rw[qB1,zai];exact za
  have gB1_36:B1.tmps.getD 36 undef=vC:=by rw[qB1];exact (zaa (by decide)).trans e36
  have gB1_33:B1.tmps.getD 33 undef=(.slice (some ⟨bK,0,none⟩) n cK):=by rw[qB1];exact (zaa (by decide)).trans r.t33
  have gB1_10:B1.tmps.getD 10 undef=(.slice (some ⟨bK,0,none⟩) n cK):=by rw[qB1];exact (zaa (by decide)).trans r.t10
  have gB1_34:B1.tmps.getD 34 undef=(.int .i64 i):=by rw[qB1];exact (zaa (by decide)).trans s34
  have gB1_11:B1.tmps.getD 11 undef=(.int .i64 i):=by rw[qB1];exact (zaa (by decide)).trans s11
  have gB1_9:B1.tmps.getD 9 undef=(.int .i64 k):=by rw[qB1];exact (zaa (by decide)).trans s9
  have gB1_1:B1.tmps.getD 1 undef=(.slice (some ⟨bR,oR,none⟩) right.length cR):=by rw[qB1];exact (zaa (by decide)).trans r.t1
  have gB1_40:B1.tmps.getD 40 undef=vC:=by rw[qB1];exact zae (by rw[za];decide)
  change wpListIn (Fw none) 0 Try.prog _ _ _ (a.put (some 40) vC) w at hB1
  rw[←qB1] at hB1
  have hB2:=zcO hB1 rfl rfl (mvR B1 w _ (.tmp 9) rfl gB1_9)
  obtain⟨B2,qB2⟩:∃x,x=B1.put (some 42) (.int .i64 k):=⟨_,rfl⟩
  have zB2:B2.tmps.size=75:=by rw[qB2,zai];exact zB1
  have gB2_36:B2.tmps.getD 36 undef=vC:=by rw[qB2];exact (zaa (by decide)).trans gB1_36
  have gB2_33:B2.tmps.getD 33 undef=(.slice (some ⟨bK,0,none⟩) n cK):=by rw[qB2];exact (zaa (by decide)).trans gB1_33
  have gB2_10:B2.tmps.getD 10 undef=(.slice (some ⟨bK,0,none⟩) n cK):=by rw[qB2];exact (zaa (by decide)).trans gB1_10
  have gB2_34:B2.tmps.getD 34 undef=(.int .i64 i):=by rw[qB2];exact (zaa (by decide)).trans gB1_34
  have gB2_11:B2.tmps.getD 11 undef=(.int .i64 i):=by rw[qB2];exact (zaa (by decide)).trans gB1_11
  have gB2_9:B2.tmps.getD 9 undef=(.int .i64 k):=by rw[qB2];exact (zaa (by decide)).trans gB1_9
  have gB2_1:B2.tmps.getD 1 undef=(.slice (some ⟨bR,oR,none⟩) right.length cR):=by rw[qB2];exact (zaa (by decide)).trans gB1_1
  have gB2_40:B2.tmps.getD 40 undef=vC:=by rw[qB2];exact (zaa (by decide)).trans gB1_40
  have gB2_42:B2.tmps.getD 42 undef=(.int .i64 k):=by rw[qB2];exact zae (by rw[zB1];decide)
  change wpListIn (Fw none) 0 Try.prog _ _ _ (B1.put (some 42) (.int .i64 k)) w at hB2
  rw[←qB2] at hB2
  have hB3:=zcO hB2 rfl rfl (mvR B2 w _ (.tmp 1) rfl gB2_1)
  obtain⟨B3,qB3⟩:∃x,x=B2.put (some 43) (.slice (some ⟨bR,oR,none⟩) right.length cR):=⟨_,rfl⟩
  have zB3:B3.tmps.size=75:=by rw[qB3,zai];exact zB2
  have gB3_36:B3.tmps.getD 36 undef=vC:=by rw[qB3];exact (zaa (by decide)).trans gB2_36
  have gB3_33:B3.tmps.getD 33 undef=(.slice (some ⟨bK,0,none⟩) n cK):=by rw[qB3];exact (zaa (by decide)).trans gB2_33
  have gB3_10:B3.tmps.getD 10 undef=(.slice (some ⟨bK,0,none⟩) n cK):=by rw[qB3];exact (zaa (by decide)).trans gB2_10
  have gB3_34:B3.tmps.getD 34 undef=(.int .i64 i):=by rw[qB3];exact (zaa (by decide)).trans gB2_34
  have gB3_11:B3.tmps.getD 11 undef=(.int .i64 i):=by rw[qB3];exact (zaa (by decide)).trans gB2_11
  have gB3_9:B3.tmps.getD 9 undef=(.int .i64 k):=by rw[qB3];exact (zaa (by decide)).trans gB2_9
  have gB3_1:B3.tmps.getD 1 undef=(.slice (some ⟨bR,oR,none⟩) right.length cR):=by rw[qB3];exact (zaa (by decide)).trans gB2_1
  have gB3_40:B3.tmps.getD 40 undef=vC:=by rw[qB3];exact (zaa (by decide)).trans gB2_40
  have gB3_42:B3.tmps.getD 42 undef=(.int .i64 k):=by rw[qB3];exact (zaa (by decide)).trans gB2_42
  have gB3_43:B3.tmps.getD 43 undef=(.slice (some ⟨bR,oR,none⟩) right.length cR):=by rw[qB3];exact zae (by rw[zB2];decide)
  change wpListIn (Fw none) 0 Try.prog _ _ _ (B2.put (some 43) (.slice (some ⟨bR,oR,none⟩) right.length cR)) w at hB3
  rw[←qB3] at hB3
  have hB4:=zcO hB3 rfl rfl (mvR B3 w _ (.tmp 11) rfl gB3_11)
  obtain⟨B4,qB4⟩:∃x,x=B3.put (some 44) (.int .i64 i):=⟨_,rfl⟩
  have zB4:B4.tmps.size=75:=by rw[qB4,zai];exact zB3
  have gB4_36:B4.tmps.getD 36 undef=vC:=by rw[qB4];exact (zaa (by decide)).trans gB3_36
  have gB4_33:B4.tmps.getD 33 undef=(.slice (some ⟨bK,0,none⟩) n cK):=by rw[qB4];exact (zaa (by decide)).trans gB3_33
  have gB4_10:B4.tmps.getD 10 undef=(.slice (some ⟨bK,0,none⟩) n cK):=by rw[qB4];exact (zaa (by decide)).trans gB3_10
  have gB4_34:B4.tmps.getD 34 undef=(.int .i64 i):=by rw[qB4];exact (zaa (by decide)).trans gB3_34
  have gB4_11:B4.tmps.getD 11 undef=(.int .i64 i):=by rw[qB4];exact (zaa (by decide)).trans gB3_11
  have gB4_9:B4.tmps.getD 9 undef=(.int .i64 k):=by rw[qB4];exact (zaa (by decide)).trans gB3_9
  have gB4_1:B4.tmps.getD 1 undef=(.slice (some ⟨bR,oR,none⟩) right.length cR):=by rw[qB4];exact (zaa (by decide)).trans gB3_1
  have gB4_40:B4.tmps.getD 40 undef=vC:=by rw[qB4];exact (zaa (by decide)).trans gB3_40
  have gB4_42:B4.tmps.getD 42 undef=(.int .i64 k):=by rw[qB4];exact (zaa (by decide)).trans gB3_42
  have gB4_43:B4.tmps.getD 43 undef=(.slice (some ⟨bR,oR,none⟩) right.length cR):=by rw[qB4];exact (zaa (by decide)).trans gB3_43
  have gB4_44:B4.tmps.getD 44 undef=(.int .i64 i):=by rw[qB4];exact zae (by rw[zB3];decide)
  change wpListIn (Fw none) 0 Try.prog _ _ _ (B3.put (some 44) (.int .i64 i)) w at hB4
  rw[←qB4] at hB4
  have hB5:=zcO hB4 rfl rfl (ia76 B4 w _ (.tmp 43) (.tmp 44) rfl gB4_43 gB4_44 hr)
  obtain⟨B5,qB5⟩:∃x,x=B4.put (some 45) (.pointer (some ⟨bR,oR+i,none⟩)):=⟨_,rfl⟩
  have zB5:B5.tmps.size=75:=by rw[qB5,zai];exact zB4
  have gB5_36:B5.tmps.getD 36 undef=vC:=by rw[qB5];exact (zaa (by decide)).trans gB4_36
  have gB5_33:B5.tmps.getD 33 undef=(.slice (some ⟨bK,0,none⟩) n cK):=by rw[qB5];exact (zaa (by decide)).trans gB4_33
  have gB5_10:B5.tmps.getD 10 undef=(.slice (some ⟨bK,0,none⟩) n cK):=by rw[qB5];exact (zaa (by decide)).trans gB4_10
  have gB5_34:B5.tmps.getD 34 undef=(.int .i64 i):=by rw[qB5];exact (zaa (by decide)).trans gB4_34
  have gB5_11:B5.tmps.getD 11 undef=(.int .i64 i):=by rw[qB5];exact (zaa (by decide)).trans gB4_11
  have gB5_9:B5.tmps.getD 9 undef=(.int .i64 k):=by rw[qB5];exact (zaa (by decide)).trans gB4_9
  have gB5_1:B5.tmps.getD 1 undef=(.slice (some ⟨bR,oR,none⟩) right.length cR):=by rw[qB5];exact (zaa (by decide)).trans gB4_1
  have gB5_40:B5.tmps.getD 40 undef=vC:=by rw[qB5];exact (zaa (by decide)).trans gB4_40
  have gB5_42:B5.tmps.getD 42 undef=(.int .i64 k):=by rw[qB5];exact (zaa (by decide)).trans gB4_42
  have gB5_43:B5.tmps.getD 43 undef=(.slice (some ⟨bR,oR,none⟩) right.length cR):=by rw[qB5];exact (zaa (by decide)).trans gB4_43
  have gB5_44:B5.tmps.getD 44 undef=(.int .i64 i):=by rw[qB5];exact (zaa (by decide)).trans gB4_44
  have gB5_45:B5.tmps.getD 45 undef=(.pointer (some ⟨bR,oR+i,none⟩)):=by rw[qB5];exact zae (by rw[zB4];decide)
  change wpListIn (Fw none) 0 Try.prog _ _ _ (B4.put (some 45) (.pointer (some ⟨bR,oR+i,none⟩))) w at hB5
  rw[←qB5] at hB5
  have hB6:=zcO hB5 rfl rfl (ld3 B5 w _ (.tmp 45) rfl gB5_45 r.hR r.gR)
  obtain⟨B6,qB6⟩:∃x,x=B5.put (some 46) (.int .i64 (vI right i)):=⟨_,rfl⟩
  have zB6:B6.tmps.size=75:=by rw[qB6,zai];exact zB5
  have gB6_36:B6.tmps.getD 36 undef=vC:=by rw[qB6];exact (zaa (by decide)).trans gB5_36
  have gB6_33:B6.tmps.getD 33 undef=(.slice (some ⟨bK,0,none⟩) n cK):=by rw[qB6];exact (zaa (by decide)).trans gB5_33
  have gB6_10:B6.tmps.getD 10 undef=(.slice (some ⟨bK,0,none⟩) n cK):=by rw[qB6];exact (zaa (by decide)).trans gB5_10
  have gB6_34:B6.tmps.getD 34 undef=(.int .i64 i):=by rw[qB6];exact (zaa (by decide)).trans gB5_34
  have gB6_11:B6.tmps.getD 11 undef=(.int .i64 i):=by rw[qB6];exact (zaa (by decide)).trans gB5_11
  have gB6_9:B6.tmps.getD 9 undef=(.int .i64 k):=by rw[qB6];exact (zaa (by decide)).trans gB5_9
  have gB6_1:B6.tmps.getD 1 undef=(.slice (some ⟨bR,oR,none⟩) right.length cR):=by rw[qB6];exact (zaa (by decide)).trans gB5_1
  have gB6_40:B6.tmps.getD 40 undef=vC:=by rw[qB6];exact (zaa (by decide)).trans gB5_40
  have gB6_42:B6.tmps.getD 42 undef=(.int .i64 k):=by rw[qB6];exact (zaa (by decide)).trans gB5_42
  have gB6_43:B6.tmps.getD 43 undef=(.slice (some ⟨bR,oR,none⟩) right.length cR):=by rw[qB6];exact (zaa (by decide)).trans gB5_43
  have gB6_44:B6.tmps.getD 44 undef=(.int .i64 i):=by rw[qB6];exact (zaa (by decide)).trans gB5_44
  have gB6_45:B6.tmps.getD 45 undef=(.pointer (some ⟨bR,oR+i,none⟩)):=by rw[qB6];exact (zaa (by decide)).trans gB5_45
  have gB6_46:B6.tmps.getD 46 undef=(.int .i64 (vI right i)):=by rw[qB6];exact zae (by rw[zB5];decide)
  change wpListIn (Fw none) 0 Try.prog _ _ _ (B5.put (some 46) (.int .i64 (vI right i))) w at hB6
  rw[←qB6] at hB6
  have hB7:=zcO hB6 rfl rfl (ia76 B6 w _ (.tmp 40) (.tmp 42) rfl (gB6_40.trans hvC) gB6_42 hk)
  obtain⟨B7,qB7⟩:∃x,x=B6.put (some 47) (.pointer (some ⟨bC,0+k,none⟩)):=⟨_,rfl⟩
  have zB7:B7.tmps.size=75:=by rw[qB7,zai];exact zB6
  have gB7_36:B7.tmps.getD 36 undef=vC:=by rw[qB7];exact (zaa (by decide)).trans gB6_36
  have gB7_33:B7.tmps.getD 33 undef=(.slice (some ⟨bK,0,none⟩) n cK):=by rw[qB7];exact (zaa (by decide)).trans gB6_33
  have gB7_10:B7.tmps.getD 10 undef=(.slice (some ⟨bK,0,none⟩) n cK):=by rw[qB7];exact (zaa (by decide)).trans gB6_10
  have gB7_34:B7.tmps.getD 34 undef=(.int .i64 i):=by rw[qB7];exact (zaa (by decide)).trans gB6_34
  have gB7_11:B7.tmps.getD 11 undef=(.int .i64 i):=by rw[qB7];exact (zaa (by decide)).trans gB6_11
  have gB7_9:B7.tmps.getD 9 undef=(.int .i64 k):=by rw[qB7];exact (zaa (by decide)).trans gB6_9
  have gB7_1:B7.tmps.getD 1 undef=(.slice (some ⟨bR,oR,none⟩) right.length cR):=by rw[qB7];exact (zaa (by decide)).trans gB6_1
  have gB7_40:B7.tmps.getD 40 undef=vC:=by rw[qB7];exact (zaa (by decide)).trans gB6_40
  have gB7_42:B7.tmps.getD 42 undef=(.int .i64 k):=by rw[qB7];exact (zaa (by decide)).trans gB6_42
  have gB7_43:B7.tmps.getD 43 undef=(.slice (some ⟨bR,oR,none⟩) right.length cR):=by rw[qB7];exact (zaa (by decide)).trans gB6_43
  have gB7_44:B7.tmps.getD 44 undef=(.int .i64 i):=by rw[qB7];exact (zaa (by decide)).trans gB6_44
  have gB7_45:B7.tmps.getD 45 undef=(.pointer (some ⟨bR,oR+i,none⟩)):=by rw[qB7];exact (zaa (by decide)).trans gB6_45
  have gB7_46:B7.tmps.getD 46 undef=(.int .i64 (vI right i)):=by rw[qB7];exact (zaa (by decide)).trans gB6_46
  have gB7_47:B7.tmps.getD 47 undef=(.pointer (some ⟨bC,0+k,none⟩)):=by rw[qB7];exact zae (by rw[zB6];decide)
  change wpListIn (Fw none) 0 Try.prog _ _ _ (B6.put (some 47) (.pointer (some ⟨bC,0+k,none⟩))) w at hB7
  rw[←qB7] at hB7
  obtain⟨wB8,hwB8⟩:∃x,x=w.setRow bC (curC.set! (0+k) (.int .i64 (vI right i))):=⟨_,rfl⟩
  have kwB8o:=(setRow_other w bC bK (curC.set! (0+k) (.int .i64 (vI right i))) r.ne).trans r.hK
  have kwB8R:=(setRow_other w bC bR (curC.set! (0+k) (.int .i64 (vI right i))) r.neC).trans r.hR
  have kwB8s:=setRow_heap w bC curC (curC.set! (0+k) (.int .i64 (vI right i))) _ _ r.hC
  rw[←hwB8] at kwB8s kwB8o kwB8R
  have hB8:=zeR hB7 rfl rfl (st3 B7 w _ (.tmp 47) (.tmp 46) rfl gB7_47 gB7_46 r.hC (by have:=r.sC;omega))
  change wpListIn (Fw none) 0 Try.prog _ _ _ B7 (w.setRow bC (curC.set! (0+k) (.int .i64 (vI right i)))) at hB8
  rw[←hwB8] at hB8
  have hB9:=zcO hB8 rfl rfl (ia66 B7 wB8 _ (.tmp 33) (.tmp 34) rfl gB7_33 gB7_34 hi)
  obtain⟨B9,qB9⟩:∃x,x=B7.put (some 37) (.pointer (some ⟨bK,0+i,none⟩)):=⟨_,rfl⟩
  have zB9:B9.tmps.size=75:=by rw[qB9,zai];exact zB7
  have gB9_36:B9.tmps.getD 36 undef=vC:=by rw[qB9];exact (zaa (by decide)).trans gB7_36
  have gB9_33:B9.tmps.getD 33 undef=(.slice (some ⟨bK,0,none⟩) n cK):=by rw[qB9];exact (zaa (by decide)).trans gB7_33
  have gB9_10:B9.tmps.getD 10 undef=(.slice (some ⟨bK,0,none⟩) n cK):=by rw[qB9];exact (zaa (by decide)).trans gB7_10
  have gB9_34:B9.tmps.getD 34 undef=(.int .i64 i):=by rw[qB9];exact (zaa (by decide)).trans gB7_34
  have gB9_11:B9.tmps.getD 11 undef=(.int .i64 i):=by rw[qB9];exact (zaa (by decide)).trans gB7_11
  have gB9_9:B9.tmps.getD 9 undef=(.int .i64 k):=by rw[qB9];exact (zaa (by decide)).trans gB7_9
  have gB9_1:B9.tmps.getD 1 undef=(.slice (some ⟨bR,oR,none⟩) right.length cR):=by rw[qB9];exact (zaa (by decide)).trans gB7_1
  have gB9_40:B9.tmps.getD 40 undef=vC:=by rw[qB9];exact (zaa (by decide)).trans gB7_40
  have gB9_42:B9.tmps.getD 42 undef=(.int .i64 k):=by rw[qB9];exact (zaa (by decide)).trans gB7_42
  have gB9_43:B9.tmps.getD 43 undef=(.slice (some ⟨bR,oR,none⟩) right.length cR):=by rw[qB9];exact (zaa (by decide)).trans gB7_43
  have gB9_44:B9.tmps.getD 44 undef=(.int .i64 i):=by rw[qB9];exact (zaa (by decide)).trans gB7_44
  have gB9_45:B9.tmps.getD 45 undef=(.pointer (some ⟨bR,oR+i,none⟩)):=by rw[qB9];exact (zaa (by decide)).trans gB7_45
  have gB9_46:B9.tmps.getD 46 undef=(.int .i64 (vI right i)):=by rw[qB9];exact (zaa (by decide)).trans gB7_46
  have gB9_47:B9.tmps.getD 47 undef=(.pointer (some ⟨bC,0+k,none⟩)):=by rw[qB9];exact (zaa (by decide)).trans gB7_47
  have gB9_37:B9.tmps.getD 37 undef=(.pointer (some ⟨bK,0+i,none⟩)):=by rw[qB9];exact zae (by rw[zB7];decide)
  change wpListIn (Fw none) 0 Try.prog _ _ _ (B7.put (some 37) (.pointer (some ⟨bK,0+i,none⟩))) wB8 at hB9
  rw[←qB9] at hB9
  obtain⟨wB10,hwB10⟩:∃x,x=wB8.setRow bK (curK.set! (0+i) vC):=⟨_,rfl⟩
  have kwB10o:=(setRow_other wB8 bK bC (curK.set! (0+i) vC) (fun h=>r.ne h.symm)).trans kwB8s
  have kwB10R:=(setRow_other wB8 bK bR (curK.set! (0+i) vC) r.neK).trans kwB8R
  have kwB10s:=setRow_heap wB8 bK curK (curK.set! (0+i) vC) _ _ kwB8o
  rw[←hwB10] at kwB10s kwB10o kwB10R
  have hB10:=zeR hB9 rfl rfl (st76 B9 wB8 _ (.tmp 37) (.tmp 36) rfl gB9_37 (gB9_36.trans hvC) kwB8o (by have:=r.sK;omega))
  rw[←hvC] at hB10
  change wpListIn (Fw none) 0 Try.prog _ _ _ B9 (wB8.setRow bK (curK.set! (0+i) vC)) at hB10
  rw[←hwB10] at hB10
  -- the way of the code
  refine zaj rfl (zaN (by intro d h;cases h) (ia66 a w _ (.tmp 33) (.tmp 34) rfl r.t33 s34 hi) ?_)
  obtain⟨A1,qA1⟩:∃x,x=a.put (some 37) (.pointer (some ⟨bK,0+i,none⟩)):=⟨_,rfl⟩
  have zA1:A1.tmps.size=75:=by rw[qA1,zai];exact za
  have gA1_36:A1.tmps.getD 36 undef=vC:=by rw[qA1];exact (zaa (by decide)).trans e36
  have gA1_33:A1.tmps.getD 33 undef=(.slice (some ⟨bK,0,none⟩) n cK):=by rw[qA1];exact (zaa (by decide)).trans r.t33
  have gA1_10:A1.tmps.getD 10 undef=(.slice (some ⟨bK,0,none⟩) n cK):=by rw[qA1];exact (zaa (by decide)).trans r.t10
  have gA1_34:A1.tmps.getD 34 undef=(.int .i64 i):=by rw[qA1];exact (zaa (by decide)).trans s34
  have gA1_11:A1.tmps.getD 11 undef=(.int .i64 i):=by rw[qA1];exact (zaa (by decide)).trans s11
  have gA1_9:A1.tmps.getD 9 undef=(.int .i64 k):=by rw[qA1];exact (zaa (by decide)).trans s9
  have gA1_1:A1.tmps.getD 1 undef=(.slice (some ⟨bR,oR,none⟩) right.length cR):=by rw[qA1];exact (zaa (by decide)).trans r.t1
  have gA1_37:A1.tmps.getD 37 undef=(.pointer (some ⟨bK,0+i,none⟩)):=by rw[qA1];exact zae (by rw[za];decide)
  change wpListIn (Fw none) 0 Try.prog _ _ _ (a.put (some 37) (.pointer (some ⟨bK,0+i,none⟩))) w
  rw[←qA1]
  obtain⟨wA2,hwA2⟩:∃x,x=w.setRow bK (curK.set! (0+i) vC):=⟨_,rfl⟩
  have kwA2o:=(setRow_other w bK bC (curK.set! (0+i) vC) (fun h=>r.ne h.symm)).trans r.hC
  have kwA2R:=(setRow_other w bK bR (curK.set! (0+i) vC) r.neK).trans r.hR
  have kwA2s:=setRow_heap w bK curK (curK.set! (0+i) vC) _ _ r.hK
  rw[←hwA2] at kwA2s kwA2o kwA2R
  refine zaj rfl (zih (by intro d h;cases h) (st76 A1 w _ (.tmp 37) (.tmp 36) rfl gA1_37 (gA1_36.trans hvC) r.hK (by have:=r.sK;omega)) ?_)
  rw[←hvC]
  change wpListIn (Fw none) 0 Try.prog _ _ _ A1 (w.setRow bK (curK.set! (0+i) vC))
  rw[←hwA2]
  refine zaO ?_
  show r13.wpIn (Fw none) 0 Try.prog Q A1 wA2
  rw[zr0,zqP]
  refine wpIn_wide.2 (wp_region_still_tail 10 zed (by kernel_rfl) ?_)
  obtain⟨wd,hwd⟩:∃x,x=({wA2 with drawn:=wA2.drawn+1}:World):=⟨_,rfl⟩
  rw[←hwd]
  have dbK:=(show wd.heap[bK]?=wA2.heap[bK]? by rw[hwd]).trans kwA2s
  have dbC:=(show wd.heap[bC]?=wA2.heap[bC]? by rw[hwd]).trans kwA2o
  have dbR:=(show wd.heap[bR]?=wA2.heap[bR]? by rw[hwd]).trans kwA2R
  have gV:(curK.set! (0+i) vC)[0+i]?=some vC:=by rw[Array.set!_eq_setIfInBounds,Array.getElem?_setIfInBounds_self_of_lt (by have:=r.sK;omega)]
  refine zef rfl (mvR A1 wd _ (.tmp 10) rfl gA1_10) ?_
  obtain⟨D1,qD1⟩:∃x,x=A1.put (some 38) (.slice (some ⟨bK,0,none⟩) n cK):=⟨_,rfl⟩
  have zD1:D1.tmps.size=75:=by rw[qD1,zai];exact zA1
  have gD1_36:D1.tmps.getD 36 undef=vC:=by rw[qD1];exact (zaa (by decide)).trans gA1_36
  have gD1_33:D1.tmps.getD 33 undef=(.slice (some ⟨bK,0,none⟩) n cK):=by rw[qD1];exact (zaa (by decide)).trans gA1_33
  have gD1_10:D1.tmps.getD 10 undef=(.slice (some ⟨bK,0,none⟩) n cK):=by rw[qD1];exact (zaa (by decide)).trans gA1_10
  have gD1_34:D1.tmps.getD 34 undef=(.int .i64 i):=by rw[qD1];exact (zaa (by decide)).trans gA1_34
  have gD1_11:D1.tmps.getD 11 undef=(.int .i64 i):=by rw[qD1];exact (zaa (by decide)).trans gA1_11
  have gD1_9:D1.tmps.getD 9 undef=(.int .i64 k):=by rw[qD1];exact (zaa (by decide)).trans gA1_9
  have gD1_1:D1.tmps.getD 1 undef=(.slice (some ⟨bR,oR,none⟩) right.length cR):=by rw[qD1];exact (zaa (by decide)).trans gA1_1
  have gD1_37:D1.tmps.getD 37 undef=(.pointer (some ⟨bK,0+i,none⟩)):=by rw[qD1];exact (zaa (by decide)).trans gA1_37
  have gD1_38:D1.tmps.getD 38 undef=(.slice (some ⟨bK,0,none⟩) n cK):=by rw[qD1];exact zae (by rw[zA1];decide)
  change wpStill Try.prog _ _ _ _ (A1.put (some 38) (.slice (some ⟨bK,0,none⟩) n cK))
  rw[←qD1]
  refine zef rfl (mvR D1 wd _ (.tmp 11) rfl gD1_11) ?_
  obtain⟨D2,qD2⟩:∃x,x=D1.put (some 39) (.int .i64 i):=⟨_,rfl⟩
  have zD2:D2.tmps.size=75:=by rw[qD2,zai];exact zD1
  have gD2_36:D2.tmps.getD 36 undef=vC:=by rw[qD2];exact (zaa (by decide)).trans gD1_36
  have gD2_33:D2.tmps.getD 33 undef=(.slice (some ⟨bK,0,none⟩) n cK):=by rw[qD2];exact (zaa (by decide)).trans gD1_33
  have gD2_10:D2.tmps.getD 10 undef=(.slice (some ⟨bK,0,none⟩) n cK):=by rw[qD2];exact (zaa (by decide)).trans gD1_10
  have gD2_34:D2.tmps.getD 34 undef=(.int .i64 i):=by rw[qD2];exact (zaa (by decide)).trans gD1_34
  have gD2_11:D2.tmps.getD 11 undef=(.int .i64 i):=by rw[qD2];exact (zaa (by decide)).trans gD1_11
  have gD2_9:D2.tmps.getD 9 undef=(.int .i64 k):=by rw[qD2];exact (zaa (by decide)).trans gD1_9
  have gD2_1:D2.tmps.getD 1 undef=(.slice (some ⟨bR,oR,none⟩) right.length cR):=by rw[qD2];exact (zaa (by decide)).trans gD1_1
  have gD2_37:D2.tmps.getD 37 undef=(.pointer (some ⟨bK,0+i,none⟩)):=by rw[qD2];exact (zaa (by decide)).trans gD1_37
  have gD2_38:D2.tmps.getD 38 undef=(.slice (some ⟨bK,0,none⟩) n cK):=by rw[qD2];exact (zaa (by decide)).trans gD1_38
  have gD2_39:D2.tmps.getD 39 undef=(.int .i64 i):=by rw[qD2];exact zae (by rw[zD1];decide)
  change wpStill Try.prog _ _ _ _ (D1.put (some 39) (.int .i64 i))
  rw[←qD2]
  refine zef rfl (ia66 D2 wd _ (.tmp 38) (.tmp 39) rfl gD2_38 gD2_39 hi) ?_
  obtain⟨D3,qD3⟩:∃x,x=D2.put (some 40) (.pointer (some ⟨bK,0+i,none⟩)):=⟨_,rfl⟩
  have zD3:D3.tmps.size=75:=by rw[qD3,zai];exact zD2
  have gD3_36:D3.tmps.getD 36 undef=vC:=by rw[qD3];exact (zaa (by decide)).trans gD2_36
  have gD3_33:D3.tmps.getD 33 undef=(.slice (some ⟨bK,0,none⟩) n cK):=by rw[qD3];exact (zaa (by decide)).trans gD2_33
  have gD3_10:D3.tmps.getD 10 undef=(.slice (some ⟨bK,0,none⟩) n cK):=by rw[qD3];exact (zaa (by decide)).trans gD2_10
  have gD3_34:D3.tmps.getD 34 undef=(.int .i64 i):=by rw[qD3];exact (zaa (by decide)).trans gD2_34
  have gD3_11:D3.tmps.getD 11 undef=(.int .i64 i):=by rw[qD3];exact (zaa (by decide)).trans gD2_11
  have gD3_9:D3.tmps.getD 9 undef=(.int .i64 k):=by rw[qD3];exact (zaa (by decide)).trans gD2_9
  have gD3_1:D3.tmps.getD 1 undef=(.slice (some ⟨bR,oR,none⟩) right.length cR):=by rw[qD3];exact (zaa (by decide)).trans gD2_1
  have gD3_37:D3.tmps.getD 37 undef=(.pointer (some ⟨bK,0+i,none⟩)):=by rw[qD3];exact (zaa (by decide)).trans gD2_37
  have gD3_38:D3.tmps.getD 38 undef=(.slice (some ⟨bK,0,none⟩) n cK):=by rw[qD3];exact (zaa (by decide)).trans gD2_38
  have gD3_39:D3.tmps.getD 39 undef=(.int .i64 i):=by rw[qD3];exact (zaa (by decide)).trans gD2_39
  have gD3_40:D3.tmps.getD 40 undef=(.pointer (some ⟨bK,0+i,none⟩)):=by rw[qD3];exact zae (by rw[zD2];decide)
  change wpStill Try.prog _ _ _ _ (D2.put (some 40) (.pointer (some ⟨bK,0+i,none⟩)))
  rw[←qD3]
  refine zef rfl (ld76 D3 wd _ (.tmp 40) rfl gD3_40 dbK gV) ?_
  obtain⟨D4,qD4⟩:∃x,x=D3.put (some 41) vC:=⟨_,rfl⟩
  have zD4:D4.tmps.size=75:=by rw[qD4,zai];exact zD3
  have gD4_36:D4.tmps.getD 36 undef=vC:=by rw[qD4];exact (zaa (by decide)).trans gD3_36
  have gD4_33:D4.tmps.getD 33 undef=(.slice (some ⟨bK,0,none⟩) n cK):=by rw[qD4];exact (zaa (by decide)).trans gD3_33
  have gD4_10:D4.tmps.getD 10 undef=(.slice (some ⟨bK,0,none⟩) n cK):=by rw[qD4];exact (zaa (by decide)).trans gD3_10
  have gD4_34:D4.tmps.getD 34 undef=(.int .i64 i):=by rw[qD4];exact (zaa (by decide)).trans gD3_34
  have gD4_11:D4.tmps.getD 11 undef=(.int .i64 i):=by rw[qD4];exact (zaa (by decide)).trans gD3_11
  have gD4_9:D4.tmps.getD 9 undef=(.int .i64 k):=by rw[qD4];exact (zaa (by decide)).trans gD3_9
  have gD4_1:D4.tmps.getD 1 undef=(.slice (some ⟨bR,oR,none⟩) right.length cR):=by rw[qD4];exact (zaa (by decide)).trans gD3_1
  have gD4_37:D4.tmps.getD 37 undef=(.pointer (some ⟨bK,0+i,none⟩)):=by rw[qD4];exact (zaa (by decide)).trans gD3_37
  have gD4_38:D4.tmps.getD 38 undef=(.slice (some ⟨bK,0,none⟩) n cK):=by rw[qD4];exact (zaa (by decide)).trans gD3_38
  have gD4_39:D4.tmps.getD 39 undef=(.int .i64 i):=by rw[qD4];exact (zaa (by decide)).trans gD3_39
  have gD4_40:D4.tmps.getD 40 undef=(.pointer (some ⟨bK,0+i,none⟩)):=by rw[qD4];exact (zaa (by decide)).trans gD3_40
  have gD4_41:D4.tmps.getD 41 undef=vC:=by rw[qD4];exact zae (by rw[zD3];decide)
  change wpStill Try.prog _ _ _ _ (D3.put (some 41) vC)
  rw[←qD4]
  refine zef rfl (mvR D4 wd _ (.tmp 9) rfl gD4_9) ?_
  obtain⟨D5,qD5⟩:∃x,x=D4.put (some 42) (.int .i64 k):=⟨_,rfl⟩
  have zD5:D5.tmps.size=75:=by rw[qD5,zai];exact zD4
  have gD5_36:D5.tmps.getD 36 undef=vC:=by rw[qD5];exact (zaa (by decide)).trans gD4_36
  have gD5_33:D5.tmps.getD 33 undef=(.slice (some ⟨bK,0,none⟩) n cK):=by rw[qD5];exact (zaa (by decide)).trans gD4_33
  have gD5_10:D5.tmps.getD 10 undef=(.slice (some ⟨bK,0,none⟩) n cK):=by rw[qD5];exact (zaa (by decide)).trans gD4_10
  have gD5_34:D5.tmps.getD 34 undef=(.int .i64 i):=by rw[qD5];exact (zaa (by decide)).trans gD4_34
  have gD5_11:D5.tmps.getD 11 undef=(.int .i64 i):=by rw[qD5];exact (zaa (by decide)).trans gD4_11
  have gD5_9:D5.tmps.getD 9 undef=(.int .i64 k):=by rw[qD5];exact (zaa (by decide)).trans gD4_9
  have gD5_1:D5.tmps.getD 1 undef=(.slice (some ⟨bR,oR,none⟩) right.length cR):=by rw[qD5];exact (zaa (by decide)).trans gD4_1
  have gD5_37:D5.tmps.getD 37 undef=(.pointer (some ⟨bK,0+i,none⟩)):=by rw[qD5];exact (zaa (by decide)).trans gD4_37
  have gD5_38:D5.tmps.getD 38 undef=(.slice (some ⟨bK,0,none⟩) n cK):=by rw[qD5];exact (zaa (by decide)).trans gD4_38
  have gD5_39:D5.tmps.getD 39 undef=(.int .i64 i):=by rw[qD5];exact (zaa (by decide)).trans gD4_39
  have gD5_40:D5.tmps.getD 40 undef=(.pointer (some ⟨bK,0+i,none⟩)):=by rw[qD5];exact (zaa (by decide)).trans gD4_40
  have gD5_41:D5.tmps.getD 41 undef=vC:=by rw[qD5];exact (zaa (by decide)).trans gD4_41
  have gD5_42:D5.tmps.getD 42 undef=(.int .i64 k):=by rw[qD5];exact zae (by rw[zD4];decide)
  change wpStill Try.prog _ _ _ _ (D4.put (some 42) (.int .i64 k))
  rw[←qD5]
  refine zef rfl (mvR D5 wd _ (.tmp 1) rfl gD5_1) ?_
  obtain⟨D6,qD6⟩:∃x,x=D5.put (some 43) (.slice (some ⟨bR,oR,none⟩) right.length cR):=⟨_,rfl⟩
  have zD6:D6.tmps.size=75:=by rw[qD6,zai];exact zD5
  have gD6_36:D6.tmps.getD 36 undef=vC:=by rw[qD6];exact (zaa (by decide)).trans gD5_36
  have gD6_33:D6.tmps.getD 33 undef=(.slice (some ⟨bK,0,none⟩) n cK):=by rw[qD6];exact (zaa (by decide)).trans gD5_33
  have gD6_10:D6.tmps.getD 10 undef=(.slice (some ⟨bK,0,none⟩) n cK):=by rw[qD6];exact (zaa (by decide)).trans gD5_10
  have gD6_34:D6.tmps.getD 34 undef=(.int .i64 i):=by rw[qD6];exact (zaa (by decide)).trans gD5_34
  have gD6_11:D6.tmps.getD 11 undef=(.int .i64 i):=by rw[qD6];exact (zaa (by decide)).trans gD5_11
  have gD6_9:D6.tmps.getD 9 undef=(.int .i64 k):=by rw[qD6];exact (zaa (by decide)).trans gD5_9
  have gD6_1:D6.tmps.getD 1 undef=(.slice (some ⟨bR,oR,none⟩) right.length cR):=by rw[qD6];exact (zaa (by decide)).trans gD5_1
  have gD6_37:D6.tmps.getD 37 undef=(.pointer (some ⟨bK,0+i,none⟩)):=by rw[qD6];exact (zaa (by decide)).trans gD5_37
  have gD6_38:D6.tmps.getD 38 undef=(.slice (some ⟨bK,0,none⟩) n cK):=by rw[qD6];exact (zaa (by decide)).trans gD5_38
  have gD6_39:D6.tmps.getD 39 undef=(.int .i64 i):=by rw[qD6];exact (zaa (by decide)).trans gD5_39
  have gD6_40:D6.tmps.getD 40 undef=(.pointer (some ⟨bK,0+i,none⟩)):=by rw[qD6];exact (zaa (by decide)).trans gD5_40
  have gD6_41:D6.tmps.getD 41 undef=vC:=by rw[qD6];exact (zaa (by decide)).trans gD5_41
  have gD6_42:D6.tmps.getD 42 undef=(.int .i64 k):=by rw[qD6];exact (zaa (by decide)).trans gD5_42
  have gD6_43:D6.tmps.getD 43 undef=(.slice (some ⟨bR,oR,none⟩) right.length cR):=by rw[qD6];exact zae (by rw[zD5];decide)
  change wpStill Try.prog _ _ _ _ (D5.put (some 43) (.slice (some ⟨bR,oR,none⟩) right.length cR))
  rw[←qD6]
  refine zef rfl (mvR D6 wd _ (.tmp 11) rfl gD6_11) ?_
  obtain⟨D7,qD7⟩:∃x,x=D6.put (some 44) (.int .i64 i):=⟨_,rfl⟩
  have zD7:D7.tmps.size=75:=by rw[qD7,zai];exact zD6
  have gD7_36:D7.tmps.getD 36 undef=vC:=by rw[qD7];exact (zaa (by decide)).trans gD6_36
  have gD7_33:D7.tmps.getD 33 undef=(.slice (some ⟨bK,0,none⟩) n cK):=by rw[qD7];exact (zaa (by decide)).trans gD6_33
  have gD7_10:D7.tmps.getD 10 undef=(.slice (some ⟨bK,0,none⟩) n cK):=by rw[qD7];exact (zaa (by decide)).trans gD6_10
  have gD7_34:D7.tmps.getD 34 undef=(.int .i64 i):=by rw[qD7];exact (zaa (by decide)).trans gD6_34
  have gD7_11:D7.tmps.getD 11 undef=(.int .i64 i):=by rw[qD7];exact (zaa (by decide)).trans gD6_11
  have gD7_9:D7.tmps.getD 9 undef=(.int .i64 k):=by rw[qD7];exact (zaa (by decide)).trans gD6_9
  have gD7_1:D7.tmps.getD 1 undef=(.slice (some ⟨bR,oR,none⟩) right.length cR):=by rw[qD7];exact (zaa (by decide)).trans gD6_1
  have gD7_37:D7.tmps.getD 37 undef=(.pointer (some ⟨bK,0+i,none⟩)):=by rw[qD7];exact (zaa (by decide)).trans gD6_37
  have gD7_38:D7.tmps.getD 38 undef=(.slice (some ⟨bK,0,none⟩) n cK):=by rw[qD7];exact (zaa (by decide)).trans gD6_38
  have gD7_39:D7.tmps.getD 39 undef=(.int .i64 i):=by rw[qD7];exact (zaa (by decide)).trans gD6_39
  have gD7_40:D7.tmps.getD 40 undef=(.pointer (some ⟨bK,0+i,none⟩)):=by rw[qD7];exact (zaa (by decide)).trans gD6_40
  have gD7_41:D7.tmps.getD 41 undef=vC:=by rw[qD7];exact (zaa (by decide)).trans gD6_41
  have gD7_42:D7.tmps.getD 42 undef=(.int .i64 k):=by rw[qD7];exact (zaa (by decide)).trans gD6_42
  have gD7_43:D7.tmps.getD 43 undef=(.slice (some ⟨bR,oR,none⟩) right.length cR):=by rw[qD7];exact (zaa (by decide)).trans gD6_43
  have gD7_44:D7.tmps.getD 44 undef=(.int .i64 i):=by rw[qD7];exact zae (by rw[zD6];decide)
  change wpStill Try.prog _ _ _ _ (D6.put (some 44) (.int .i64 i))
  rw[←qD7]
  refine zef rfl (ia76 D7 wd _ (.tmp 43) (.tmp 44) rfl gD7_43 gD7_44 hr) ?_
  obtain⟨D8,qD8⟩:∃x,x=D7.put (some 45) (.pointer (some ⟨bR,oR+i,none⟩)):=⟨_,rfl⟩
  have zD8:D8.tmps.size=75:=by rw[qD8,zai];exact zD7
  have gD8_36:D8.tmps.getD 36 undef=vC:=by rw[qD8];exact (zaa (by decide)).trans gD7_36
  have gD8_33:D8.tmps.getD 33 undef=(.slice (some ⟨bK,0,none⟩) n cK):=by rw[qD8];exact (zaa (by decide)).trans gD7_33
  have gD8_10:D8.tmps.getD 10 undef=(.slice (some ⟨bK,0,none⟩) n cK):=by rw[qD8];exact (zaa (by decide)).trans gD7_10
  have gD8_34:D8.tmps.getD 34 undef=(.int .i64 i):=by rw[qD8];exact (zaa (by decide)).trans gD7_34
  have gD8_11:D8.tmps.getD 11 undef=(.int .i64 i):=by rw[qD8];exact (zaa (by decide)).trans gD7_11
  have gD8_9:D8.tmps.getD 9 undef=(.int .i64 k):=by rw[qD8];exact (zaa (by decide)).trans gD7_9
  have gD8_1:D8.tmps.getD 1 undef=(.slice (some ⟨bR,oR,none⟩) right.length cR):=by rw[qD8];exact (zaa (by decide)).trans gD7_1
  have gD8_37:D8.tmps.getD 37 undef=(.pointer (some ⟨bK,0+i,none⟩)):=by rw[qD8];exact (zaa (by decide)).trans gD7_37
  have gD8_38:D8.tmps.getD 38 undef=(.slice (some ⟨bK,0,none⟩) n cK):=by rw[qD8];exact (zaa (by decide)).trans gD7_38
  have gD8_39:D8.tmps.getD 39 undef=(.int .i64 i):=by rw[qD8];exact (zaa (by decide)).trans gD7_39
  have gD8_40:D8.tmps.getD 40 undef=(.pointer (some ⟨bK,0+i,none⟩)):=by rw[qD8];exact (zaa (by decide)).trans gD7_40
  have gD8_41:D8.tmps.getD 41 undef=vC:=by rw[qD8];exact (zaa (by decide)).trans gD7_41
  have gD8_42:D8.tmps.getD 42 undef=(.int .i64 k):=by rw[qD8];exact (zaa (by decide)).trans gD7_42
  have gD8_43:D8.tmps.getD 43 undef=(.slice (some ⟨bR,oR,none⟩) right.length cR):=by rw[qD8];exact (zaa (by decide)).trans gD7_43
  have gD8_44:D8.tmps.getD 44 undef=(.int .i64 i):=by rw[qD8];exact (zaa (by decide)).trans gD7_44
  have gD8_45:D8.tmps.getD 45 undef=(.pointer (some ⟨bR,oR+i,none⟩)):=by rw[qD8];exact zae (by rw[zD7];decide)
  change wpStill Try.prog _ _ _ _ (D7.put (some 45) (.pointer (some ⟨bR,oR+i,none⟩)))
  rw[←qD8]
  refine zef rfl (ld3 D8 wd _ (.tmp 45) rfl gD8_45 dbR r.gR) ?_
  obtain⟨D9,qD9⟩:∃x,x=D8.put (some 46) (.int .i64 (vI right i)):=⟨_,rfl⟩
  have zD9:D9.tmps.size=75:=by rw[qD9,zai];exact zD8
  have gD9_36:D9.tmps.getD 36 undef=vC:=by rw[qD9];exact (zaa (by decide)).trans gD8_36
  have gD9_33:D9.tmps.getD 33 undef=(.slice (some ⟨bK,0,none⟩) n cK):=by rw[qD9];exact (zaa (by decide)).trans gD8_33
  have gD9_10:D9.tmps.getD 10 undef=(.slice (some ⟨bK,0,none⟩) n cK):=by rw[qD9];exact (zaa (by decide)).trans gD8_10
  have gD9_34:D9.tmps.getD 34 undef=(.int .i64 i):=by rw[qD9];exact (zaa (by decide)).trans gD8_34
  have gD9_11:D9.tmps.getD 11 undef=(.int .i64 i):=by rw[qD9];exact (zaa (by decide)).trans gD8_11
  have gD9_9:D9.tmps.getD 9 undef=(.int .i64 k):=by rw[qD9];exact (zaa (by decide)).trans gD8_9
  have gD9_1:D9.tmps.getD 1 undef=(.slice (some ⟨bR,oR,none⟩) right.length cR):=by rw[qD9];exact (zaa (by decide)).trans gD8_1
  have gD9_37:D9.tmps.getD 37 undef=(.pointer (some ⟨bK,0+i,none⟩)):=by rw[qD9];exact (zaa (by decide)).trans gD8_37
  have gD9_38:D9.tmps.getD 38 undef=(.slice (some ⟨bK,0,none⟩) n cK):=by rw[qD9];exact (zaa (by decide)).trans gD8_38
  have gD9_39:D9.tmps.getD 39 undef=(.int .i64 i):=by rw[qD9];exact (zaa (by decide)).trans gD8_39
  have gD9_40:D9.tmps.getD 40 undef=(.pointer (some ⟨bK,0+i,none⟩)):=by rw[qD9];exact (zaa (by decide)).trans gD8_40
  have gD9_41:D9.tmps.getD 41 undef=vC:=by rw[qD9];exact (zaa (by decide)).trans gD8_41
  have gD9_42:D9.tmps.getD 42 undef=(.int .i64 k):=by rw[qD9];exact (zaa (by decide)).trans gD8_42
  have gD9_43:D9.tmps.getD 43 undef=(.slice (some ⟨bR,oR,none⟩) right.length cR):=by rw[qD9];exact (zaa (by decide)).trans gD8_43
  have gD9_44:D9.tmps.getD 44 undef=(.int .i64 i):=by rw[qD9];exact (zaa (by decide)).trans gD8_44
  have gD9_45:D9.tmps.getD 45 undef=(.pointer (some ⟨bR,oR+i,none⟩)):=by rw[qD9];exact (zaa (by decide)).trans gD8_45
  have gD9_46:D9.tmps.getD 46 undef=(.int .i64 (vI right i)):=by rw[qD9];exact zae (by rw[zD8];decide)
  change wpStill Try.prog _ _ _ _ (D8.put (some 46) (.int .i64 (vI right i)))
  rw[←qD9]
  refine zef rfl (ia76 D9 wd _ (.tmp 41) (.tmp 42) rfl (gD9_41.trans hvC) gD9_42 hk) ?_
  obtain⟨D10,qD10⟩:∃x,x=D9.put (some 47) (.pointer (some ⟨bC,0+k,none⟩)):=⟨_,rfl⟩
  have zD10:D10.tmps.size=75:=by rw[qD10,zai];exact zD9
  have gD10_36:D10.tmps.getD 36 undef=vC:=by rw[qD10];exact (zaa (by decide)).trans gD9_36
  have gD10_33:D10.tmps.getD 33 undef=(.slice (some ⟨bK,0,none⟩) n cK):=by rw[qD10];exact (zaa (by decide)).trans gD9_33
  have gD10_10:D10.tmps.getD 10 undef=(.slice (some ⟨bK,0,none⟩) n cK):=by rw[qD10];exact (zaa (by decide)).trans gD9_10
  have gD10_34:D10.tmps.getD 34 undef=(.int .i64 i):=by rw[qD10];exact (zaa (by decide)).trans gD9_34
  have gD10_11:D10.tmps.getD 11 undef=(.int .i64 i):=by rw[qD10];exact (zaa (by decide)).trans gD9_11
  have gD10_9:D10.tmps.getD 9 undef=(.int .i64 k):=by rw[qD10];exact (zaa (by decide)).trans gD9_9
  have gD10_1:D10.tmps.getD 1 undef=(.slice (some ⟨bR,oR,none⟩) right.length cR):=by rw[qD10];exact (zaa (by decide)).trans gD9_1
  have gD10_37:D10.tmps.getD 37 undef=(.pointer (some ⟨bK,0+i,none⟩)):=by rw[qD10];exact (zaa (by decide)).trans gD9_37
  have gD10_38:D10.tmps.getD 38 undef=(.slice (some ⟨bK,0,none⟩) n cK):=by rw[qD10];exact (zaa (by decide)).trans gD9_38
  have gD10_39:D10.tmps.getD 39 undef=(.int .i64 i):=by rw[qD10];exact (zaa (by decide)).trans gD9_39
  have gD10_40:D10.tmps.getD 40 undef=(.pointer (some ⟨bK,0+i,none⟩)):=by rw[qD10];exact (zaa (by decide)).trans gD9_40
  have gD10_41:D10.tmps.getD 41 undef=vC:=by rw[qD10];exact (zaa (by decide)).trans gD9_41
  have gD10_42:D10.tmps.getD 42 undef=(.int .i64 k):=by rw[qD10];exact (zaa (by decide)).trans gD9_42
  have gD10_43:D10.tmps.getD 43 undef=(.slice (some ⟨bR,oR,none⟩) right.length cR):=by rw[qD10];exact (zaa (by decide)).trans gD9_43
  have gD10_44:D10.tmps.getD 44 undef=(.int .i64 i):=by rw[qD10];exact (zaa (by decide)).trans gD9_44
  have gD10_45:D10.tmps.getD 45 undef=(.pointer (some ⟨bR,oR+i,none⟩)):=by rw[qD10];exact (zaa (by decide)).trans gD9_45
  have gD10_46:D10.tmps.getD 46 undef=(.int .i64 (vI right i)):=by rw[qD10];exact (zaa (by decide)).trans gD9_46
  have gD10_47:D10.tmps.getD 47 undef=(.pointer (some ⟨bC,0+k,none⟩)):=by rw[qD10];exact zae (by rw[zD9];decide)
  change wpStill Try.prog _ _ _ _ (D9.put (some 47) (.pointer (some ⟨bC,0+k,none⟩)))
  rw[←qD10]
  refine wpStill_nil ?_
  refine zlu (by intro d h;cases h) rfl (st3 D10 wd _ (.tmp 47) (.tmp 46) rfl gD10_47 gD10_46 dbC (by have:=r.sC;omega)) ?_
  change Q .normal D10 (wd.setRow bC (curC.set! (0+k) (.int .i64 (vI right i))))
  have hfin:RelS (EH M bs w0 true) 75 (stB 60010 m (xs.set i (row.set k (vI right i))) right outs den i k n) B9 wB10:=hB10.2
  have e:wd.setRow bC (curC.set! (0+k) (.int .i64 (vI right i))) = {wB10 with drawn:=wA2.drawn+1}:=by
    rw[hwd,hwB10,hwB8,hwA2,←zj1 w r.ne]
    rfl
  refine hQ _ _ ?_
  rw[e]
  refine zmF _ (zrV (ds:=[36,37,38,39,40,41,42,43,44,45,46,47]) hfin zD10 ?_ (fun t ht=>?_) (fun u s h=>zmf h))
  · have l1:D10.defers=a.defers:=by rw[qD10,zag,qD9,zag,qD8,zag,qD7,zag,qD6,zag,qD5,zag,qD4,zag,qD3,zag,qD2,zag,qD1,zag,qA1,zag]
    have l2:B9.defers=a.defers:=by rw[qB9,zag,qB7,zag,qB6,zag,qB5,zag,qB4,zag,qB3,zag,qB2,zag,qB1,zag]
    rw[l1,l2]
  · simp only[List.mem_cons,List.not_mem_nil,or_false,not_or] at ht
    obtain⟨n36,n37,n38,n39,n40,n41,n42,n43,n44,n45,n46,n47⟩:=ht
    have l1:D10.tmps.getD t undef=a.tmps.getD t undef:=by rw[qD10,zaa n47,qD9,zaa n46,qD8,zaa n45,qD7,zaa n44,qD6,zaa n43,qD5,zaa n42,qD4,zaa n41,qD3,zaa n40,qD2,zaa n39,qD1,zaa n38,qA1,zaa n37]
    have l2:B9.tmps.getD t undef=a.tmps.getD t undef:=by rw[qB9,zaa n37,qB7,zaa n47,qB6,zaa n46,qB5,zaa n45,qB4,zaa n44,qB3,zaa n43,qB2,zaa n42,qB1,zaa n40]
    rw[l1,l2]
set_option maxHeartbeats 4000000
noncomputable def R0:Code:=match b180 with | .seq x _=>x|c=>c
noncomputable def R1:Code:=match b180 with | .seq _ (.seq x _)=>x|c=>c
noncomputable def R2C:Code:=match b180 with | .seq _ (.seq _ (.seq x _))=>x|c=>c
noncomputable def R4:Code:=match b180 with | .seq _ (.seq _ (.seq _ (.seq x _)))=>x|c=>c
noncomputable def R5:Code:=match b180 with | .seq _ (.seq _ (.seq _ (.seq _ (.seq (.seq x _) _))))=>x|c=>c
noncomputable def TL:Code:=match b180 with | .seq _ (.seq _ (.seq _ (.seq _ (.seq _ x))))=>x|c=>c
noncomputable def R6:Code:=match zkj with | .seq x _=>x|c=>c
noncomputable def R7:Code:=match zkj with | .seq _ (.seq _ (.seq (.block _ (.seq x _)) _))=>x|c=>c
noncomputable def R8:Code:=match zkj with | .seq _ (.seq _ (.seq (.block _ (.seq _ (.seq x _))) _))=>x|c=>c
noncomputable def R9:Code:=match zkj with | .seq _ (.seq _ (.seq (.block _ (.seq _ (.seq _ (.seq (.seq x _) _)))) _))=>x|c=>c
noncomputable def R15:Code:=match zkj with | .seq _ (.seq _ (.seq (.block _ (.seq _ (.seq _ (.seq _ x)))) _))=>x|c=>c
noncomputable def R16:Code:=match zkj with | .seq _ (.seq _ (.seq _ x))=>x|c=>c
noncomputable def R10:Code:=match znc with | .seq x _=>x|c=>c
noncomputable def R11:Code:=match znc with | .seq _ (.seq _ (.seq (.block _ (.seq x _)) _))=>x|c=>c
noncomputable def R14:Code:=match znc with | .seq _ (.seq _ (.seq _ x))=>x|c=>c
theorem zq1:(Try.f73.body:Option Code)=some (.seq R0 (.seq R1 (.seq R2C (.seq R4 (.seq (.seq R5 (.block 0 (.loop (.seq R6 (.seq (.cond (.tmp 21) .skip (.exit 0)) (.seq (.block 1 (.seq R7 (.seq R8 (.seq (.seq R9 (.block 2 (.loop (.seq R10 (.seq (.cond (.tmp 29) .skip (.exit 2)) (.seq (.block 3 (.seq R11 (.seq r12 r13))) R14)))))) R15)))) R16)))))) TL))))):=rfl
theorem zjU {α:Type} {f:Nat→α} {n k:Nat} {v:α}:(tab f n).set k v=tab (fun j=>if j=k then v else f j) n:=by
  refine List.ext_getElem (by rw[List.length_set,zak,zak]) fun i h1 h2=>?_
  have hi:i<n:=by rw[zak] at h2;exact h2
  have h3:=zaD f v n i hi
  have h4:=zaD (fun j=>if j=k then v else f j) v n i hi
  have h5:i<(tab f n).length:=by rw[zak];exact hi
  simp only[List.getD_eq_getElem?_getD,List.getElem?_eq_getElem h5,List.getElem?_eq_getElem h2,Option.getD_some] at h3 h4
  rw[h4,List.getElem_set,h3]
  by_cases h:i=k
  · subst h;simp
  · rw[if_neg h,if_neg (fun e=>h e.symm)]
def chk (m:List (List Int)) (right:List Int) (k i:Nat):List (List Int):=tab (fun r=>if r<i then (rowN m r).set k (vI right r) else []) m.length
def dets (m:List (List Int)) (right:List Int) (k:Nat):List Int:=tab (fun j=>detA (chk m right j m.length)) k
def negd (o:List Int) (k:Nat):List Int:=tab (fun j=>if j<k then -vI o j else vI o j) o.length
def zay (m:List (List Int)) (right:List Int):List Int×Int×Bool×Unit:=
  if detA m=0 then ([],0,false,()) else if detA m<0 then (negd (dets m right m.length) m.length,-detA m,true,()) else (dets m right m.length,detA m,true,())
def zjb (m:List (List Int)) (right:List Int):Prop:=(∃N,N≤4∧zcY N m)∧right.length=m.length∧∀i,i<m.length→-2000≤vI right i∧vI right i≤2000
theorem zdx {m right k i}:(chk m right k i).length=m.length:=zak _ _
theorem zi4 {N:Nat} {m:List (List Int)} (h:zcY N m) {i:Nat} (hi:i<N):rowN m i∈m:=by
  have hi':i<m.length:=by rw[h.1];exact hi
  simp only[rowN,List.getD_eq_getElem?_getD,List.getElem?_eq_getElem hi',Option.getD_some]
  exact List.getElem_mem hi'
theorem zpe {m right k}:chk m right k 0=repl (m.length:Int) ([]:List Int):=by
  rw[zeu]
  refine zkJ [] (by simp) fun i hi=>?_
  simp[List.getD,hi]
theorem zpf {m right k i} (hi:i<m.length):(chk m right k i).set i ((rowN m i).set k (vI right i))=chk m right k (i+1):=by
  unfold chk
  rw[zjU]
  refine zgb _ fun j hj=>?_
  by_cases h:j=i
  · subst h;rw[if_pos rfl,if_pos (by omega)]
  · rw[if_neg h]
    by_cases h2:j<i
    · rw[if_pos h2,if_pos (by omega)]
    · rw[if_neg h2,if_neg (by omega)]
theorem zp2 {N:Nat} {m:List (List Int)} {right:List Int} {k:Nat} (h:zcY N m) (hr:∀i,i<m.length→-2000≤vI right i∧vI right i≤2000):zcY N (chk m right k m.length):=by
  refine⟨by rw[zdx,h.1],fun r hr'=>?_⟩
  obtain ⟨i,hi,rfl⟩:∃i,i<m.length∧r=(rowN m i).set k (vI right i):=by
    obtain⟨i,hi,e⟩:=List.getElem_of_mem hr'
    have hi':i<m.length:=by rw[zdx] at hi;exact hi
    refine⟨i,hi',?_⟩
    have h1:=zaD (fun r=>if r<m.length then (rowN m r).set k (vI right r) else []) [] m.length i hi'
    rw[if_pos hi'] at h1
    rw[←e,←h1]
    show (chk m right k m.length)[i]=(chk m right k m.length).getD i []
    simp[List.getD,List.getElem?_eq_getElem hi]
  have hm:=h.2 _ (zi4 h (by rw[←h.1];exact hi))
  refine⟨by rw[List.length_set];exact hm.1,fun x hx=>?_⟩
  rcases List.mem_or_eq_of_mem_set hx with hx|rfl
  · exact hm.2 x hx
  · exact hr i hi
theorem zdv {m right k}:(dets m right k).length=k:=zak _ _
theorem zeM {o:List Int} {k:Nat}:(negd o k).length=o.length:=zak _ _
theorem zk1 {o:List Int} {k:Nat} (h:k<o.length):(negd o k).getD k 0=vI o k:=by
  have:=zaD (fun j=>if j<k then -vI o j else vI o j) 0 o.length k h
  rw[if_neg (Nat.lt_irrefl k)] at this
  exact this
theorem zmY {o:List Int}:o=negd o 0:=by
  symm
  exact zkJ 0 rfl fun i hi=>if_neg (Nat.not_lt_zero i)
theorem zmZ {o:List Int} {k:Nat} (h:k<o.length):(negd o k).set k (-(negd o k).getD k 0)=negd o (k+1):=by
  rw[zk1 h]
  unfold negd
  rw[zjU]
  refine zgb _ fun j hj=>?_
  by_cases e:j=k
  · subst e;rw[if_pos rfl,if_pos (by omega)]
  · rw[if_neg e]
    by_cases h2:j<k
    · rw[if_pos h2,if_pos (by omega)]
    · rw[if_neg h2,if_neg (by omega)]
theorem znL {N:Nat} {m:List (List Int)} {right:List Int} (hN:N≤4) (hs:zcY N m) (hr:∀i,i<m.length→-2000≤vI right i∧vI right i≤2000) {i:Nat} (hi:i<m.length) : -400000000000000≤vI (dets m right m.length) i∧vI (dets m right m.length) i≤400000000000000:=by
  have e:vI (dets m right m.length) i=detA (chk m right i m.length):=zaD _ 0 _ i hi
  rw[e]
  exact zkw ⟨N,hN,zp2 hs hr⟩
theorem zhg:CfgOk Try.prog OB cfS:=znW (X:={}) trivial zp4
theorem zei {anns:List (St→LoopAnn)} {b:Code} {st0 target:St} {R:St→Prop} {a:Act} {M:Nat→Prop} {bs:List Nat} {w0 w:World} {Q:Exit→Act→World→Prop} {X:Prop} (hR:RelS (EH M bs w0 true) 75 st0 a w) (hd:zc4 75 b=true) (hnr:zaX b=true)
    (hvc:vc cfS (par cfS) anns b 0 st0 (fun e st=>match e with | .normal=>Goal (∃s:Unit,ent st target∧X) | .ret=>R st | _=>False))
    (hQ:∀a' w',X→RelS (EH M bs w0 true) 75 target a' w'→Q .normal a' w') (hQr:∀st a' w',R st→RelS (EH M bs w0 true) 75 st a' w'→Q .ret a' w'):b.wpIn (Fw none) 0 Try.prog Q a w:=by
  refine wpIn_mono (za9 zhg (zcB zed zhg) b 0 st0 _ a w (EH M bs w0 true) none rfl rfl (.inr hnr) hd hvc hR) ?_
  rintro e a' w' ⟨⟨xe,st',h1,h2,h3⟩,hag⟩
  subst h1
  cases xe with
  | normal=>
    obtain⟨_,h4,h5⟩:=h2.out
    exact hQ a' w' h5 (zbz h4 h3)
  | exit id=>exact h2.elim
  | ret=>exact hQr _ a' w' h2 h3
theorem zrx {M:Nat→Prop} {bs:List Nat} {w0 w:World} {a:Act} {st:St} {t:Nat} {v:Bool} (hR:RelS (EH M bs w0 true) 75 (.slot t (.one (.d .bool v))::st) a w) (ht:t<1000000):a.eval (.tmp t)=.bool v:=by
  obtain⟨η,g,H⟩:=hR
  have h:=H _ List.mem_cons_self
  simp only[Fact.holds] at h
  rw[zbh ht] at h
  obtain⟨l,h1,⟨h2,_⟩|⟨_,h2⟩⟩:=h
  · cases h2
  · have h1:l=[.bool v]:=h1
    rw[h1] at h2
    exact (List.cons.inj h2).1.symm
theorem zkU {E:Env} {nt:Nat} {f:Fact} {st:St} {a:Act} {w:World} (hR:RelS E nt (f::st) a w):RelS E nt st a w:=zie hR (fun g hg=>List.mem_cons_of_mem _ hg)
@[reducible] def zi2:Spec:={pats:=[.dat MatT,.dat (.sl I64)],res:=[{t:=.sl I64},{t:=I64},{t:=.bool}],pre:=fun x=>zjb x.1 x.2.1,f:=fun x=>zay x.1 x.2.1}
@[reducible] def stS (m:List (List Int)) (right:List Int):St:=[.slot 0 (.one (.d MatT m)),.slot 1 (.one (.d (.sl I64) right))]
@[reducible] def hdO (m:List (List Int)) (right:List Int) (k:Nat):St:=[sI 20 k,sI 19 m.length,sI 7 (detA m),.slot 8 (.one (.o 60008 (dets m right k).length)),.row 60008 3 I64 (dets m right k)]++stS m right
@[reducible] def hdI (m:List (List Int)) (right:List Int) (k i:Nat):St:=stB 60010 m (chk m right k i) right (dets m right k) (detA m) i k m.length
theorem vR0 (m:List (List Int)) (right:List Int):vc cfS (par cfS) [] R0 0 (stS m right) (fun e st=>match e with | .normal=>Goal (∃s:Unit,ent st (stS m right)∧True) | .ret=>False | _=>False):=by
  repeat' (intro hzz;(try (rename Two=>hq;cases hq));(try dsimp only at hzz);(try simp only[zad,zac,eqD,inR,big,zab,zB] at hzz);(try (revert hzz;intro _)))
  all_goals try (rename Unit=>hq;clear hq)
  all_goals try ((with_reducible refine Held.mk ?_);(with_reducible (first|refine Frz.mk ?_|refine And.intro (Frz.mk ?_) ?_|refine And.intro ?_ (Frz.mk ?_)));repeat' first|exact True.intro|(change _=_;with_reducible rfl)|refine And.intro ?_ ?_|(with_reducible refine Frz.mk ?_))
  all_goals try (refine Held.mk ?_;(try dsimp only at *);(try simp only[zad,zac,eqD,inR,big,zab,zB] at *))
  all_goals try omega
  ·
    refine zaq.mk ?_
    refine Exists.intro () ?_
    refine And.intro (Leaf.mk ?_) ?_
    · repeat' first|exact True.intro|refine And.intro ?_ ?_
      all_goals try ((change _=_<;>try dsimp only)<;>try with_reducible rfl)
      all_goals try omega
      all_goals (rfl)
    trivial
theorem vR1 (m:List (List Int)) (right:List Int) (h:zmQ m):vc cfS (par cfS) [] R1 0 (stS m right) (fun e st=>match e with | .normal=>Goal (∃s:Unit,ent st (sI 7 (detA m)::stS m right)∧True) | .ret=>False | _=>False):=by
  repeat' (intro hzz;(try (rename Two=>hq;cases hq));(try dsimp only at hzz);(try simp only[zad,zac,eqD,inR,big,zab,zB] at hzz);(try (revert hzz;intro _)))
  all_goals try (rename Unit=>hq;clear hq)
  all_goals try ((with_reducible refine Held.mk ?_);(with_reducible (first|refine Frz.mk ?_|refine And.intro (Frz.mk ?_) ?_|refine And.intro ?_ (Frz.mk ?_)));repeat' first|exact True.intro|(change _=_;with_reducible rfl)|refine And.intro ?_ ?_|(with_reducible refine Frz.mk ?_))
  all_goals try (refine Held.mk ?_;(try dsimp only at *);(try simp only[zad,zac,eqD,inR,big,zab,zB] at *))
  all_goals try omega
  all_goals try exact h
  ·
    refine zaq.mk ?_
    refine Exists.intro () ?_
    refine And.intro (Leaf.mk ?_) ?_
    · repeat' first|exact True.intro|refine And.intro ?_ ?_
      all_goals try ((change _=_<;>try dsimp only)<;>try with_reducible rfl)
      all_goals try omega
      all_goals (rfl)
    trivial
theorem vR2 (m:List (List Int)) (right:List Int):vc cfS (par cfS) [] R2C 0 (sI 7 (detA m)::stS m right) (fun e st=>match e with | .normal=>Goal (∃s:Unit,ent st (sI 7 (detA m)::stS m right)∧detA m≠0) | .ret=>zfT cfS Try.f73.results.toList zi2.res (zay m right) st | _=>False):=by
  repeat' (intro hzz;(try (rename Two=>hq;cases hq));(try dsimp only at hzz);(try simp only[zad,zac,eqD,inR,big,zab,zB] at hzz);(try (revert hzz;intro _)))
  all_goals try (rename Unit=>hq;clear hq)
  all_goals try ((with_reducible refine Held.mk ?_);(with_reducible (first|refine Frz.mk ?_|refine And.intro (Frz.mk ?_) ?_|refine And.intro ?_ (Frz.mk ?_)));repeat' first|exact True.intro|(change _=_;with_reducible rfl)|refine And.intro ?_ ?_|(with_reducible refine Frz.mk ?_))
  all_goals try (refine Held.mk ?_;(try dsimp only at *);(try simp only[zad,zac,eqD,inR,big,zab,zB] at *))
  all_goals try omega
  · rename_i h
    have e:zay m right=([],0,false,()):=if_pos h
    rw[e];exact⟨rfl,rfl,rfl⟩
  · rename_i h
    refine zaq.mk ?_
    refine Exists.intro () ?_
    refine And.intro (Leaf.mk ?_) ?_
    · repeat' first|exact True.intro|refine And.intro ?_ ?_
      all_goals try ((change _=_<;>try dsimp only)<;>try with_reducible rfl)
      all_goals try omega
      all_goals (rfl)
    exact h
theorem vR45 (m:List (List Int)) (right:List Int):vc cfS (par cfS) [] (.seq R4 R5) 0 (sI 7 (detA m)::stS m right) (fun e st=>match e with | .normal=>Goal (∃s:Unit,ent st (hdO m right 0)∧True) | .ret=>False | _=>False):=by
  repeat' (intro hzz;(try (rename Two=>hq;cases hq));(try dsimp only at hzz);(try simp only[zad,zac,eqD,inR,big,zab,zB] at hzz);(try (revert hzz;intro _)))
  all_goals try (rename Unit=>hq;clear hq)
  all_goals try ((with_reducible refine Held.mk ?_);(with_reducible (first|refine Frz.mk ?_|refine And.intro (Frz.mk ?_) ?_|refine And.intro ?_ (Frz.mk ?_)));repeat' first|exact True.intro|(change _=_;with_reducible rfl)|refine And.intro ?_ ?_|(with_reducible refine Frz.mk ?_))
  all_goals try (refine Held.mk ?_;(try dsimp only at *);(try simp only[zad,zac,eqD,inR,big,zab,zB] at *))
  all_goals try omega
  ·
    refine zaq.mk ?_
    refine Exists.intro () ?_
    refine And.intro (Leaf.mk ?_) ?_
    · repeat' first|exact True.intro|refine And.intro ?_ ?_
      all_goals try ((change _=_<;>try dsimp only)<;>try with_reducible rfl)
      all_goals try omega
      all_goals (rfl)
    trivial
theorem vR6 (m:List (List Int)) (right:List Int) (k:Nat):vc cfS (par cfS) [] R6 0 (hdO m right k) (fun e st=>match e with | .normal=>Goal (∃s:Unit,ent st (.slot 21 (.one (.d .bool (decide ((k:Int)<(m.length:Int)))))::hdO m right k)∧True) | .ret=>False | _=>False):=by
  repeat' (intro hzz;(try (rename Two=>hq;cases hq));(try dsimp only at hzz);(try simp only[zad,zac,eqD,inR,big,zab,zB] at hzz);(try (revert hzz;intro _)))
  all_goals try (rename Unit=>hq;clear hq)
  all_goals try ((with_reducible refine Held.mk ?_);(with_reducible (first|refine Frz.mk ?_|refine And.intro (Frz.mk ?_) ?_|refine And.intro ?_ (Frz.mk ?_)));repeat' first|exact True.intro|(change _=_;with_reducible rfl)|refine And.intro ?_ ?_|(with_reducible refine Frz.mk ?_))
  all_goals try (refine Held.mk ?_;(try dsimp only at *);(try simp only[zad,zac,eqD,inR,big,zab,zB] at *))
  all_goals try omega
  ·
    refine zaq.mk ?_
    refine Exists.intro () ?_
    refine And.intro (Leaf.mk ?_) ?_
    · repeat' first|exact True.intro|refine And.intro ?_ ?_
      all_goals try ((change _=_<;>try dsimp only)<;>try with_reducible rfl)
      all_goals try omega
      all_goals (rfl)
    trivial
theorem zsU (m:List (List Int)) (right:List Int) (k:Nat) (hm:m.length≤4):vc cfS (par cfS) [] (.seq R7 (.seq R8 R9)) 0 (hdO m right k) (fun e st=>match e with | .normal=>Goal (∃s:Unit,ent st (hdI m right k 0)∧True) | .ret=>False | _=>False):=by
  have e0:=@zpe m right k
  repeat' (intro hzz;(try (rename Two=>hq;cases hq));(try dsimp only at hzz);(try simp only[zad,zac,eqD,inR,big,zab,zB] at hzz);(try (revert hzz;intro _)))
  all_goals try (rename Unit=>hq;clear hq)
  all_goals try ((with_reducible refine Held.mk ?_);(with_reducible (first|refine Frz.mk ?_|refine And.intro (Frz.mk ?_) ?_|refine And.intro ?_ (Frz.mk ?_)));repeat' first|exact True.intro|(change _=_;with_reducible rfl)|refine And.intro ?_ ?_|(with_reducible refine Frz.mk ?_))
  all_goals try (refine Held.mk ?_;(try dsimp only at *);(try simp only[zad,zac,eqD,inR,big,zab,zB] at *))
  all_goals try omega
  ·
    refine zaq.mk ?_
    refine Exists.intro () ?_
    refine And.intro (Leaf.mk ?_) ?_
    · repeat' first|exact True.intro|refine And.intro ?_ ?_
      all_goals try ((change _=_<;>try dsimp only)<;>try with_reducible rfl)
      all_goals try omega
      all_goals (first|rfl|exact e0.symm|exact e0|(rw[←e0,zdx]))
    trivial
theorem vR10 (m:List (List Int)) (right:List Int) (k i:Nat):vc cfS (par cfS) [] R10 0 (hdI m right k i) (fun e st=>match e with | .normal=>Goal (∃s:Unit,ent st (.slot 29 (.one (.d .bool (decide ((i:Int)<(m.length:Int)))))::hdI m right k i)∧True) | .ret=>False | _=>False):=by
  repeat' (intro hzz;(try (rename Two=>hq;cases hq));(try dsimp only at hzz);(try simp only[zad,zac,eqD,inR,big,zab,zB] at hzz);(try (revert hzz;intro _)))
  all_goals try (rename Unit=>hq;clear hq)
  all_goals try ((with_reducible refine Held.mk ?_);(with_reducible (first|refine Frz.mk ?_|refine And.intro (Frz.mk ?_) ?_|refine And.intro ?_ (Frz.mk ?_)));repeat' first|exact True.intro|(change _=_;with_reducible rfl)|refine And.intro ?_ ?_|(with_reducible refine Frz.mk ?_))
  all_goals try (refine Held.mk ?_;(try dsimp only at *);(try simp only[zad,zac,eqD,inR,big,zab,zB] at *))
  all_goals try omega
  ·
    refine zaq.mk ?_
    refine Exists.intro () ?_
    refine And.intro (Leaf.mk ?_) ?_
    · repeat' first|exact True.intro|refine And.intro ?_ ?_
      all_goals try ((change _=_<;>try dsimp only)<;>try with_reducible rfl)
      all_goals try omega
      all_goals (rfl)
    trivial
theorem vR11 (m:List (List Int)) (right:List Int) (k i:Nat) (hi:i<m.length) (hrow:(rowN m i).length≤4):vc cfS (par cfS) [] R11 0 (hdI m right k i) (fun e st=>match e with | .normal=>zdD cfS zg8.toArray (zg8.take 4) st (fun st=>Goal (∃s:Unit,ent st (stA 60010 m (chk m right k i) right (rowN m i) (dets m right k) (detA m) i k m.length)∧True)) | _=>False):=by
  repeat' (intro hzz;(try (rename Two=>hq;cases hq));(try dsimp only at hzz);(try simp only[zad,zac,eqD,inR,big,zab,zB] at hzz);(try simp only[zad,zac,eqD,inR,big,zab,zB,zbO] at hzz);(try (revert hzz;intro _)))
  all_goals try (rename Unit=>hq;clear hq)
  all_goals try ((with_reducible refine Held.mk ?_);(with_reducible (first|refine Frz.mk ?_|refine And.intro (Frz.mk ?_) ?_|refine And.intro ?_ (Frz.mk ?_)));repeat' first|exact True.intro|(change _=_;with_reducible rfl)|refine And.intro ?_ ?_|(with_reducible refine Frz.mk ?_))
  all_goals try (refine Held.mk ?_;(try dsimp only at *);(try simp only[zad,zac,eqD,inR,big,zab,zB] at *);(try simp only[zad,zac,eqD,inR,big,zab,zB,zbO] at *))
  all_goals try omega
  · show (rowN m i).length≤2000000000
    omega
  ·
    refine zaq.mk ?_
    refine Exists.intro () ?_
    refine And.intro (Leaf.mk ?_) ?_
    · repeat' first|exact True.intro|refine And.intro ?_ ?_
      all_goals try ((change _=_<;>try dsimp only)<;>try with_reducible rfl)
      all_goals try omega
      all_goals (rfl)
    trivial
theorem vR14 (m:List (List Int)) (right:List Int) (k i:Nat) (hi:i<m.length) (hm:m.length≤4):vc cfS (par cfS) [] R14 0 (stB 60010 m (chk m right k (i+1)) right (dets m right k) (detA m) i k m.length) (fun e st=>match e with | .normal=>Goal (∃s:Unit,ent st (hdI m right k (i+1))∧True) | .ret=>False | _=>False):=by
  repeat' (intro hzz;(try (rename Two=>hq;cases hq));(try dsimp only at hzz);(try simp only[zad,zac,eqD,inR,big,zab,zB] at hzz);(try (revert hzz;intro _)))
  all_goals try (rename Unit=>hq;clear hq)
  all_goals try ((with_reducible refine Held.mk ?_);(with_reducible (first|refine Frz.mk ?_|refine And.intro (Frz.mk ?_) ?_|refine And.intro ?_ (Frz.mk ?_)));repeat' first|exact True.intro|(change _=_;with_reducible rfl)|refine And.intro ?_ ?_|(with_reducible refine Frz.mk ?_))
  all_goals try (refine Held.mk ?_;(try dsimp only at *);(try simp only[zad,zac,eqD,inR,big,zab,zB] at *))
  all_goals try omega
  ·
    refine zaq.mk ?_
    refine Exists.intro () ?_
    refine And.intro (Leaf.mk ?_) ?_
    · repeat' first|exact True.intro|refine And.intro ?_ ?_
      all_goals try ((change _=_<;>try dsimp only)<;>try with_reducible rfl)
      all_goals try omega
      all_goals (rfl)
    trivial
theorem vR15 (m:List (List Int)) (right:List Int) (k i:Nat) (hm:m.length≤4) (hk:k≤4) (hd:zmQ (chk m right k m.length)):vc cfS (par cfS) [] R15 0 (hdI m right k m.length) (fun e st=>match e with | .normal=>Goal (∃s:Unit,ent st ([sI 20 k,sI 19 m.length,sI 7 (detA m),.slot 8 (.one (.o 60008 (dets m right (k+1)).length)),.row 60008 3 I64 (dets m right (k+1))]++stS m right)∧True) | .ret=>False | _=>False):=by
  repeat' (intro hzz;(try (rename Two=>hq;cases hq));(try dsimp only at hzz);(try simp only[zad,zac,eqD,inR,big,zab,zB] at hzz);(try (revert hzz;intro _)))
  all_goals try (rename Unit=>hq;clear hq)
  all_goals try ((with_reducible refine Held.mk ?_);(with_reducible (first|refine Frz.mk ?_|refine And.intro (Frz.mk ?_) ?_|refine And.intro ?_ (Frz.mk ?_)));repeat' first|exact True.intro|(change _=_;with_reducible rfl)|refine And.intro ?_ ?_|(with_reducible refine Frz.mk ?_))
  all_goals try (refine Held.mk ?_;(try dsimp only at *);(try simp only[zad,zac,eqD,inR,big,zab,zB] at *))
  all_goals try omega
  · exact zdx.symm
  · exact zdx.symm
  · rw[zdv];show k+1≤2147483648;omega
  ·
    refine zaq.mk ?_
    refine Exists.intro () ?_
    refine And.intro (Leaf.mk ?_) ?_
    · repeat' first|exact True.intro|refine And.intro ?_ ?_
      all_goals try ((change _=_<;>try dsimp only)<;>try with_reducible rfl)
      all_goals try omega
      all_goals (rfl)
    trivial
theorem vR16 (m:List (List Int)) (right:List Int) (k i:Nat) (hm:m.length≤4) (hk:k≤4):vc cfS (par cfS) [] R16 0 ([sI 20 k,sI 19 m.length,sI 7 (detA m),.slot 8 (.one (.o 60008 (dets m right (k+1)).length)),.row 60008 3 I64 (dets m right (k+1))]++stS m right) (fun e st=>match e with | .normal=>Goal (∃s:Unit,ent st (hdO m right (k+1))∧True) | .ret=>False | _=>False):=by
  repeat' (intro hzz;(try (rename Two=>hq;cases hq));(try dsimp only at hzz);(try simp only[zad,zac,eqD,inR,big,zab,zB] at hzz);(try (revert hzz;intro _)))
  all_goals try (rename Unit=>hq;clear hq)
  all_goals try ((with_reducible refine Held.mk ?_);(with_reducible (first|refine Frz.mk ?_|refine And.intro (Frz.mk ?_) ?_|refine And.intro ?_ (Frz.mk ?_)));repeat' first|exact True.intro|(change _=_;with_reducible rfl)|refine And.intro ?_ ?_|(with_reducible refine Frz.mk ?_))
  all_goals try (refine Held.mk ?_;(try dsimp only at *);(try simp only[zad,zac,eqD,inR,big,zab,zB] at *))
  all_goals try omega
  ·
    refine zaq.mk ?_
    refine Exists.intro () ?_
    refine And.intro (Leaf.mk ?_) ?_
    · repeat' first|exact True.intro|refine And.intro ?_ ?_
      all_goals try ((change _=_<;>try dsimp only)<;>try with_reducible rfl)
      all_goals try omega
      all_goals (rfl)
    trivial
def zpR (o:List Int):LoopAnn:={σ:=Nat,pat:=fun k=>[sI 61 k,.slot 8 (.one (.o 60008 o.length)),.row 60008 3 I64 (negd o k)],inv:=fun k=>k≤o.length,meas:=fun k=>o.length - k}
theorem vTL (m:List (List Int)) (right:List Int) (hm:m.length≤4) (hd:detA m≠0) (hb : -400000000000000≤detA m∧detA m≤400000000000000) (ho:∀i,i<m.length→-400000000000000≤vI (dets m right m.length) i∧vI (dets m right m.length) i≤400000000000000):vc cfS (par cfS) [fun _=>zpR (dets m right m.length)] TL 0 (hdO m right m.length) (fun e st=>match e with | .ret | .normal=>zfT cfS Try.f73.results.toList zi2.res (zay m right) st | _=>False):=by
  have el:(dets m right m.length).length=m.length:=zdv
  obtain⟨O,hO⟩:∃O,dets m right m.length=O:=⟨_,rfl⟩
  have e3:detA m<0→zay m right=(negd O m.length,-detA m,true,()):=fun h=>by
    unfold zay;rw[if_neg hd,if_pos h,hO]
  have e4:0≤detA m→zay m right=(O,detA m,true,()):=fun h=>by
    unfold zay;rw[if_neg hd,if_neg (by omega),hO]
  rw[hO] at el ho
  show vc cfS (par cfS) [fun _=>zpR (dets m right m.length)] TL 0 ([sI 20 m.length,sI 19 m.length,sI 7 (detA m),.slot 8 (.one (.o 60008 (dets m right m.length).length)),.row 60008 3 I64 (dets m right m.length)]++stS m right) _
  rw[hO]
  repeat' (intro hzz;(try (rename Two=>hq;cases hq));(try dsimp only at hzz);(try simp only[zad,zac,eqD,inR,big,zab,zB] at hzz);(try simp only[zad,zac,eqD,inR,big,zab,zB,zaP] at hzz);(try (revert hzz;intro _)))
  all_goals try (rename Unit=>hq;clear hq)
  all_goals try ((with_reducible refine Held.mk ?_);(with_reducible (first|refine Frz.mk ?_|refine And.intro (Frz.mk ?_) ?_|refine And.intro ?_ (Frz.mk ?_)));repeat' first|exact True.intro|(change _=_;with_reducible rfl)|refine And.intro ?_ ?_|(with_reducible refine Frz.mk ?_))
  all_goals try (refine Held.mk ?_;(try dsimp only at *);(try simp only[zad,zac,eqD,inR,big,zab,zB] at *);(try simp only[zad,zac,eqD,inR,big,zab,zB,zaP] at *))
  all_goals try omega
  · rename_i h
    refine zaq.mk ?_
    refine Exists.intro (0:Nat) ?_
    refine And.intro (Leaf.mk ?_) ?_
    · repeat' first|exact True.intro|refine And.intro ?_ ?_
      all_goals try ((change _=_<;>try dsimp only)<;>try with_reducible rfl)
      all_goals try omega
      all_goals (first|rfl|exact zmY)
    exact Nat.zero_le _
  · rename_i h k hk hg
    rw[zeM];omega
  · rename_i h k hk hg
    rw[zk1 (by omega)]
    have:=ho k (by omega)
    omega
  · rename_i h k hk hg
    rw[zeM];omega
  · rename_i h k hk hg
    refine zaq.mk ?_
    refine Exists.intro (k+1) ?_
    refine And.intro (Leaf.mk ?_) ?_
    · repeat' first|exact True.intro|refine And.intro ?_ ?_
      all_goals try ((change _=_<;>try dsimp only)<;>try with_reducible rfl)
      all_goals try omega
      all_goals (first|rfl|exact zmZ (by omega)|(rw[List.length_set,zeM]))
    exact⟨by show k+1≤O.length;omega,by show O.length - (k+1)<O.length - k;omega⟩
  all_goals try (exact zeM.symm)
  · rename_i h k hk hg
    rw[e3 h,show m.length=k by omega];exact⟨rfl,rfl,rfl⟩
  · rename_i h
    rw[e4 h];exact⟨rfl,rfl,rfl⟩
theorem zr6:r12=.region 12 zg8.toArray false:=rfl
theorem zmO {anns:List (St→LoopAnn)} {x y:Code} {st0 target:St} {a:Act} {M:Nat→Prop} {bs:List Nat} {w0 w:World} {Q:Exit→Act→World→Prop} {X:Prop} (hR:RelS (EH M bs w0 true) 75 st0 a w) (hd:zc4 75 x=true) (hnr:zaX x=true) (hnl:zcC x=0)
    (hvc:vc cfS (par cfS) anns (.seq x y) 0 st0 (fun e st=>match e with | .normal=>Goal (∃s:Unit,ent st target∧X) | .ret=>False | _=>False))
    (hQ:∀st a' w',vc cfS (par cfS) anns y 0 st (fun e st=>match e with | .normal=>Goal (∃s:Unit,ent st target∧X) | .ret=>False | _=>False)→RelS (EH M bs w0 true) 75 st a' w'→Q .normal a' w'):x.wpIn (Fw none) 0 Try.prog Q a w:=by
  refine wpIn_mono (za9 zhg (zcB zed zhg) x 0 st0 _ a w (EH M bs w0 true) none rfl rfl (.inr hnr) hd hvc hR) ?_
  rintro e a' w' ⟨⟨xe,st',h1,h2,h3⟩,hag⟩
  subst h1
  cases xe with
  | normal=>
    simp only[zbF,hnl] at h2
    exact hQ st' a' w' h2 h3
  | exit id=>exact h2.elim
  | ret=>exact h2.elim
theorem zsa {anns:List (St→LoopAnn)} {x:Code} {st0:St} {V:St→Prop} {a:Act} {M:Nat→Prop} {bs:List Nat} {w0 w:World} {Q:Exit→Act→World→Prop} (hR:RelS (EH M bs w0 true) 75 st0 a w) (hd:zc4 75 x=true) (hnr:zaX x=true)
    (hvc:vc cfS (par cfS) anns x 0 st0 (fun e st=>match e with | .normal=>V st | _=>False))
    (hQ:∀st a' w',V st→RelS (EH M bs w0 true) 75 st a' w'→Q .normal a' w'):x.wpIn (Fw none) 0 Try.prog Q a w:=by
  refine wpIn_mono (za9 zhg (zcB zed zhg) x 0 st0 _ a w (EH M bs w0 true) none rfl rfl (.inr hnr) hd hvc hR) ?_
  rintro e a' w' ⟨⟨xe,st',h1,h2,h3⟩,hag⟩
  subst h1
  cases xe with
  | normal=>exact hQ st' a' w' h2 h3
  | exit id=>exact h2.elim
  | ret=>exact h2.elim
theorem zqB {ops:Array Oper} {l:List Oper} {st0 target:St} {a:Act} {M:Nat→Prop} {bs:List Nat} {w0 w:World} {Q:Exit→Act→World→Prop} (hR:RelS (EH M bs w0 true) 75 st0 a w)
    (hsub:∀o∈l,o∈ops.toList) (hdst:∀o∈ops.toList,∀t,o.dst=some t→t<75)
    (hvc:zdD cfS ops l st0 (fun st=>Goal (∃s:Unit,ent st target∧True)))
    (hQ:∀a' w',RelS (EH M bs w0 true) 75 target a' w'→Q .normal a' w'):wpListIn (Fw none) 0 Try.prog ops Q l a w:=by
  refine zdR ?_ l a w (zb9 (E:=EH M bs w0 true) (c:=cfS) (ro:=none) (q:=0) zhg (ops:=ops) (Q:=fun e a' w'=>e=.normal∧RelS (EH M bs w0 true) 75 target a' w') hdst l hsub st0 _ a w hvc hR ?_)
  · rintro e a' w' ⟨rfl,h1⟩
    exact hQ a' w' h1
  · intro st' a' w' h1 h2
    obtain⟨_,h4,_⟩:=h1.out
    exact⟨rfl,zbz h4 h2⟩
theorem zss:Ok 73 zi2:=by
  refine⟨zny (c:=cfS) zhg Try.func73 zq1 rfl (by decide) (by decide) (by decide) rfl ?_,Try.f73,Try.func73,by kernel_rfl,by kernel_rfl⟩
  rintro⟨(m:List (List Int)),(right:List Int),_⟩ ⟨⟨N,hN,hs⟩,(hrl:right.length=m.length),(hrb:∀i,i<m.length→-2000≤vI right i∧vI right i≤2000)⟩ M bs w0 a hd hR
  have hml:m.length=N:=hs.1
  have hdet:zmQ m:=⟨N,hN,hs⟩
  have hrow:∀i,i<m.length→(rowN m i).length=N:=fun i hi=>(hs.2 _ (zi4 hs (by omega))).1
  have hR:RelS (EH M bs w0 true) 75 (stS m right) a w0:=zsl hR hd
  refine wpIn_seq (zei (X:=True) (R:=fun _=>False) hR (by kernel_rfl) (by kernel_rfl) (vR0 m right) (fun a1 w1 _ hR1=>?_) (fun _ _ _ h=>h.elim))
  refine wpIn_seq (zei (X:=True) (R:=fun _=>False) hR1 (by kernel_rfl) (by kernel_rfl) (vR1 m right hdet) (fun a2 w2 _ hR2=>?_) (fun _ _ _ h=>h.elim))
  refine wpIn_seq (zei (R:=zfT cfS Try.f73.results.toList zi2.res (zay m right)) hR2 (by kernel_rfl) (by kernel_rfl) (vR2 m right) (fun a3 w3 hne hR3=>?_) (fun st a' w' h h2=>⟨.ret,st,rfl,h,(zm4 h2).1⟩))
  have noR:∀(st:St) (a':Act) (w':World),False→RelS (EH M bs w0 true) 75 st a' w'→False:=fun _ _ _ h _=>h
  refine wpIn_seq (zmO (X:=True) hR3 (by kernel_rfl) (by kernel_rfl) (by kernel_rfl) (vR45 m right) (fun st4 a4 w4 hv4 hR4=>?_))
  refine wpIn_seq (wpIn_seq (zei (X:=True) (R:=fun _=>False) hR4 (by kernel_rfl) (by kernel_rfl) hv4 (fun a5 w5 _ hR5=>?_) (fun _ _ _ h=>h.elim)))
  refine wpIn_block (zdc (fun n a w=>∃k,k≤m.length∧n=m.length - k∧RelS (EH M bs w0 true) 75 (hdO m right k) a w) ⟨0,Nat.zero_le _,rfl,hR5⟩ ?_)
  rintro n a w ⟨k,hk,rfl,hR⟩
  refine wpIn_seq (zei (X:=True) (R:=fun _=>False) hR (by kernel_rfl) (by kernel_rfl) (vR6 m right k) (fun a1 w1 _ hR1=>?_) (fun _ _ _ h=>h.elim))
  have hb:=zrx hR1 (by decide)
  have hR1:=zkU hR1
  by_cases hlt:k<m.length
  · rw [decide_eq_true (by omega)] at hb
    refine wpIn_seq (wpIn_cond_true hb (wpIn_skip ?_))
    change Code.wpIn (Fw none) 0 Try.prog _ _ a1 w1
    refine wpIn_seq (wpIn_block (wpIn_seq (zmO (X:=True) hR1 (by kernel_rfl) (by kernel_rfl) (by kernel_rfl) (zsU m right k (by omega)) (fun st2 a2 w2 hv2 hR2=>?_))))
    refine wpIn_seq (zmO (X:=True) hR2 (by kernel_rfl) (by kernel_rfl) (by kernel_rfl) hv2 (fun st3 a3 w3 hv3 hR3=>?_))
    refine wpIn_seq (wpIn_seq (zei (X:=True) (R:=fun _=>False) hR3 (by kernel_rfl) (by kernel_rfl) hv3 (fun a4 w4 _ hR4=>?_) (fun _ _ _ h=>h.elim)))
    refine wpIn_block (zdc (fun n a w=>∃i,i≤m.length∧n=m.length - i∧RelS (EH M bs w0 true) 75 (hdI m right k i) a w) ⟨0,Nat.zero_le _,rfl,hR4⟩ ?_)
    rintro n a w ⟨i,hi,rfl,hR⟩
    refine wpIn_seq (zei (X:=True) (R:=fun _=>False) hR (by kernel_rfl) (by kernel_rfl) (vR10 m right k i) (fun a1 w1 _ hR1=>?_) (fun _ _ _ h=>h.elim))
    have hb:=zrx hR1 (by decide)
    have hR1:=zkU hR1
    by_cases hit:i<m.length
    · rw [decide_eq_true (by omega)] at hb
      refine wpIn_seq (wpIn_cond_true hb (wpIn_skip ?_))
      change Code.wpIn (Fw none) 0 Try.prog _ _ a1 w1
      refine wpIn_seq (wpIn_block (wpIn_seq (zsa hR1 (by kernel_rfl) (by kernel_rfl) (vR11 m right k i hit (by rw[hrow i hit];exact hN)) (fun st2 a2 w2 hv2 hR2=>?_))))
      refine wpIn_seq ?_
      rw[zr6]
      refine wpIn_region_list ?_
      change wpListIn (Fw none) 0 Try.prog _ _ (zg8.take 4++zg8.drop 4) a2 w2
      refine zf2 _ _ _ (zqB hR2 ?_ ?_ hv2 fun a3 w3 hR3=>?_)
      · exact fun o ho=>by
          change o∈zg8
          exact List.mem_of_mem_take ho
      · intro o ho t ht
        change o∈zg8 at ho
        have hall:(zg8.all fun o=>match o.dst with|some t=>Nat.blt t 75|none=>true)=true:=by kernel_rfl
        have:=List.all_eq_true.1 hall o ho
        rw[ht] at this
        exact Nat.le_of_ble_eq_true this
      · have hn:=nest (Q:=fun e a w=>e=.normal∧RelS (EH M bs w0 true) 75 (stB 60010 m (chk m right k (i+1)) right (dets m right k) (detA m) i k m.length) a w) hR3 hit zdx (by omega) (by rw[hrow i hit];omega) (fun a' w' h=>by
          rw[zpf hit] at h
          exact⟨rfl,h⟩)
        refine zdR ?_ _ _ _ hn
        rintro e a4 w4 h
        cases e with
        | normal=>
          refine wpIn_mono h ?_
          rintro e a5 w5 ⟨rfl,hR4⟩
          change Code.wpIn (Fw none) 0 Try.prog R14 _ a5 w5
          refine zei (X:=True) (R:=fun _=>False) hR4 (by kernel_rfl) (by kernel_rfl) (vR14 m right k i hit (by omega)) (fun a5 w5 _ hR5=>?_) (fun _ _ _ h=>h.elim)
          exact⟨m.length - (i+1),by omega,i+1,hit,rfl,hR5⟩
        | _=>exact absurd h.1 (by intro h;cases h)
    · rw[decide_eq_false (by omega)] at hb
      refine wpIn_seq (wpIn_cond_false hb (wpIn_exit ?_))
      have e:i=m.length:=by omega
      subst e
      change Code.wpIn (Fw none) 0 Try.prog R15 _ a1 w1
      refine zei (X:=True) (R:=fun _=>False) hR1 (by kernel_rfl) (by kernel_rfl) (vR15 m right k 0 (by omega) (by omega) ⟨N,hN,zp2 hs hrb⟩) (fun a2 w2 _ hR2=>?_) (fun _ _ _ h=>h.elim)
      change Code.wpIn (Fw none) 0 Try.prog R16 _ a2 w2
      refine zei (X:=True) (R:=fun _=>False) hR2 (by kernel_rfl) (by kernel_rfl) (vR16 m right k 0 (by omega) (by omega)) (fun a3 w3 _ hR3=>?_) (fun _ _ _ h=>h.elim)
      exact⟨m.length - (k+1),by omega,k+1,hlt,rfl,hR3⟩
  · rw[decide_eq_false (by omega)] at hb
    refine wpIn_seq (wpIn_cond_false hb (wpIn_exit ?_))
    have e:k=m.length:=by omega
    subst e
    change Code.wpIn (Fw none) 0 Try.prog TL _ a1 w1
    refine wpIn_mono (za9 zhg (zcB zed zhg) TL 0 _ _ a1 w1 (EH M bs w0 true) none rfl rfl (.inr (by kernel_rfl)) (by kernel_rfl) (vTL m right (by omega) hne (zkw hdet) (fun i hi=>znL hN hs hrb hi)) hR1) ?_
    rintro e a' w' ⟨⟨xe,st',h1,h2,h3⟩,_⟩
    exact⟨xe,st',h1,h2,(zm4 h3).1⟩
set_option maxHeartbeats 8000000
abbrev BndD:Type:=zhY.Den
def lowB (row:List Int):BndD:=(tab (fun j=>-vI row j) row.length++[1],0,())
def zlE (cap:Int) (row:List Int):BndD:=(row++[0],cap,())
def zly (n:Nat) (j:Nat):BndD:=(zbu (n+1:Int) (j:Int) 1,1,())
def zlo (n:Nat) (j:Nat):BndD:=(zbu (n+1:Int) (j:Int) (-1),0,())
abbrev zjm (t:List (List Int)) (k:Nat):List BndD:=tab (fun i=>lowB (rowN t i)) k
abbrev zc3 (t:List (List Int)) (cap:Int) (k:Nat):List BndD:=zjm t t.length++tab (fun i=>zlE cap (rowN t i)) k
abbrev zcM (t:List (List Int)) (cap:Int) (k:Nat):List BndD:=zc3 t cap t.length++tab (zly (ncol t)) k
abbrev zc9 (t:List (List Int)) (cap:Int) (k:Nat):List BndD:=zcM t cap (ncol t)++tab (zlo (ncol t)) k
@[reducible] def zrC:Spec:={pats:=[.dat zhh],res:=[{t:=ziP}],pre:=fun x=>goodT x.1.1 x.1.2.1,f:=fun x=>(((List.length (α:=List Int) x.1.1:Int),(ncol x.1.1:Int),zc9 x.1.1 x.1.2.1 (ncol x.1.1),()),())}
abbrev cB3 (t:List (List Int)) (xs:List BndD):St:=[cI 3 0 t.length,cI 3 1 (ncol t),.cell 3 2 (.o 60032 xs.length),.row 60032 123 zhY xs]
def pA1 (t:List (List Int)):LoopAnn:={σ:=Nat,pat:=fun k=>sI 25 k::cB3 t (zjm t k),inv:=fun k=>k≤t.length,meas:=fun k=>t.length - k}
def pA2 (st:St):LoopAnn:=zsS 30 st fun row=>{σ:=Nat,pat:=fun j=>sI 32 j::.slot 29 (.one .u)::sOwn 6 29 3 (tab (fun j=>-vI row j) j),inv:=fun j=>j≤row.length,meas:=fun j=>row.length - j}
def pA3 (t:List (List Int)) (cap:Int):LoopAnn:={σ:=Nat,pat:=fun k=>sI 55 k::cB3 t (zc3 t cap k),inv:=fun k=>k≤t.length,meas:=fun k=>t.length - k}
def pA4 (t:List (List Int)) (cap:Int):LoopAnn:={σ:=Nat,pat:=fun k=>sI 74 k::cB3 t (zcM t cap k),inv:=fun k=>k≤ncol t,meas:=fun k=>ncol t - k}
def pA5 (t:List (List Int)) (cap:Int):LoopAnn:={σ:=Nat,pat:=fun k=>sI 91 k::cB3 t (zc9 t cap k),inv:=fun k=>k≤ncol t,meas:=fun k=>ncol t - k}
theorem h142:Ok 45 zrC:=by
  refine mk (ctr:=[(48,zfI),(62,zqj)]) ⟨h145,h162,trivial⟩ (nt:=107) Try.func45 rfl rfl rfl rfl (by kernel_rfl) (by kernel_rfl) (fun x=>[fun _=>pA1 x.1.1,pA2,fun _=>pA3 x.1.1 x.1.2.1,fun _=>pA4 x.1.1 x.1.2.1,fun _=>pA5 x.1.1 x.1.2.1]) ?_
  rintro⟨⟨(t:List (List Int)),(cap:Int),_⟩,_⟩ h
  obtain⟨(h1:0<t.length),(h2:t.length≤4),(h3:0<ncol t),(h4:ncol t≤3),(h5:∀i,i<t.length→(rowN t i).length=ncol t),(h6:∀i j,i<t.length→j<ncol t→0≤vI (rowN t i) j∧vI (rowN t i) j≤100),(h7:0≤cap∧cap≤1000)⟩:=(h:goodT t cap)
  repeat' (intro hzz;(try (rename Two=>hq;cases hq));(try dsimp only at hzz);(try simp only[zad,zac,eqD,inR,big,zab,zB] at hzz);(try simp only[zad,zac,eqD,inR,big,zab,zB,zbO,zaP,zcl,zdS,zdT,Int.toNat_natCast,zak,zcu,List.length_append] at hzz);(try (revert hzz;intro _)))
  all_goals try (rename Unit=>hq;clear hq)
  all_goals try ((with_reducible refine Held.mk ?_);(with_reducible (first|refine Frz.mk ?_|refine And.intro (Frz.mk ?_) ?_|refine And.intro ?_ (Frz.mk ?_)));repeat' first|exact True.intro|(change _=_;with_reducible rfl)|refine And.intro ?_ ?_|(with_reducible refine Frz.mk ?_))
  all_goals try (refine Held.mk ?_;(try dsimp only at *);(try simp only[zad,zac,eqD,inR,big,zab,zB] at *);(try simp only[zad,zac,eqD,inR,big,zab,zB,zbO,zaP,zcl,zdS,zdT,Int.toNat_natCast,zak,zcu,List.length_append] at *))
  all_goals try omega
  ·
    refine zaq.mk ?_
    refine Exists.intro (0:Nat) ?_
    refine And.intro (Leaf.mk ?_) ?_
    · repeat' first|exact True.intro|refine And.intro ?_ ?_
      all_goals try ((change _=_<;>try dsimp only)<;>try with_reducible rfl)
      all_goals try omega
      all_goals (rfl)
    exact Nat.zero_le _
  · rename_i k hk hg
    refine zaq.mk ?_
    refine Exists.intro (0:Nat) ?_
    refine And.intro (Leaf.mk ?_) ?_
    · repeat' first|exact True.intro|refine And.intro ?_ ?_
      all_goals try ((change _=_<;>try dsimp only)<;>try with_reducible rfl)
      all_goals try omega
      all_goals (rfl)
    exact Nat.zero_le _
  · rename_i k hk hg j hj hl
    have hl0:(rowN t k).length=ncol t:=h5 k (by omega)
    have:=h6 k j (by omega) (by have:(rowN t k).length=(t.getD k []).length:=rfl;omega)
    show -9223372036854775808≤-vI (rowN t k) j∧-vI (rowN t k) j≤9223372036854775807
    omega
  · rename_i k hk hg j hj hl
    have hl0:(t.getD k []).length=ncol t:=h5 k (by omega)
    show j+1≤2147483648;omega
  · rename_i k hk hg j hj hl
    have hl0:(t.getD k []).length=ncol t:=h5 k (by omega)
    omega
  · rename_i k hk hg j hj hl
    refine zaq.mk ?_
    refine Exists.intro (j+1) ?_
    refine And.intro (Leaf.mk ?_) ?_
    · repeat' first|exact True.intro|refine And.intro ?_ ?_
      all_goals try ((change _=_<;>try dsimp only)<;>try with_reducible rfl)
      all_goals try omega
      all_goals (rfl)
    exact⟨by show j+1≤(t.getD k []).length;omega,by show (t.getD k []).length - (j+1)<(t.getD k []).length - j;omega⟩
  · rename_i k hk hg j hj hl
    have hl0:(t.getD k []).length=ncol t:=h5 k (by omega)
    show (tab (fun j=>-vI (t.getD k []) j) j).length+1≤2147483648
    rw[zak];omega
  · rename_i k hk hg j hj hl
    show k+1≤2147483648;omega
  · rename_i k hk hg j hj hl
    have e:j=(t.getD k []).length:=by omega
    subst e
    refine zaq.mk ?_
    refine Exists.intro (k+1) ?_
    refine And.intro (Leaf.mk ?_) ?_
    · repeat' first|exact True.intro|refine And.intro ?_ ?_
      all_goals try ((change _=_<;>try dsimp only)<;>try with_reducible rfl)
      all_goals try omega
      all_goals (rfl)
    exact⟨by show k+1≤t.length;omega,by show t.length - (k+1)<t.length - k;omega⟩
  · rename_i k hk hg
    have e:k=t.length:=by omega
    subst e
    refine zaq.mk ?_
    refine Exists.intro (0:Nat) ?_
    refine And.intro (Leaf.mk ?_) ?_
    · repeat' first|exact True.intro|refine And.intro ?_ ?_
      all_goals try ((change _=_<;>try dsimp only)<;>try with_reducible rfl)
      all_goals try omega
      all_goals (first|rfl|exact (List.append_nil _).symm|(rw[List.length_append,zak];rfl))
    exact Nat.zero_le _
  · rename_i q hq hq2 k hk hg
    have hl0:(t.getD k []).length=ncol t:=h5 k (by omega)
    omega
  · rename_i q hq hq2 k hk hg
    have hl0:(t.getD k []).length=ncol t:=h5 k (by omega)
    show (t.getD k []).length+1≤2147483648
    omega
  · rename_i q hq hq2 k hk hg
    show t.length+k+1≤2147483648;omega
  · rename_i q hq hq2 k hk hg
    have e:zc3 t cap k++[zlE cap (rowN t k)]=zc3 t cap (k+1):=List.append_assoc _ _ _
    refine zaq.mk ?_
    refine Exists.intro (k+1) ?_
    refine And.intro (Leaf.mk ?_) ?_
    · repeat' first|exact True.intro|refine And.intro ?_ ?_
      all_goals try ((change _=_<;>try dsimp only)<;>try with_reducible rfl)
      all_goals try omega
      all_goals (first|rfl|exact e.symm|exact e|exact congrArg List.length e.symm|exact congrArg List.length e)
    exact⟨by show k+1≤t.length;omega,by show t.length - (k+1)<t.length - k;omega⟩
  · rename_i q hq hq2 k hk hg
    have e:k=t.length:=by omega
    subst e
    have e:zc3 t cap t.length=zcM t cap 0:=(List.append_nil _).symm
    refine zaq.mk ?_
    refine Exists.intro (0:Nat) ?_
    refine And.intro (Leaf.mk ?_) ?_
    · repeat' first|exact True.intro|refine And.intro ?_ ?_
      all_goals try ((change _=_<;>try dsimp only)<;>try with_reducible rfl)
      all_goals try omega
      all_goals (first|rfl|exact e.symm|exact e|exact congrArg List.length e.symm|exact congrArg List.length e)
    exact Nat.zero_le _
  · show (0:Int)≤(ncol t:Int)+1;omega
  · show (ncol t:Int)+1≤1000;omega
  · rename_i q1 q2 q3 p1 p2 p3 k hk hg
    show (0:Int)≤(k:Int);omega
  · rename_i q1 q2 q3 p1 p2 p3 k hk hg
    show (k:Int)<(ncol t:Int)+1;omega
  · rename_i q1 q2 q3 p1 p2 p3 k hk hg
    show t.length+t.length+k+1≤2147483648;omega
  · rename_i q1 q2 q3 p1 p2 p3 k hk hg
    have e:zcM t cap k++[zly (ncol t) k]=zcM t cap (k+1):=List.append_assoc _ _ _
    refine zaq.mk ?_
    refine Exists.intro (k+1) ?_
    refine And.intro (Leaf.mk ?_) ?_
    · repeat' first|exact True.intro|refine And.intro ?_ ?_
      all_goals try ((change _=_<;>try dsimp only)<;>try with_reducible rfl)
      all_goals try omega
      all_goals (first|rfl|exact e.symm|exact e|exact congrArg List.length e.symm|exact congrArg List.length e)
    exact⟨by show k+1≤ncol t;omega,by show ncol t - (k+1)<ncol t - k;omega⟩
  · rename_i q1 q2 q3 p1 p2 p3 k hk hg
    have e:k=ncol t:=by omega
    subst e
    have e:zcM t cap (ncol t)=zc9 t cap 0:=(List.append_nil _).symm
    refine zaq.mk ?_
    refine Exists.intro (0:Nat) ?_
    refine And.intro (Leaf.mk ?_) ?_
    · repeat' first|exact True.intro|refine And.intro ?_ ?_
      all_goals try ((change _=_<;>try dsimp only)<;>try with_reducible rfl)
      all_goals try omega
      all_goals (first|rfl|exact e.symm|exact e|exact congrArg List.length e.symm|exact congrArg List.length e)
    exact Nat.zero_le _
  · show (0:Int)≤(ncol t:Int)+1;omega
  · show (ncol t:Int)+1≤1000;omega
  · rename_i r1 r2 r3 q1 q2 q3 p1 p2 p3 k hk hg
    show (0:Int)≤(k:Int);omega
  · rename_i r1 r2 r3 q1 q2 q3 p1 p2 p3 k hk hg
    show (k:Int)<(ncol t:Int)+1;omega
  · rename_i r1 r2 r3 q1 q2 q3 p1 p2 p3 k hk hg
    show t.length+t.length+ncol t+k+1≤2147483648;omega
  · rename_i r1 r2 r3 q1 q2 q3 p1 p2 p3 k hk hg
    have e:zc9 t cap k++[zlo (ncol t) k]=zc9 t cap (k+1):=List.append_assoc _ _ _
    refine zaq.mk ?_
    refine Exists.intro (k+1) ?_
    refine And.intro (Leaf.mk ?_) ?_
    · repeat' first|exact True.intro|refine And.intro ?_ ?_
      all_goals try ((change _=_<;>try dsimp only)<;>try with_reducible rfl)
      all_goals try omega
      all_goals (first|rfl|exact e.symm|exact e|exact congrArg List.length e.symm|exact congrArg List.length e)
    exact⟨by show k+1≤ncol t;omega,by show ncol t - (k+1)<ncol t - k;omega⟩
  · rename_i r1 r2 r3 q1 q2 q3 p1 p2 p3 k hk hg
    rw[show k=ncol t by omega]
def trM (m:List (List Int)):List (List Int):=tab (fun j=>tab (fun i=>vI (rowN m i) j) m.length) m.length
theorem len1 {α:Type} {l:List α} (h:l.length=1):∃a,l=[a]:=by
  match l,h with
  | [a],_=>exact⟨a,rfl⟩
theorem len2 {α:Type} {l:List α} (h:l.length=2):∃a b,l=[a,b]:=by
  match l,h with
  | [a,b],_=>exact⟨a,b,rfl⟩
theorem len3 {α:Type} {l:List α} (h:l.length=3):∃a b c,l=[a,b,c]:=by
  match l,h with
  | [a,b,c],_=>exact⟨a,b,c,rfl⟩
theorem len4 {α:Type} {l:List α} (h:l.length=4):∃a b c d,l=[a,b,c,d]:=by
  match l,h with
  | [a,b,c,d],_=>exact⟨a,b,c,d,rfl⟩
theorem tr1 (a:Int):detN 1 (trM [[a]])=detN 1 [[a]]:=rfl
theorem tr2 (a b c d:Int):detN 2 (trM [[a,b],[c,d]])=detN 2 [[a,b],[c,d]]:=by
  show detN 2 [[a,c],[b,d]]=detN 2 [[a,b],[c,d]]
  simp[detN,sumD,zaH,zaW];grind
theorem tr3 (a b c d e f g h i:Int):detN 3 (trM [[a,b,c],[d,e,f],[g,h,i]])=detN 3 [[a,b,c],[d,e,f],[g,h,i]]:=by
  show detN 3 [[a,d,g],[b,e,h],[c,f,i]]=detN 3 [[a,b,c],[d,e,f],[g,h,i]]
  simp[detN,sumD,zaH,zaW];grind
theorem tr4 (a b c d e f g h i j k l m n o p:Int):detN 4 (trM [[a,b,c,d],[e,f,g,h],[i,j,k,l],[m,n,o,p]])=detN 4 [[a,b,c,d],[e,f,g,h],[i,j,k,l],[m,n,o,p]]:=by
  show detN 4 [[a,e,i,m],[b,f,j,n],[c,g,k,o],[d,h,l,p]]=detN 4 [[a,b,c,d],[e,f,g,h],[i,j,k,l],[m,n,o,p]]
  simp[detN,sumD,zaH,zaW];grind
theorem zf9 {m:List (List Int)}:(trM m).length=m.length:=zak _ _
theorem zpo {N:Nat} (hN:N≤4) {m:List (List Int)} (h:zcY N m):detA (trM m)=detA m:=by
  obtain⟨h1,h2⟩:=h
  unfold detA
  rw[zf9]
  match N,hN with
  | 0,_=>rw[List.length_eq_zero_iff.1 h1];rfl
  | 1,_=>
    obtain⟨r,rfl⟩:=len1 h1
    obtain⟨a,rfl⟩:=len1 (h2 r (by simp)).1
    exact tr1 _
  | 2,_=>
    obtain⟨r,s,rfl⟩:=len2 h1
    obtain⟨a,b,rfl⟩:=len2 (h2 r (by simp)).1
    obtain⟨c,d,rfl⟩:=len2 (h2 s (by simp)).1
    exact tr2 _ _ _ _
  | 3,_=>
    obtain⟨r,s,t,rfl⟩:=len3 h1
    obtain⟨a,b,c,rfl⟩:=len3 (h2 r (by simp)).1
    obtain⟨d,e,f,rfl⟩:=len3 (h2 s (by simp)).1
    obtain⟨g,h,i,rfl⟩:=len3 (h2 t (by simp)).1
    exact tr3 _ _ _ _ _ _ _ _ _
  | 4,_=>
    obtain⟨r,s,t,u,rfl⟩:=len4 h1
    obtain⟨a,b,c,d,rfl⟩:=len4 (h2 r (by simp)).1
    obtain⟨e,f,g,h,rfl⟩:=len4 (h2 s (by simp)).1
    obtain⟨i,j,k,l,rfl⟩:=len4 (h2 t (by simp)).1
    obtain⟨m,n,o,p,rfl⟩:=len4 (h2 u (by simp)).1
    exact tr4 _ _ _ _ _ _ _ _ _ _ _ _ _ _ _ _
theorem zk3 {l:List Int} {x:Int} (h:x∈l):∃i,i<l.length∧x=vI l i:=by
  obtain⟨i,hi,e⟩:=List.getElem_of_mem h
  exact⟨i,hi,by simp[vI,List.getD,List.getElem?_eq_getElem hi,e]⟩
theorem zhl {l:List Int} {i:Nat} (h:i<l.length):vI l i∈l:=by
  have:vI l i=l[i]:=by simp[vI,List.getD,List.getElem?_eq_getElem h]
  rw[this];exact List.getElem_mem h
theorem zqd {N:Nat} {m:List (List Int)} (h:zcY N m):zcY N (trM m):=by
  have hl:m.length=N:=h.1
  refine⟨by rw[zf9,hl],fun r hr=>?_⟩
  obtain⟨j,hj,rfl⟩:=zbR hr
  refine⟨by rw[zak,hl],fun x hx=>?_⟩
  obtain⟨i,hi,rfl⟩:=zbR hx
  have hrow:=h.2 _ (zi4 h (i:=i) (by omega))
  exact hrow.2 _ (zhl (by rw[hrow.1];omega))
theorem zou {m:List (List Int)} {right:List Int} (h:detA m≠0):(zay m right).2.2.1=true:=by
  unfold zay
  rw[if_neg h]
  split<;>rfl
theorem zov {m:List (List Int)} {right:List Int} (h:detA m=0):(zay m right).2.2.1=false:=by
  unfold zay
  rw[if_pos h]
theorem zln {m:List (List Int)} {right:List Int} (h:(zay m right).2.2.1=true):detA m≠0:=fun e=>by rw[zov e] at h;cases h
theorem ziX {m:List (List Int)} {right:List Int} (h:detA m≠0):(zay m right).1.length=m.length:=by
  unfold zay
  rw[if_neg h]
  split
  · show (negd (dets m right m.length) m.length).length=_
    rw[zeM,zdv]
  · exact zdv
theorem zh5 {m:List (List Int)} {right:List Int} (hp:zjb m right) (h:detA m≠0) {i:Nat} (hi:i<m.length) : -400000000000000≤vI (zay m right).1 i∧vI (zay m right).1 i≤400000000000000:=by
  obtain⟨⟨N,hN,hs⟩,h1,h2⟩:=hp
  have hb:=znL hN hs h2 hi
  unfold zay
  rw[if_neg h]
  split
  · have e:vI (negd (dets m right m.length) m.length) i = -vI (dets m right m.length) i:=by
      have:=zaD (fun j=>if j<m.length then -vI (dets m right m.length) j else vI (dets m right m.length) j) 0 (dets m right m.length).length i (by rw[zdv];exact hi)
      rw[if_pos hi] at this
      exact this
    show -400000000000000≤vI (negd (dets m right m.length) m.length) i∧vI (negd (dets m right m.length) m.length) i≤400000000000000
    rw[e];omega
  · exact hb
theorem zgh {m:List (List Int)} {right:List Int} (hp:zjb m right) (h:detA m≠0):0<(zay m right).2.1∧(zay m right).2.1≤400000000000000:=by
  have hb:=zkw hp.1
  unfold zay
  rw[if_neg h]
  split
  · show 0 < -detA m∧-detA m≤400000000000000
    omega
  · show 0<detA m∧detA m≤400000000000000
    omega
end Go.Eng.Ar
