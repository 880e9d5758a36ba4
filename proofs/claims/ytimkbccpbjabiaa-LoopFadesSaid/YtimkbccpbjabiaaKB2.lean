/- Texts L19 L20 L21 L22 L23 L29 L30 FA L31 L32 FB FC, as far as they are used. Conditions: each lemma's own. -/
import Derived.Test.YtimkbccpbjabiaaKB1
import Derived.WalkKit
import Derived.StillTail
namespace Go.Eng.Lp
open Go.Eng Go.Proofs
set_option linter.all false
set_option maxRecDepth 100000
set_option maxHeartbeats 8000000
abbrev DirT:Ty:=.cons I64 (.cons I64 .nil)
abbrev IIU:=Int×Int×Unit
def wI (m:Nat):IIU:=((W m).1,(W m).2,())
@[irreducible] def tabD (p:Nat→Bool):List IIU:=tab (fun i=>bif p i then wI i else (0,0,())) 1025
theorem zec (p:Nat→Bool):tabD p=tab (fun i=>bif p i then wI i else (0,0,())) 1025:=by unfold tabD;rfl
theorem zch (p:Nat→Bool):(tabD p).length=1025:=by rw[zec];exact zar _ _
def znw:List IIU:=tab wI 1025
def dn (D:Nat) (i:Nat):Bool:=Nat.beq (i % D) 0
def dnx (s:Nat) (x i:Nat):Bool:=Nat.beq (i % (2*s)) 0 || (Nat.beq (i % s) 0&&Nat.blt i x)
def zaJ (j:Nat):Nat:=256 / 2 ^ j
theorem zmF {D i:Nat}:dn D i=true↔i % D=0:=by simp[dn]
theorem zgn {s x i:Nat}:dnx s x i=true↔i % (2*s)=0∨(i % s=0∧i<x):=by simp[dnx]
theorem znx {α:Type} {f g:Nat→α} {m:Nat} {v:α}:∀n,(∀i,i<n→g i=if i=m then v else f i)→(tab f n).set m v=tab g n
  | 0,_=>rfl
  | n + 1,h=>by
    simp only[tab]
    by_cases hm:m<n
    · rw[List.set_append_left _ _ (by rw[zar];exact hm),znx n (fun i hi=>h i (by omega))]
      have:=h n (by omega)
      rw[if_neg (by omega)] at this
      rw[this]
    · rw [List.set_append_right _ _ (by rw[zar];omega),zar]
      have e:tab f n=tab g n:=zdk n fun i hi=>by rw[h i (by omega),if_neg (by omega)]
      rw[e]
      have:=h n (by omega)
      by_cases hn:n=m
      · subst hn
        rw[if_pos rfl] at this
        rw[this,Nat.sub_self];rfl
      · rw[if_neg hn] at this
        obtain⟨d,hd⟩:∃d,m - n=d+1:=⟨m - n - 1,by omega⟩
        rw[this,hd];rfl
theorem zgR {p q:Nat→Bool} {m:Nat} (h:∀i,i<1025→(q i=true↔p i=true∨i=m)):(tabD p).set m (wI m)=tabD q:=by
  rw[zec,zec]
  refine znx 1025 fun i hi=>?_
  have:=h i hi
  by_cases hm:i=m
  · have hq:q i=true:=this.2 (.inr hm)
    rw[if_pos hm,hq,hm];rfl
  · rw [if_neg hm]
    have : q i=p i:=by
      cases hq:q i with
      | true=>cases hp:p i with
        | true=>rfl
        | false=>rw[hq,hp] at this;simp[hm] at this
      | false=>cases hp:p i with
        | false=>rfl
        | true=>rw[hq,hp] at this;simp at this
    rw[this]
theorem zik {p q:Nat→Bool} (h:∀i,i<1025→(q i=true↔p i=true)):tabD p=tabD q:=by
  rw[zec,zec]
  refine zdk 1025 fun i hi=>?_
  have:=h i hi
  have:q i=p i:=by
    cases hq:q i<;>cases hp:p i<;>simp_all
  rw[this]
theorem zlY {p:Nat→Bool} {i:Nat} (hi:i<1025) (hp:p i=true) (d:IIU):(tabD p).getD i d=wI i:=by
  rw[zec]
  have:=zbI (fun i=>bif p i then wI i else (0,0,())) d 1025 i hi
  rw[hp] at this
  exact this
theorem rm0 (xs:List IIU) (h:xs.length=1025) {k:Int} (h1:0≤k) (h2:k<1025):0≤k∧k<(xs.length:Int):=by omega
def Stp (j s:Nat):Prop:=(j=0∧s=256)∨(j=1∧s=128)∨(j=2∧s=64)∨(j=3∧s=32)∨(j=4∧s=16)∨(j=5∧s=8)∨(j=6∧s=4)∨(j=7∧s=2)∨(j=8∧s=1)
theorem zgw {j:Nat} (h:j≤9) (h1:1≤(zaJ j:Int)):Stp j (zaJ j):=by
  match j,h with
  | 0,_=>exact .inl ⟨rfl,rfl⟩
  | 1,_=>exact .inr (.inl ⟨rfl,rfl⟩)
  | 2,_=>exact .inr (.inr (.inl ⟨rfl,rfl⟩))
  | 3,_=>exact .inr (.inr (.inr (.inl ⟨rfl,rfl⟩)))
  | 4,_=>exact .inr (.inr (.inr (.inr (.inl ⟨rfl,rfl⟩))))
  | 5,_=>exact .inr (.inr (.inr (.inr (.inr (.inl ⟨rfl,rfl⟩)))))
  | 6,_=>exact .inr (.inr (.inr (.inr (.inr (.inr (.inl ⟨rfl,rfl⟩))))))
  | 7,_=>exact .inr (.inr (.inr (.inr (.inr (.inr (.inr (.inl ⟨rfl,rfl⟩)))))))
  | 8,_=>exact .inr (.inr (.inr (.inr (.inr (.inr (.inr (.inr ⟨rfl,rfl⟩)))))))
  | 9,_=>simp[zaJ] at h1
theorem zfW {j s:Nat} (h:Stp j s):512 / 2 ^ j=2*s∧512 / 2 ^ (j+1)=s∧zaJ (j+1)=s / 2∧j+1≤9∧1≤s∧s≤256:=by
  rcases h with ⟨rfl,rfl⟩|⟨rfl,rfl⟩|⟨rfl,rfl⟩|⟨rfl,rfl⟩|⟨rfl,rfl⟩|⟨rfl,rfl⟩|⟨rfl,rfl⟩|⟨rfl,rfl⟩|⟨rfl,rfl⟩<;>decide
theorem zgS {j s x:Nat} (h:Stp j s) (hx:x % (2*s)=0) (h1:x≤1024) (h2:s+x<1024):s+x+s≤1024:=by
  rcases h with ⟨rfl,rfl⟩|⟨rfl,rfl⟩|⟨rfl,rfl⟩|⟨rfl,rfl⟩|⟨rfl,rfl⟩|⟨rfl,rfl⟩|⟨rfl,rfl⟩|⟨rfl,rfl⟩|⟨rfl,rfl⟩<;>omega
theorem zqE {j s x:Nat} (h:Stp j s) (hx:x % (2*s)=0) (h2:s+x<1024):W (s+x)=mid (W x) (W (s+x+s))∧zjv (W x) (W (s+x+s))=true:=by
  have key:∀n,n≤8→s=2 ^ n→W (s+x)=mid (W x) (W (s+x+s))∧zjv (W x) (W (s+x+s))=true:=by
    intro n hn hs
    have hp:2 ^ (n+1)=2*s:=by rw[Nat.pow_succ,hs];omega
    have hk:x / (2*s)<2 ^ (9 - n):=by
      have e:2 ^ (9 - n)*(2*s)=1024:=by
        rw[←hp,←Nat.pow_add,show 9 - n+(n+1)=10 by omega]
      rw[Nat.div_lt_iff_lt_mul (by rw[hs];have:=Nat.two_pow_pos n;omega),e]
      omega
    have:=ztl hn hk
    have ex:x / (2*s)*(2*s)=x:=Nat.div_mul_cancel (Nat.dvd_of_mod_eq_zero hx)
    rw[hp,ex,←hs,show x+2*s=s+x+s by omega,Nat.add_comm x s] at this
    exact this
  rcases h with ⟨_,h⟩|⟨_,h⟩|⟨_,h⟩|⟨_,h⟩|⟨_,h⟩|⟨_,h⟩|⟨_,h⟩|⟨_,h⟩|⟨_,h⟩
  · exact key 8 (by decide) h
  · exact key 7 (by decide) h
  · exact key 6 (by decide) h
  · exact key 5 (by decide) h
  · exact key 4 (by decide) h
  · exact key 3 (by decide) h
  · exact key 2 (by decide) h
  · exact key 1 (by decide) h
  · exact key 0 (by decide) h
theorem zp5 {j s x:Nat} (h:Stp j s) (hx:x % (2*s)=0) (h2:s+x<1024):(tabD (dnx s (s+x))).getD (((s+x:Nat):Int) - (s:Nat)).toNat (Ty.dflt DirT)=wI x∧
    (tabD (dnx s (s+x))).getD (((s+x:Nat):Int)+(s:Nat)).toNat (Ty.dflt DirT)=wI (s+x+s)∧W (s+x)=mid (W x) (W (s+x+s))∧zjv (W x) (W (s+x+s))=true:=by
  have hr:=zgS h hx (by omega) h2
  have e1:(((s+x:Nat):Int) - (s:Nat)).toNat=x:=by omega
  have e2:(((s+x:Nat):Int)+(s:Nat)).toNat=s+x+s:=by omega
  rw[e1,e2]
  refine⟨zlY (by omega) (zgn.2 (.inl hx)) _,zlY (by omega) (zgn.2 (.inl ?_)) _,zqE h hx h2⟩
  rw[show s+x+s=x+2*s by omega,Nat.add_mod_right];exact hx
theorem zpk {j s x i:Nat} (h:Stp j s) (hx:x % (2*s)=0):dnx s (s+(x+2*s)) i=true↔dnx s (s+x) i=true∨i=s+x:=by
  rw[zgn,zgn]
  rcases h with ⟨_,rfl⟩|⟨_,rfl⟩|⟨_,rfl⟩|⟨_,rfl⟩|⟨_,rfl⟩|⟨_,rfl⟩|⟨_,rfl⟩|⟨_,rfl⟩|⟨_,rfl⟩<;>omega
theorem zrI {j s i:Nat} (h:Stp j s):dnx s (s+0) i=true↔dn (512 / 2 ^ j) i=true:=by
  rw[zgn,zmF,(zfW h).1]
  rcases h with ⟨_,rfl⟩|⟨_,rfl⟩|⟨_,rfl⟩|⟨_,rfl⟩|⟨_,rfl⟩|⟨_,rfl⟩|⟨_,rfl⟩|⟨_,rfl⟩|⟨_,rfl⟩<;>omega
theorem zqD {j s x i:Nat} (h:Stp j s) (hx:x % (2*s)=0) (h1:x≤1024) (h2:1024≤s+x) (hi:i<1025):dn (512 / 2 ^ (j+1)) i=true↔dnx s (s+x) i=true:=by
  rw[zgn,zmF,(zfW h).2.1]
  rcases h with ⟨_,rfl⟩|⟨_,rfl⟩|⟨_,rfl⟩|⟨_,rfl⟩|⟨_,rfl⟩|⟨_,rfl⟩|⟨_,rfl⟩|⟨_,rfl⟩|⟨_,rfl⟩<;>omega
def zqA:LoopAnn:={σ:=Nat,pat:=fun j=>[sI 2 (zaJ j),.slot 1 (.one (.o 4 (tabD (dn (512 / 2 ^ j))).length)),.row 4 112 DirT (tabD (dn (512 / 2 ^ j)))],inv:=fun j=>j≤9,meas:=fun j=>9 - j}
def zqB (st:St):LoopAnn:=zgK 2 st fun s=>{σ:=Nat,pat:=fun x=>[sI 3 (s.toNat+x:Nat),.slot 1 (.one (.o 4 (tabD (dnx s.toNat (s.toNat+x))).length)),.row 4 112 DirT (tabD (dnx s.toNat (s.toNat+x)))],inv:=fun x=>x % (2*s.toNat)=0∧x≤1024,meas:=fun x=>1024 - x}
@[reducible] def znM:Spec:={pats:=[],res:=[{t:=.sl DirT}],pre:=fun _=>True,f:=fun _=>(znw,())}
theorem h20:Ok 20 znM:=by
  refine mk (ctr:=[(80,sMid)]) ⟨h80,trivial⟩ (nt:=42) Try.func20 rfl rfl rfl rfl (by kernel_rfl) (by kernel_rfl) (fun x=>[fun _=>zqA,zqB]) ?_
  rintro _ _
  repeat' (intro hzz;(try (rename Two=>hq;cases hq));(try dsimp only at hzz);(try simp only[zad,zac,eqD,inR,big,zaa,Bool.not_true,Bool.not_false,Bool.true_eq,decide_eq_true_eq,decide_eq_false_iff_not,Bool.not_eq_true',Bool.not_eq_false',Bool.and_eq_true,Prod.mk.injEq,and_true,true_and,Int.not_lt,Int.not_le,gt_iff_lt,ge_iff_le] at hzz);(try simp only[zad,zac,eqD,inR,big,zaa,Bool.not_true,Bool.not_false,Bool.true_eq,decide_eq_true_eq,decide_eq_false_iff_not,Bool.not_eq_true',Bool.not_eq_false',Bool.and_eq_true,Prod.mk.injEq,and_true,true_and,Int.not_lt,Int.not_le,gt_iff_lt,ge_iff_le,zaj,zch,zbD] at hzz);(try (revert hzz;intro _)))
  all_goals try (rename Unit=>hq;clear hq)
  all_goals try ((with_reducible refine Held.mk ?_);(with_reducible (first|refine Frz.mk ?_|refine And.intro (Frz.mk ?_) ?_|refine And.intro ?_ (Frz.mk ?_)));repeat' first|exact True.intro|(change _=_;with_reducible rfl)|refine And.intro ?_ ?_|(with_reducible refine Frz.mk ?_))
  all_goals try (refine Held.mk ?_;(try dsimp only at *);(try simp only[zad,zac,eqD,inR,big,zaa,Bool.not_true,Bool.not_false,Bool.true_eq,decide_eq_true_eq,decide_eq_false_iff_not,Bool.not_eq_true',Bool.not_eq_false',Bool.and_eq_true,Prod.mk.injEq,and_true,true_and,Int.not_lt,Int.not_le,gt_iff_lt,ge_iff_le] at *);(try simp only[zad,zac,eqD,inR,big,zaa,Bool.not_true,Bool.not_false,Bool.true_eq,decide_eq_true_eq,decide_eq_false_iff_not,Bool.not_eq_true',Bool.not_eq_false',Bool.and_eq_true,Prod.mk.injEq,and_true,true_and,Int.not_lt,Int.not_le,gt_iff_lt,ge_iff_le,zaj,zch,zbD] at *))
  all_goals try omega
  · exact rm0 _ (zbD 1025 _) (by decide) (by decide)
  · exact rm0 _ (zbD 1025 _) (by decide) (by decide)
  · exact rm0 _ (zbD 1025 _) (by decide) (by decide)
  · exact rm0 ((repl 1025 ((0,0,()):IIU)).set 0 (67108864,0,())) (by rw[List.length_set];exact zbD 1025 _) (by decide) (by decide)
  · exact rm0 _ (zbD 1025 _) (by decide) (by decide)
  · exact rm0 (((repl 1025 ((0,0,()):IIU)).set 0 (67108864,0,())).set 512 (47453132,47453132,())) (by rw[List.length_set,List.length_set];exact zbD 1025 _) (by decide) (by decide)
  ·
    have e : (((repl 1025 ((0,0,()):IIU)).set 0 (67108864,0,())).set 512 (47453132,47453132,())).set 1024 (0,67108864,())=tabD (dn (512 / 2 ^ 0)):=by
      have w0:wI 0=(67108864,0,()):=by
        have:W 0=(67108864,0):=by rw[W_lt (by decide)];exact zg1 10 0 1024 _ _ rfl
        simp only[wI,this];rfl
      have w5:wI 512=(47453132,47453132,()):=by simp only[wI,ztm];rfl
      have w1:wI 1024=(0,67108864,()):=rfl
      have e0:repl 1025 ((0,0,()):IIU)=tabD (fun _=>false):=by
        rw[zls,zec]
        have:∀n,List.replicate n ((0,0,()):IIU)=tab (fun _=>((0,0,()):IIU)) n:=by
          intro n
          induction n with
          | zero=>rfl
          | succ n ih=>rw[List.replicate_succ',ih];rfl
        exact this 1025
      rw[e0,←w0,←w5,←w1,zgR (q:=fun i=>Nat.beq i 0) (by simp),zgR (q:=fun i=>Nat.beq i 0 || Nat.beq i 512) (by simp),zgR (q:=dn (512 / 2 ^ 0))]
      intro i hi
      rw[zmF]
      simp only[Bool.or_eq_true,Nat.beq_eq]
      omega
    have len0:(repl 1025 ((0,0,()):IIU)).length=(tabD (dn (512 / 2 ^ 0))).length:=(zbD _ _).trans (zch _).symm
    refine zah.mk ?_
    refine Exists.intro (0:Nat) ?_
    refine And.intro (Leaf.mk ?_) ?_
    · repeat' first|exact True.intro|refine And.intro ?_ ?_
      all_goals try ((change _=_<;>try dsimp only)<;>try with_reducible rfl)
      all_goals try omega
      all_goals (first|exact (rfl:(256:Int)=((zaJ 0:Nat):Int))|exact e|exact len0)
    exact Nat.zero_le _
  · rename_i j h1 h2
    have hs:=zgw h1 h2
    have e:tabD (dn (512 / 2 ^ j))=tabD (dnx (zaJ j) (zaJ j+0)):=zik fun i _=>zrI hs
    refine zah.mk ?_
    refine Exists.intro (0:Nat) ?_
    refine And.intro (Leaf.mk ?_) ?_
    · repeat' first|exact True.intro|refine And.intro ?_ ?_
      all_goals try ((change _=_<;>try dsimp only)<;>try with_reducible rfl)
      all_goals try omega
      all_goals (first|exact e|exact (zch _).trans (zch _).symm|trace_state)
    exact⟨by simp,Nat.zero_le _⟩
  · rename_i j h1 h2 x h3 h4
    have hs:=zgw h1 h2
    rw[Int.toNat_natCast] at h3 h4
    have:=zgS hs h3.1 h3.2 (by omega)
    rw[Int.toNat_natCast]
    omega
  · rename_i j h1 h2 x h3 h4
    have hs:=zgw h1 h2
    rw[Int.toNat_natCast] at h3 h4
    have:=zgS hs h3.1 h3.2 (by omega)
    rw[Int.toNat_natCast]
    omega
  · rename_i j h1 h2 x h3 h4
    have hs:=zgw h1 h2
    rw[Int.toNat_natCast] at h3 h4
    obtain⟨e1,e2,e3⟩:=zp5 hs h3.1 (by omega)
    simp only[Int.toNat_natCast]
    rw[e1,e2]
    exact ziy e3.2
  · rename_i j h1 h2 x h3 h4
    have hs:=zgw h1 h2
    rw[Int.toNat_natCast] at h3 h4
    obtain⟨e1,e2,e3⟩:=zp5 hs h3.1 (by omega)
    have e:(tabD (dnx (zaJ j) (zaJ j+x))).set (zaJ j+x) ((midI ((tabD (dnx (zaJ j) (zaJ j+x))).getD (((zaJ j+x:Nat):Int) - (zaJ j:Nat)).toNat (Ty.dflt DirT)).1 ((tabD (dnx (zaJ j) (zaJ j+x))).getD (((zaJ j+x:Nat):Int) - (zaJ j:Nat)).toNat (Ty.dflt DirT)).2.1
        ((tabD (dnx (zaJ j) (zaJ j+x))).getD (((zaJ j+x:Nat):Int)+(zaJ j:Nat)).toNat (Ty.dflt DirT)).1 ((tabD (dnx (zaJ j) (zaJ j+x))).getD (((zaJ j+x:Nat):Int)+(zaJ j:Nat)).toNat (Ty.dflt DirT)).2.1).1,
        (midI ((tabD (dnx (zaJ j) (zaJ j+x))).getD (((zaJ j+x:Nat):Int) - (zaJ j:Nat)).toNat (Ty.dflt DirT)).1 ((tabD (dnx (zaJ j) (zaJ j+x))).getD (((zaJ j+x:Nat):Int) - (zaJ j:Nat)).toNat (Ty.dflt DirT)).2.1
        ((tabD (dnx (zaJ j) (zaJ j+x))).getD (((zaJ j+x:Nat):Int)+(zaJ j:Nat)).toNat (Ty.dflt DirT)).1 ((tabD (dnx (zaJ j) (zaJ j+x))).getD (((zaJ j+x:Nat):Int)+(zaJ j:Nat)).toNat (Ty.dflt DirT)).2.1).2,())=tabD (dnx (zaJ j) (zaJ j+(x+2*zaJ j))):=by
      rw[e1,e2]
      have hm:=zem (W x) (W (zaJ j+x+zaJ j))
      rw[←e3.1] at hm
      have ew:(((midI (wI x).1 (wI x).2.1 (wI (zaJ j+x+zaJ j)).1 (wI (zaJ j+x+zaJ j)).2.1).1,(midI (wI x).1 (wI x).2.1 (wI (zaJ j+x+zaJ j)).1 (wI (zaJ j+x+zaJ j)).2.1).2,()):IIU)=wI (zaJ j+x):=by
        simp only[wI];rw[hm]
      rw[ew]
      exact zgR fun i _=>zpk hs h3.1
    have hp:=zfW hs
    have ei:((zaJ j+x:Nat):Int)+2*(zaJ j:Nat)=((zaJ j+(x+2*zaJ j):Nat):Int):=by push_cast;omega
    refine zah.mk ?_
    refine Exists.intro (x+2*zaJ j) ?_
    refine And.intro (Leaf.mk ?_) ?_
    · repeat' first|exact True.intro|refine And.intro ?_ ?_
      all_goals try ((change _=_<;>try dsimp only)<;>try with_reducible rfl)
      all_goals try omega
      all_goals (first|exact e|exact ei|(rw[zch,zch])|trace_state)
    refine⟨⟨by rw[Int.toNat_natCast,Nat.add_mod_right];exact h3.1,?_⟩,?_⟩
    · have:=zgS hs h3.1 h3.2 (by omega)
      omega
    · change 1024 - (x+2*zaJ j)<1024 - x
      omega
  · rename_i j h1 h2 x h3 h4
    have hp:=zfW (zgw h1 h2)
    rw[Int.tdiv_eq_ediv_of_nonneg (by omega)]
    omega
  · rename_i j h1 h2 x h3 h4
    have hs:=zgw h1 h2
    have hp:=zfW hs
    rw[Int.toNat_natCast] at h3 h4
    have e:tabD (dnx (zaJ j) (zaJ j+x))=tabD (dn (512 / 2 ^ (j+1))):=zik fun i hi=>zqD hs h3.1 h3.2 (by omega) hi
    have e2:((zaJ j:Nat):Int).tdiv 2=((zaJ (j+1):Nat):Int):=by
      rw[hp.2.2.1,Int.tdiv_eq_ediv_of_nonneg (by omega)];omega
    refine zah.mk ?_
    refine Exists.intro (j+1) ?_
    refine And.intro (Leaf.mk ?_) ?_
    · repeat' first|exact True.intro|refine And.intro ?_ ?_
      all_goals try ((change _=_<;>try dsimp only)<;>try with_reducible rfl)
      all_goals try omega
      all_goals (first|exact e|exact e2|exact (zch _).trans (zch _).symm|trace_state)
    refine⟨hp.2.2.2.1,?_⟩
    change 9 - (j+1)<9 - j
    omega
  all_goals try (change (repl 1025 ((0,0,()):IIU)).length=_;exact (zbD 1025 _).trans (zch _).symm)
  · rename_i j h1 h2
    have hj:j=9:=by
      rcases Nat.lt_or_ge j 9 with h|h
      · have:=(zfW (zgw h1 (by
          have:∀j,j<9→1≤zaJ j:=by decide
          have:=this j h;omega))).2.2.2.2.1
        omega
      · omega
    subst hj
    rw[zec]
    refine zdk 1025 fun i _=>?_
    have:dn (512 / 2 ^ 9) i=true:=zmF.2 (Nat.mod_one i)
    rw[this];rfl
theorem zlX:∀(n:Nat) (x y:Int),turn (n+1) x y=(-(turn n x y).2,(turn n x y).1)
  | 0,x,y=>rfl
  | n+1,x,y=>by
    have:=zlX n (-y) x
    simp only[turn] at this ⊢
    exact this
@[irreducible] def zbu:List IIU:=znw
theorem zeY:zbu=znw:=by unfold zbu;rfl
theorem zj3:zbu.length=1025:=by rw[zeY];exact zar _ _
theorem zj4 {i:Nat} (h:i<1025) (d:IIU):zbu.getD i d=wI i:=by rw[zeY];exact zbI wI d 1025 i h
@[reducible] def zhi:Spec:={pats:=[],res:=[{t:=.sl DirT}],pre:=fun _=>True,f:=fun _=>(zbu,())}
theorem h20':Ok 20 zhi:=by
  have e:zhi=znM:=by simp only[zhi,znM,zeY]
  rw[e];exact h20
@[reducible] def zji:Spec:={pats:=[.dat (.sl DirT),.dat I64],res:=[{t:=Ball}],pre:=fun x=>x.1=zbu,f:=fun x=>(zat x.2.1,())}
def zsP (m:Int):LoopAnn:={σ:=Nat,pat:=fun i=>[sI 6 i,cI 5 0 (turn i (wI (m % 1024).toNat).1 (wI (m % 1024).toNat).2.1).1,cI 5 1 (turn i (wI (m % 1024).toNat).1 (wI (m % 1024).toNat).2.1).2],inv:=fun i=>(i:Int)≤m % 4096 / 1024,meas:=fun i=>4 - i}
theorem h19:Ok 19 zji:=by
  refine mk (ctr:=[(66,sMod),(79,zlf)]) ⟨h66,h79,trivial⟩ (nt:=38) Try.func19 rfl rfl rfl rfl (by kernel_rfl) (by kernel_rfl) (fun x=>[fun _=>zsP x.2.1]) ?_
  rintro⟨_,(m:Int),_⟩ (rfl:_=zbu)
  have t1:(m % 4096).tmod 1024=m % 1024:=tm1 m
  have t2:(m % 4096).tdiv 1024=m % 4096 / 1024:=td1 m
  have hw:=zk5 (m % 1024).toNat
  have hl:=zj3
  have ht:∀d,List.getD zbu (m % 1024).toNat d=wI (m % 1024).toNat:=fun d=>zj4 (by omega) d
  have ew:wI (m % 1024).toNat=(((wayQ (m % 1024).toNat).1:Int),((wayQ (m % 1024).toNat).2:Int),()):=by
    simp only[wI];rw[W_lt (by omega)]
  have hq:=fun n=>zk8 67108864 n ((wayQ (m % 1024).toNat).1:Int) ((wayQ (m % 1024).toNat).2:Int) (by omega) (by omega) (by omega) (by omega)
  repeat' (intro hzz;(try (rename Two=>hq;cases hq));(try dsimp only at hzz);(try simp only[zad,zac,eqD,inR,big,zaa,Bool.not_true,Bool.not_false,Bool.true_eq,decide_eq_true_eq,decide_eq_false_iff_not,Bool.not_eq_true',Bool.not_eq_false',Bool.and_eq_true,Prod.mk.injEq,and_true,true_and,Int.not_lt,Int.not_le,gt_iff_lt,ge_iff_le] at hzz);(try simp only[zad,zac,eqD,inR,big,zaa,Bool.not_true,Bool.not_false,Bool.true_eq,decide_eq_true_eq,decide_eq_false_iff_not,Bool.not_eq_true',Bool.not_eq_false',Bool.and_eq_true,Prod.mk.injEq,and_true,true_and,Int.not_lt,Int.not_le,gt_iff_lt,ge_iff_le,fMod,tm1,td1] at hzz);(try (revert hzz;intro _)))
  all_goals try (rename Unit=>hq;clear hq)
  all_goals try ((with_reducible refine Held.mk ?_);(with_reducible (first|refine Frz.mk ?_|refine And.intro (Frz.mk ?_) ?_|refine And.intro ?_ (Frz.mk ?_)));repeat' first|exact True.intro|(change _=_;with_reducible rfl)|refine And.intro ?_ ?_|(with_reducible refine Frz.mk ?_))
  all_goals try (refine Held.mk ?_;(try dsimp only at *);(try simp only[zad,zac,eqD,inR,big,zaa,Bool.not_true,Bool.not_false,Bool.true_eq,decide_eq_true_eq,decide_eq_false_iff_not,Bool.not_eq_true',Bool.not_eq_false',Bool.and_eq_true,Prod.mk.injEq,and_true,true_and,Int.not_lt,Int.not_le,gt_iff_lt,ge_iff_le] at *);(try simp only[zad,zac,eqD,inR,big,zaa,Bool.not_true,Bool.not_false,Bool.true_eq,decide_eq_true_eq,decide_eq_false_iff_not,Bool.not_eq_true',Bool.not_eq_false',Bool.and_eq_true,Prod.mk.injEq,and_true,true_and,Int.not_lt,Int.not_le,gt_iff_lt,ge_iff_le,fMod,tm1,td1] at *))
  all_goals try omega
  · exact (show (0:Int)<4096∧(4096:Int)≤2000000000000000000 by decide)
  ·
    have e1:(List.getD zbu ((fMod m 4096).tmod 1024).toNat (Ty.dflt DirT)).1=(turn 0 (wI (m % 1024).toNat).1 (wI (m % 1024).toNat).2.1).1:=by simp only[fMod,tm1];rw[ht];rfl
    have e2:(List.getD zbu ((fMod m 4096).tmod 1024).toNat (Ty.dflt DirT)).2.1=(turn 0 (wI (m % 1024).toNat).1 (wI (m % 1024).toNat).2.1).2:=by simp only[fMod,tm1];rw[ht];rfl
    refine zah.mk ?_
    refine Exists.intro (0:Nat) ?_
    refine And.intro (Leaf.mk ?_) ?_
    · repeat' first|exact True.intro|refine And.intro ?_ ?_
      all_goals try ((change _=_<;>try dsimp only)<;>try with_reducible rfl)
      all_goals try omega
      all_goals (first|exact e1|exact e2|trace_state)
    exact (show ((0:Nat):Int)≤m % 4096 / 1024 by omega)
  · rename_i i h1 h2
    have:=hq i
    rw[ew]
    dsimp only
    omega
  · rename_i i h1 h2
    have er:=zlX i (wI (m % 1024).toNat).1 (wI (m % 1024).toNat).2.1
    have e1:=congrArg Prod.fst er
    have e2:=congrArg Prod.snd er
    refine zah.mk ?_
    refine Exists.intro (i+1) ?_
    refine And.intro (Leaf.mk ?_) ?_
    · repeat' first|exact True.intro|refine And.intro ?_ ?_
      all_goals try ((change _=_<;>try dsimp only)<;>try with_reducible rfl)
      all_goals try omega
      all_goals (first|exact e1.symm|exact e2.symm|trace_state)
    refine⟨show ((i+1:Nat):Int)≤m % 4096 / 1024 by omega,?_⟩
    change 4 - (i+1)<4 - i
    omega
  all_goals
    (rename_i i h1 h2 h3
     have:=hq i
     have hi:i=(m % 4096 / 1024).toNat:=by omega
     have ewy:wayI m=turn i (wI (m % 1024).toNat).1 (wI (m % 1024).toNat).2.1:=by rw[ew,hi];rfl
     have hwl:=zk6 m
     rw[←ewy]
     first
      | exact (⟨by decide,by decide,by omega,by omega⟩:(0:Int)<64∧(64:Int)≤2000000000000000000∧-8000000000000000000≤(wayI m).1∧(wayI m).1≤7000000000000000000)
      | exact (⟨by decide,by decide,by omega,by omega⟩:(0:Int)<64∧(64:Int)≤2000000000000000000∧-8000000000000000000≤(wayI m).2∧(wayI m).2≤7000000000000000000)
      | (simp only[zat,zjH]
         first|rw[if_pos h3]|rw[if_neg h3]
         exact⟨by omega,by omega,rfl⟩))
@[reducible] def zmT:Spec:={pats:=[.dat I64],res:=[{t:=.bool}],pre:=fun _=>True,f:=fun _=>(true,())}
theorem h3:Ok 3 zmT:=by
  refine mk (ctr:=[(16,zgy),(17,zbs),(18,znK),(20,zhi),(19,zji)]) ⟨h16,h17,h18,h20',h19,trivial⟩ (nt:=57) Try.func3 rfl rfl rfl rfl (by kernel_rfl) (by kernel_rfl) (fun _=>[]) ?_
  rintro⟨(m:Int),_⟩ _
  have hu:=zgQ m
  have hs:=zqx m
  repeat' (intro hzz;(try (rename Two=>hq;cases hq));(try dsimp only at hzz);(try simp only[zad,zac,eqD,inR,big,zaa,Bool.not_true,Bool.not_false,Bool.true_eq,decide_eq_true_eq,decide_eq_false_iff_not,Bool.not_eq_true',Bool.not_eq_false',Bool.and_eq_true,Prod.mk.injEq,and_true,true_and,Int.not_lt,Int.not_le,gt_iff_lt,ge_iff_le] at hzz);(try simp only[zad,zac,eqD,inR,big,zaa,Bool.not_true,Bool.not_false,Bool.true_eq,decide_eq_true_eq,decide_eq_false_iff_not,Bool.not_eq_true',Bool.not_eq_false',Bool.and_eq_true,Prod.mk.injEq,and_true,true_and,Int.not_lt,Int.not_le,gt_iff_lt,ge_iff_le,zal,Ty.beq] at hzz);(try (revert hzz;intro _)))
  all_goals try (rename Unit=>hq;clear hq)
  all_goals try ((with_reducible refine Held.mk ?_);(with_reducible (first|refine Frz.mk ?_|refine And.intro (Frz.mk ?_) ?_|refine And.intro ?_ (Frz.mk ?_)));repeat' first|exact True.intro|(change _=_;with_reducible rfl)|refine And.intro ?_ ?_|(with_reducible refine Frz.mk ?_))
  all_goals try (refine Held.mk ?_;(try dsimp only at *);(try simp only[zad,zac,eqD,inR,big,zaa,Bool.not_true,Bool.not_false,Bool.true_eq,decide_eq_true_eq,decide_eq_false_iff_not,Bool.not_eq_true',Bool.not_eq_false',Bool.and_eq_true,Prod.mk.injEq,and_true,true_and,Int.not_lt,Int.not_le,gt_iff_lt,ge_iff_le] at *);(try simp only[zad,zac,eqD,inR,big,zaa,Bool.not_true,Bool.not_false,Bool.true_eq,decide_eq_true_eq,decide_eq_false_iff_not,Bool.not_eq_true',Bool.not_eq_false',Bool.and_eq_true,Prod.mk.injEq,and_true,true_and,Int.not_lt,Int.not_le,gt_iff_lt,ge_iff_le,zal,Ty.beq] at *))
  all_goals try omega
  all_goals have e0:zat (m+4096)=zat m:=by rw[←zg4 (m+4096),←zg4 m];congr 1;omega
  · rename_i h
    exfalso
    simp[e0] at h
  all_goals have c1:=zbL (x:=(zat m).1) (d:=(zat m).1) (X:=1048576) (B:=1048576) (by omega) (by omega) (by omega) (by omega)
  all_goals have c2:=zbL (x:=(zat m).2.1) (d:=(zat m).2.1) (X:=1048576) (B:=1048576) (by omega) (by omega) (by omega) (by omega)
  all_goals have c3:=zbL (x:=1048576 - (zat m).2.2.1) (d:=1048576 - (zat m).2.2.1) (X:=1048580) (B:=1048580) (by omega) (by omega) (by omega) (by omega)
  all_goals have c4:=zbL (x:=1048576+(zat m).2.2.1) (d:=1048576+(zat m).2.2.1) (X:=1048580) (B:=1048580) (by omega) (by omega) (by omega) (by omega)
  all_goals try omega
  · rename_i h
    exfalso
    simp at h
abbrev zlx (n:Nat):Prop:=n≤1000000
@[reducible] def zdl:Spec:={pats:=[.dat (.sl I64)],res:=[{t:=.sl I64}],pre:=fun x=>zlx (List.length (α:=Int) x.1),f:=fun x=>(x.1,())}
theorem h45:Ok 45 zdl:=by
  refine mk (ctr:=[]) trivial (nt:=6) Try.func45 rfl rfl rfl rfl (by kernel_rfl) (by kernel_rfl) (fun _=>[]) ?_
  rintro⟨(xs:List Int),_⟩ (hp:xs.length≤1000000)
  repeat' (intro hzz;(try (rename Two=>hq;cases hq));(try dsimp only at hzz);(try simp only[zad,zac,eqD,inR,big,zaa,Bool.not_true,Bool.not_false,Bool.true_eq,decide_eq_true_eq,decide_eq_false_iff_not,Bool.not_eq_true',Bool.not_eq_false',Bool.and_eq_true,Prod.mk.injEq,and_true,true_and,Int.not_lt,Int.not_le,gt_iff_lt,ge_iff_le] at hzz);(try simp only[zad,zac,eqD,inR,big,zaa,Bool.not_true,Bool.not_false,Bool.true_eq,decide_eq_true_eq,decide_eq_false_iff_not,Bool.not_eq_true',Bool.not_eq_false',Bool.and_eq_true,Prod.mk.injEq,and_true,true_and,Int.not_lt,Int.not_le,gt_iff_lt,ge_iff_le,List.nil_append,List.length_nil] at hzz);(try (revert hzz;intro _)))
  all_goals try (rename Unit=>hq;clear hq)
  all_goals try ((with_reducible refine Held.mk ?_);(with_reducible (first|refine Frz.mk ?_|refine And.intro (Frz.mk ?_) ?_|refine And.intro ?_ (Frz.mk ?_)));repeat' first|exact True.intro|(change _=_;with_reducible rfl)|refine And.intro ?_ ?_|(with_reducible refine Frz.mk ?_))
  all_goals try (refine Held.mk ?_;(try dsimp only at *);(try simp only[zad,zac,eqD,inR,big,zaa,Bool.not_true,Bool.not_false,Bool.true_eq,decide_eq_true_eq,decide_eq_false_iff_not,Bool.not_eq_true',Bool.not_eq_false',Bool.and_eq_true,Prod.mk.injEq,and_true,true_and,Int.not_lt,Int.not_le,gt_iff_lt,ge_iff_le] at *);(try simp only[zad,zac,eqD,inR,big,zaa,Bool.not_true,Bool.not_false,Bool.true_eq,decide_eq_true_eq,decide_eq_false_iff_not,Bool.not_eq_true',Bool.not_eq_false',Bool.and_eq_true,Prod.mk.injEq,and_true,true_and,Int.not_lt,Int.not_le,gt_iff_lt,ge_iff_le,List.nil_append,List.length_nil] at *))
  all_goals try omega
@[reducible] def zpo:Spec:={pats:=[.dat zbQ],res:=[{t:=zbQ}],pre:=fun x=>zlx (List.length (α:=Int) x.1.1),f:=fun x=>(x.1,())}
theorem h23:Ok 23 zpo:=by
  refine mk (ctr:=[(45,zdl)]) ⟨h45,trivial⟩ (nt:=8) Try.func23 rfl rfl rfl rfl (by kernel_rfl) (by kernel_rfl) (fun _=>[]) ?_
  rintro⟨⟨(T:List Int),(g:Int),_⟩,_⟩ (hp:T.length≤1000000)
  repeat' (intro hzz;(try (rename Two=>hq;cases hq));(try dsimp only at hzz);(try simp only[zad,zac,eqD,inR,big,zaa,Bool.not_true,Bool.not_false,Bool.true_eq,decide_eq_true_eq,decide_eq_false_iff_not,Bool.not_eq_true',Bool.not_eq_false',Bool.and_eq_true,Prod.mk.injEq,and_true,true_and,Int.not_lt,Int.not_le,gt_iff_lt,ge_iff_le] at hzz);(try (revert hzz;intro _)))
  all_goals try (rename Unit=>hq;clear hq)
  all_goals try ((with_reducible refine Held.mk ?_);(with_reducible (first|refine Frz.mk ?_|refine And.intro (Frz.mk ?_) ?_|refine And.intro ?_ (Frz.mk ?_)));repeat' first|exact True.intro|(change _=_;with_reducible rfl)|refine And.intro ?_ ?_|(with_reducible refine Frz.mk ?_))
  all_goals try (refine Held.mk ?_;(try dsimp only at *);(try simp only[zad,zac,eqD,inR,big,zaa,Bool.not_true,Bool.not_false,Bool.true_eq,decide_eq_true_eq,decide_eq_false_iff_not,Bool.not_eq_true',Bool.not_eq_false',Bool.and_eq_true,Prod.mk.injEq,and_true,true_and,Int.not_lt,Int.not_le,gt_iff_lt,ge_iff_le] at *))
  all_goals try omega
@[reducible] def sFew:Spec:={pats:=[.dat zbQ],res:=[{t:=.bool}],pre:=fun _=>True,f:=fun x=>(decide ((List.length (α:=Int) x.1.1:Int)≤34),())}
theorem h21:Ok 21 sFew:=by
  refine mk (ctr:=[]) trivial (nt:=7) Try.func21 rfl rfl rfl rfl (by kernel_rfl) (by kernel_rfl) (fun _=>[]) ?_
  rintro⟨⟨(T:List Int),(g:Int),_⟩,_⟩ _
  repeat' (intro hzz;(try (rename Two=>hq;cases hq));(try dsimp only at hzz);(try simp only[zad,zac,eqD,inR,big,zaa,Bool.not_true,Bool.not_false,Bool.true_eq,decide_eq_true_eq,decide_eq_false_iff_not,Bool.not_eq_true',Bool.not_eq_false',Bool.and_eq_true,Prod.mk.injEq,and_true,true_and,Int.not_lt,Int.not_le,gt_iff_lt,ge_iff_le] at hzz);(try (revert hzz;intro _)))
  all_goals try (rename Unit=>hq;clear hq)
  all_goals try ((with_reducible refine Held.mk ?_);(with_reducible (first|refine Frz.mk ?_|refine And.intro (Frz.mk ?_) ?_|refine And.intro ?_ (Frz.mk ?_)));repeat' first|exact True.intro|(change _=_;with_reducible rfl)|refine And.intro ?_ ?_|(with_reducible refine Frz.mk ?_))
  all_goals try (refine Held.mk ?_;(try dsimp only at *);(try simp only[zad,zac,eqD,inR,big,zaa,Bool.not_true,Bool.not_false,Bool.true_eq,decide_eq_true_eq,decide_eq_false_iff_not,Bool.not_eq_true',Bool.not_eq_false',Bool.and_eq_true,Prod.mk.injEq,and_true,true_and,Int.not_lt,Int.not_le,gt_iff_lt,ge_iff_le] at *))
  all_goals try omega
def zs0 (T:List Int):LoopAnn:={σ:=Nat,pat:=fun k=>[sI 3 k],inv:=fun k=>k≤T.length∧∀i,i<k→zbx (T.getD i 0)=false,meas:=fun k=>T.length - k}
theorem zrt {T:List Int} (h:∀i,i<T.length→zbx (T.getD i 0)=false):¬(T.any zbx=true):=by
  intro hc
  obtain⟨x,hx,hb⟩:=List.any_eq_true.1 hc
  obtain⟨i,hi,rfl⟩:=List.mem_iff_getElem.1 hx
  have:=h i hi
  simp[List.getD,List.getElem?_eq_getElem hi,hb] at this
theorem h25:Ok 25 zbj:=by
  refine mk (ctr:=[(17,zbs)]) ⟨h17,trivial⟩ (nt:=35) Try.func25 rfl rfl rfl rfl (by kernel_rfl) (by kernel_rfl) (fun x=>[fun _=>zs0 x.1.1]) ?_
  rintro⟨⟨(T:List Int),(g:Int),_⟩,_⟩ _
  repeat' (intro hzz;(try (rename Two=>hq;cases hq));(try dsimp only at hzz);(try simp only[zad,zac,eqD,inR,big,zaa,Bool.not_true,Bool.not_false,Bool.true_eq,decide_eq_true_eq,decide_eq_false_iff_not,Bool.not_eq_true',Bool.not_eq_false',Bool.and_eq_true,Prod.mk.injEq,and_true,true_and,Int.not_lt,Int.not_le,gt_iff_lt,ge_iff_le] at hzz);(try simp only[zad,zac,eqD,inR,big,zaa,Bool.not_true,Bool.not_false,Bool.true_eq,decide_eq_true_eq,decide_eq_false_iff_not,Bool.not_eq_true',Bool.not_eq_false',Bool.and_eq_true,Prod.mk.injEq,and_true,true_and,Int.not_lt,Int.not_le,gt_iff_lt,ge_iff_le,zaj,zal] at hzz);(try (revert hzz;intro _)))
  all_goals try (rename Unit=>hq;clear hq)
  all_goals try ((with_reducible refine Held.mk ?_);(with_reducible (first|refine Frz.mk ?_|refine And.intro (Frz.mk ?_) ?_|refine And.intro ?_ (Frz.mk ?_)));repeat' first|exact True.intro|(change _=_;with_reducible rfl)|refine And.intro ?_ ?_|(with_reducible refine Frz.mk ?_))
  all_goals try (refine Held.mk ?_;(try dsimp only at *);(try simp only[zad,zac,eqD,inR,big,zaa,Bool.not_true,Bool.not_false,Bool.true_eq,decide_eq_true_eq,decide_eq_false_iff_not,Bool.not_eq_true',Bool.not_eq_false',Bool.and_eq_true,Prod.mk.injEq,and_true,true_and,Int.not_lt,Int.not_le,gt_iff_lt,ge_iff_le] at *);(try simp only[zad,zac,eqD,inR,big,zaa,Bool.not_true,Bool.not_false,Bool.true_eq,decide_eq_true_eq,decide_eq_false_iff_not,Bool.not_eq_true',Bool.not_eq_false',Bool.and_eq_true,Prod.mk.injEq,and_true,true_and,Int.not_lt,Int.not_le,gt_iff_lt,ge_iff_le,zaj,zal] at *))
  all_goals try omega
  · rename_i h
    simp only[zaf];rw[if_pos (by omega)]
  · rename_i h1 h2
    simp only[zaf];rw[if_neg (by omega),if_pos (by omega)]
  · rename_i h1 h2 h3
    have h3:T.getD 0 0≠0:=h3
    simp only[zaf];rw[if_neg (by omega),if_neg (by omega),if_pos h3]
  ·
    refine zah.mk ?_
    refine Exists.intro (0:Nat) ?_
    refine And.intro (Leaf.mk ?_) ?_
    · repeat' first|exact True.intro|refine And.intro ?_ ?_
      all_goals try ((change _=_<;>try dsimp only)<;>try with_reducible rfl)
      all_goals try omega
    exact⟨Nat.zero_le _,fun i hi=>by omega⟩
  · rename_i h1 h2 h3 k h4 h5 h6
    have h3:¬(T.getD 0 0≠0):=fun hc=>hc h3
    have hk:k<T.length:=by omega
    have hm:T.getD k 0∈T:=by simp[List.getD,List.getElem?_eq_getElem hk]
    have hb:T.any zbx=true:=List.any_eq_true.2 ⟨_,hm,by simp only[zbx,zal,Bool.not_eq_true',decide_eq_false_iff_not];exact h6⟩
    simp only[zaf];rw[if_neg (by omega),if_neg (by omega),if_neg h3,if_pos (.inl hb)]
  · rename_i h1 h2 h3 k h4 h5 h6
    have hk:k<T.length:=by omega
    refine zah.mk ?_
    refine Exists.intro (k+1) ?_
    refine And.intro (Leaf.mk ?_) ?_
    · repeat' first|exact True.intro|refine And.intro ?_ ?_
      all_goals try ((change _=_<;>try dsimp only)<;>try with_reducible rfl)
      all_goals try omega
    refine⟨⟨hk,fun i hi=>?_⟩,?_⟩
    · by_cases hik:i<k
      · have:=h4.2 i hik
        simp only[zbx,zal,Bool.not_eq_false',decide_eq_true_eq];exact this
      · obtain rfl:i=k:=by omega
        simp only[zbx,zal,Bool.not_eq_false',decide_eq_true_eq];exact h6
    · change T.length - (k+1)<T.length - k
      omega
  · rename_i h1 h2 h3 k h4 h5 h6
    have h3:¬(T.getD 0 0≠0):=fun hc=>hc h3
    simp only[zaf];rw[if_neg (by omega),if_neg (by omega),if_neg h3,if_pos (.inr h6)]
  · rename_i h1 h2 h3 k h4 h5 h6
    have h3:¬(T.getD 0 0≠0):=fun hc=>hc h3
    have hb:¬(T.any zbx=true):=zrt fun i hi=>by
      have:=h4.2 i (by omega)
      simp only[zbx,zal,Bool.not_eq_false',decide_eq_true_eq];exact this
    simp only[zaf];rw[if_neg (by omega),if_neg (by omega),if_neg h3,if_neg (fun h=>h.elim hb (fun h=>h h6))]
theorem h27:Ok 27 zjl:=by
  refine mk (ctr:=[(17,zbs)]) ⟨h17,trivial⟩ (nt:=18) Try.func27 rfl rfl rfl rfl (by kernel_rfl) (by kernel_rfl) (fun _=>[]) ?_
  rintro⟨⟨(fr:Int),(to:Int),_⟩,_⟩ _
  repeat' (intro hzz;(try (rename Two=>hq;cases hq));(try dsimp only at hzz);(try simp only[zad,zac,eqD,inR,big,zaa,Bool.not_true,Bool.not_false,Bool.true_eq,decide_eq_true_eq,decide_eq_false_iff_not,Bool.not_eq_true',Bool.not_eq_false',Bool.and_eq_true,Prod.mk.injEq,and_true,true_and,Int.not_lt,Int.not_le,gt_iff_lt,ge_iff_le] at hzz);(try simp only[zad,zac,eqD,inR,big,zaa,Bool.not_true,Bool.not_false,Bool.true_eq,decide_eq_true_eq,decide_eq_false_iff_not,Bool.not_eq_true',Bool.not_eq_false',Bool.and_eq_true,Prod.mk.injEq,and_true,true_and,Int.not_lt,Int.not_le,gt_iff_lt,ge_iff_le,zcz,zal] at hzz);(try (revert hzz;intro _)))
  all_goals try (rename Unit=>hq;clear hq)
  all_goals try ((with_reducible refine Held.mk ?_);(with_reducible (first|refine Frz.mk ?_|refine And.intro (Frz.mk ?_) ?_|refine And.intro ?_ (Frz.mk ?_)));repeat' first|exact True.intro|(change _=_;with_reducible rfl)|refine And.intro ?_ ?_|(with_reducible refine Frz.mk ?_))
  all_goals try (refine Held.mk ?_;(try dsimp only at *);(try simp only[zad,zac,eqD,inR,big,zaa,Bool.not_true,Bool.not_false,Bool.true_eq,decide_eq_true_eq,decide_eq_false_iff_not,Bool.not_eq_true',Bool.not_eq_false',Bool.and_eq_true,Prod.mk.injEq,and_true,true_and,Int.not_lt,Int.not_le,gt_iff_lt,ge_iff_le] at *);(try simp only[zad,zac,eqD,inR,big,zaa,Bool.not_true,Bool.not_false,Bool.true_eq,decide_eq_true_eq,decide_eq_false_iff_not,Bool.not_eq_true',Bool.not_eq_false',Bool.and_eq_true,Prod.mk.injEq,and_true,true_and,Int.not_lt,Int.not_le,gt_iff_lt,ge_iff_le,zcz,zal] at *))
  all_goals try omega
theorem zrG (x:Int):(x.tmod 16384000≠0)=(¬x % 16384000=0):=by
  have h1:=Int.tmod_eq_emod (a:=x) (b:=16384000)
  have h2:=Int.emod_nonneg x (show (16384000:Int)≠0 by decide)
  have h3:=Int.emod_lt_of_pos x (show (0:Int)<16384000 by decide)
  apply propext
  split at h1
  · rw[h1];simp
  · rename_i hc
    constructor
    · intro _ h0
      exact hc (.inr (Int.dvd_of_emod_eq_zero h0))
    · intro _ h0
      simp at h1
      omega
@[reducible] def zhj:Spec:={pats:=[.dat (.sl DirT),.dat zbQ,.dat I64],res:=[{t:=Ball}],pre:=fun x=>x.1=zbu∧GoodLoop x.2.1.1 x.2.1.2.1∧-1000000≤x.2.2.1∧x.2.2.1≤1000000,f:=fun x=>(zc2 x.2.1.1 x.2.1.2.1 x.2.2.1,())}
def zsO (T:List Int) (m:Int):LoopAnn:={σ:=Nat,pat:=fun k=>[sI 10 k,sI 7 (sm (vX T m) k),sI 8 (sm (vY T m) k),sI 9 (sm (vR T m) k)],inv:=fun k=>k≤T.length,meas:=fun k=>T.length - k}
theorem h26:Ok 26 zhj:=by
  refine mk (ctr:=[(19,zji),(87,zh6),(79,zlf),(88,zh7),(66,sMod)]) ⟨h19,h87,h79,h88,h66,trivial⟩ (nt:=89) Try.func26 rfl rfl rfl rfl (by kernel_rfl) (by kernel_rfl) (fun x=>[fun _=>zsO x.2.1.1 x.2.2.1]) ?_
  rintro⟨_,⟨(T:List Int),(g:Int),_⟩,(m:Int),_⟩ ⟨(rfl:_=zbu),(hT:GoodLoop T g),(hm0 : -1000000≤m),(hm1:m≤1000000)⟩
  have hl:=hT.le
  have hx:=fun k (hk:k≤T.length)=>zrN hT m hk
  have hy:=fun k (hk:k≤T.length)=>zrM hT m hk
  have hr:=fun k (hk:k≤T.length)=>zqG hT m hk
  repeat' (intro hzz;(try (rename Two=>hq;cases hq));(try dsimp only at hzz);(try simp only[zad,zac,eqD,inR,big,zaa,Bool.not_true,Bool.not_false,Bool.true_eq,decide_eq_true_eq,decide_eq_false_iff_not,Bool.not_eq_true',Bool.not_eq_false',Bool.and_eq_true,Prod.mk.injEq,and_true,true_and,Int.not_lt,Int.not_le,gt_iff_lt,ge_iff_le] at hzz);(try simp only[zad,zac,eqD,inR,big,zaa,Bool.not_true,Bool.not_false,Bool.true_eq,decide_eq_true_eq,decide_eq_false_iff_not,Bool.not_eq_true',Bool.not_eq_false',Bool.and_eq_true,Prod.mk.injEq,and_true,true_and,Int.not_lt,Int.not_le,gt_iff_lt,ge_iff_le,zaj,zdf,za2,zdi,fMod] at hzz);(try (revert hzz;intro _)))
  all_goals try (rename Unit=>hq;clear hq)
  all_goals try ((with_reducible refine Held.mk ?_);(with_reducible (first|refine Frz.mk ?_|refine And.intro (Frz.mk ?_) ?_|refine And.intro ?_ (Frz.mk ?_)));repeat' first|exact True.intro|(change _=_;with_reducible rfl)|refine And.intro ?_ ?_|(with_reducible refine Frz.mk ?_))
  all_goals try (refine Held.mk ?_;(try dsimp only at *);(try simp only[zad,zac,eqD,inR,big,zaa,Bool.not_true,Bool.not_false,Bool.true_eq,decide_eq_true_eq,decide_eq_false_iff_not,Bool.not_eq_true',Bool.not_eq_false',Bool.and_eq_true,Prod.mk.injEq,and_true,true_and,Int.not_lt,Int.not_le,gt_iff_lt,ge_iff_le] at *);(try simp only[zad,zac,eqD,inR,big,zaa,Bool.not_true,Bool.not_false,Bool.true_eq,decide_eq_true_eq,decide_eq_false_iff_not,Bool.not_eq_true',Bool.not_eq_false',Bool.and_eq_true,Prod.mk.injEq,and_true,true_and,Int.not_lt,Int.not_le,gt_iff_lt,ge_iff_le,zaj,zdf,za2,zdi,fMod] at *))
  all_goals try omega
  ·
    refine zah.mk ?_
    refine Exists.intro (0:Nat) ?_
    refine And.intro (Leaf.mk ?_) ?_
    · repeat' first|exact True.intro|refine And.intro ?_ ?_
      all_goals try ((change _=_<;>try dsimp only)<;>try with_reducible rfl)
      all_goals try omega
      all_goals (rfl)
    exact Nat.zero_le _
  all_goals try
    (rename_i k h1 h2
     have hk:k<T.length:=by omega
     have hv:=hT.val k hk
     have a1:=zqw hT m hk
     have a2:=zqv hT m hk
     have a3:=zpf hT m hk
     have b1:=hx k h1
     have b2:=hy k h1
     have b3:=hr k h1
     have c1:=zbL (x:=-m) (d:=(k:Int)) (X:=1000000) (B:=32) (by omega) (by omega) (by omega) (by omega)
     simp only[vX,vY,vR] at a1 a2 a3
     omega)
  · rename_i k h1 h2
    have hk:k<T.length:=by omega
    refine zah.mk ?_
    refine Exists.intro (k+1) ?_
    refine And.intro (Leaf.mk ?_) ?_
    · repeat' first|exact True.intro|refine And.intro ?_ ?_
      all_goals try ((change _=_<;>try dsimp only)<;>try with_reducible rfl)
      all_goals try omega
      all_goals (rfl)
    refine⟨hk,?_⟩
    change T.length - (k+1)<T.length - k
    omega
  all_goals have c1:=mulg (hx T.length (Nat.le_refl _)).1 (hx T.length (Nat.le_refl _)).2 hT.gain0 hT.gain1
  all_goals have c2:=mulg (hy T.length (Nat.le_refl _)).1 (hy T.length (Nat.le_refl _)).2 hT.gain0 hT.gain1
  all_goals have c3:=mulg (x:=sm (vR T m) T.length) (g:=g) (B:=1048576) (by have:=hr T.length (Nat.le_refl _);omega) (hr T.length (Nat.le_refl _)).2 hT.gain0 hT.gain1
  all_goals try
    (rename_i k h1 h2
     obtain rfl:k=T.length:=by omega
     first
      | omega
      | exact (⟨by decide,by decide,by omega,by omega⟩:(0:Int)<16384000∧(16384000:Int)≤2000000000000000000∧-8000000000000000000≤sm (vX T m) T.length*g∧sm (vX T m) T.length*g≤7000000000000000000)
      | exact (⟨by decide,by decide,by omega,by omega⟩:(0:Int)<16384000∧(16384000:Int)≤2000000000000000000∧-8000000000000000000≤sm (vY T m) T.length*g∧sm (vY T m) T.length*g≤7000000000000000000)
      | exact (⟨by decide,by decide⟩:(0:Int)<16384000∧(16384000:Int)≤2000000000000000000))
  all_goals try exact (⟨by decide,by decide⟩:(0:Int)<16384000∧(16384000:Int)≤2000000000000000000)
  all_goals try
    (rename_i k h1 h2 h3 h4
     obtain rfl:k=T.length:=by omega
     first
      | (simp only[zes];omega)
      | (simp only [zc2,zrG,zjH,zer]
         first
          | (rw[if_pos (.inr h4)];exact⟨by omega,by omega,rfl⟩)
          | (rw[if_neg (by rintro (h|h)<;>contradiction),Int.add_zero];exact⟨by omega,by omega,rfl⟩)))
  all_goals
    (rename_i k h1 h2 h3
     obtain rfl:k=T.length:=by omega
     first
      | (simp only[zes];omega)
      | (simp only[zc2,zrG,zjH,zer]
         rw[if_pos (.inl h3)];exact⟨by omega,by omega,rfl⟩))
@[reducible] def znO:Spec:={pats:=[.dat (.sl DirT),.dat zbQ,.dat ArcT],res:=[{t:=Ball}],pre:=fun x=>x.1=zbu∧GoodLoop x.2.1.1 x.2.1.2.1∧zcz x.2.2.1.1 x.2.2.1.2.1=0,f:=fun x=>(arcI x.2.1.1 x.2.1.2.1 x.2.2.1.1 x.2.2.1.2.1,())}
def zs4 (T:List Int):LoopAnn:={σ:=Nat,pat:=fun k=>[sI 10 k,sI 9 (zb3 T k)],inv:=fun k=>k≤T.length,meas:=fun k=>T.length - k}
theorem h28:Ok 28 znO:=by
  refine mk (ctr:=[(39,zeO),(26,zhj),(87,zh6),(88,zh7)]) ⟨h39,h26,h87,h88,trivial⟩ (nt:=54) Try.func28 rfl rfl rfl rfl (by kernel_rfl) (by kernel_rfl) (fun x=>[fun _=>zs4 x.2.1.1]) ?_
  rintro⟨_,⟨(T:List Int),(g:Int),_⟩,⟨(a:Int),(b:Int),_⟩,_⟩ ⟨(rfl:_=zbu),(hT:GoodLoop T g),(ha:zcz a b=0)⟩
  have hl:=hT.le
  have ha:=zqo ha
  repeat' (intro hzz;(try (rename Two=>hq;cases hq));(try dsimp only at hzz);(try simp only[zad,zac,eqD,inR,big,zaa,Bool.not_true,Bool.not_false,Bool.true_eq,decide_eq_true_eq,decide_eq_false_iff_not,Bool.not_eq_true',Bool.not_eq_false',Bool.and_eq_true,Prod.mk.injEq,and_true,true_and,Int.not_lt,Int.not_le,gt_iff_lt,ge_iff_le] at hzz);(try simp only[zad,zac,eqD,inR,big,zaa,Bool.not_true,Bool.not_false,Bool.true_eq,decide_eq_true_eq,decide_eq_false_iff_not,Bool.not_eq_true',Bool.not_eq_false',Bool.and_eq_true,Prod.mk.injEq,and_true,true_and,Int.not_lt,Int.not_le,gt_iff_lt,ge_iff_le,zaj,zdf,za2,zdi,zdr] at hzz);(try (revert hzz;intro _)))
  all_goals try (rename Unit=>hq;clear hq)
  all_goals try ((with_reducible refine Held.mk ?_);(with_reducible (first|refine Frz.mk ?_|refine And.intro (Frz.mk ?_) ?_|refine And.intro ?_ (Frz.mk ?_)));repeat' first|exact True.intro|(change _=_;with_reducible rfl)|refine And.intro ?_ ?_|(with_reducible refine Frz.mk ?_))
  all_goals try (refine Held.mk ?_;(try dsimp only at *);(try simp only[zad,zac,eqD,inR,big,zaa,Bool.not_true,Bool.not_false,Bool.true_eq,decide_eq_true_eq,decide_eq_false_iff_not,Bool.not_eq_true',Bool.not_eq_false',Bool.and_eq_true,Prod.mk.injEq,and_true,true_and,Int.not_lt,Int.not_le,gt_iff_lt,ge_iff_le] at *);(try simp only[zad,zac,eqD,inR,big,zaa,Bool.not_true,Bool.not_false,Bool.true_eq,decide_eq_true_eq,decide_eq_false_iff_not,Bool.not_eq_true',Bool.not_eq_false',Bool.and_eq_true,Prod.mk.injEq,and_true,true_and,Int.not_lt,Int.not_le,gt_iff_lt,ge_iff_le,zaj,zdf,za2,zdi,zdr] at *))
  all_goals try omega
  · have h5 : -1000000≤(a+b) / 2∧(a+b) / 2≤1000000:=by omega
    exact⟨hT,h5⟩
  ·
    refine zah.mk ?_
    refine Exists.intro (0:Nat) ?_
    refine And.intro (Leaf.mk ?_) ?_
    · repeat' first|exact True.intro|refine And.intro ?_ ?_
      all_goals try ((change _=_<;>try dsimp only)<;>try with_reducible rfl)
      all_goals try omega
      all_goals (rfl)
    exact Nat.zero_le _
  all_goals try
    (rename_i k h1 h2
     have hk:k<T.length:=by omega
     have hv:=hT.val k hk
     have a1:=zjc hT h1
     have c1:=zbL (x:=(k:Int)) (d:=((T.getD k 0).natAbs:Int)) (X:=32) (B:=16384) (by omega) (by omega) (by omega) (by omega)
     omega)
  · rename_i k h1 h2
    have hk:k<T.length:=by omega
    refine zah.mk ?_
    refine Exists.intro (k+1) ?_
    refine And.intro (Leaf.mk ?_) ?_
    · repeat' first|exact True.intro|refine And.intro ?_ ?_
      all_goals try ((change _=_<;>try dsimp only)<;>try with_reducible rfl)
      all_goals try omega
      all_goals (rfl)
    refine⟨hk,?_⟩
    change T.length - (k+1)<T.length - k
    omega
  all_goals rename_i k h1 h2
  all_goals obtain rfl:k=T.length:=by omega
  all_goals have b1:=zka hT ha
  all_goals have b2:=zjY hT ((a+b) / 2)
  all_goals try omega
  · simp only[zes];omega
  · exact⟨rfl,rfl,rfl⟩
@[reducible] def zlh:Spec:={pats:=[.dat zbQ,.dat I64,.dat ArcT],res:=[{t:=.bool}],pre:=fun _=>True,f:=fun _=>(true,())}
theorem zsw {T:List Int} {g m:Int} (h:zaf T g=0) (hm:¬(-1000000≤m∧m≤1000000)):zbF T g m=((0,0,0,()),2):=by
  have hd:decide (-1000000≤m∧m≤1000000)=false:=decide_eq_false hm
  have e:zg3 T g m=2:=by simp only[zg3];rw[if_pos h,hd];rfl
  simp only[zbF];rw[if_neg (by rw[e];decide),e]
theorem h4:Ok 4 zlh:=by
  refine mk (ctr:=[(16,zgy),(21,sFew),(23,zpo),(22,zjh),(24,zjm),(25,zbj),(17,zbs),(20,zhi),(26,zhj),(27,zjl),(28,znO)]) ⟨h16,h21,h23,h22,h24,h25,h17,h20',h26,h27,h28,trivial⟩ (nt:=96) Try.func4 rfl rfl rfl rfl (by kernel_rfl) (by kernel_rfl) (fun _=>[]) ?_
  rintro⟨⟨(T:List Int),(g:Int),_⟩,(m:Int),⟨(a:Int),(b:Int),_⟩,_⟩ _
  repeat' (intro hzz;(try (rename Two=>hq;cases hq));(try dsimp only at hzz);(try simp only[zad,zac,eqD,inR,big,zaa,Bool.not_true,Bool.not_false,Bool.true_eq,decide_eq_true_eq,decide_eq_false_iff_not,Bool.not_eq_true',Bool.not_eq_false',Bool.and_eq_true,Prod.mk.injEq,and_true,true_and,Int.not_lt,Int.not_le,gt_iff_lt,ge_iff_le] at hzz);(try simp only[zad,zac,eqD,inR,big,zaa,Bool.not_true,Bool.not_false,Bool.true_eq,decide_eq_true_eq,decide_eq_false_iff_not,Bool.not_eq_true',Bool.not_eq_false',Bool.and_eq_true,Prod.mk.injEq,and_true,true_and,Int.not_lt,Int.not_le,gt_iff_lt,ge_iff_le,zal,Ty.beq] at hzz);(try (revert hzz;intro _)))
  all_goals try (rename Unit=>hq;clear hq)
  all_goals try ((with_reducible refine Held.mk ?_);(with_reducible (first|refine Frz.mk ?_|refine And.intro (Frz.mk ?_) ?_|refine And.intro ?_ (Frz.mk ?_)));repeat' first|exact True.intro|(change _=_;with_reducible rfl)|refine And.intro ?_ ?_|(with_reducible refine Frz.mk ?_))
  all_goals try (refine Held.mk ?_;(try dsimp only at *);(try simp only[zad,zac,eqD,inR,big,zaa,Bool.not_true,Bool.not_false,Bool.true_eq,decide_eq_true_eq,decide_eq_false_iff_not,Bool.not_eq_true',Bool.not_eq_false',Bool.and_eq_true,Prod.mk.injEq,and_true,true_and,Int.not_lt,Int.not_le,gt_iff_lt,ge_iff_le] at *);(try simp only[zad,zac,eqD,inR,big,zaa,Bool.not_true,Bool.not_false,Bool.true_eq,decide_eq_true_eq,decide_eq_false_iff_not,Bool.not_eq_true',Bool.not_eq_false',Bool.and_eq_true,Prod.mk.injEq,and_true,true_and,Int.not_lt,Int.not_le,gt_iff_lt,ge_iff_le,zal,Ty.beq] at *))
  all_goals try omega
  all_goals first
    | exact⟨zdM ‹_›,‹_›⟩
    | (exfalso;have e:=zsw ‹zaf T g=0› ‹¬(-1000000≤m∧m≤1000000)›;simp[e] at *;done)
    | (exfalso;simp_all [zbF,zbR,zg3,zlS];done)
    | (simp_all [zbF,zbR,zg3,zlS];done)
    | trace_state
def zkI (x y r:Int):Bool:=decide (((-1000000000000000≤x∧x≤1000000000000000)∧(-1000000000000000≤y∧y≤1000000000000000)∧(0≤r∧r≤1000000000000000))∧(r<(y.natAbs:Int)∨x+r<1048576))
@[reducible] def zl9:Spec:={pats:=[.dat Ball],res:=[{t:=.bool}],pre:=fun _=>True,f:=fun x=>(zkI x.1.1 x.1.2.1 x.1.2.2.1,())}
theorem h31:Ok 31 zl9:=by
  refine mk (ctr:=[(83,zkd),(89,zbs),(90,zh6)]) ⟨h83,h89,h90,trivial⟩ (nt:=33) Try.func31 rfl rfl rfl rfl (by kernel_rfl) (by kernel_rfl) (fun _=>[]) ?_
  rintro⟨⟨(x:Int),(y:Int),(r:Int),_⟩,_⟩ _
  repeat' (intro hzz;(try (rename Two=>hq;cases hq));(try dsimp only at hzz);(try simp only[zad,zac,eqD,inR,big,zaa,Bool.not_true,Bool.not_false,Bool.true_eq,decide_eq_true_eq,decide_eq_false_iff_not,Bool.not_eq_true',Bool.not_eq_false',Bool.and_eq_true,Prod.mk.injEq,and_true,true_and,Int.not_lt,Int.not_le,gt_iff_lt,ge_iff_le] at hzz);(try simp only[zad,zac,eqD,inR,big,zaa,Bool.not_true,Bool.not_false,Bool.true_eq,decide_eq_true_eq,decide_eq_false_iff_not,Bool.not_eq_true',Bool.not_eq_false',Bool.and_eq_true,Prod.mk.injEq,and_true,true_and,Int.not_lt,Int.not_le,gt_iff_lt,ge_iff_le,zcS,zal,zdf,zdi,zkI] at hzz);(try (revert hzz;intro _)))
  all_goals try (rename Unit=>hq;clear hq)
  all_goals try ((with_reducible refine Held.mk ?_);(with_reducible (first|refine Frz.mk ?_|refine And.intro (Frz.mk ?_) ?_|refine And.intro ?_ (Frz.mk ?_)));repeat' first|exact True.intro|(change _=_;with_reducible rfl)|refine And.intro ?_ ?_|(with_reducible refine Frz.mk ?_))
  all_goals try (refine Held.mk ?_;(try dsimp only at *);(try simp only[zad,zac,eqD,inR,big,zaa,Bool.not_true,Bool.not_false,Bool.true_eq,decide_eq_true_eq,decide_eq_false_iff_not,Bool.not_eq_true',Bool.not_eq_false',Bool.and_eq_true,Prod.mk.injEq,and_true,true_and,Int.not_lt,Int.not_le,gt_iff_lt,ge_iff_le] at *);(try simp only[zad,zac,eqD,inR,big,zaa,Bool.not_true,Bool.not_false,Bool.true_eq,decide_eq_true_eq,decide_eq_false_iff_not,Bool.not_eq_true',Bool.not_eq_false',Bool.and_eq_true,Prod.mk.injEq,and_true,true_and,Int.not_lt,Int.not_le,gt_iff_lt,ge_iff_le,zcS,zal,zdf,zdi,zkI] at *))
  all_goals try omega
  all_goals first
    | (symm;simp only[decide_eq_true_eq];omega)
    | (symm;simp only[decide_eq_false_iff_not];omega)
    | (simp only[decide_eq_decide];omega)
    | trace_state
theorem h32:Ok 32 zl9:=by
  refine mk (ctr:=[(17,zbs),(87,zh6)]) ⟨h17,h87,trivial⟩ (nt:=33) Try.func32 rfl rfl rfl rfl (by kernel_rfl) (by kernel_rfl) (fun _=>[]) ?_
  rintro⟨⟨(x:Int),(y:Int),(r:Int),_⟩,_⟩ _
  repeat' (intro hzz;(try (rename Two=>hq;cases hq));(try dsimp only at hzz);(try simp only[zad,zac,eqD,inR,big,zaa,Bool.not_true,Bool.not_false,Bool.true_eq,decide_eq_true_eq,decide_eq_false_iff_not,Bool.not_eq_true',Bool.not_eq_false',Bool.and_eq_true,Prod.mk.injEq,and_true,true_and,Int.not_lt,Int.not_le,gt_iff_lt,ge_iff_le] at hzz);(try simp only[zad,zac,eqD,inR,big,zaa,Bool.not_true,Bool.not_false,Bool.true_eq,decide_eq_true_eq,decide_eq_false_iff_not,Bool.not_eq_true',Bool.not_eq_false',Bool.and_eq_true,Prod.mk.injEq,and_true,true_and,Int.not_lt,Int.not_le,gt_iff_lt,ge_iff_le,zcS,zal,zdf,zdi,zkI] at hzz);(try (revert hzz;intro _)))
  all_goals try (rename Unit=>hq;clear hq)
  all_goals try ((with_reducible refine Held.mk ?_);(with_reducible (first|refine Frz.mk ?_|refine And.intro (Frz.mk ?_) ?_|refine And.intro ?_ (Frz.mk ?_)));repeat' first|exact True.intro|(change _=_;with_reducible rfl)|refine And.intro ?_ ?_|(with_reducible refine Frz.mk ?_))
  all_goals try (refine Held.mk ?_;(try dsimp only at *);(try simp only[zad,zac,eqD,inR,big,zaa,Bool.not_true,Bool.not_false,Bool.true_eq,decide_eq_true_eq,decide_eq_false_iff_not,Bool.not_eq_true',Bool.not_eq_false',Bool.and_eq_true,Prod.mk.injEq,and_true,true_and,Int.not_lt,Int.not_le,gt_iff_lt,ge_iff_le] at *);(try simp only[zad,zac,eqD,inR,big,zaa,Bool.not_true,Bool.not_false,Bool.true_eq,decide_eq_true_eq,decide_eq_false_iff_not,Bool.not_eq_true',Bool.not_eq_false',Bool.and_eq_true,Prod.mk.injEq,and_true,true_and,Int.not_lt,Int.not_le,gt_iff_lt,ge_iff_le,zcS,zal,zdf,zdi,zkI] at *))
  all_goals try omega
  all_goals first
    | (symm;simp only[decide_eq_true_eq];omega)
    | (symm;simp only[decide_eq_false_iff_not];omega)
    | (simp only[decide_eq_decide];omega)
    | trace_state
@[reducible] def zmU:Spec:={pats:=[.dat Ball],res:=[{t:=.bool}],pre:=fun _=>True,f:=fun _=>(true,())}
theorem h6:Ok 6 zmU:=by
  refine mk (ctr:=[(16,zgy),(31,zl9),(32,zl9)]) ⟨h16,h31,h32,trivial⟩ (nt:=10) Try.func6 rfl rfl rfl rfl (by kernel_rfl) (by kernel_rfl) (fun _=>[]) ?_
  rintro⟨⟨(x:Int),(y:Int),(r:Int),_⟩,_⟩ _
  repeat' (intro hzz;(try (rename Two=>hq;cases hq));(try dsimp only at hzz);(try simp only[zad,zac,eqD,inR,big,zaa,Bool.not_true,Bool.not_false,Bool.true_eq,decide_eq_true_eq,decide_eq_false_iff_not,Bool.not_eq_true',Bool.not_eq_false',Bool.and_eq_true,Prod.mk.injEq,and_true,true_and,Int.not_lt,Int.not_le,gt_iff_lt,ge_iff_le] at hzz);(try (revert hzz;intro _)))
  all_goals try (rename Unit=>hq;clear hq)
  all_goals try ((with_reducible refine Held.mk ?_);(with_reducible (first|refine Frz.mk ?_|refine And.intro (Frz.mk ?_) ?_|refine And.intro ?_ (Frz.mk ?_)));repeat' first|exact True.intro|(change _=_;with_reducible rfl)|refine And.intro ?_ ?_|(with_reducible refine Frz.mk ?_))
  all_goals try (refine Held.mk ?_;(try dsimp only at *);(try simp only[zad,zac,eqD,inR,big,zaa,Bool.not_true,Bool.not_false,Bool.true_eq,decide_eq_true_eq,decide_eq_false_iff_not,Bool.not_eq_true',Bool.not_eq_false',Bool.and_eq_true,Prod.mk.injEq,and_true,true_and,Int.not_lt,Int.not_le,gt_iff_lt,ge_iff_le] at *))
  all_goals first|(simp;done)|(rename_i h;exact h)|(rename_i h;simp at h;done)|trace_state
def sSz (T:List Int) (k:Nat):Int:=sm (fun i=>((T.getD i 0).natAbs:Int)) k
def zd9 (T:List Int) (g:Int):Int:=zes (sSz T T.length*g) 16384
theorem znz {T:List Int} {g:Int} (h:GoodLoop T g) {k:Nat} (hk:k≤T.length):0≤sSz T k∧sSz T k≤524288:=by
  have hl:=h.le
  have hf:∀i,i<T.length→0≤((T.getD i 0).natAbs:Int)∧((T.getD i 0).natAbs:Int)≤16384:=fun i hi=>by
    have:=h.val i hi;omega
  have h1:=zj8 (f:=fun i=>((T.getD i 0).natAbs:Int)) (B:=16384) k (fun i hi=>by have:=hf i (by omega);omega)
  have h2:=znG (f:=fun i=>((T.getD i 0).natAbs:Int)) k (fun i hi=>(hf i (by omega)).1)
  simp only[sSz];omega
theorem zqF {T:List Int} {g:Int} (h:GoodLoop T g):0≤zd9 T g∧zd9 T g≤320000:=by
  have h1:=znz h (Nat.le_refl T.length)
  have h2:=mulg (x:=sSz T T.length) (g:=g) (B:=524288) (by omega) h1.2 h.gain0 h.gain1
  have h3:0≤sSz T T.length*g:=Int.mul_nonneg h1.1 h.gain0
  simp only[zd9,zes];omega
@[reducible] def zke:Spec:={pats:=[.dat zbQ],res:=[{t:=I64}],pre:=fun x=>GoodLoop x.1.1 x.1.2.1,f:=fun x=>(zd9 x.1.1 x.1.2.1,())}
def zsK (T:List Int):LoopAnn:={σ:=Nat,pat:=fun k=>[sI 9 k,sI 3 (sSz T k)],inv:=fun k=>k≤T.length,meas:=fun k=>T.length - k}
def zrH (T:List Int):LoopAnn:={σ:=Nat,pat:=fun k=>[sI 4 k,sI 3 (sSz T k)],inv:=fun k=>k≤T.length,meas:=fun k=>T.length - k}
theorem h92:Ok 92 zke:=by
  refine mk (ctr:=[(90,zh6),(119,zh7)]) ⟨h90,h119,trivial⟩ (nt:=23) Try.func92 rfl rfl rfl rfl (by kernel_rfl) (by kernel_rfl) (fun x=>[fun _=>zsK x.1.1]) ?_
  rintro⟨⟨(T:List Int),(g:Int),_⟩,_⟩ (hT:GoodLoop T g)
  have hl:=hT.le
  repeat' (intro hzz;(try (rename Two=>hq;cases hq));(try dsimp only at hzz);(try simp only[zad,zac,eqD,inR,big,zaa,Bool.not_true,Bool.not_false,Bool.true_eq,decide_eq_true_eq,decide_eq_false_iff_not,Bool.not_eq_true',Bool.not_eq_false',Bool.and_eq_true,Prod.mk.injEq,and_true,true_and,Int.not_lt,Int.not_le,gt_iff_lt,ge_iff_le] at hzz);(try simp only[zad,zac,eqD,inR,big,zaa,Bool.not_true,Bool.not_false,Bool.true_eq,decide_eq_true_eq,decide_eq_false_iff_not,Bool.not_eq_true',Bool.not_eq_false',Bool.and_eq_true,Prod.mk.injEq,and_true,true_and,Int.not_lt,Int.not_le,gt_iff_lt,ge_iff_le,zaj,zdf,za2,zdi] at hzz);(try (revert hzz;intro _)))
  all_goals try (rename Unit=>hq;clear hq)
  all_goals try ((with_reducible refine Held.mk ?_);(with_reducible (first|refine Frz.mk ?_|refine And.intro (Frz.mk ?_) ?_|refine And.intro ?_ (Frz.mk ?_)));repeat' first|exact True.intro|(change _=_;with_reducible rfl)|refine And.intro ?_ ?_|(with_reducible refine Frz.mk ?_))
  all_goals try (refine Held.mk ?_;(try dsimp only at *);(try simp only[zad,zac,eqD,inR,big,zaa,Bool.not_true,Bool.not_false,Bool.true_eq,decide_eq_true_eq,decide_eq_false_iff_not,Bool.not_eq_true',Bool.not_eq_false',Bool.and_eq_true,Prod.mk.injEq,and_true,true_and,Int.not_lt,Int.not_le,gt_iff_lt,ge_iff_le] at *);(try simp only[zad,zac,eqD,inR,big,zaa,Bool.not_true,Bool.not_false,Bool.true_eq,decide_eq_true_eq,decide_eq_false_iff_not,Bool.not_eq_true',Bool.not_eq_false',Bool.and_eq_true,Prod.mk.injEq,and_true,true_and,Int.not_lt,Int.not_le,gt_iff_lt,ge_iff_le,zaj,zdf,za2,zdi] at *))
  all_goals try omega
  ·
    refine zah.mk ?_
    refine Exists.intro (0:Nat) ?_
    refine And.intro (Leaf.mk ?_) ?_
    · repeat' first|exact True.intro|refine And.intro ?_ ?_
      all_goals try ((change _=_<;>try dsimp only)<;>try with_reducible rfl)
      all_goals try omega
      all_goals (rfl)
    exact Nat.zero_le _
  all_goals try
    (rename_i k h1 h2
     have hk:k<T.length:=by omega
     have hv:=hT.val k hk
     have a1:=znz hT h1
     omega)
  · rename_i k h1 h2
    have hk:k<T.length:=by omega
    refine zah.mk ?_
    refine Exists.intro (k+1) ?_
    refine And.intro (Leaf.mk ?_) ?_
    · repeat' first|exact True.intro|refine And.intro ?_ ?_
      all_goals try ((change _=_<;>try dsimp only)<;>try with_reducible rfl)
      all_goals try omega
      all_goals (rfl)
    refine⟨hk,?_⟩
    change T.length - (k+1)<T.length - k
    omega
  all_goals rename_i k h1 h2
  all_goals obtain rfl:k=T.length:=by omega
  all_goals have b1:=znz hT (Nat.le_refl T.length)
  all_goals have b2:=mulg (x:=sSz T T.length) (g:=g) (B:=524288) (by omega) b1.2 hT.gain0 hT.gain1
  all_goals try omega
  · rfl
theorem h59:Ok 59 zke:=by
  refine mk (ctr:=[(87,zh6),(88,zh7)]) ⟨h87,h88,trivial⟩ (nt:=25) Try.func59 rfl rfl rfl rfl (by kernel_rfl) (by kernel_rfl) (fun x=>[fun _=>zrH x.1.1]) ?_
  rintro⟨⟨(T:List Int),(g:Int),_⟩,_⟩ (hT:GoodLoop T g)
  have hl:=hT.le
  repeat' (intro hzz;(try (rename Two=>hq;cases hq));(try dsimp only at hzz);(try simp only[zad,zac,eqD,inR,big,zaa,Bool.not_true,Bool.not_false,Bool.true_eq,decide_eq_true_eq,decide_eq_false_iff_not,Bool.not_eq_true',Bool.not_eq_false',Bool.and_eq_true,Prod.mk.injEq,and_true,true_and,Int.not_lt,Int.not_le,gt_iff_lt,ge_iff_le] at hzz);(try simp only[zad,zac,eqD,inR,big,zaa,Bool.not_true,Bool.not_false,Bool.true_eq,decide_eq_true_eq,decide_eq_false_iff_not,Bool.not_eq_true',Bool.not_eq_false',Bool.and_eq_true,Prod.mk.injEq,and_true,true_and,Int.not_lt,Int.not_le,gt_iff_lt,ge_iff_le,zaj,zdf,za2,zdi] at hzz);(try (revert hzz;intro _)))
  all_goals try (rename Unit=>hq;clear hq)
  all_goals try ((with_reducible refine Held.mk ?_);(with_reducible (first|refine Frz.mk ?_|refine And.intro (Frz.mk ?_) ?_|refine And.intro ?_ (Frz.mk ?_)));repeat' first|exact True.intro|(change _=_;with_reducible rfl)|refine And.intro ?_ ?_|(with_reducible refine Frz.mk ?_))
  all_goals try (refine Held.mk ?_;(try dsimp only at *);(try simp only[zad,zac,eqD,inR,big,zaa,Bool.not_true,Bool.not_false,Bool.true_eq,decide_eq_true_eq,decide_eq_false_iff_not,Bool.not_eq_true',Bool.not_eq_false',Bool.and_eq_true,Prod.mk.injEq,and_true,true_and,Int.not_lt,Int.not_le,gt_iff_lt,ge_iff_le] at *);(try simp only[zad,zac,eqD,inR,big,zaa,Bool.not_true,Bool.not_false,Bool.true_eq,decide_eq_true_eq,decide_eq_false_iff_not,Bool.not_eq_true',Bool.not_eq_false',Bool.and_eq_true,Prod.mk.injEq,and_true,true_and,Int.not_lt,Int.not_le,gt_iff_lt,ge_iff_le,zaj,zdf,za2,zdi] at *))
  all_goals try omega
  ·
    refine zah.mk ?_
    refine Exists.intro (0:Nat) ?_
    refine And.intro (Leaf.mk ?_) ?_
    · repeat' first|exact True.intro|refine And.intro ?_ ?_
      all_goals try ((change _=_<;>try dsimp only)<;>try with_reducible rfl)
      all_goals try omega
      all_goals (rfl)
    exact Nat.zero_le _
  all_goals try
    (rename_i k h1 h2
     have hk:k<T.length:=by omega
     have hv:=hT.val k hk
     have a1:=znz hT h1
     omega)
  · rename_i k h1 h2
    have hk:k<T.length:=by omega
    refine zah.mk ?_
    refine Exists.intro (k+1) ?_
    refine And.intro (Leaf.mk ?_) ?_
    · repeat' first|exact True.intro|refine And.intro ?_ ?_
      all_goals try ((change _=_<;>try dsimp only)<;>try with_reducible rfl)
      all_goals try omega
      all_goals (rfl)
    refine⟨hk,?_⟩
    change T.length - (k+1)<T.length - k
    omega
  all_goals rename_i k h1 h2
  all_goals obtain rfl:k=T.length:=by omega
  all_goals have b1:=znz hT (Nat.le_refl T.length)
  all_goals have b2:=mulg (x:=sSz T T.length) (g:=g) (B:=524288) (by omega) b1.2 hT.gain0 hT.gain1
  all_goals try omega
  · rfl
def zcc (T:List Int) (g:Int):Int×Int:=if zaf T g=0 then (zd9 T g,0) else (0,zaf T g)
@[reducible] def zle:Spec:={pats:=[.dat zbQ],res:=[{t:=I64},{t:=I64}],pre:=fun _=>True,f:=fun x=>((zcc x.1.1 x.1.2.1).1,(zcc x.1.1 x.1.2.1).2,())}
theorem h55:Ok 55 zle:=by
  refine mk (ctr:=[(57,zbj),(92,zke)]) ⟨h57,h92,trivial⟩ (nt:=12) Try.func55 rfl rfl rfl rfl (by kernel_rfl) (by kernel_rfl) (fun _=>[]) ?_
  rintro⟨⟨(T:List Int),(g:Int),_⟩,_⟩ _
  repeat' (intro hzz;(try (rename Two=>hq;cases hq));(try dsimp only at hzz);(try simp only[zad,zac,eqD,inR,big,zaa,Bool.not_true,Bool.not_false,Bool.true_eq,decide_eq_true_eq,decide_eq_false_iff_not,Bool.not_eq_true',Bool.not_eq_false',Bool.and_eq_true,Prod.mk.injEq,and_true,true_and,Int.not_lt,Int.not_le,gt_iff_lt,ge_iff_le] at hzz);(try (revert hzz;intro _)))
  all_goals try (rename Unit=>hq;clear hq)
  all_goals try ((with_reducible refine Held.mk ?_);(with_reducible (first|refine Frz.mk ?_|refine And.intro (Frz.mk ?_) ?_|refine And.intro ?_ (Frz.mk ?_)));repeat' first|exact True.intro|(change _=_;with_reducible rfl)|refine And.intro ?_ ?_|(with_reducible refine Frz.mk ?_))
  all_goals try (refine Held.mk ?_;(try dsimp only at *);(try simp only[zad,zac,eqD,inR,big,zaa,Bool.not_true,Bool.not_false,Bool.true_eq,decide_eq_true_eq,decide_eq_false_iff_not,Bool.not_eq_true',Bool.not_eq_false',Bool.and_eq_true,Prod.mk.injEq,and_true,true_and,Int.not_lt,Int.not_le,gt_iff_lt,ge_iff_le] at *))
  all_goals try omega
  · rename_i h
    simp only[zcc];rw[if_neg h];exact⟨rfl,rfl⟩
  · rename_i h;exact zdM h
  · rename_i h
    simp only[zcc];rw[if_pos h];exact⟨rfl,rfl⟩
@[reducible] def zqa:Spec:={pats:=[.dat (.sl I64)],res:=[{t:=.sl I64}],pre:=fun x=>0<List.length (α:=Int) x.1∧zlx (List.length (α:=Int) x.1),f:=fun x=>(x.1,())}
theorem h120:Ok 120 zqa:=by
  refine mk (ctr:=[]) trivial (nt:=8) Try.func120 rfl rfl rfl rfl (by kernel_rfl) (by kernel_rfl) (fun _=>[]) ?_
  rintro⟨(xs:List Int),_⟩ ⟨(hp:0<xs.length),(hq:xs.length≤1000000)⟩
  repeat' (intro hzz;(try (rename Two=>hq;cases hq));(try dsimp only at hzz);(try simp only[zad,zac,eqD,inR,big,zaa,Bool.not_true,Bool.not_false,Bool.true_eq,decide_eq_true_eq,decide_eq_false_iff_not,Bool.not_eq_true',Bool.not_eq_false',Bool.and_eq_true,Prod.mk.injEq,and_true,true_and,Int.not_lt,Int.not_le,gt_iff_lt,ge_iff_le] at hzz);(try simp only[zad,zac,eqD,inR,big,zaa,Bool.not_true,Bool.not_false,Bool.true_eq,decide_eq_true_eq,decide_eq_false_iff_not,Bool.not_eq_true',Bool.not_eq_false',Bool.and_eq_true,Prod.mk.injEq,and_true,true_and,Int.not_lt,Int.not_le,gt_iff_lt,ge_iff_le,List.nil_append,List.length_nil] at hzz);(try (revert hzz;intro _)))
  all_goals try (rename Unit=>hq;clear hq)
  all_goals try ((with_reducible refine Held.mk ?_);(with_reducible (first|refine Frz.mk ?_|refine And.intro (Frz.mk ?_) ?_|refine And.intro ?_ (Frz.mk ?_)));repeat' first|exact True.intro|(change _=_;with_reducible rfl)|refine And.intro ?_ ?_|(with_reducible refine Frz.mk ?_))
  all_goals try (refine Held.mk ?_;(try dsimp only at *);(try simp only[zad,zac,eqD,inR,big,zaa,Bool.not_true,Bool.not_false,Bool.true_eq,decide_eq_true_eq,decide_eq_false_iff_not,Bool.not_eq_true',Bool.not_eq_false',Bool.and_eq_true,Prod.mk.injEq,and_true,true_and,Int.not_lt,Int.not_le,gt_iff_lt,ge_iff_le] at *);(try simp only[zad,zac,eqD,inR,big,zaa,Bool.not_true,Bool.not_false,Bool.true_eq,decide_eq_true_eq,decide_eq_false_iff_not,Bool.not_eq_true',Bool.not_eq_false',Bool.and_eq_true,Prod.mk.injEq,and_true,true_and,Int.not_lt,Int.not_le,gt_iff_lt,ge_iff_le,List.nil_append,List.length_nil] at *))
  all_goals try omega
def zgx (g n:Int):Int:=zes (g*n) 1000
@[reducible] def zl0:Spec:={pats:=[.dat zbQ,.dat I64],res:=[{t:=zbQ},{t:=.bool}],pre:=fun x=>GoodLoop x.1.1 x.1.2.1∧0≤x.2.1∧x.2.1≤4000,f:=fun x=>((x.1.1,zgx x.1.2.1 x.2.1,()),decide (zgx x.1.2.1 x.2.1≤10000),())}
theorem h100:Ok 100 zl0:=by
  refine mk (ctr:=[(120,zqa),(119,zh7)]) ⟨h120,h119,trivial⟩ (nt:=20) Try.func100 rfl rfl rfl rfl (by kernel_rfl) (by kernel_rfl) (fun _=>[]) ?_
  rintro⟨⟨(T:List Int),(g:Int),_⟩,(n:Int),_⟩ ⟨(hT:GoodLoop T g),(hn0:0≤n),(hn1:n≤4000)⟩
  have hg0:=hT.gain0
  have hg1:=hT.gain1
  have hl:=hT.le
  have hpos:=hT.pos
  have hm:=zbL (x:=g) (d:=n) (X:=10000) (B:=4000) (by omega) (by omega) (by omega) (by omega)
  repeat' (intro hzz;(try (rename Two=>hq;cases hq));(try dsimp only at hzz);(try simp only[zad,zac,eqD,inR,big,zaa,Bool.not_true,Bool.not_false,Bool.true_eq,decide_eq_true_eq,decide_eq_false_iff_not,Bool.not_eq_true',Bool.not_eq_false',Bool.and_eq_true,Prod.mk.injEq,and_true,true_and,Int.not_lt,Int.not_le,gt_iff_lt,ge_iff_le] at hzz);(try simp only[zad,zac,eqD,inR,big,zaa,Bool.not_true,Bool.not_false,Bool.true_eq,decide_eq_true_eq,decide_eq_false_iff_not,Bool.not_eq_true',Bool.not_eq_false',Bool.and_eq_true,Prod.mk.injEq,and_true,true_and,Int.not_lt,Int.not_le,gt_iff_lt,ge_iff_le,za2] at hzz);(try (revert hzz;intro _)))
  all_goals try (rename Unit=>hq;clear hq)
  all_goals try ((with_reducible refine Held.mk ?_);(with_reducible (first|refine Frz.mk ?_|refine And.intro (Frz.mk ?_) ?_|refine And.intro ?_ (Frz.mk ?_)));repeat' first|exact True.intro|(change _=_;with_reducible rfl)|refine And.intro ?_ ?_|(with_reducible refine Frz.mk ?_))
  all_goals try (refine Held.mk ?_;(try dsimp only at *);(try simp only[zad,zac,eqD,inR,big,zaa,Bool.not_true,Bool.not_false,Bool.true_eq,decide_eq_true_eq,decide_eq_false_iff_not,Bool.not_eq_true',Bool.not_eq_false',Bool.and_eq_true,Prod.mk.injEq,and_true,true_and,Int.not_lt,Int.not_le,gt_iff_lt,ge_iff_le] at *);(try simp only[zad,zac,eqD,inR,big,zaa,Bool.not_true,Bool.not_false,Bool.true_eq,decide_eq_true_eq,decide_eq_false_iff_not,Bool.not_eq_true',Bool.not_eq_false',Bool.and_eq_true,Prod.mk.injEq,and_true,true_and,Int.not_lt,Int.not_le,gt_iff_lt,ge_iff_le,za2] at *))
  all_goals try omega
  · exact⟨rfl,rfl⟩
def zfn (T:List Int) (g n:Int):Int:=if zaf T g=0 then (if 0≤n∧n≤4000 then (if zgx g n≤10000 then 0 else 2) else 2) else zaf T g
def zcd (T:List Int) (g n:Int):(List Int×Int)×Int:=if zfn T g n=0 then ((T,zgx g n),0) else (([],0),zfn T g n)
@[reducible] def znN:Spec:={pats:=[.dat zbQ,.dat I64],res:=[{t:=zbQ},{t:=I64}],pre:=fun _=>True,f:=fun x=>(((zcd x.1.1 x.1.2.1 x.2.1).1.1,(zcd x.1.1 x.1.2.1 x.2.1).1.2,()),(zcd x.1.1 x.1.2.1 x.2.1).2,())}
theorem scOf {T:List Int} {g n:Int} (h:(if zaf T g=0 then bif decide (0≤n∧n≤4000) then 0 else 2 else zaf T g)=0):zaf T g=0∧0≤n∧n≤4000:=by
  by_cases hc:zaf T g=0
  · by_cases hn:0≤n∧n≤4000
    · exact⟨hc,hn⟩
    · have hd:decide (0≤n∧n≤4000)=false:=decide_eq_false hn
      rw[if_pos hc,hd] at h
      simp at h
  · rw[if_neg hc] at h;exact absurd h hc
theorem h56:Ok 56 znN:=by
  refine mk (ctr:=[(57,zbj),(89,zbs),(82,zee),(81,zfp),(100,zl0)]) ⟨h57,h89,h82,h81,h100,trivial⟩ (nt:=30) Try.func56 rfl rfl rfl rfl (by kernel_rfl) (by kernel_rfl) (fun _=>[]) ?_
  rintro⟨⟨(T:List Int),(g:Int),_⟩,(n:Int),_⟩ _
  repeat' (intro hzz;(try (rename Two=>hq;cases hq));(try dsimp only at hzz);(try simp only[zad,zac,eqD,inR,big,zaa,Bool.not_true,Bool.not_false,Bool.true_eq,decide_eq_true_eq,decide_eq_false_iff_not,Bool.not_eq_true',Bool.not_eq_false',Bool.and_eq_true,Prod.mk.injEq,and_true,true_and,Int.not_lt,Int.not_le,gt_iff_lt,ge_iff_le] at hzz);(try simp only[zad,zac,eqD,inR,big,zaa,Bool.not_true,Bool.not_false,Bool.true_eq,decide_eq_true_eq,decide_eq_false_iff_not,Bool.not_eq_true',Bool.not_eq_false',Bool.and_eq_true,Prod.mk.injEq,and_true,true_and,Int.not_lt,Int.not_le,gt_iff_lt,ge_iff_le,zd5,zal] at hzz);(try (revert hzz;intro _)))
  all_goals try (rename Unit=>hq;clear hq)
  all_goals try ((with_reducible refine Held.mk ?_);(with_reducible (first|refine Frz.mk ?_|refine And.intro (Frz.mk ?_) ?_|refine And.intro ?_ (Frz.mk ?_)));repeat' first|exact True.intro|(change _=_;with_reducible rfl)|refine And.intro ?_ ?_|(with_reducible refine Frz.mk ?_))
  all_goals try (refine Held.mk ?_;(try dsimp only at *);(try simp only[zad,zac,eqD,inR,big,zaa,Bool.not_true,Bool.not_false,Bool.true_eq,decide_eq_true_eq,decide_eq_false_iff_not,Bool.not_eq_true',Bool.not_eq_false',Bool.and_eq_true,Prod.mk.injEq,and_true,true_and,Int.not_lt,Int.not_le,gt_iff_lt,ge_iff_le] at *);(try simp only[zad,zac,eqD,inR,big,zaa,Bool.not_true,Bool.not_false,Bool.true_eq,decide_eq_true_eq,decide_eq_false_iff_not,Bool.not_eq_true',Bool.not_eq_false',Bool.and_eq_true,Prod.mk.injEq,and_true,true_and,Int.not_lt,Int.not_le,gt_iff_lt,ge_iff_le,zd5,zal] at *))
  all_goals try omega
  · exact zgN (by simp)
  · rename_i h
    by_cases hc:zaf T g=0
    · by_cases hn:0≤n∧n≤4000
      · simp[hc,hn] at h
      · have hd:decide (0≤n∧n≤4000)=false:=decide_eq_false hn
        have e:zfn T g n=2:=by simp only[zfn];rw[if_pos hc,if_neg hn]
        have e2:zcd T g n=(([],0),2):=by simp only[zcd];rw[if_neg (by rw[e];decide),e]
        rw[e2,if_pos hc,hd]
        exact⟨⟨rfl,rfl⟩,rfl⟩
    · have e2:zcd T g n=(([],0),zaf T g):=by
        have e:zfn T g n=zaf T g:=by simp only[zfn];rw[if_neg hc]
        simp only[zcd];rw[e,if_neg hc]
      rw[e2,if_neg hc]
      exact⟨⟨rfl,rfl⟩,rfl⟩
  · rename_i h
    obtain⟨hc,hn⟩:=scOf h
    exact⟨zdM hc,hn⟩
  · rename_i h1 h2
    obtain⟨hc,hn⟩:=scOf h1
    have e:zfn T g n=2:=by simp only[zfn];rw[if_pos hc,if_pos hn,if_neg (by omega)]
    simp only[zcd];rw[if_neg (by rw[e];decide),e];exact⟨⟨rfl,rfl⟩,rfl⟩
  · rename_i h1 h2
    obtain⟨hc,hn⟩:=scOf h1
    have e:zfn T g n=0:=by simp only[zfn];rw[if_pos hc,if_pos hn,if_pos h2]
    simp only[zcd];rw[if_pos e];exact⟨⟨rfl,rfl⟩,rfl⟩
def zeN (g n:Int):Int:=if 0≤n∧n≤4000 then (if zgx g n≤10000 then 0 else 2) else 2
def zcm (T:List Int) (g n:Int):(List Int×Int)×Int:=if zeN g n=0 then ((T,zgx g n),0) else (([],0),zeN g n)
@[reducible] def zlZ:Spec:={pats:=[.dat zbQ,.dat I64],res:=[{t:=zbQ},{t:=I64}],pre:=fun x=>GoodLoop x.1.1 x.1.2.1,f:=fun x=>(((zcm x.1.1 x.1.2.1 x.2.1).1.1,(zcm x.1.1 x.1.2.1 x.2.1).1.2,()),(zcm x.1.1 x.1.2.1 x.2.1).2,())}
theorem h58:Ok 58 zlZ:=by
  refine mk (ctr:=[(17,zbs),(88,zh7),(45,zdl)]) ⟨h17,h88,h45,trivial⟩ (nt:=24) Try.func58 rfl rfl rfl rfl (by kernel_rfl) (by kernel_rfl) (fun _=>[]) ?_
  rintro⟨⟨(T:List Int),(g:Int),_⟩,(n:Int),_⟩ (hT:GoodLoop T g)
  have hg0:=hT.gain0
  have hg1:=hT.gain1
  have hl:=hT.le
  repeat' (intro hzz;(try (rename Two=>hq;cases hq));(try dsimp only at hzz);(try simp only[zad,zac,eqD,inR,big,zaa,Bool.not_true,Bool.not_false,Bool.true_eq,decide_eq_true_eq,decide_eq_false_iff_not,Bool.not_eq_true',Bool.not_eq_false',Bool.and_eq_true,Prod.mk.injEq,and_true,true_and,Int.not_lt,Int.not_le,gt_iff_lt,ge_iff_le] at hzz);(try simp only[zad,zac,eqD,inR,big,zaa,Bool.not_true,Bool.not_false,Bool.true_eq,decide_eq_true_eq,decide_eq_false_iff_not,Bool.not_eq_true',Bool.not_eq_false',Bool.and_eq_true,Prod.mk.injEq,and_true,true_and,Int.not_lt,Int.not_le,gt_iff_lt,ge_iff_le,za2,zal] at hzz);(try (revert hzz;intro _)))
  all_goals try (rename Unit=>hq;clear hq)
  all_goals try ((with_reducible refine Held.mk ?_);(with_reducible (first|refine Frz.mk ?_|refine And.intro (Frz.mk ?_) ?_|refine And.intro ?_ (Frz.mk ?_)));repeat' first|exact True.intro|(change _=_;with_reducible rfl)|refine And.intro ?_ ?_|(with_reducible refine Frz.mk ?_))
  all_goals try (refine Held.mk ?_;(try dsimp only at *);(try simp only[zad,zac,eqD,inR,big,zaa,Bool.not_true,Bool.not_false,Bool.true_eq,decide_eq_true_eq,decide_eq_false_iff_not,Bool.not_eq_true',Bool.not_eq_false',Bool.and_eq_true,Prod.mk.injEq,and_true,true_and,Int.not_lt,Int.not_le,gt_iff_lt,ge_iff_le] at *);(try simp only[zad,zac,eqD,inR,big,zaa,Bool.not_true,Bool.not_false,Bool.true_eq,decide_eq_true_eq,decide_eq_false_iff_not,Bool.not_eq_true',Bool.not_eq_false',Bool.and_eq_true,Prod.mk.injEq,and_true,true_and,Int.not_lt,Int.not_le,gt_iff_lt,ge_iff_le,za2,zal] at *))
  all_goals try omega
  all_goals try
    (have hm:=zbL (x:=g) (d:=n) (X:=10000) (B:=4000) (by omega) (by omega) (by omega) (by omega)
     omega)
  · rename_i h
    have e:zeN g n=2:=by simp only[zeN];rw[if_neg h]
    simp only[zcm];rw[if_neg (by rw[e];decide),e];exact⟨⟨rfl,rfl⟩,rfl⟩
  · rename_i h1 h2
    have e:zeN g n=2:=by simp only[zeN];rw[if_pos h1,if_neg (by simp only[zgx];omega)]
    simp only[zcm];rw[if_neg (by rw[e];decide),e];exact⟨⟨rfl,rfl⟩,rfl⟩
  · rename_i h1 h2
    have e:zeN g n=0:=by simp only[zeN];rw[if_pos h1,if_pos (by simp only[zgx];omega)]
    simp only[zcm];rw[if_pos e];exact⟨⟨rfl,rfl⟩,rfl⟩
theorem zqC {T:List Int} {g:Int} (h:¬zaf T g=0):zcc T g=(0,zaf T g):=by simp only[zcc];rw[if_neg h]
theorem szOk {T:List Int} {g:Int} (h:zaf T g=0):zcc T g=(zd9 T g,0):=by simp only[zcc];rw[if_pos h]
theorem zrL {T:List Int} {g n:Int} (h:¬zaf T g=0):zcd T g n=(([],0),zaf T g):=by
  have e:zfn T g n=zaf T g:=by simp only[zfn];rw[if_neg h]
  simp only[zcd];rw[e,if_neg h]
theorem scOk {T:List Int} {g n:Int} (h:zaf T g=0):zcd T g n=zcm T g n:=by
  have e:zfn T g n=zeN g n:=by simp only[zfn,zeN];rw[if_pos h]
  simp only[zcd,zcm];rw[e]
theorem zsN (T:List Int) (g n:Int):(zcm T g n).1.1.length≤T.length:=by
  simp only[zcm];split<;>simp
@[reducible] def zlj:Spec:={pats:=[.dat zbQ,.dat I64],res:=[{t:=.bool}],pre:=fun _=>True,f:=fun _=>(true,())}
theorem h10:Ok 10 zlj:=by
  refine mk (ctr:=[(16,zgy),(21,sFew),(23,zpo),(55,zle),(56,znN),(25,zbj),(57,zbj),(58,zlZ),(59,zke),(37,znQ)]) ⟨h16,h21,h23,h55,h56,h25,h57,h58,h59,h37,trivial⟩ (nt:=94) Try.func10 rfl rfl rfl rfl (by kernel_rfl) (by kernel_rfl) (fun _=>[]) ?_
  rintro⟨⟨(T:List Int),(g:Int),_⟩,(n:Int),_⟩ _
  repeat' (intro hzz;(try (rename Two=>hq;cases hq));(try dsimp only at hzz);(try simp only[zad,zac,eqD,inR,big,zaa,Bool.not_true,Bool.not_false,Bool.true_eq,decide_eq_true_eq,decide_eq_false_iff_not,Bool.not_eq_true',Bool.not_eq_false',Bool.and_eq_true,Prod.mk.injEq,and_true,true_and,Int.not_lt,Int.not_le,gt_iff_lt,ge_iff_le] at hzz);(try (revert hzz;intro _)))
  all_goals try (rename Unit=>hq;clear hq)
  all_goals try ((with_reducible refine Held.mk ?_);(with_reducible (first|refine Frz.mk ?_|refine And.intro (Frz.mk ?_) ?_|refine And.intro ?_ (Frz.mk ?_)));repeat' first|exact True.intro|(change _=_;with_reducible rfl)|refine And.intro ?_ ?_|(with_reducible refine Frz.mk ?_))
  all_goals try (refine Held.mk ?_;(try dsimp only at *);(try simp only[zad,zac,eqD,inR,big,zaa,Bool.not_true,Bool.not_false,Bool.true_eq,decide_eq_true_eq,decide_eq_false_iff_not,Bool.not_eq_true',Bool.not_eq_false',Bool.and_eq_true,Prod.mk.injEq,and_true,true_and,Int.not_lt,Int.not_le,gt_iff_lt,ge_iff_le] at *))
  all_goals try omega
  all_goals first
    | exact zdM ‹_›
    | (rename_i h;exact absurd trivial h)
    | (rw[scOk ‹_›];have:=zsN T g n;exact zgN (by omega))
    | (rw[scOk ‹_›];done)
    | (exfalso;simp[zqC ‹¬zaf T g=0›,zrL ‹¬zaf T g=0›] at *;done)
    | (simp[zqC ‹¬zaf T g=0›,zrL ‹¬zaf T g=0›];done)
    | (exfalso;simp[szOk ‹zaf T g=0›,scOk ‹zaf T g=0›] at *;done)
    | (simp[szOk ‹zaf T g=0›,scOk ‹zaf T g=0›];done)
    | trace_state
abbrev LD:=List Int×Int×Unit
abbrev zrR (T:Ty) (t k el:Nat) (xs:List T.Den):St:=[.slot t (.one (.o k (List.length (α:=T.Den) xs))),.row k el T xs]
theorem zgE (xs:List LD) (i:Nat):List.getD xs ((i:Int)).toNat (Ty.dflt zbQ)=xs.getD i ([],0,()):=rfl
theorem zgf (xs:List (List LD)) (i:Nat):List.getD xs ((i:Int)).toNat (Ty.dflt (.sl zbQ))=xs.getD i []:=rfl
theorem zgg (xs:List LD) (i:Nat):List.getD xs i (Ty.dflt zbQ)=xs.getD i ([],0,()):=rfl
theorem zeF (xs:List (List LD)) (i:Nat):List.getD xs i (Ty.dflt (.sl zbQ))=xs.getD i []:=rfl
theorem zbJ {α:Type} {xs:List α} {k:Nat} (d:α) (h:k<xs.length):xs.take k++[xs.getD k d]=xs.take (k+1):=by
  rw[List.take_add_one]
  simp[List.getD,List.getElem?_eq_getElem h]
theorem zdB {α:Type} {xs:List α} {k:Nat} (h:k≤xs.length):(xs.take k).length=k:=by rw[List.length_take];omega
theorem zmE {α:Type} {xs:List α} {k:Nat} (d:α) (h:k<xs.length):xs.drop k=xs.getD k d::xs.drop (k+1):=by
  rw[List.drop_eq_getElem_cons h]
  simp[List.getD,List.getElem?_eq_getElem h]
theorem zfE {α:Type} {xs:List α} {k:Nat} (d:α) (h:k<xs.length):xs.getD k d∈xs:=by simp[List.getD,List.getElem?_eq_getElem h]
theorem zhC {α β:Type} (f:α→β) {xs:List α} {k:Nat} (d:α) (e:β) (h:k<xs.length):(xs.map f).getD k e=f (xs.getD k d):=by
  simp[List.getD,List.getElem?_eq_getElem h]
@[reducible] def zl7:Spec:={pats:=[.dat (.sl zbQ)],res:=[{t:=.sl zbQ}],pre:=fun x=>List.length (α:=LD) x.1≤1000000∧∀i,i<List.length (α:=LD) x.1→zlx (List.length (α:=Int) (List.getD (α:=LD) x.1 i ([],0,())).1),f:=fun x=>(x.1,())}
def zti (xs:List LD):LoopAnn:={σ:=Nat,pat:=fun k=>sI 4 k::zrR zbQ 3 60003 33 (xs.take k),inv:=fun k=>k≤xs.length,meas:=fun k=>xs.length - k}
theorem h51:Ok 51 zl7:=by
  refine mk (ctr:=[(23,zpo)]) ⟨h23,trivial⟩ (nt:=20) Try.func51 rfl rfl rfl rfl (by kernel_rfl) (by kernel_rfl) (fun x=>[fun _=>zti x.1]) ?_
  rintro⟨(xs:List LD),_⟩ ⟨(hn:xs.length≤1000000),(hp:∀i,i<xs.length→zlx (xs.getD i ([],0,())).1.length)⟩
  repeat' (intro hzz;(try (rename Two=>hq;cases hq));(try dsimp only at hzz);(try simp only[zad,zac,eqD,inR,big,zaa,Bool.not_true,Bool.not_false,Bool.true_eq,decide_eq_true_eq,decide_eq_false_iff_not,Bool.not_eq_true',Bool.not_eq_false',Bool.and_eq_true,Prod.mk.injEq,and_true,true_and,Int.not_lt,Int.not_le,gt_iff_lt,ge_iff_le] at hzz);(try simp only[zad,zac,eqD,inR,big,zaa,Bool.not_true,Bool.not_false,Bool.true_eq,decide_eq_true_eq,decide_eq_false_iff_not,Bool.not_eq_true',Bool.not_eq_false',Bool.and_eq_true,Prod.mk.injEq,and_true,true_and,Int.not_lt,Int.not_le,gt_iff_lt,ge_iff_le,zgE,List.length_cons,List.length_nil] at hzz);(try (revert hzz;intro _)))
  all_goals try (rename Unit=>hq;clear hq)
  all_goals try ((with_reducible refine Held.mk ?_);(with_reducible (first|refine Frz.mk ?_|refine And.intro (Frz.mk ?_) ?_|refine And.intro ?_ (Frz.mk ?_)));repeat' first|exact True.intro|(change _=_;with_reducible rfl)|refine And.intro ?_ ?_|(with_reducible refine Frz.mk ?_))
  all_goals try (refine Held.mk ?_;(try dsimp only at *);(try simp only[zad,zac,eqD,inR,big,zaa,Bool.not_true,Bool.not_false,Bool.true_eq,decide_eq_true_eq,decide_eq_false_iff_not,Bool.not_eq_true',Bool.not_eq_false',Bool.and_eq_true,Prod.mk.injEq,and_true,true_and,Int.not_lt,Int.not_le,gt_iff_lt,ge_iff_le] at *);(try simp only[zad,zac,eqD,inR,big,zaa,Bool.not_true,Bool.not_false,Bool.true_eq,decide_eq_true_eq,decide_eq_false_iff_not,Bool.not_eq_true',Bool.not_eq_false',Bool.and_eq_true,Prod.mk.injEq,and_true,true_and,Int.not_lt,Int.not_le,gt_iff_lt,ge_iff_le,zgE,List.length_cons,List.length_nil] at *))
  all_goals try omega
  ·
    refine zah.mk ?_
    refine Exists.intro (0:Nat) ?_
    refine And.intro (Leaf.mk ?_) ?_
    · repeat' first|exact True.intro|refine And.intro ?_ ?_
      all_goals try ((change _=_<;>try dsimp only)<;>try with_reducible rfl)
      all_goals try omega
      all_goals (rfl)
    exact Nat.zero_le _
  · rename_i k h1 h2
    exact hp k (by omega)
  · rename_i k h1 h2
    rw[zdB h1];omega
  · rename_i k h1 h2
    have e:=zbJ ([],0,()) (show k<xs.length by omega)
    refine zah.mk ?_
    refine Exists.intro (k+1) ?_
    refine And.intro (Leaf.mk ?_) ?_
    · repeat' first|exact True.intro|refine And.intro ?_ ?_
      all_goals try ((change _=_<;>try dsimp only)<;>try with_reducible rfl)
      all_goals try omega
      all_goals (first|exact e|exact congrArg List.length e)
    change k+1≤xs.length∧xs.length - (k+1)<xs.length - k
    omega
  · rename_i k h1 h2
    exact List.take_of_length_le (by omega)
def szs (row:List LD):List Int:=row.map fun x=>zd9 x.1 x.2.1
def zdN:List LD→Int
  | []=>0
  | x::r=>if zaf x.1 x.2.1≠0 then zaf x.1 x.2.1 else if 2000<zd9 x.1 x.2.1 then 2 else zdN r
def zbX (N:Nat):List (List LD)→Int
  | []=>0
  | r::t=>if r.length≠N then 10 else if zdN r≠0 then zdN r else zbX N t
def zjy (l:List (List LD)):Int:=if zau l.length≠0 then zau l.length else zbX l.length l
def zcn (l:List (List LD)):List (List Int)×Int:=if zjy l=0 then (l.map szs,0) else ([],zjy l)
@[reducible] def zgU:Spec:={pats:=[.dat (.sl (.sl zbQ))],res:=[{t:=zcv},{t:=I64}],pre:=fun _=>True,f:=fun x=>(((zcn x.1).1,()),(zcn x.1).2,())}
theorem zeZ (row:List LD):(szs row).length=row.length:=List.length_map _
theorem zny {row:List LD} {j:Nat} (h:j<row.length):(szs row).getD j 0=zd9 (row.getD j ([],0,())).1 (row.getD j ([],0,())).2.1:=zhC _ _ _ h
theorem ziD {row:List LD} {j:Nat} (h:j<row.length):zdN (row.drop j)=if zaf (row.getD j ([],0,())).1 (row.getD j ([],0,())).2.1≠0 then zaf (row.getD j ([],0,())).1 (row.getD j ([],0,())).2.1 else if 2000<zd9 (row.getD j ([],0,())).1 (row.getD j ([],0,())).2.1 then 2 else zdN (row.drop (j+1)):=by
  rw[zmE ([],0,()) h];rfl
theorem ze9 {N:Nat} {l:List (List LD)} {k:Nat} (h:k<l.length):zbX N (l.drop k)=if (l.getD k []).length≠N then 10 else if zdN (l.getD k [])≠0 then zdN (l.getD k []) else zbX N (l.drop (k+1)):=by
  rw[zmE [] h];rfl
theorem zsk (T:List Int) (g:Int):(if (zcc T g).2=0 then bif decide (0≤(zcc T g).1∧(zcc T g).1≤2000) then 0 else 2 else (zcc T g).2) =
    if zaf T g≠0 then zaf T g else if 2000<zd9 T g then 2 else 0:=by
  by_cases hc:zaf T g=0
  · rw [szOk hc]
    have h0:=(zqF (zdM hc)).1
    have hcc:¬zaf T g≠0:=fun h=>h hc
    by_cases h2:2000<zd9 T g
    · have hd:decide (0≤zd9 T g∧zd9 T g≤2000)=false:=decide_eq_false (by omega)
      rw[if_neg hcc,if_pos h2];simp only[if_true,hd,cond_false]
    · have hd:decide (0≤zd9 T g∧zd9 T g≤2000)=true:=decide_eq_true (by omega)
      rw[if_neg hcc,if_neg h2];simp only[if_true,hd,cond_true]
  · rw[zqC hc,if_pos hc];simp only;rw[if_neg hc]
theorem zok {l:List (List LD)} (hc:¬zau l.length=0):zcn l=([],zau l.length):=by
  have e:zjy l=zau l.length:=by simp only[zjy];rw[if_pos hc]
  simp only[zcn];rw[e,if_neg hc]
theorem zkv {l:List (List LD)} {e:Int} (hc:zau l.length=0) (h:zbX l.length l=e) (he:¬e=0):zcn l=([],e):=by
  have e1:zjy l=e:=by simp only[zjy];rw[if_neg (fun h=>h hc),h]
  simp only[zcn];rw[e1,if_neg he]
theorem zr9 {l:List (List LD)} (hc:zau l.length=0) (h:zbX l.length l=0):zcn l=(l.map szs,0):=by
  have e1:zjy l=0:=by simp only[zjy];rw[if_neg (fun h=>h hc),h]
  simp only[zcn];rw[if_pos e1]
theorem zlo {l:List (List LD)} {k j:Nat} {e:Int} (hI:zbX l.length (l.drop k)=zbX l.length l) (hk:k<l.length) (hl:(l.getD k []).length=l.length) (hJ:zdN ((l.getD k []).drop j)=zdN (l.getD k [])) (hj:j<(l.getD k []).length)
    (he:(if zaf ((l.getD k []).getD j ([],0,())).1 ((l.getD k []).getD j ([],0,())).2.1≠0 then zaf ((l.getD k []).getD j ([],0,())).1 ((l.getD k []).getD j ([],0,())).2.1 else if 2000<zd9 ((l.getD k []).getD j ([],0,())).1 ((l.getD k []).getD j ([],0,())).2.1 then 2 else 0)=e) (h0:¬e=0):zbX l.length l=e:=by
  rw[ziD hj] at hJ
  have h1:zdN (l.getD k [])=e:=by
    rw[←hJ]
    split
    · rename_i h;rw[if_pos h] at he;exact he
    · rename_i h
      rw[if_neg h] at he
      split
      · rename_i h2;rw[if_pos h2] at he;exact he
      · rename_i h2;rw[if_neg h2] at he;exact absurd he.symm h0
  rw[ze9 hk,if_neg (fun h=>h hl),if_pos (by rw[h1];exact h0),h1] at hI
  exact hI.symm
theorem zqb {row:List LD} {j:Nat} (hJ:zdN (row.drop j)=zdN row) (hj:j<row.length)
    (he:(if zaf (row.getD j ([],0,())).1 (row.getD j ([],0,())).2.1≠0 then zaf (row.getD j ([],0,())).1 (row.getD j ([],0,())).2.1 else if 2000<zd9 (row.getD j ([],0,())).1 (row.getD j ([],0,())).2.1 then 2 else 0)=0) :
    zaf (row.getD j ([],0,())).1 (row.getD j ([],0,())).2.1=0∧zdN (row.drop (j+1))=zdN row:=by
  rw[ziD hj] at hJ
  split at he
  · rename_i h;exact absurd he h
  · rename_i h
    rw[if_neg h] at hJ
    split at he
    · omega
    · rename_i h2
      rw[if_neg h2] at hJ
      exact⟨Classical.byContradiction h,hJ⟩
theorem zmc {l:List (List LD)} {k j:Nat} (hI:zbX l.length (l.drop k)=zbX l.length l) (hk:k<l.length) (hl:(l.getD k []).length=l.length) (hJ:zdN ((l.getD k []).drop j)=zdN (l.getD k [])) (hj:(l.getD k []).length≤j):zbX l.length (l.drop (k+1))=zbX l.length l:=by
  rw[List.drop_eq_nil_of_le hj] at hJ
  have h0:zdN (l.getD k [])=0:=hJ.symm
  rw[ze9 hk,if_neg (fun h=>h hl),if_neg (fun h=>h h0)] at hI
  exact hI
theorem zms {l:List (List LD)} {k:Nat} (hI:zbX l.length (l.drop k)=zbX l.length l) (hk:k<l.length) (hl:¬(l.getD k []).length=l.length):zbX l.length l=10:=by
  rw[ze9 hk,if_pos hl] at hI
  exact hI.symm
def zol (i key:Nat) (l:List (List LD)):LoopAnn:={σ:=Nat,pat:=fun k=>[sI i k,.cell key 0 (.o (60000+key) (List.length (α:=List Int) ((l.map szs).take k))),.row (60000+key) 31 (.sl I64) ((l.map szs).take k)],inv:=fun k=>k≤l.length∧zbX l.length (l.drop k)=zbX l.length l,meas:=fun k=>l.length - k}
def zom (i o s key:Nat) (l:List (List LD)) (st:St):LoopAnn:=zgK o st fun k=>
  {σ:=Nat,pat:=fun j=>sI i j::sOwn s key 3 ((szs (l.getD k.toNat [])).take j),inv:=fun j=>j≤(l.getD k.toNat []).length∧zdN ((l.getD k.toNat []).drop j)=zdN (l.getD k.toNat []),meas:=fun j=>(l.getD k.toNat []).length - j}
theorem h52:Ok 52 zgU:=by
  refine mk (ctr:=[(97,zhk),(55,zle),(98,zlk),(82,zee),(81,zfp)]) ⟨h97,h55,h98,h82,h81,trivial⟩ (nt:=66) Try.func52 rfl rfl rfl rfl (by kernel_rfl) (by kernel_rfl) (fun x=>[fun _=>zol 22 5 x.1,zom 34 22 8 60008 x.1]) ?_
  rintro⟨(l:List (List LD)),_⟩ _
  repeat' (intro hzz;(try (rename Two=>hq;cases hq));(try dsimp only at hzz);(try simp only[zad,zac,eqD,inR,big,zaa,Bool.not_true,Bool.not_false,Bool.true_eq,decide_eq_true_eq,decide_eq_false_iff_not,Bool.not_eq_true',Bool.not_eq_false',Bool.and_eq_true,Prod.mk.injEq,and_true,true_and,Int.not_lt,Int.not_le,gt_iff_lt,ge_iff_le] at hzz);(try simp only[zad,zac,eqD,inR,big,zaa,Bool.not_true,Bool.not_false,Bool.true_eq,decide_eq_true_eq,decide_eq_false_iff_not,Bool.not_eq_true',Bool.not_eq_false',Bool.and_eq_true,Prod.mk.injEq,and_true,true_and,Int.not_lt,Int.not_le,gt_iff_lt,ge_iff_le,zd5,zal,zgE,zgf,List.length_cons,List.length_nil,Int.toNat_natCast,zgg,zeF] at hzz);(try (revert hzz;intro _)))
  all_goals try (rename Unit=>hq;clear hq)
  all_goals try ((with_reducible refine Held.mk ?_);(with_reducible (first|refine Frz.mk ?_|refine And.intro (Frz.mk ?_) ?_|refine And.intro ?_ (Frz.mk ?_)));repeat' first|exact True.intro|(change _=_;with_reducible rfl)|refine And.intro ?_ ?_|(with_reducible refine Frz.mk ?_))
  all_goals try (refine Held.mk ?_;(try dsimp only at *);(try simp only[zad,zac,eqD,inR,big,zaa,Bool.not_true,Bool.not_false,Bool.true_eq,decide_eq_true_eq,decide_eq_false_iff_not,Bool.not_eq_true',Bool.not_eq_false',Bool.and_eq_true,Prod.mk.injEq,and_true,true_and,Int.not_lt,Int.not_le,gt_iff_lt,ge_iff_le] at *);(try simp only[zad,zac,eqD,inR,big,zaa,Bool.not_true,Bool.not_false,Bool.true_eq,decide_eq_true_eq,decide_eq_false_iff_not,Bool.not_eq_true',Bool.not_eq_false',Bool.and_eq_true,Prod.mk.injEq,and_true,true_and,Int.not_lt,Int.not_le,gt_iff_lt,ge_iff_le,zd5,zal,zgE,zgf,List.length_cons,List.length_nil,Int.toNat_natCast,zgg,zeF] at *))
  all_goals try omega
  · rename_i hc
    rw[zok hc];exact⟨rfl,rfl⟩
  ·
    refine zah.mk ?_
    refine Exists.intro (0:Nat) ?_
    refine And.intro (Leaf.mk ?_) ?_
    · repeat' first|exact True.intro|refine And.intro ?_ ?_
      all_goals try ((change _=_<;>try dsimp only)<;>try with_reducible rfl)
      all_goals try omega
      all_goals (rfl)
    exact⟨Nat.zero_le _,rfl⟩
  · rename_i hc k hI hk hl
    rw[zkv hc (zms hI.2 (by omega) (by omega)) (by decide)];exact⟨rfl,rfl⟩
  ·
    refine zah.mk ?_
    refine Exists.intro (0:Nat) ?_
    refine And.intro (Leaf.mk ?_) ?_
    · repeat' first|exact True.intro|refine And.intro ?_ ?_
      all_goals try ((change _=_<;>try dsimp only)<;>try with_reducible rfl)
      all_goals try omega
      all_goals (rfl)
    exact⟨Nat.zero_le _,rfl⟩
  · exact zgN (by omega)
  · rename_i hc k hI hk hl j hJ hj he
    have hr:=zlo (e:=_) hI.2 (by omega) (by omega) hJ.2 (by omega) (zsk _ _).symm he
    rw[zkv hc hr he];exact⟨rfl,rfl⟩
  · rename_i hc k hI hk hl j hJ hj he
    have:=zdY hc
    rw[zdB (by rw[zeZ];exact hJ.1)];omega
  · rename_i hc k hI hk hl j hJ hj he
    have:=zdY hc
    omega
  · rename_i hc k hI hk hl j hJ hj he
    have hg:=zqb hJ.2 (by omega) ((zsk _ _).symm.trans he)
    have e:=zbJ 0 (show j<(szs (l.getD k [])).length by rw[zeZ];omega)
    rw[zny (by omega)] at e
    have e2:=congrArg Prod.fst (szOk hg.1)
    have e3:(szs (l.getD k [])).take j++[(zcc ((l.getD k []).getD j ([],0,())).1 ((l.getD k []).getD j ([],0,())).2.1).1]=(szs (l.getD k [])).take (j+1):=by rw[e2];exact e
    refine zah.mk ?_
    refine Exists.intro (j+1) ?_
    refine And.intro (Leaf.mk ?_) ?_
    · repeat' first|exact True.intro|refine And.intro ?_ ?_
      all_goals try ((change _=_<;>try dsimp only)<;>try with_reducible rfl)
      all_goals try omega
      all_goals (first|exact e3|exact congrArg List.length e3)
    refine⟨⟨by change j+1≤(l.getD k []).length;omega,hg.2⟩,?_⟩
    change (l.getD k []).length - (j+1)<(l.getD k []).length - j
    omega
  · rename_i hc k hI hk hl j hJ hj
    have:=zdY hc
    rw[zdB (by rw[List.length_map];omega)];omega
  · rename_i hc k hI hk hl j hJ hj
    have:=zdY hc
    omega
  · rename_i hc k hI hk hl j hJ hj
    have hd:=zmc hI.2 (by omega) (by omega) hJ.2 (by omega)
    have e:=zbJ [] (show k<(l.map szs).length by rw[List.length_map];omega)
    rw[zhC szs [] [] (by omega)] at e
    have e1:(szs (l.getD k [])).take j=szs (l.getD k []):=List.take_of_length_le (by rw[zeZ];omega)
    rw[←e1] at e
    refine zah.mk ?_
    refine Exists.intro (k+1) ?_
    refine And.intro (Leaf.mk ?_) ?_
    · repeat' first|exact True.intro|refine And.intro ?_ ?_
      all_goals try ((change _=_<;>try dsimp only)<;>try with_reducible rfl)
      all_goals try omega
      all_goals (first|exact e|exact congrArg List.length e)
    refine⟨⟨by change k+1≤l.length;omega,hd⟩,?_⟩
    change l.length - (k+1)<l.length - k
    omega
  · rename_i hc k hI hk
    have h0:=hI.2
    rw[List.drop_eq_nil_of_le (by omega)] at h0
    rw[zr9 hc h0.symm]
    exact⟨List.take_of_length_le (by rw[List.length_map];omega),rfl⟩
theorem h53:Ok 53 zgU:=by
  refine mk (ctr:=[(25,zbj),(59,zke)]) ⟨h25,h59,trivial⟩ (nt:=76) Try.func53 rfl rfl rfl rfl (by kernel_rfl) (by kernel_rfl) (fun x=>[fun _=>zol 5 4 x.1,zom 7 5 6 60006 x.1]) ?_
  rintro⟨(l:List (List LD)),_⟩ _
  repeat' (intro hzz;(try (rename Two=>hq;cases hq));(try dsimp only at hzz);(try simp only[zad,zac,eqD,inR,big,zaa,Bool.not_true,Bool.not_false,Bool.true_eq,decide_eq_true_eq,decide_eq_false_iff_not,Bool.not_eq_true',Bool.not_eq_false',Bool.and_eq_true,Prod.mk.injEq,and_true,true_and,Int.not_lt,Int.not_le,gt_iff_lt,ge_iff_le] at hzz);(try simp only[zad,zac,eqD,inR,big,zaa,Bool.not_true,Bool.not_false,Bool.true_eq,decide_eq_true_eq,decide_eq_false_iff_not,Bool.not_eq_true',Bool.not_eq_false',Bool.and_eq_true,Prod.mk.injEq,and_true,true_and,Int.not_lt,Int.not_le,gt_iff_lt,ge_iff_le,zd5,zal,zgE,zgf,List.length_cons,List.length_nil,Int.toNat_natCast,zgg,zeF] at hzz);(try (revert hzz;intro _)))
  all_goals try (rename Unit=>hq;clear hq)
  all_goals try ((with_reducible refine Held.mk ?_);(with_reducible (first|refine Frz.mk ?_|refine And.intro (Frz.mk ?_) ?_|refine And.intro ?_ (Frz.mk ?_)));repeat' first|exact True.intro|(change _=_;with_reducible rfl)|refine And.intro ?_ ?_|(with_reducible refine Frz.mk ?_))
  all_goals try (refine Held.mk ?_;(try dsimp only at *);(try simp only[zad,zac,eqD,inR,big,zaa,Bool.not_true,Bool.not_false,Bool.true_eq,decide_eq_true_eq,decide_eq_false_iff_not,Bool.not_eq_true',Bool.not_eq_false',Bool.and_eq_true,Prod.mk.injEq,and_true,true_and,Int.not_lt,Int.not_le,gt_iff_lt,ge_iff_le] at *);(try simp only[zad,zac,eqD,inR,big,zaa,Bool.not_true,Bool.not_false,Bool.true_eq,decide_eq_true_eq,decide_eq_false_iff_not,Bool.not_eq_true',Bool.not_eq_false',Bool.and_eq_true,Prod.mk.injEq,and_true,true_and,Int.not_lt,Int.not_le,gt_iff_lt,ge_iff_le,zd5,zal,zgE,zgf,List.length_cons,List.length_nil,Int.toNat_natCast,zgg,zeF] at *))
  all_goals try omega
  · rename_i h0
    have hc:zau l.length=10:=by simp only[zau];rw[if_neg (by omega)]
    rw[zok (by rw[hc];decide),hc];exact⟨rfl,rfl⟩
  · rename_i h0 h4
    have hc:zau l.length=8:=by simp only[zau];rw[if_pos (by omega),if_neg (by omega)]
    rw[zok (by rw[hc];decide),hc];exact⟨rfl,rfl⟩
  all_goals (have hc:zau l.length=0:=by simp only[zau];rw[if_pos (by omega),if_pos (by omega)])
  ·
    refine zah.mk ?_
    refine Exists.intro (0:Nat) ?_
    refine And.intro (Leaf.mk ?_) ?_
    · repeat' first|exact True.intro|refine And.intro ?_ ?_
      all_goals try ((change _=_<;>try dsimp only)<;>try with_reducible rfl)
      all_goals try omega
      all_goals (rfl)
    exact⟨Nat.zero_le _,rfl⟩
  · rename_i k hI hk hl
    rw[zkv hc (zms hI.2 (by omega) (by omega)) (by decide)];exact⟨rfl,rfl⟩
  ·
    refine zah.mk ?_
    refine Exists.intro (0:Nat) ?_
    refine And.intro (Leaf.mk ?_) ?_
    · repeat' first|exact True.intro|refine And.intro ?_ ?_
      all_goals try ((change _=_<;>try dsimp only)<;>try with_reducible rfl)
      all_goals try omega
      all_goals (rfl)
    exact⟨Nat.zero_le _,rfl⟩
  · rename_i k hI hk hl j hJ hj he
    have hr:=zlo (e:=zaf ((l.getD k []).getD j ([],0,())).1 ((l.getD k []).getD j ([],0,())).2.1) hI.2 (by omega) (by omega) hJ.2 (by omega) (by rw[if_pos he]) he
    rw[zkv hc hr he];exact⟨rfl,rfl⟩
  · rename_i k hI hk hl j hJ hj he
    exact zdM he
  · rename_i k hI hk hl j hJ hj he h2
    have hr:=zlo (e:=2) hI.2 (by omega) (by omega) hJ.2 (by omega) (by rw[if_neg (fun h=>h he),if_pos h2]) (by decide)
    rw[zkv hc hr (by decide)];exact⟨rfl,rfl⟩
  · rename_i k hI hk hl j hJ hj he h2
    rw[zdB (by rw[zeZ];exact hJ.1)];omega
  · rename_i k hI hk hl j hJ hj he h2
    have hg:=zqb hJ.2 (by omega) (by rw[if_neg (fun h=>h he),if_neg (by omega)])
    have e:=zbJ 0 (show j<(szs (l.getD k [])).length by rw[zeZ];omega)
    rw[zny (by omega)] at e
    refine zah.mk ?_
    refine Exists.intro (j+1) ?_
    refine And.intro (Leaf.mk ?_) ?_
    · repeat' first|exact True.intro|refine And.intro ?_ ?_
      all_goals try ((change _=_<;>try dsimp only)<;>try with_reducible rfl)
      all_goals try omega
      all_goals (first|exact e|exact congrArg List.length e)
    refine⟨⟨by change j+1≤(l.getD k []).length;omega,hg.2⟩,?_⟩
    change (l.getD k []).length - (j+1)<(l.getD k []).length - j
    omega
  · rename_i k hI hk hl j hJ hj
    rw[zdB (by rw[List.length_map];omega)];omega
  · rename_i k hI hk hl j hJ hj
    have hd:=zmc hI.2 (by omega) (by omega) hJ.2 (by omega)
    have e:=zbJ [] (show k<(l.map szs).length by rw[List.length_map];omega)
    rw[zhC szs [] [] (by omega)] at e
    have e1:(szs (l.getD k [])).take j=szs (l.getD k []):=List.take_of_length_le (by rw[zeZ];omega)
    rw[←e1] at e
    refine zah.mk ?_
    refine Exists.intro (k+1) ?_
    refine And.intro (Leaf.mk ?_) ?_
    · repeat' first|exact True.intro|refine And.intro ?_ ?_
      all_goals try ((change _=_<;>try dsimp only)<;>try with_reducible rfl)
      all_goals try omega
      all_goals (first|exact e|exact congrArg List.length e)
    refine⟨⟨by change k+1≤l.length;omega,hd⟩,?_⟩
    change l.length - (k+1)<l.length - k
    omega
  · rename_i k hI hk
    have h0:=hI.2
    rw[List.drop_eq_nil_of_le (by omega)] at h0
    rw[zr9 hc h0.symm]
    exact⟨List.take_of_length_le (by rw[List.length_map];omega),rfl⟩
def zdn (a:List (List Int)):Prop:=a.length≤1000000∧∀i,i<a.length→(a.getD i []).length≤1000000
@[reducible] def zp9:Spec:={pats:=[.dat MatT,.dat MatT],res:=[{t:=.bool}],pre:=fun x=>zdn x.1,f:=fun x=>(decide ((x.1:List (List Int))=x.2.1),())}
def zs7 (a b:List (List Int)):LoopAnn:={σ:=Nat,pat:=fun k=>[sI 5 k],inv:=fun k=>k≤a.length∧∀i,i<k→a.getD i []=b.getD i [],meas:=fun k=>a.length - k}
theorem zmZ {α:Type} (d:α) {a b:List α} (hl:a.length=b.length) (h:∀i,i<a.length→a.getD i d=b.getD i d):a=b:=by
  apply List.ext_getElem hl
  intro i h1 h2
  have:=h i h1
  simpa [List.getD,List.getElem?_eq_getElem h1,List.getElem?_eq_getElem h2] using this
theorem h54:Ok 54 zp9:=by
  refine mk (ctr:=[(37,znQ)]) ⟨h37,trivial⟩ (nt:=27) Try.func54 rfl rfl rfl rfl (by kernel_rfl) (by kernel_rfl) (fun x=>[fun _=>zs7 x.1 x.2.1]) ?_
  rintro⟨(a:List (List Int)),(b:List (List Int)),_⟩ ⟨(ha:a.length≤1000000),(hr:∀i,i<a.length→(a.getD i []).length≤1000000)⟩
  repeat' (intro hzz;(try (rename Two=>hq;cases hq));(try dsimp only at hzz);(try simp only[zad,zac,eqD,inR,big,zaa,Bool.not_true,Bool.not_false,Bool.true_eq,decide_eq_true_eq,decide_eq_false_iff_not,Bool.not_eq_true',Bool.not_eq_false',Bool.and_eq_true,Prod.mk.injEq,and_true,true_and,Int.not_lt,Int.not_le,gt_iff_lt,ge_iff_le] at hzz);(try simp only[zad,zac,eqD,inR,big,zaa,Bool.not_true,Bool.not_false,Bool.true_eq,decide_eq_true_eq,decide_eq_false_iff_not,Bool.not_eq_true',Bool.not_eq_false',Bool.and_eq_true,Prod.mk.injEq,and_true,true_and,Int.not_lt,Int.not_le,gt_iff_lt,ge_iff_le,zax] at hzz);(try (revert hzz;intro _)))
  all_goals try (rename Unit=>hq;clear hq)
  all_goals try ((with_reducible refine Held.mk ?_);(with_reducible (first|refine Frz.mk ?_|refine And.intro (Frz.mk ?_) ?_|refine And.intro ?_ (Frz.mk ?_)));repeat' first|exact True.intro|(change _=_;with_reducible rfl)|refine And.intro ?_ ?_|(with_reducible refine Frz.mk ?_))
  all_goals try (refine Held.mk ?_;(try dsimp only at *);(try simp only[zad,zac,eqD,inR,big,zaa,Bool.not_true,Bool.not_false,Bool.true_eq,decide_eq_true_eq,decide_eq_false_iff_not,Bool.not_eq_true',Bool.not_eq_false',Bool.and_eq_true,Prod.mk.injEq,and_true,true_and,Int.not_lt,Int.not_le,gt_iff_lt,ge_iff_le] at *);(try simp only[zad,zac,eqD,inR,big,zaa,Bool.not_true,Bool.not_false,Bool.true_eq,decide_eq_true_eq,decide_eq_false_iff_not,Bool.not_eq_true',Bool.not_eq_false',Bool.and_eq_true,Prod.mk.injEq,and_true,true_and,Int.not_lt,Int.not_le,gt_iff_lt,ge_iff_le,zax] at *))
  all_goals try omega
  · rename_i h
    symm;rw[decide_eq_false_iff_not]
    intro e;rw[e] at h;exact h rfl
  ·
    refine zah.mk ?_
    refine Exists.intro (0:Nat) ?_
    refine And.intro (Leaf.mk ?_) ?_
    · repeat' first|exact True.intro|refine And.intro ?_ ?_
      all_goals try ((change _=_<;>try dsimp only)<;>try with_reducible rfl)
      all_goals try omega
      all_goals (rfl)
    exact⟨Nat.zero_le _,fun i hi=>by omega⟩
  · rename_i h k hI hk
    have:=hr k (by omega)
    exact zgN (by omega)
  · rename_i h k hI hk he
    symm;rw[decide_eq_false_iff_not]
    intro e;rw[e] at he;exact he rfl
  · rename_i h k hI hk he
    refine zah.mk ?_
    refine Exists.intro (k+1) ?_
    refine And.intro (Leaf.mk ?_) ?_
    · repeat' first|exact True.intro|refine And.intro ?_ ?_
      all_goals try ((change _=_<;>try dsimp only)<;>try with_reducible rfl)
      all_goals try omega
      all_goals (rfl)
    refine⟨⟨by change k+1≤a.length;omega,fun i hi=>?_⟩,?_⟩
    · by_cases hik:i<k
      · exact hI.2 i hik
      · obtain rfl:i=k:=by omega
        exact he
    · change a.length - (k+1)<a.length - k
      omega
  · rename_i h k hI hk
    exact zmZ [] (by omega) fun i hi=>hI.2 i (by omega)
@[reducible] def zkf:Spec:={pats:=[.dat (.sl (.sl zbQ))],res:=[{t:=.bool}],pre:=fun _=>True,f:=fun _=>(true,())}
def zse (r:List LD) (n:Nat):Prop:=∀j,j<n→(r.getD j ([],0,())).1.length≤34
def zqZ (l:List (List LD)):LoopAnn:={σ:=Nat,pat:=fun k=>sI 4 k::zrR (.sl zbQ) 3 60003 76 (l.take k),inv:=fun k=>k≤l.length,meas:=fun k=>l.length - k}
def zq0 (l:List (List LD)) (st:St):LoopAnn:=zgK 4 st fun k=>{σ:=Nat,pat:=fun j=>[sI 5 j],inv:=fun j=>j≤(l.getD k.toNat []).length∧zse (l.getD k.toNat []) j,meas:=fun j=>(l.getD k.toNat []).length - j}
theorem zpB (l : List (List LD)):zdn (zcn l).1:=by
  simp only[zcn]
  split
  · rename_i h
    simp only[zjy] at h
    split at h
    · rename_i h1;exact absurd h h1
    · rename_i h1
      have h1:zau l.length=0:=Classical.byContradiction h1
      have h4:l.length≤4:=by
        simp only[zau] at h1
        split at h1
        · split at h1
          · omega
          · omega
        · omega
      have hrow:∀(t:List (List LD)) (N:Nat),zbX N t=0→∀r,r∈t→r.length=N:=by
        intro t N
        induction t with
        | nil=>intro _ r hr;cases hr
        | cons q t ih=>
          intro h r hr
          simp only[zbX] at h
          split at h
          · omega
          · rename_i h2
            split at h
            · rename_i h3;exact absurd h h3
            · rcases List.mem_cons.1 hr with rfl|hr
              · exact Classical.byContradiction h2
              · exact ih h r hr
      refine⟨by rw[List.length_map];omega,fun i hi=>?_⟩
      rw[List.length_map] at hi
      rw[zhC szs [] [] hi,zeZ,hrow l _ h _ (zfE [] hi)]
      omega
  · exact⟨by simp,fun i hi=>by simp at hi⟩
theorem h9:Ok 9 zkf:=by
  refine mk (ctr:=[(16,zgy),(21,sFew),(51,zl7),(52,zgU),(53,zgU),(54,zp9)]) ⟨h16,h21,h51,h52,h53,h54,trivial⟩ (nt:=73) Try.func9 rfl rfl rfl rfl (by kernel_rfl) (by kernel_rfl) (fun x=>[fun _=>zqZ x.1,zq0 x.1]) ?_
  rintro⟨(l:List (List LD)),_⟩ _
  repeat' (intro hzz;(try (rename Two=>hq;cases hq));(try dsimp only at hzz);(try simp only[zad,zac,eqD,inR,big,zaa,Bool.not_true,Bool.not_false,Bool.true_eq,decide_eq_true_eq,decide_eq_false_iff_not,Bool.not_eq_true',Bool.not_eq_false',Bool.and_eq_true,Prod.mk.injEq,and_true,true_and,Int.not_lt,Int.not_le,gt_iff_lt,ge_iff_le] at hzz);(try simp only[zad,zac,eqD,inR,big,zaa,Bool.not_true,Bool.not_false,Bool.true_eq,decide_eq_true_eq,decide_eq_false_iff_not,Bool.not_eq_true',Bool.not_eq_false',Bool.and_eq_true,Prod.mk.injEq,and_true,true_and,Int.not_lt,Int.not_le,gt_iff_lt,ge_iff_le,zgE,zgf,List.length_cons,List.length_nil,Int.toNat_natCast,zgg,zeF] at hzz);(try (revert hzz;intro _)))
  all_goals try (rename Unit=>hq;clear hq)
  all_goals try ((with_reducible refine Held.mk ?_);(with_reducible (first|refine Frz.mk ?_|refine And.intro (Frz.mk ?_) ?_|refine And.intro ?_ (Frz.mk ?_)));repeat' first|exact True.intro|(change _=_;with_reducible rfl)|refine And.intro ?_ ?_|(with_reducible refine Frz.mk ?_))
  all_goals try (refine Held.mk ?_;(try dsimp only at *);(try simp only[zad,zac,eqD,inR,big,zaa,Bool.not_true,Bool.not_false,Bool.true_eq,decide_eq_true_eq,decide_eq_false_iff_not,Bool.not_eq_true',Bool.not_eq_false',Bool.and_eq_true,Prod.mk.injEq,and_true,true_and,Int.not_lt,Int.not_le,gt_iff_lt,ge_iff_le] at *);(try simp only[zad,zac,eqD,inR,big,zaa,Bool.not_true,Bool.not_false,Bool.true_eq,decide_eq_true_eq,decide_eq_false_iff_not,Bool.not_eq_true',Bool.not_eq_false',Bool.and_eq_true,Prod.mk.injEq,and_true,true_and,Int.not_lt,Int.not_le,gt_iff_lt,ge_iff_le,zgE,zgf,List.length_cons,List.length_nil,Int.toNat_natCast,zgg,zeF] at *))
  all_goals try omega
  ·
    refine zah.mk ?_
    refine Exists.intro (0:Nat) ?_
    refine And.intro (Leaf.mk ?_) ?_
    · repeat' first|exact True.intro|refine And.intro ?_ ?_
      all_goals try ((change _=_<;>try dsimp only)<;>try with_reducible rfl)
      all_goals try omega
      all_goals (rfl)
    exact Nat.zero_le _
  · rename_i h6 k hI hk hl
    refine zah.mk ?_
    refine Exists.intro (0:Nat) ?_
    refine And.intro (Leaf.mk ?_) ?_
    · repeat' first|exact True.intro|refine And.intro ?_ ?_
      all_goals try ((change _=_<;>try dsimp only)<;>try with_reducible rfl)
      all_goals try omega
      all_goals (rfl)
    exact⟨Nat.zero_le _,fun j hj=>by omega⟩
  · rename_i h6 k hI hk hl j hJ hj hf
    refine zah.mk ?_
    refine Exists.intro (j+1) ?_
    refine And.intro (Leaf.mk ?_) ?_
    · repeat' first|exact True.intro|refine And.intro ?_ ?_
      all_goals try ((change _=_<;>try dsimp only)<;>try with_reducible rfl)
      all_goals try omega
      all_goals (rfl)
    refine⟨⟨by change j+1≤(l.getD k []).length;omega,fun i hi=>?_⟩,?_⟩
    · by_cases hij:i<j
      · exact hJ.2 i hij
      · obtain rfl:i=j:=by omega
        exact Int.ofNat_le.1 hf
    · change (l.getD k []).length - (j+1)<(l.getD k []).length - j
      omega
  · rename_i h6 k hI hk hl j hJ hj
    refine⟨by omega,fun i hi=>?_⟩
    have:((l.getD k []).getD i ([],0,())).1.length≤34:=hJ.2 i (by omega)
    omega
  · rename_i h6 k hI hk hl j hJ hj
    rw[zdB hI];omega
  · rename_i h6 k hI hk hl j hJ hj
    have e:=zbJ [] (show k<l.length by omega)
    refine zah.mk ?_
    refine Exists.intro (k+1) ?_
    refine And.intro (Leaf.mk ?_) ?_
    · repeat' first|exact True.intro|refine And.intro ?_ ?_
      all_goals try ((change _=_<;>try dsimp only)<;>try with_reducible rfl)
      all_goals try omega
      all_goals (first|exact e|exact congrArg List.length e)
    change k+1≤l.length∧l.length - (k+1)<l.length - k
    omega
  · exact zpB _
  · rename_i h6 k hI hk he
    rw[List.take_of_length_le (show l.length≤k by omega)]
  · rename_i h6 k hI hk he
    rw[List.take_of_length_le (show l.length≤k by omega)] at he
    exact absurd rfl he
theorem zcw (xs:List (List Int)) (i:Nat):List.getD xs i (Ty.dflt (.sl I64))=xs.getD i []:=rfl
theorem zcx (xs:List Int) (i:Nat):List.getD xs i (Ty.dflt I64)=xs.getD i 0:=rfl
@[reducible] def zin:Spec:={pats:=[.dat MatT],res:=[{t:=MatT}],pre:=fun x=>zdn x.1,f:=fun x=>(x.1,())}
def zsm (xs:List (List Int)):LoopAnn:={σ:=Nat,pat:=fun k=>sI 4 k::zmS 3 60003 31 (xs.take k),inv:=fun k=>k≤xs.length,meas:=fun k=>xs.length - k}
theorem h95:Ok 95 zin:=by
  refine mk (ctr:=[(45,zdl)]) ⟨h45,trivial⟩ (nt:=20) Try.func95 rfl rfl rfl rfl (by kernel_rfl) (by kernel_rfl) (fun x=>[fun _=>zsm x.1]) ?_
  rintro⟨(xs:List (List Int)),_⟩ ⟨(hn:xs.length≤1000000),(hp:∀i,i<xs.length→(xs.getD i []).length≤1000000)⟩
  repeat' (intro hzz;(try (rename Two=>hq;cases hq));(try dsimp only at hzz);(try simp only[zad,zac,eqD,inR,big,zaa,Bool.not_true,Bool.not_false,Bool.true_eq,decide_eq_true_eq,decide_eq_false_iff_not,Bool.not_eq_true',Bool.not_eq_false',Bool.and_eq_true,Prod.mk.injEq,and_true,true_and,Int.not_lt,Int.not_le,gt_iff_lt,ge_iff_le] at hzz);(try simp only[zad,zac,eqD,inR,big,zaa,Bool.not_true,Bool.not_false,Bool.true_eq,decide_eq_true_eq,decide_eq_false_iff_not,Bool.not_eq_true',Bool.not_eq_false',Bool.and_eq_true,Prod.mk.injEq,and_true,true_and,Int.not_lt,Int.not_le,gt_iff_lt,ge_iff_le,zax,List.length_cons,List.length_nil] at hzz);(try (revert hzz;intro _)))
  all_goals try (rename Unit=>hq;clear hq)
  all_goals try ((with_reducible refine Held.mk ?_);(with_reducible (first|refine Frz.mk ?_|refine And.intro (Frz.mk ?_) ?_|refine And.intro ?_ (Frz.mk ?_)));repeat' first|exact True.intro|(change _=_;with_reducible rfl)|refine And.intro ?_ ?_|(with_reducible refine Frz.mk ?_))
  all_goals try (refine Held.mk ?_;(try dsimp only at *);(try simp only[zad,zac,eqD,inR,big,zaa,Bool.not_true,Bool.not_false,Bool.true_eq,decide_eq_true_eq,decide_eq_false_iff_not,Bool.not_eq_true',Bool.not_eq_false',Bool.and_eq_true,Prod.mk.injEq,and_true,true_and,Int.not_lt,Int.not_le,gt_iff_lt,ge_iff_le] at *);(try simp only[zad,zac,eqD,inR,big,zaa,Bool.not_true,Bool.not_false,Bool.true_eq,decide_eq_true_eq,decide_eq_false_iff_not,Bool.not_eq_true',Bool.not_eq_false',Bool.and_eq_true,Prod.mk.injEq,and_true,true_and,Int.not_lt,Int.not_le,gt_iff_lt,ge_iff_le,zax,List.length_cons,List.length_nil] at *))
  all_goals try omega
  ·
    refine zah.mk ?_
    refine Exists.intro (0:Nat) ?_
    refine And.intro (Leaf.mk ?_) ?_
    · repeat' first|exact True.intro|refine And.intro ?_ ?_
      all_goals try ((change _=_<;>try dsimp only)<;>try with_reducible rfl)
      all_goals try omega
      all_goals (rfl)
    exact Nat.zero_le _
  · rename_i k h1 h2
    exact hp k (by omega)
  · rename_i k h1 h2
    rw[zdB h1];omega
  · rename_i k h1 h2
    have e:=zbJ [] (show k<xs.length by omega)
    refine zah.mk ?_
    refine Exists.intro (k+1) ?_
    refine And.intro (Leaf.mk ?_) ?_
    · repeat' first|exact True.intro|refine And.intro ?_ ?_
      all_goals try ((change _=_<;>try dsimp only)<;>try with_reducible rfl)
      all_goals try omega
      all_goals (first|exact e|exact congrArg List.length e)
    change k+1≤xs.length∧xs.length - (k+1)<xs.length - k
    omega
  · rename_i k h1 h2
    exact List.take_of_length_le (by omega)
@[reducible] def zfZ:Spec:={pats:=[.dat zcv],res:=[{t:=zcv}],pre:=fun x=>zdn x.1.1,f:=fun x=>(x.1,())}
theorem h42:Ok 42 zfZ:=by
  refine mk (ctr:=[(95,zin)]) ⟨h95,trivial⟩ (nt:=7) Try.func42 rfl rfl rfl rfl (by kernel_rfl) (by kernel_rfl) (fun _=>[]) ?_
  rintro⟨⟨(xs:List (List Int)),_⟩,_⟩ (hp:zdn xs)
  repeat' (intro hzz;(try (rename Two=>hq;cases hq));(try dsimp only at hzz);(try simp only[zad,zac,eqD,inR,big,zaa,Bool.not_true,Bool.not_false,Bool.true_eq,decide_eq_true_eq,decide_eq_false_iff_not,Bool.not_eq_true',Bool.not_eq_false',Bool.and_eq_true,Prod.mk.injEq,and_true,true_and,Int.not_lt,Int.not_le,gt_iff_lt,ge_iff_le] at hzz);(try (revert hzz;intro _)))
  all_goals try (rename Unit=>hq;clear hq)
  all_goals try ((with_reducible refine Held.mk ?_);(with_reducible (first|refine Frz.mk ?_|refine And.intro (Frz.mk ?_) ?_|refine And.intro ?_ (Frz.mk ?_)));repeat' first|exact True.intro|(change _=_;with_reducible rfl)|refine And.intro ?_ ?_|(with_reducible refine Frz.mk ?_))
  all_goals try (refine Held.mk ?_;(try dsimp only at *);(try simp only[zad,zac,eqD,inR,big,zaa,Bool.not_true,Bool.not_false,Bool.true_eq,decide_eq_true_eq,decide_eq_false_iff_not,Bool.not_eq_true',Bool.not_eq_false',Bool.and_eq_true,Prod.mk.injEq,and_true,true_and,Int.not_lt,Int.not_le,gt_iff_lt,ge_iff_le] at *))
  all_goals try omega
def zfc (rows:List (List Int)):Bool:=decide (rows.length≤6∧∀i,i<rows.length→(rows.getD i []).length≤6)
@[reducible] def zld:Spec:={pats:=[.dat zcv],res:=[{t:=.bool}],pre:=fun _=>True,f:=fun x=>(zfc x.1.1,())}
def zsM (rows:List (List Int)):LoopAnn:={σ:=Nat,pat:=fun k=>[sI 3 k],inv:=fun k=>k≤rows.length∧∀i,i<k→(rows.getD i []).length≤6,meas:=fun k=>rows.length - k}
theorem h40:Ok 40 zld:=by
  refine mk (ctr:=[]) trivial (nt:=22) Try.func40 rfl rfl rfl rfl (by kernel_rfl) (by kernel_rfl) (fun x=>[fun _=>zsM x.1.1]) ?_
  rintro⟨⟨(rows:List (List Int)),_⟩,_⟩ _
  repeat' (intro hzz;(try (rename Two=>hq;cases hq));(try dsimp only at hzz);(try simp only[zad,zac,eqD,inR,big,zaa,Bool.not_true,Bool.not_false,Bool.true_eq,decide_eq_true_eq,decide_eq_false_iff_not,Bool.not_eq_true',Bool.not_eq_false',Bool.and_eq_true,Prod.mk.injEq,and_true,true_and,Int.not_lt,Int.not_le,gt_iff_lt,ge_iff_le] at hzz);(try simp only[zad,zac,eqD,inR,big,zaa,Bool.not_true,Bool.not_false,Bool.true_eq,decide_eq_true_eq,decide_eq_false_iff_not,Bool.not_eq_true',Bool.not_eq_false',Bool.and_eq_true,Prod.mk.injEq,and_true,true_and,Int.not_lt,Int.not_le,gt_iff_lt,ge_iff_le,zax] at hzz);(try (revert hzz;intro _)))
  all_goals try (rename Unit=>hq;clear hq)
  all_goals try ((with_reducible refine Held.mk ?_);(with_reducible (first|refine Frz.mk ?_|refine And.intro (Frz.mk ?_) ?_|refine And.intro ?_ (Frz.mk ?_)));repeat' first|exact True.intro|(change _=_;with_reducible rfl)|refine And.intro ?_ ?_|(with_reducible refine Frz.mk ?_))
  all_goals try (refine Held.mk ?_;(try dsimp only at *);(try simp only[zad,zac,eqD,inR,big,zaa,Bool.not_true,Bool.not_false,Bool.true_eq,decide_eq_true_eq,decide_eq_false_iff_not,Bool.not_eq_true',Bool.not_eq_false',Bool.and_eq_true,Prod.mk.injEq,and_true,true_and,Int.not_lt,Int.not_le,gt_iff_lt,ge_iff_le] at *);(try simp only[zad,zac,eqD,inR,big,zaa,Bool.not_true,Bool.not_false,Bool.true_eq,decide_eq_true_eq,decide_eq_false_iff_not,Bool.not_eq_true',Bool.not_eq_false',Bool.and_eq_true,Prod.mk.injEq,and_true,true_and,Int.not_lt,Int.not_le,gt_iff_lt,ge_iff_le,zax] at *))
  all_goals try omega
  · rename_i h
    symm;simp only[zfc,decide_eq_false_iff_not];omega
  ·
    refine zah.mk ?_
    refine Exists.intro (0:Nat) ?_
    refine And.intro (Leaf.mk ?_) ?_
    · repeat' first|exact True.intro|refine And.intro ?_ ?_
      all_goals try ((change _=_<;>try dsimp only)<;>try with_reducible rfl)
      all_goals try omega
      all_goals (rfl)
    exact⟨Nat.zero_le _,fun i hi=>by omega⟩
  · rename_i h6 k hI hk hl
    symm;simp only[zfc,decide_eq_false_iff_not]
    intro hc
    have:=hc.2 k (by omega)
    omega
  · rename_i h6 k hI hk hl
    refine zah.mk ?_
    refine Exists.intro (k+1) ?_
    refine And.intro (Leaf.mk ?_) ?_
    · repeat' first|exact True.intro|refine And.intro ?_ ?_
      all_goals try ((change _=_<;>try dsimp only)<;>try with_reducible rfl)
      all_goals try omega
      all_goals (rfl)
    refine⟨⟨by change k+1≤rows.length;omega,fun i hi=>?_⟩,?_⟩
    · by_cases hik:i<k
      · exact hI.2 i hik
      · obtain rfl:i=k:=by omega
        change (rows.getD i []).length≤6
        omega
    · change rows.length - (k+1)<rows.length - k
      omega
  · rename_i h6 k hI hk
    simp only[zfc,decide_eq_true_eq]
    exact⟨by omega,fun i hi=>hI.2 i (by omega)⟩
def zb4 (l:List Int):Bool:=decide (∀i,i<l.length→0<l.getD i 0)
def zst (s:Nat) (l:List Int):LoopAnn:={σ:=Nat,pat:=fun k=>[sI s k],inv:=fun k=>k≤l.length∧∀i,i<k→0<l.getD i 0,meas:=fun k=>l.length - k}
@[reducible] def zlm:Spec:={pats:=[.dat MatT],res:=[{t:=.bool}],pre:=fun x=>∃N,N≤4∧zby N x.1,f:=fun x=>(zb4 (zaG x.1),())}
theorem h96:Ok 96 zlm:=by
  refine mk (ctr:=[(94,zjk)]) ⟨h94,trivial⟩ (nt:=15) Try.func96 rfl rfl rfl rfl (by kernel_rfl) (by kernel_rfl) (fun x=>[fun _=>zst 8 (zaG x.1)]) ?_
  rintro⟨(m:List (List Int)),_⟩ ⟨N,hN,(hs:zby N m)⟩
  repeat' (intro hzz;(try (rename Two=>hq;cases hq));(try dsimp only at hzz);(try simp only[zad,zac,eqD,inR,big,zaa,Bool.not_true,Bool.not_false,Bool.true_eq,decide_eq_true_eq,decide_eq_false_iff_not,Bool.not_eq_true',Bool.not_eq_false',Bool.and_eq_true,Prod.mk.injEq,and_true,true_and,Int.not_lt,Int.not_le,gt_iff_lt,ge_iff_le] at hzz);(try simp only[zad,zac,eqD,inR,big,zaa,Bool.not_true,Bool.not_false,Bool.true_eq,decide_eq_true_eq,decide_eq_false_iff_not,Bool.not_eq_true',Bool.not_eq_false',Bool.and_eq_true,Prod.mk.injEq,and_true,true_and,Int.not_lt,Int.not_le,gt_iff_lt,ge_iff_le,zaj] at hzz);(try (revert hzz;intro _)))
  all_goals try (rename Unit=>hq;clear hq)
  all_goals try ((with_reducible refine Held.mk ?_);(with_reducible (first|refine Frz.mk ?_|refine And.intro (Frz.mk ?_) ?_|refine And.intro ?_ (Frz.mk ?_)));repeat' first|exact True.intro|(change _=_;with_reducible rfl)|refine And.intro ?_ ?_|(with_reducible refine Frz.mk ?_))
  all_goals try (refine Held.mk ?_;(try dsimp only at *);(try simp only[zad,zac,eqD,inR,big,zaa,Bool.not_true,Bool.not_false,Bool.true_eq,decide_eq_true_eq,decide_eq_false_iff_not,Bool.not_eq_true',Bool.not_eq_false',Bool.and_eq_true,Prod.mk.injEq,and_true,true_and,Int.not_lt,Int.not_le,gt_iff_lt,ge_iff_le] at *);(try simp only[zad,zac,eqD,inR,big,zaa,Bool.not_true,Bool.not_false,Bool.true_eq,decide_eq_true_eq,decide_eq_false_iff_not,Bool.not_eq_true',Bool.not_eq_false',Bool.and_eq_true,Prod.mk.injEq,and_true,true_and,Int.not_lt,Int.not_le,gt_iff_lt,ge_iff_le,zaj] at *))
  all_goals try omega
  · exact⟨N,hN,hs⟩
  ·
    refine zah.mk ?_
    refine Exists.intro (0:Nat) ?_
    refine And.intro (Leaf.mk ?_) ?_
    · repeat' first|exact True.intro|refine And.intro ?_ ?_
      all_goals try ((change _=_<;>try dsimp only)<;>try with_reducible rfl)
      all_goals try omega
      all_goals (rfl)
    exact⟨Nat.zero_le _,fun i hi=>by omega⟩
  · rename_i k hI hk h0
    symm;simp only[zb4,decide_eq_false_iff_not]
    intro hc
    have:=hc k (by omega)
    omega
  · rename_i k hI hk h0
    have:(zaG m).length=N:=by rw[zaG,zar];exact hs.1
    omega
  · rename_i k hI hk h0
    refine zah.mk ?_
    refine Exists.intro (k+1) ?_
    refine And.intro (Leaf.mk ?_) ?_
    · repeat' first|exact True.intro|refine And.intro ?_ ?_
      all_goals try ((change _=_<;>try dsimp only)<;>try with_reducible rfl)
      all_goals try omega
      all_goals (rfl)
    refine⟨⟨by change k+1≤(zaG m).length;omega,fun i hi=>?_⟩,?_⟩
    · by_cases hik:i<k
      · exact hI.2 i hik
      · obtain rfl:i=k:=by omega
        exact h0
    · change (zaG m).length - (k+1)<(zaG m).length - k
      omega
  · rename_i k hI hk
    simp only[zb4,decide_eq_true_eq]
    exact fun i hi=>hI.2 i (by omega)
def zeW (rows:List (List Int)):Bool×Int:=if zai rows=0 then (zb4 (zaG (matI 0 rows)),0) else (false,zai rows)
@[reducible] def znS:Spec:={pats:=[.dat zcv],res:=[{t:=.bool},{t:=I64}],pre:=fun _=>True,f:=fun x=>((zeW x.1.1).1,(zeW x.1.1).2,())}
theorem h43:Ok 43 znS:=by
  refine mk (ctr:=[(47,zbn),(93,zfo),(96,zlm)]) ⟨h47,h93,h96,trivial⟩ (nt:=13) Try.func43 rfl rfl rfl rfl (by kernel_rfl) (by kernel_rfl) (fun _=>[]) ?_
  rintro⟨⟨(rows:List (List Int)),_⟩,_⟩ _
  repeat' (intro hzz;(try (rename Two=>hq;cases hq));(try dsimp only at hzz);(try simp only[zad,zac,eqD,inR,big,zaa,Bool.not_true,Bool.not_false,Bool.true_eq,decide_eq_true_eq,decide_eq_false_iff_not,Bool.not_eq_true',Bool.not_eq_false',Bool.and_eq_true,Prod.mk.injEq,and_true,true_and,Int.not_lt,Int.not_le,gt_iff_lt,ge_iff_le] at hzz);(try (revert hzz;intro _)))
  all_goals try (rename Unit=>hq;clear hq)
  all_goals try ((with_reducible refine Held.mk ?_);(with_reducible (first|refine Frz.mk ?_|refine And.intro (Frz.mk ?_) ?_|refine And.intro ?_ (Frz.mk ?_)));repeat' first|exact True.intro|(change _=_;with_reducible rfl)|refine And.intro ?_ ?_|(with_reducible refine Frz.mk ?_))
  all_goals try (refine Held.mk ?_;(try dsimp only at *);(try simp only[zad,zac,eqD,inR,big,zaa,Bool.not_true,Bool.not_false,Bool.true_eq,decide_eq_true_eq,decide_eq_false_iff_not,Bool.not_eq_true',Bool.not_eq_false',Bool.and_eq_true,Prod.mk.injEq,and_true,true_and,Int.not_lt,Int.not_le,gt_iff_lt,ge_iff_le] at *))
  · rename_i h
    simp only[zeW];rw[if_neg h];exact⟨rfl,rfl⟩
  · rename_i h
    exact (zcj h).small
  · rename_i h
    exact⟨_,(zcj h).le,(zcj h).sq⟩
  · rename_i h
    simp only[zeW];rw[if_pos h];exact⟨rfl,rfl⟩
def zqP (rows:List (List Int)) (st:St):LoopAnn:=zgK 3 st fun i=>{σ:=Nat,pat:=fun k=>[sI 4 k],inv:=fun k=>k≤(rows.getD i.toNat []).length∧zdj ((rows.getD i.toNat []).drop k)=zdj (rows.getD i.toNat []),meas:=fun k=>(rows.getD i.toNat []).length - k}
def zqO (rows:List (List Int)):LoopAnn:={σ:=Nat,pat:=fun k=>[sI 3 k],inv:=fun k=>k≤rows.length∧zbO rows.length (rows.drop k)=zbO rows.length rows,meas:=fun k=>rows.length - k}
theorem h46:Ok 46 zbn:=by
  refine mk (ctr:=[(17,zbs)]) ⟨h17,trivial⟩ (nt:=50) Try.func46 rfl rfl rfl rfl (by kernel_rfl) (by kernel_rfl) (fun x=>[fun _=>zqO x.1.1,zqP x.1.1]) ?_
  rintro⟨⟨(rows:List (List Int)),_⟩,_⟩ _
  repeat' (intro hzz;(try (rename Two=>hq;cases hq));(try dsimp only at hzz);(try simp only[zad,zac,eqD,inR,big,zaa,Bool.not_true,Bool.not_false,Bool.true_eq,decide_eq_true_eq,decide_eq_false_iff_not,Bool.not_eq_true',Bool.not_eq_false',Bool.and_eq_true,Prod.mk.injEq,and_true,true_and,Int.not_lt,Int.not_le,gt_iff_lt,ge_iff_le] at hzz);(try simp only[zad,zac,eqD,inR,big,zaa,Bool.not_true,Bool.not_false,Bool.true_eq,decide_eq_true_eq,decide_eq_false_iff_not,Bool.not_eq_true',Bool.not_eq_false',Bool.and_eq_true,Prod.mk.injEq,and_true,true_and,Int.not_lt,Int.not_le,gt_iff_lt,ge_iff_le,zax,zaj,zal,Int.toNat_natCast,zcw,zcx] at hzz);(try (revert hzz;intro _)))
  all_goals try (rename Unit=>hq;clear hq)
  all_goals try ((with_reducible refine Held.mk ?_);(with_reducible (first|refine Frz.mk ?_|refine And.intro (Frz.mk ?_) ?_|refine And.intro ?_ (Frz.mk ?_)));repeat' first|exact True.intro|(change _=_;with_reducible rfl)|refine And.intro ?_ ?_|(with_reducible refine Frz.mk ?_))
  all_goals try (refine Held.mk ?_;(try dsimp only at *);(try simp only[zad,zac,eqD,inR,big,zaa,Bool.not_true,Bool.not_false,Bool.true_eq,decide_eq_true_eq,decide_eq_false_iff_not,Bool.not_eq_true',Bool.not_eq_false',Bool.and_eq_true,Prod.mk.injEq,and_true,true_and,Int.not_lt,Int.not_le,gt_iff_lt,ge_iff_le] at *);(try simp only[zad,zac,eqD,inR,big,zaa,Bool.not_true,Bool.not_false,Bool.true_eq,decide_eq_true_eq,decide_eq_false_iff_not,Bool.not_eq_true',Bool.not_eq_false',Bool.and_eq_true,Prod.mk.injEq,and_true,true_and,Int.not_lt,Int.not_le,gt_iff_lt,ge_iff_le,zax,zaj,zal,Int.toNat_natCast,zcw,zcx] at *))
  all_goals try omega
  · rename_i h
    have hc:zau rows.length=10:=by simp only[zau];rw[if_neg (by omega)]
    simp only[zai];rw[hc,if_neg (by decide)]
  · rename_i h h4
    have hc:zau rows.length=8:=by simp only[zau];rw[if_pos (by omega),if_neg (by omega)]
    simp only[zai];rw[hc,if_neg (by decide)]
  all_goals (have hc:zau rows.length=0:=by simp only[zau];rw[if_pos (by omega),if_pos (by omega)])
  all_goals (have hF:zai rows=zbO rows.length rows:=by simp only[zai];rw[if_pos hc])
  ·
    refine zah.mk ?_
    refine Exists.intro (0:Nat) ?_
    refine And.intro (Leaf.mk ?_) ?_
    · repeat' first|exact True.intro|refine And.intro ?_ ?_
      all_goals try ((change _=_<;>try dsimp only)<;>try with_reducible rfl)
      all_goals try omega
      all_goals (rfl)
    exact⟨Nat.zero_le _,rfl⟩
  · rename_i k hI hk hl
    have e:=hI.2
    rw[zcf (by omega),if_neg (by omega)] at e
    rw[hF,←e]
  ·
    refine zah.mk ?_
    refine Exists.intro (0:Nat) ?_
    refine And.intro (Leaf.mk ?_) ?_
    · repeat' first|exact True.intro|refine And.intro ?_ ?_
      all_goals try ((change _=_<;>try dsimp only)<;>try with_reducible rfl)
      all_goals try omega
      all_goals (rfl)
    exact⟨Nat.zero_le _,rfl⟩
  · rename_i k hI hk hl j hJ hj hb
    have e1:=hJ.2
    rw[zeJ (by omega),if_neg hb] at e1
    have e:=hI.2
    rw[zcf (by omega),if_pos (by omega),if_neg (by rw[←e1];decide)] at e
    rw[hF,←e]
  · rename_i k hI hk hl j hJ hj hb
    have e1:=hJ.2
    rw[zeJ (by omega),if_pos hb] at e1
    refine zah.mk ?_
    refine Exists.intro (j+1) ?_
    refine And.intro (Leaf.mk ?_) ?_
    · repeat' first|exact True.intro|refine And.intro ?_ ?_
      all_goals try ((change _=_<;>try dsimp only)<;>try with_reducible rfl)
      all_goals try omega
      all_goals (rfl)
    refine⟨⟨by change j+1≤(rows.getD k []).length;omega,e1⟩,?_⟩
    change (rows.getD k []).length - (j+1)<(rows.getD k []).length - j
    omega
  · rename_i k hI hk hl j hJ hj
    have e1:=hJ.2
    rw[List.drop_eq_nil_of_le (by omega)] at e1
    have e:=hI.2
    rw[zcf (by omega),if_pos (by omega),if_pos (show zdj (rows.getD k [])=0 from e1.symm)] at e
    refine zah.mk ?_
    refine Exists.intro (k+1) ?_
    refine And.intro (Leaf.mk ?_) ?_
    · repeat' first|exact True.intro|refine And.intro ?_ ?_
      all_goals try ((change _=_<;>try dsimp only)<;>try with_reducible rfl)
      all_goals try omega
      all_goals (rfl)
    refine⟨⟨by change k+1≤rows.length;omega,e⟩,?_⟩
    change rows.length - (k+1)<rows.length - k
    omega
  · rename_i k hI hk
    have e:=hI.2
    rw[List.drop_eq_nil_of_le (by omega)] at e
    rw[hF,←e];rfl
end Go.Eng.Lp
namespace Go.Eng
set_option linter.all false
set_option maxRecDepth 100000
section
variable {P:Program} {Q:Exit→Act→World→Prop} {a:Act} {w:World} {K:Act→World→Prop}
theorem zbK {o:Oper} {v:Value} (hnd:∀d,o.op≠.defer d) (hr:(execOp a.eval o).run P w=.ok (.value v) w) (h:K (a.put o.dst v) w):o.wpIn (Fw none) 0 P a w K Q:=
  zaE hnd hr h
theorem zqS {o:Oper} {w':World} (hnd:∀d,o.op≠.defer d) (hr:(execOp a.eval o).run P w=.ok .skip w') (h:K (a.put o.dst undef) w'):o.wpIn (Fw none) 0 P a w K Q:=
  zaE hnd hr h
theorem zpv {o:Oper} {f:Nat} {args:Array Value} (hnd:∀d,o.op≠.defer d) (hr:(execOp a.eval o).run P w=.ok (.enter f args) w)
    (h:Calls P f args w fun e w'=>∃v,e=.returned v∧K (a.put o.dst v) w'):o.wpIn (Fw none) 0 P a w K Q:=
  zaE hnd hr ⟨fun h=>(by cases h),zh1 (h.mono fun e w' ⟨v,h1,h2⟩=>by subst h1;exact h2)⟩
theorem zcE {ops:Array Oper} (h:Q .normal a w):wpListIn (Fw none) 0 P ops Q [] a w:=h
theorem zaw {ops:Array Oper} {o:Oper} {rest:List Oper} (hg:o.guard=none) (h:o.wpIn (Fw none) 0 P a w (wpListIn (Fw none) 0 P ops Q rest) Q):wpListIn (Fw none) 0 P ops Q (o::rest) a w:=by
  have hw:Region.wanted o (yielded ops a.tmps)=true:=by simp[Region.wanted,hg]
  simp only[wpListIn,hw,if_true]
  exact h
end
theorem zr5 {P:Program} {o:Oper} {a:Act} {w:World} {K:Act→World→Prop} {Q Q':Exit→Act→World→Prop} (h:∀c a w,Q (.panic c) a w=Q' (.panic c) a w) (h2:LetsOut Q=LetsOut Q'):o.wpIn (Fw none) 0 P a w K Q=o.wpIn (Fw none) 0 P a w K Q':=by
  have e:∀r,o.uponIn (Fw none) 0 P a K Q r=o.uponIn (Fw none) 0 P a K Q' r:=by
    intro r
    unfold Oper.uponIn
    split<;>simp only[h,h2]
  unfold Oper.wpIn
  rw[e]
theorem zeC {P:Program} {ops:Array Oper} {Q:Exit→Act→World→Prop} {l2:List Oper}:∀(l1:List Oper) (a:Act) (w:World),
    wpListIn (Fw none) 0 P ops (fun e a w=>match e with | .normal=>wpListIn (Fw none) 0 P ops Q l2 a w|e=>Q e a w) l1 a w→wpListIn (Fw none) 0 P ops Q (l1++l2) a w
  | [],a,w,h=>h
  | o :: l1,a,w,h=>by
    simp only[wpListIn,List.cons_append] at h ⊢
    split
    · rename_i hw
      rw[if_pos hw] at h
      refine Oper.wpIn_mono (zeC l1) ?_
      rw[←zr5 (Q:=fun e a w=>match e with | .normal=>wpListIn (Fw none) 0 P ops Q l2 a w|e=>Q e a w) (Q':=Q) (fun _ _ _=>rfl) rfl]
      exact h
    · rename_i hw
      rw[if_neg hw] at h
      exact⟨h.1,zeC l1 _ _ h.2⟩
theorem zmX {F:Fence} {n:Nat} {P:Program} {Q Q':Exit→Act→World→Prop} {o:Oper} {a:Act} {w:World} {K K':Act→World→Prop} (h:∀a w,K a w→K' a w) (hq:∀e a w,Q e a w→Q' e a w)
    (hh:o.wpIn F n P a w K Q):o.wpIn F n P a w K' Q':=by
  unfold Oper.wpIn at *
  refine⟨hh.1,?_⟩
  have hh:=hh.2
  generalize (o.semAt F.round a.eval).run P w=r at *
  cases r with
  | ok x w'=>
    cases x<;>simp only[Oper.uponIn] at hh ⊢ <;>
      first
        | exact h _ _ hh
        | exact⟨hh.1,CallsIn.mono hh.2 (fun e w'' he=>by cases e<;>first|exact h _ _ he|exact hq _ _ _ he|exact (let ⟨a,w,h⟩:=he;⟨a,w,hq _ _ _ h⟩))⟩
        | exact⟨hh.1,RowsIn.mono hh.2 (fun _ _ he=>h _ _ he)⟩
        | exact⟨hh.1,RoundIn.mono hh.2 (fun e w'' he=>by cases e<;>first|exact h _ _ he|exact hq _ _ _ he|exact (let ⟨a,w,h⟩:=he;⟨a,w,hq _ _ _ h⟩))⟩
  | halt x w'=>cases x<;>simp only[Oper.uponIn] at hh ⊢<;>first|exact hh|exact hq _ _ _ hh
theorem zhD {F:Fence} {n:Nat} {P:Program} {ops:Array Oper} {Q Q':Exit→Act→World→Prop} (hq:∀e a w,Q e a w→Q' e a w):∀(l:List Oper) (a:Act) (w:World),wpListIn F n P ops Q l a w→wpListIn F n P ops Q' l a w
  | [],a,w,h=>hq _ _ _ h
  | o :: r,a,w,h=>by
    unfold wpListIn at h ⊢
    split
    · rename_i hw
      rw[if_pos hw] at h
      exact zmX (zhD hq r) hq h
    · rename_i hw
      rw[if_neg hw] at h
      exact⟨h.1,zhD hq r _ _ h.2⟩
end Go.Eng
namespace Go.Eng.Lp
open Go.Eng Go.Proofs
set_option linter.all false
set_option maxRecDepth 100000
set_option maxHeartbeats 1000000
theorem mvR (a:Act) (w:World) (o:Oper) (x:Operand) (ho:o.op=.move x) {v:Value} (hx:a.eval x=v):(execOp a.eval o).run Try.prog w=.ok (.value v) w:=by
  simp[execOp,ho,hx]
theorem zaH (a:Act) (t:Nat) (v:Value):(a.put (some t) v).tmps.size=a.tmps.size:=by simp[Act.put]
theorem zas (a:Act) (t:Nat) (v:Value):(a.put (some t) v).defers=a.defers:=rfl
theorem asR (a:Act) (w:World) (o:Oper) (x:Operand) (ho:o.op=.assign x) {v:Value} (hx:a.eval x=v):(execOp a.eval o).run Try.prog w=.ok (.value v) w:=by
  simp[execOp,ho,hx]
theorem lnR {t el:Nat} (hd':Try.prog.underlying t=some (.slice el)) (a:Act) (w:World) (o:Oper) (x:Operand) (ho:o.op=.call {callee:=.builtin .len,args:=#[x],argTypes:=#[t]}) {ad:Option Addr} {n c:Nat} (hx:a.eval x=.slice ad n c):(execOp a.eval o).run Try.prog w=.ok (.value (.int .i64 n)) w:=by
  simp[execOp,ho,hx,resolve,Deferred.ofValue,invoke,builtin,Builtin.len_,run_underlying hd',goInt]
theorem ltR (a:Act) (w:World) (o:Oper) (x y:Operand) (ho:o.op=.binOp .lss 3 x y 3) {m n:Int} (hx:a.eval x=.int .i64 m) (hy:a.eval y=.int .i64 n):(execOp a.eval o).run Try.prog w=.ok (.value (.bool (decide (m<n)))) w:=by
  simp[execOp,ho,hx,hy,eqGuard,binOp,Op.intCmp]
theorem adR (a:Act) (w:World) (o:Oper) (x y:Operand) (ho:o.op=.binOp .add 3 x y 3) {m n:Int} (hx:a.eval x=.int .i64 m) (hy:a.eval y=.int .i64 n) (hr : -9223372036854775808≤m+n∧m+n≤9223372036854775807):(execOp a.eval o).run Try.prog w=.ok (.value (.int .i64 (m+n))) w:=by
  simp[execOp,ho,hx,hy,eqGuard,binOp,Op.intArith,zlT hr]
def rowJ (xs:List Int) (c:Nat) (cur:Array Value):Prop:=cur.size=c∧xs.length≤c∧c≤maxLen∧∀(i:Nat) (x:Int),xs[i]?=some x→cur[i]?=some (.int .i64 x)
theorem zqI {V:View} {xs:List Int} {c:Nat} {cur:Array Value} (h:rowJ xs c cur):zc1 V I64 xs c cur:=by
  refine⟨by show cur.size=c*1;rw[h.1,Nat.mul_one],h.2.1,h.2.2.1,fun i x hx=>?_⟩
  have h1:=h.2.2.2 i x hx
  have h2:i<cur.toList.length:=by have:=(Array.getElem?_eq_some_iff.1 h1).1;simpa using this
  show (cur.toList.drop (i*1)).take 1=[.int .i64 x]
  rw[Nat.mul_one,List.drop_eq_getElem_cons h2]
  have h3:cur.toList[i]=.int .i64 x:=by
    have:=(Array.getElem?_eq_some_iff.1 h1).2
    simpa using this
  simp[h3]
theorem zq6 {V:View} {xs:List Int} {c:Nat} {cur:Array Value} (h:zc1 V I64 xs c cur):rowJ xs c cur:=by
  refine⟨by have:cur.size=c*1:=h.1;omega,h.2.1,h.2.2.1,fun i x hx=>?_⟩
  have h1:(cur.toList.drop (i*1)).take 1=[.int .i64 x]:=h.2.2.2 i x hx
  have h2:=congrArg (fun l=>l[0]?) h1
  simpa [List.getElem?_take,List.getElem?_drop] using h2
structure Bel (B:Nat) (w w':World):Prop where
  os:w'.os=w.os
  tape:w'.tape=w.tape
  output:w'.output=w.output
  size:w.heap.size≤w'.heap.size
  keep:∀b,b<B→b<w.heap.size→w'.heap[b]?=w.heap[b]?
theorem Bel.refl (B:Nat) (w:World):Bel B w w:=⟨rfl,rfl,rfl,Nat.le_refl _,fun _ _ _=>rfl⟩
theorem Bel.trans {B:Nat} {w w' w'':World} (h:Bel B w w') (k:Bel B w' w''):Bel B w w'':=
  ⟨k.os.trans h.os,k.tape.trans h.tape,k.output.trans h.output,Nat.le_trans h.size k.size,fun b hb hs=>(k.keep b hb (Nat.lt_of_lt_of_le hs h.size)).trans (h.keep b hb hs)⟩
theorem Bel.le {B B':Nat} {w w':World} (h:Bel B w w') (hb:B'≤B):Bel B' w w':=⟨h.os,h.tape,h.output,h.size,fun b hb'=>h.keep b (Nat.lt_of_lt_of_le hb' hb)⟩
theorem adN (a:Act) (w:World) (o:Oper) (x y:Operand) (ho:o.op=.binOp .add 3 x y 3) {m:Nat} (hx:a.eval x=.int .i64 m) (hy:a.eval y=.int .i64 1) (hr:m≤1000000):(execOp a.eval o).run Try.prog w=.ok (.value (.int .i64 ((m+1:Nat):Int))) w:=by
  have:=adR a w o x y ho hx hy (by omega)
  rw[this];rfl
theorem zpw {P:Program} {Q:Exit→Act→World→Prop} {a:Act} {w w':World} {K:Act→World→Prop} {o:Oper} {v:Value} (hnd:∀d,o.op≠.defer d) (hr:(execOp a.eval o).run P w=.ok (.value v) w') (h:K (a.put o.dst v) w'):o.wpIn (Fw none) 0 P a w K Q:=
  zaE hnd hr h
theorem zix {P:Program} {Q:Exit→Act→World→Prop} {a:Act} {w:World} {K:Act→World→Prop} {o:Oper} {f:Nat} {args:Array Value} (hnd:∀d,o.op≠.defer d) (hr:(execOp a.eval o).run P w=.ok (.enter f args) w)
    (h:CallsIn (Fw none) 0 P f args w fun e w'=>∃v,e=.returned v∧K (a.put o.dst v) w'):o.wpIn (Fw none) 0 P a w K Q:=
  zaE hnd hr ⟨fun h=>(by cases h),h.mono fun e w' ⟨v,h1,h2⟩=>by subst h1;exact h2⟩
theorem zfD {w:World} {o:Obj} {B:Nat} (h:B=w.heap.size):(w.alloc o).heap[B]?=some o:=by
  subst h;show (w.heap.push o)[w.heap.size]?=_;simp
theorem zfC {w:World} {o p:Obj} {b:Nat} (h:w.heap[b]?=some p):(w.alloc o).heap[b]?=some p:=by
  show (w.heap.push o)[b]?=_
  rw[Array.getElem?_push,if_neg (Nat.ne_of_lt (zag h))];exact h
theorem zjd {w:World} {o:Obj}:(w.alloc o).heap.size=w.heap.size+1:=by
  show (w.heap.push o).size=_
  rw[Array.size_push]
theorem ia60 (a:Act) (w:World) (o:Oper) (x y:Operand) (ho:o.op=.indexAddr 60 x y) {b off n c:Nat} {i:Nat} (hx:a.eval x=.slice (some ⟨b,off,none⟩) n c) (hy:a.eval y=.int .i64 i) (h1:i<n) :
    (execOp a.eval o).run Try.prog w=.ok (.value (.pointer (some ⟨b,off+i,none⟩))) w:=by
  have hS:=zay znZ w
  have hs:i31.size=1:=rfl
  have h2:(i:Int)<(n:Int):=by omega
  simp[execOp,ho,hx,hy,Instr.indexAt,run_underlying Try.underlying60,asIntOf,hS,h2,hs,zaC]
  intro h;omega
theorem ld31 (a:Act) (w:World) (o:Oper) (x:Operand) (ho:o.op=.load 31 x) {b off el:Nat} {cur:Array Value} {f:Nat×Nat} {v:Value} (hx:a.eval x=.pointer (some ⟨b,off,none⟩)) (hb:w.heap[b]?=some (.cells cur el f)) (hv:cur[off]?=some v) :
    (execOp a.eval o).run Try.prog w=.ok (.value v) w:=by
  have hl:(loadVar 31 ⟨b,off,none⟩).run Try.prog w=.ok v w:=zaZ znZ rfl (by rw[zbe hb];exact hv)
  simp[execOp,ho,hx,Instr.loadAt,Instr.sureAddr,hl]
theorem bsS (a:Act) (w:World) (o:Oper) (x:Operand) (ho:o.op=.buildSlice 60 1 #[(0,x)]) {ad:Option Addr} {n c:Nat} (hx:a.eval x=.slice ad n c):(execOp a.eval o).run Try.prog w=.ok (.value (.slice (some ⟨w.heap.size,0,none⟩) 1 1)) (w.alloc (.cells #[.slice ad n c] 31 (0,0))):=by
  have hS:=zay znZ w
  have hs:i31.size=1:=rfl
  have hf:Instr.fill (fun i=>some (i,1)) (Array.map (fun x=>(Value.slice none 0 0).cells[x % (Value.slice none 0 0).cells.size]!) (Array.range 1)) [(0,Value.slice ad n c)]=some #[.slice ad n c]:=by
    have e:Array.range 1 = #[0]:=rfl
    rw[e]
    simp[Instr.fill,Value.cells]
  simp[execOp,ho,hx,Instr.buildSlice,run_underlying Try.underlying60,hS,hs,hf,newRow]
def rowU (us:List Value) (c:Nat) (cur:Array Value):Prop:=cur.size=c∧us.length≤c∧c≤maxLen∧∀(i:Nat) (u:Value),us[i]?=some u→cur[i]?=some u
theorem zjp {us:List Value} {u:Value} {cur:Array Value} {c:Nat} (hc:c=cur.size) (h:us.length+1≤c) (hm:c≤maxLen) (e:cur.toList.take (us.length+1)=us++[u]):rowU (us++[u]) c cur:=by
  refine⟨hc.symm,by simpa using h,hm,fun i x hx=>?_⟩
  have hi:i<us.length+1:=by have:=(List.getElem?_eq_some_iff.1 hx).1;simpa using this
  rw[←e,List.getElem?_take,if_pos hi] at hx
  simpa using hx
theorem zhn {us:List Value} {c:Nat} {cur:Array Value} (h:rowU us c cur):cur.toList.take us.length=us:=by
  refine List.ext_getElem? fun i=>?_
  rw[List.getElem?_take]
  by_cases hi:i<us.length
  · rw[if_pos hi]
    have h1:=List.getElem?_eq_getElem hi
    have h2:=h.2.2.2 i _ h1
    rw[h1];simpa using h2
  · rw[if_neg hi,List.getElem?_eq_none (by omega)]
theorem apS (a:Act) (w:World) (o:Oper) (x y:Operand) (ho:o.op=.call {callee:=.builtin .append,args:=#[x,y],argTypes:=#[60,60]}) {v u:Value} {us:List Value} {b1:Nat} (hx:a.eval x=v)
    (hv:(us=[]∧v=.slice none 0 0)∨∃ls c cur,w.heap[ls]?=some (.cells cur 31 (0,0))∧v=.slice (some ⟨ls,0,none⟩) us.length c∧rowU us c cur) (hl:us.length+1≤1000) (hu:u.oneCell'=true)
    (hy:a.eval y=.slice (some ⟨b1,0,none⟩) 1 1) (hb1:w.heap[b1]?=some (.cells #[u] 31 (0,0))) :
    ∃ ls c cur w',(execOp a.eval o).run Try.prog w=.ok (.value (.slice (some ⟨ls,0,none⟩) (us.length+1) c)) w'∧w'.heap[ls]?=some (.cells cur 31 (0,0))∧rowU (us++[u]) c cur∧
      (ls=w.heap.size∨∃n c0,v=.slice (some ⟨ls,0,none⟩) n c0)∧w'.os=w.os∧w'.tape=w.tape∧w'.output=w.output∧w.heap.size≤w'.heap.size∧∀b,b<w.heap.size→b≠ls→w'.heap[b]?=w.heap[b]?:=by
  obtain⟨pi,hpi,hps,hpb,hpz⟩:=znZ.info
  have hps1:pi.size=1:=hps
  have hpb1:pi.bytes≤65536:=by rw[hpb];decide
  have hd:=Try.underlying60
  have g1 : [u].length=1*pi.size:=by rw[hps1];rfl
  have g2:∀j q,[u][j]?=some q→w.cell? ((⟨b1,0,none⟩:Addr).add j)=some q:=fun j q hj=>by
    have:j=0:=by have:=(List.getElem?_eq_some_iff.1 hj).1;simpa using this
    subst this
    rw[zaC,zbe hb1];simpa using hj
  have exe:∀ {r:Value} {w':World},(Builtin.append_ #[60,60] o.type #[v,.slice (some ⟨b1,0,none⟩) 1 1]).run Try.prog w=.ok r w'→(execOp a.eval o).run Try.prog w=.ok (.value r) w':=fun hr=>by
    simp[execOp,ho,resolve,invoke,builtin,hx,hy,hr]
  rcases hv with ⟨rfl,rfl⟩|⟨ls,c,cur,hb,rfl,hr⟩
  · have hrun:=run_append_nil (P:=Try.prog) w 60 o.type 31 pi i31.zero hd hpi hpz ⟨b1,0,none⟩ 1 1 [u] g1 g2 (by decide) (by decide) (by omega)
    have hcap:=grownCap_ge w 1 0 31
    have hmax:=grownCap_le_maxLen w 1 0 31 (zb9 (by decide))
    refine⟨_,_,_,_,exe hrun,zfD rfl,?_,.inl rfl,rfl,rfl,rfl,?_,?_⟩
    · refine zjp ?_ (by simpa using hcap) hmax (by simp)
      have hz:i31.zero.cells.size=1:=rfl
      rw[Array.size_append,size_zeroCells,hz];simp;omega
    · show w.heap.size≤(w.drew.heap.push _).size
      rw[Array.size_push];exact Nat.le_succ _
    · intro b hb _
      show (w.drew.heap.push _)[b]?=w.heap[b]?
      rw[Array.getElem?_push,if_neg (Nat.ne_of_lt (show b<w.drew.heap.size from hb))];rfl
  · have hol : (cur.toList.take us.length).length=us.length:=by rw[zhn hr]
    by_cases hroom:us.length+1≤c
    · have hrun:=run_append_room (P:=Try.prog) w 60 o.type 31 pi hd hpi ls us.length c cur hb ⟨b1,0,none⟩ 1 1 [u] g1 g2 (fun q hq=>by simp at hq;rw[hq];exact hu) hroom (by rw[hps1,hr.1];simpa using hroom)
      have hcl:cur.toList.length=c:=by rw[Array.length_toList];exact hr.1
      rw[hps1,Nat.mul_one] at hrun
      refine⟨_,_,_,_,exe hrun,setRow_heap w ls cur _ 31 (0,0) hb,?_,.inr ⟨_,_,rfl⟩,rfl,rfl,rfl,?_,?_⟩
      · refine zjp ?_ hroom hr.2.2.1 ?_
        · simp only[List.size_toArray,List.length_append,List.length_drop,hol,hcl,List.length_cons,List.length_nil];omega
        · show (_:List Value).take _=_
          rw[List.take_append_of_le_length (by rw[List.length_append,hol];simp),List.take_of_length_le (by rw[List.length_append,hol];simp),zhn hr]
      · simp[World.setRow]
      · intro b _ hne
        exact setRow_other w ls b _ hne
    · have hmul:=Nat.mul_le_mul hl hpb1
      have hrun:=run_append_grow (P:=Try.prog) w 60 o.type 31 pi i31.zero hd hpi hpz ⟨ls,0,none⟩ us.length c (cur.toList.take us.length) (by rw[hol,hps1,Nat.mul_one]) (fun j q hj=>by
            rw[zaC,zbe hb,Nat.zero_add]
            rw[List.getElem?_take] at hj
            split at hj
            · simpa using hj
            · cases hj) ⟨b1,0,none⟩ 1 1 [u] g1 g2 (by omega) (by omega) (growslice_fits (by omega) (by omega))
      have hcap:=grownCap_ge w (us.length+1) c 31
      have hmax:=grownCap_le_maxLen w (us.length+1) c 31 (zb9 (by unfold big;omega))
      refine⟨_,_,_,_,exe hrun,zfD rfl,?_,.inl rfl,rfl,rfl,rfl,?_,?_⟩
      · refine zjp ?_ hcap hmax ?_
        · have hz:i31.zero.cells.size=1:=rfl
          rw[Array.size_append,Array.size_append,size_zeroCells,hz];simp only[List.size_toArray,hol];simp;omega
        · rw[Array.toList_append,Array.toList_append,List.take_append_of_le_length (by simp[hol]),List.take_of_length_le (by simp[hol]),zhn hr]
      · show w.heap.size≤(w.drew.heap.push _).size
        rw[Array.size_push];exact Nat.le_succ _
      · intro b hb _
        show (w.drew.heap.push _)[b]?=w.heap[b]?
        rw[Array.getElem?_push,if_neg (Nat.ne_of_lt (show b<w.drew.heap.size from hb))];rfl
set_option maxHeartbeats 8000000
def wRow:List Int→Int
  | []=>0
  | n::r=>if 1≤n∧n≤1000000000000 then wRow r else 2
def dotF (row w:List Int) (k:Nat):Int:=row.getD k 0*w.getD k 0
def zej (w:List Int):Nat→List (List Int)→Int
  | _,[]=>0
  | i,r::t=>if 1000*w.getD i 0≤sm (dotF r w) w.length then 20 else zej w (i+1) t
def zbH (rows:List (List Int)) (w:List Int):Int:=if w.length=rows.length then (if wRow w=0 then zej w 0 rows else wRow w) else 10
def zfN (rows:List (List Int)) (w:List Int):Int:=if zai rows=0 then zbH rows w else zai rows
theorem zfh {w:List Int} {k:Nat} (h:k<w.length):wRow (w.drop k)=if 1≤w.getD k 0∧w.getD k 0≤1000000000000 then wRow (w.drop (k+1)) else 2:=by
  rw[zdW h];rfl
theorem zdH {w:List Int} {rows:List (List Int)} {k:Nat} (h:k<rows.length):zej w k (rows.drop k)=if 1000*w.getD k 0≤sm (dotF (rows.getD k []) w) w.length then 20 else zej w (k+1) (rows.drop (k+1)):=by
  rw[zfL h];rfl
theorem zfS:∀ {w:List Int},wRow w=0→∀k,k<w.length→1≤w.getD k 0∧w.getD k 0≤1000000000000
  | [],_,k,h=>by simp at h
  | x :: r,h,k,hk=>by
    simp only[wRow] at h
    split at h
    · rename_i hx
      cases k with
      | zero=>exact hx
      | succ k=>exact zfS h k (by simpa using hk)
    · omega
theorem Lines.get {rows:List (List Int)} (h:Lines rows) {i k:Nat} (hi:i<rows.length) (hk:k<rows.length):0≤(rows.getD i []).getD k 0∧(rows.getD i []).getD k 0≤2000:=by
  have hm:=zfE [] hi
  have hl:=h.len _ hm
  exact h.val _ hm _ (zfE 0 (by omega))
theorem Lines.row {rows:List (List Int)} (h:Lines rows) {i:Nat} (hi:i<rows.length):(rows.getD i []).length=rows.length:=h.len _ (zfE [] hi)
theorem ziV {rows:List (List Int)} {w:List Int} (h:Lines rows) (hw:wRow w=0) (hl:w.length=rows.length) {i k:Nat} (hi:i<rows.length) (hk:k<rows.length):0≤dotF (rows.getD i []) w k∧dotF (rows.getD i []) w k≤2000000000000000:=by
  have a:=h.get hi hk
  have b:=zfS hw k (by omega)
  have c:=zbL (x:=(rows.getD i []).getD k 0) (d:=w.getD k 0) (X:=2000) (B:=1000000000000) (by omega) (by omega) (by omega) (by omega)
  have d:0≤(rows.getD i []).getD k 0*w.getD k 0:=Int.mul_nonneg a.1 (by omega)
  simp only[dotF];omega
theorem zoG {rows:List (List Int)} {w:List Int} (h:Lines rows) (hw:wRow w=0) (hl:w.length=rows.length) {i k:Nat} (hi:i<rows.length) (hk:k≤rows.length):0≤sm (dotF (rows.getD i []) w) k∧sm (dotF (rows.getD i []) w) k≤8000000000000000:=by
  have h1:=zj8 (f:=dotF (rows.getD i []) w) (B:=2000000000000000) k (fun j hj=>by have:=ziV h hw hl hi (k:=j) (by omega);omega)
  have h2:=znG (f:=dotF (rows.getD i []) w) k (fun j hj=>(ziV h hw hl hi (k:=j) (by omega)).1)
  have h3:=h.le
  omega
theorem ztg {rows:List (List Int)} {w:List Int} (h:(if zai rows=0 then bif decide ((w.length:Int)=rows.length) then 0 else 10 else zai rows)=0):Lines rows∧w.length=rows.length∧zfN rows w=zbH rows w:=by
  by_cases hc:zai rows=0
  · refine ⟨zcj hc,?_,by simp only[zfN];rw[if_pos hc]⟩
    by_cases hl:w.length=rows.length
    · exact hl
    · have hd:decide ((w.length:Int)=rows.length)=false:=decide_eq_false (by omega)
      rw[if_pos hc,hd] at h;simp at h
  · rw[if_neg hc] at h;exact absurd h hc
theorem zth {rows:List (List Int)} {w:List Int} (h:¬(if zai rows=0 then bif decide ((w.length:Int)=rows.length) then 0 else 10 else zai rows)=0):(if zai rows=0 then bif decide ((w.length:Int)=rows.length) then 0 else 10 else zai rows)=zfN rows w:=by
  by_cases hc:zai rows=0
  · by_cases hl:w.length=rows.length
    · have hd:decide ((w.length:Int)=rows.length)=true:=decide_eq_true (by omega)
      rw[if_pos hc,hd] at h;simp at h
    · have hd:decide ((w.length:Int)=rows.length)=false:=decide_eq_false (by omega)
      simp only[zfN,zbH];rw[if_pos hc,if_pos hc,if_neg hl,hd];rfl
  · simp only[zfN];rw[if_neg hc,if_neg hc]
theorem zoS {rows:List (List Int)} {w:List Int} (hl:w.length=rows.length) (h:wRow w=2):zbH rows w=2:=by
  simp only[zbH];rw[if_pos hl,h,if_neg (by decide)]
theorem zmJ {rows:List (List Int)} {w:List Int} (hl:w.length=rows.length) (h:wRow w=0):zbH rows w=zej w 0 rows:=by
  simp only[zbH];rw[if_pos hl,if_pos h]
theorem zgL {w:List Int} {k:Nat} (hI:wRow (w.drop k)=wRow w) (hk:w.length≤k):wRow w=0:=by
  rw[List.drop_eq_nil_of_le hk] at hI;exact hI.symm
@[reducible] def zdF:Spec:={pats:=[.dat zcv,.dat (.sl I64)],res:=[{t:=I64}],pre:=fun _=>True,f:=fun x=>(zfN x.1.1 x.2.1,())}
def cwA (s:Nat) (w:List Int):LoopAnn:={σ:=Nat,pat:=fun k=>[sI s k],inv:=fun k=>k≤w.length∧wRow (w.drop k)=wRow w,meas:=fun k=>w.length - k}
def cwB (s:Nat) (rows:List (List Int)) (w:List Int):LoopAnn:={σ:=Nat,pat:=fun k=>[sI s k],inv:=fun k=>k≤rows.length∧zej w k (rows.drop k)=zej w 0 rows,meas:=fun k=>rows.length - k}
def cwC (o s c:Nat) (rows:List (List Int)) (w:List Int) (st:St):LoopAnn:=zgK o st fun i=>{σ:=Nat,pat:=fun k=>[sI s k,sI c (sm (dotF (rows.getD i.toNat []) w) k)],inv:=fun k=>k≤rows.length,meas:=fun k=>rows.length - k}
theorem h44:Ok 44 zdF:=by
  refine mk (ctr:=[(47,zbn),(82,zee),(81,zfp),(89,zbs)]) ⟨h47,h82,h81,h89,trivial⟩ (nt:=69) Try.func44 rfl rfl rfl rfl (by kernel_rfl) (by kernel_rfl) (fun x=>[fun _=>cwA 29 x.2.1,fun _=>cwB 40 x.1.1 x.2.1,cwC 40 47 10 x.1.1 x.2.1]) ?_
  rintro⟨⟨(rows:List (List Int)),_⟩,(w:List Int),_⟩ _
  repeat' (intro hzz;(try (rename Two=>hq;cases hq));(try dsimp only at hzz);(try simp only[zad,zac,eqD,inR,big,zaa,Bool.not_true,Bool.not_false,Bool.true_eq,decide_eq_true_eq,decide_eq_false_iff_not,Bool.not_eq_true',Bool.not_eq_false',Bool.and_eq_true,Prod.mk.injEq,and_true,true_and,Int.not_lt,Int.not_le,gt_iff_lt,ge_iff_le] at hzz);(try simp only[zad,zac,eqD,inR,big,zaa,Bool.not_true,Bool.not_false,Bool.true_eq,decide_eq_true_eq,decide_eq_false_iff_not,Bool.not_eq_true',Bool.not_eq_false',Bool.and_eq_true,Prod.mk.injEq,and_true,true_and,Int.not_lt,Int.not_le,gt_iff_lt,ge_iff_le,zax,zaj,zd5,zal,Int.toNat_natCast,zcw,zcx] at hzz);(try (revert hzz;intro _)))
  all_goals try (rename Unit=>hq;clear hq)
  all_goals try ((with_reducible refine Held.mk ?_);(with_reducible (first|refine Frz.mk ?_|refine And.intro (Frz.mk ?_) ?_|refine And.intro ?_ (Frz.mk ?_)));repeat' first|exact True.intro|(change _=_;with_reducible rfl)|refine And.intro ?_ ?_|(with_reducible refine Frz.mk ?_))
  all_goals try (refine Held.mk ?_;(try dsimp only at *);(try simp only[zad,zac,eqD,inR,big,zaa,Bool.not_true,Bool.not_false,Bool.true_eq,decide_eq_true_eq,decide_eq_false_iff_not,Bool.not_eq_true',Bool.not_eq_false',Bool.and_eq_true,Prod.mk.injEq,and_true,true_and,Int.not_lt,Int.not_le,gt_iff_lt,ge_iff_le] at *);(try simp only[zad,zac,eqD,inR,big,zaa,Bool.not_true,Bool.not_false,Bool.true_eq,decide_eq_true_eq,decide_eq_false_iff_not,Bool.not_eq_true',Bool.not_eq_false',Bool.and_eq_true,Prod.mk.injEq,and_true,true_and,Int.not_lt,Int.not_le,gt_iff_lt,ge_iff_le,zax,zaj,zd5,zal,Int.toNat_natCast,zcw,zcx] at *))
  all_goals try omega
  · exact zgN (by simp)
  · rename_i h
    exact zth h
  all_goals (rename (if zai rows=0 then _ else _)=0=>hE;replace hE:=ztg hE;have hL:=hE.1;have hw:=hE.2.1;have h4:=hL.le)
  ·
    refine zah.mk ?_
    refine Exists.intro (0:Nat) ?_
    refine And.intro (Leaf.mk ?_) ?_
    · repeat' first|exact True.intro|refine And.intro ?_ ?_
      all_goals try ((change _=_<;>try dsimp only)<;>try with_reducible rfl)
      all_goals try omega
      all_goals (rfl)
    exact⟨Nat.zero_le _,rfl⟩
  · rename_i k hI hk hb
    have e:=hI.2
    rw[zfh (by omega),if_neg hb] at e
    rw[hE.2.2,zoS hw e.symm]
  · rename_i k hI hk hb
    omega
  · rename_i k hI hk hb
    have e:=hI.2
    rw[zfh (by omega),if_pos hb] at e
    refine zah.mk ?_
    refine Exists.intro (k+1) ?_
    refine And.intro (Leaf.mk ?_) ?_
    · repeat' first|exact True.intro|refine And.intro ?_ ?_
      all_goals try ((change _=_<;>try dsimp only)<;>try with_reducible rfl)
      all_goals try omega
      all_goals (rfl)
    refine⟨⟨by change k+1≤w.length;omega,e⟩,?_⟩
    change w.length - (k+1)<w.length - k
    omega
  ·
    refine zah.mk ?_
    refine Exists.intro (0:Nat) ?_
    refine And.intro (Leaf.mk ?_) ?_
    · repeat' first|exact True.intro|refine And.intro ?_ ?_
      all_goals try ((change _=_<;>try dsimp only)<;>try with_reducible rfl)
      all_goals try omega
      all_goals (rfl)
    exact⟨Nat.zero_le _,rfl⟩
  ·
    refine zah.mk ?_
    refine Exists.intro (0:Nat) ?_
    refine And.intro (Leaf.mk ?_) ?_
    · repeat' first|exact True.intro|refine And.intro ?_ ?_
      all_goals try ((change _=_<;>try dsimp only)<;>try with_reducible rfl)
      all_goals try omega
      all_goals (rfl)
    exact Nat.zero_le _
  all_goals (have hrow:=fun (i:Nat) (hi:i<rows.length)=>hL.row hi)
  · rename_i q hq hq2 k hI hk j hJ hj
    have:=hrow k (by omega)
    omega
  · rename_i q hq hq2 k hI hk j hJ hj
    have:=hrow k (by omega)
    have a:=ziV hL (zgL hq.2 (by omega)) hw (i:=k) (k:=j) (by omega) (by omega)
    simp only[dotF] at a
    omega
  · rename_i q hq hq2 k hI hk j hJ hj
    have:=hrow k (by omega)
    have a:=ziV hL (zgL hq.2 (by omega)) hw (i:=k) (k:=j) (by omega) (by omega)
    have b:=zoG hL (zgL hq.2 (by omega)) hw (i:=k) (k:=j) (by omega) (by omega)
    simp only[dotF] at a
    omega
  · rename_i q hq hq2 k hI hk j hJ hj
    omega
  · rename_i q hq hq2 k hI hk j hJ hj
    have:=hrow k (by omega)
    refine zah.mk ?_
    refine Exists.intro (j+1) ?_
    refine And.intro (Leaf.mk ?_) ?_
    · repeat' first|exact True.intro|refine And.intro ?_ ?_
      all_goals try ((change _=_<;>try dsimp only)<;>try with_reducible rfl)
      all_goals try omega
      all_goals (rfl)
    change j+1≤rows.length∧rows.length - (j+1)<rows.length - j
    omega
  · rename_i q hq hq2 k hI hk j hJ hj
    omega
  · rename_i q hq hq2 k hI hk j hJ hj
    have a:=zfS (zgL hq.2 (by omega)) k (by omega)
    omega
  · rename_i q hq hq2 k hI hk j hJ hj hc
    have:=hrow k (by omega)
    have e:=hI.2
    obtain rfl:j=w.length:=by omega
    rw[zdH (by omega),if_pos hc] at e
    rw[hE.2.2,zmJ hw (zgL hq.2 (by omega)),←e]
  · rename_i q hq hq2 k hI hk j hJ hj hc
    omega
  · rename_i q hq hq2 k hI hk j hJ hj hc
    have:=hrow k (by omega)
    have e:=hI.2
    obtain rfl:j=w.length:=by omega
    rw[zdH (by omega),if_neg (by omega)] at e
    refine zah.mk ?_
    refine Exists.intro (k+1) ?_
    refine And.intro (Leaf.mk ?_) ?_
    · repeat' first|exact True.intro|refine And.intro ?_ ?_
      all_goals try ((change _=_<;>try dsimp only)<;>try with_reducible rfl)
      all_goals try omega
      all_goals (rfl)
    refine⟨⟨by change k+1≤rows.length;omega,e⟩,?_⟩
    change rows.length - (k+1)<rows.length - k
    omega
  · rename_i q hq hq2 k hI hk
    have e:=hI.2
    rw[List.drop_eq_nil_of_le (by omega)] at e
    rw[hE.2.2,zmJ hw (zgL hq.2 (by omega)),←e];rfl
@[reducible] def zde:Spec:={pats:=[.dat zcv,.dat (.sl I64)],res:=[{t:=I64}],pre:=fun x=>Lines x.1.1,f:=fun x=>(zbH x.1.1 x.2.1,())}
theorem h48:Ok 48 zde:=by
  refine mk (ctr:=[(17,zbs)]) ⟨h17,trivial⟩ (nt:=61) Try.func48 rfl rfl rfl rfl (by kernel_rfl) (by kernel_rfl) (fun x=>[fun _=>cwA 5 x.2.1,fun _=>cwB 6 x.1.1 x.2.1,cwC 6 8 7 x.1.1 x.2.1]) ?_
  rintro⟨⟨(rows:List (List Int)),_⟩,(w:List Int),_⟩ (hL:Lines rows)
  repeat' (intro hzz;(try (rename Two=>hq;cases hq));(try dsimp only at hzz);(try simp only[zad,zac,eqD,inR,big,zaa,Bool.not_true,Bool.not_false,Bool.true_eq,decide_eq_true_eq,decide_eq_false_iff_not,Bool.not_eq_true',Bool.not_eq_false',Bool.and_eq_true,Prod.mk.injEq,and_true,true_and,Int.not_lt,Int.not_le,gt_iff_lt,ge_iff_le] at hzz);(try simp only[zad,zac,eqD,inR,big,zaa,Bool.not_true,Bool.not_false,Bool.true_eq,decide_eq_true_eq,decide_eq_false_iff_not,Bool.not_eq_true',Bool.not_eq_false',Bool.and_eq_true,Prod.mk.injEq,and_true,true_and,Int.not_lt,Int.not_le,gt_iff_lt,ge_iff_le,zax,zaj,zal,Int.toNat_natCast,zcw,zcx] at hzz);(try (revert hzz;intro _)))
  all_goals try (rename Unit=>hq;clear hq)
  all_goals try ((with_reducible refine Held.mk ?_);(with_reducible (first|refine Frz.mk ?_|refine And.intro (Frz.mk ?_) ?_|refine And.intro ?_ (Frz.mk ?_)));repeat' first|exact True.intro|(change _=_;with_reducible rfl)|refine And.intro ?_ ?_|(with_reducible refine Frz.mk ?_))
  all_goals try (refine Held.mk ?_;(try dsimp only at *);(try simp only[zad,zac,eqD,inR,big,zaa,Bool.not_true,Bool.not_false,Bool.true_eq,decide_eq_true_eq,decide_eq_false_iff_not,Bool.not_eq_true',Bool.not_eq_false',Bool.and_eq_true,Prod.mk.injEq,and_true,true_and,Int.not_lt,Int.not_le,gt_iff_lt,ge_iff_le] at *);(try simp only[zad,zac,eqD,inR,big,zaa,Bool.not_true,Bool.not_false,Bool.true_eq,decide_eq_true_eq,decide_eq_false_iff_not,Bool.not_eq_true',Bool.not_eq_false',Bool.and_eq_true,Prod.mk.injEq,and_true,true_and,Int.not_lt,Int.not_le,gt_iff_lt,ge_iff_le,zax,zaj,zal,Int.toNat_natCast,zcw,zcx] at *))
  all_goals try omega
  · rename_i hw
    simp only[zbH];rw[if_neg (by omega)]
  all_goals (rename (w.length:Int)=rows.length=>hw0;have hw:w.length=rows.length:=by omega)
  all_goals have h4:=hL.le
  ·
    refine zah.mk ?_
    refine Exists.intro (0:Nat) ?_
    refine And.intro (Leaf.mk ?_) ?_
    · repeat' first|exact True.intro|refine And.intro ?_ ?_
      all_goals try ((change _=_<;>try dsimp only)<;>try with_reducible rfl)
      all_goals try omega
      all_goals (rfl)
    exact⟨Nat.zero_le _,rfl⟩
  · rename_i k hI hk hb
    have e:=hI.2
    rw[zfh (by omega),if_neg hb] at e
    rw[zoS hw e.symm]
  · rename_i k hI hk hb
    omega
  · rename_i k hI hk hb
    have e:=hI.2
    rw[zfh (by omega),if_pos hb] at e
    refine zah.mk ?_
    refine Exists.intro (k+1) ?_
    refine And.intro (Leaf.mk ?_) ?_
    · repeat' first|exact True.intro|refine And.intro ?_ ?_
      all_goals try ((change _=_<;>try dsimp only)<;>try with_reducible rfl)
      all_goals try omega
      all_goals (rfl)
    refine⟨⟨by change k+1≤w.length;omega,e⟩,?_⟩
    change w.length - (k+1)<w.length - k
    omega
  ·
    refine zah.mk ?_
    refine Exists.intro (0:Nat) ?_
    refine And.intro (Leaf.mk ?_) ?_
    · repeat' first|exact True.intro|refine And.intro ?_ ?_
      all_goals try ((change _=_<;>try dsimp only)<;>try with_reducible rfl)
      all_goals try omega
      all_goals (rfl)
    exact⟨Nat.zero_le _,rfl⟩
  ·
    refine zah.mk ?_
    refine Exists.intro (0:Nat) ?_
    refine And.intro (Leaf.mk ?_) ?_
    · repeat' first|exact True.intro|refine And.intro ?_ ?_
      all_goals try ((change _=_<;>try dsimp only)<;>try with_reducible rfl)
      all_goals try omega
      all_goals (rfl)
    exact Nat.zero_le _
  all_goals (have hrow:=fun (i:Nat) (hi:i<rows.length)=>hL.row hi)
  · rename_i q hq hq2 k hI hk j hJ hj
    have:=hrow k (by omega)
    omega
  · rename_i q hq hq2 k hI hk j hJ hj
    have:=hrow k (by omega)
    have a:=ziV hL (zgL hq.2 (by omega)) hw (i:=k) (k:=j) (by omega) (by omega)
    simp only[dotF] at a
    omega
  · rename_i q hq hq2 k hI hk j hJ hj
    have:=hrow k (by omega)
    have a:=ziV hL (zgL hq.2 (by omega)) hw (i:=k) (k:=j) (by omega) (by omega)
    have b:=zoG hL (zgL hq.2 (by omega)) hw (i:=k) (k:=j) (by omega) (by omega)
    simp only[dotF] at a
    omega
  · rename_i q hq hq2 k hI hk j hJ hj
    omega
  · rename_i q hq hq2 k hI hk j hJ hj
    have:=hrow k (by omega)
    refine zah.mk ?_
    refine Exists.intro (j+1) ?_
    refine And.intro (Leaf.mk ?_) ?_
    · repeat' first|exact True.intro|refine And.intro ?_ ?_
      all_goals try ((change _=_<;>try dsimp only)<;>try with_reducible rfl)
      all_goals try omega
      all_goals (rfl)
    change j+1≤rows.length∧rows.length - (j+1)<rows.length - j
    omega
  · rename_i q hq hq2 k hI hk j hJ hj
    have a:=zfS (zgL hq.2 (by omega)) k (by omega)
    omega
  · rename_i q hq hq2 k hI hk j hJ hj hc
    have:=hrow k (by omega)
    have e:=hI.2
    obtain rfl:j=w.length:=by omega
    rw[zdH (by omega),if_pos hc] at e
    rw[zmJ hw (zgL hq.2 (by omega)),←e]
  · rename_i q hq hq2 k hI hk j hJ hj hc
    omega
  · rename_i q hq hq2 k hI hk j hJ hj hc
    have:=hrow k (by omega)
    have e:=hI.2
    obtain rfl:j=w.length:=by omega
    rw[zdH (by omega),if_neg (by omega)] at e
    refine zah.mk ?_
    refine Exists.intro (k+1) ?_
    refine And.intro (Leaf.mk ?_) ?_
    · repeat' first|exact True.intro|refine And.intro ?_ ?_
      all_goals try ((change _=_<;>try dsimp only)<;>try with_reducible rfl)
      all_goals try omega
      all_goals (rfl)
    refine⟨⟨by change k+1≤rows.length;omega,e⟩,?_⟩
    change rows.length - (k+1)<rows.length - k
    omega
  · rename_i q hq hq2 k hI hk
    have e:=hI.2
    rw[List.drop_eq_nil_of_le (by omega)] at e
    rw[zmJ hw (zgL hq.2 (by omega)),←e];rfl
theorem zcI (n:Nat):((n:Int)+1).toNat=n+1:=rfl
@[reducible] def zf0:Spec:={pats:=[.dat (.sl I64)],res:=[{own:=some 3,t:=.sl I64}],pre:=fun x=>zlx (List.length (α:=Int) x.1),f:=fun x=>(x.1,())}
theorem h45o:Ok 45 zf0:=by
  refine mk (ctr:=[]) trivial (nt:=6) Try.func45 rfl rfl rfl rfl (by kernel_rfl) (by kernel_rfl) (fun _=>[]) ?_
  rintro⟨(xs:List Int),_⟩ (hp:xs.length≤1000000)
  repeat' (intro hzz;(try (rename Two=>hq;cases hq));(try dsimp only at hzz);(try simp only[zad,zac,eqD,inR,big,zaa,Bool.not_true,Bool.not_false,Bool.true_eq,decide_eq_true_eq,decide_eq_false_iff_not,Bool.not_eq_true',Bool.not_eq_false',Bool.and_eq_true,Prod.mk.injEq,and_true,true_and,Int.not_lt,Int.not_le,gt_iff_lt,ge_iff_le] at hzz);(try simp only[zad,zac,eqD,inR,big,zaa,Bool.not_true,Bool.not_false,Bool.true_eq,decide_eq_true_eq,decide_eq_false_iff_not,Bool.not_eq_true',Bool.not_eq_false',Bool.and_eq_true,Prod.mk.injEq,and_true,true_and,Int.not_lt,Int.not_le,gt_iff_lt,ge_iff_le,List.nil_append,List.length_nil] at hzz);(try (revert hzz;intro _)))
  all_goals try (rename Unit=>hq;clear hq)
  all_goals try ((with_reducible refine Held.mk ?_);(with_reducible (first|refine Frz.mk ?_|refine And.intro (Frz.mk ?_) ?_|refine And.intro ?_ (Frz.mk ?_)));repeat' first|exact True.intro|(change _=_;with_reducible rfl)|refine And.intro ?_ ?_|(with_reducible refine Frz.mk ?_))
  all_goals try (refine Held.mk ?_;(try dsimp only at *);(try simp only[zad,zac,eqD,inR,big,zaa,Bool.not_true,Bool.not_false,Bool.true_eq,decide_eq_true_eq,decide_eq_false_iff_not,Bool.not_eq_true',Bool.not_eq_false',Bool.and_eq_true,Prod.mk.injEq,and_true,true_and,Int.not_lt,Int.not_le,gt_iff_lt,ge_iff_le] at *);(try simp only[zad,zac,eqD,inR,big,zaa,Bool.not_true,Bool.not_false,Bool.true_eq,decide_eq_true_eq,decide_eq_false_iff_not,Bool.not_eq_true',Bool.not_eq_false',Bool.and_eq_true,Prod.mk.injEq,and_true,true_and,Int.not_lt,Int.not_le,gt_iff_lt,ge_iff_le,List.nil_append,List.length_nil] at *))
  all_goals try omega
theorem zhU (c:Int):∀(row:List Int) (j m:Nat),c=j+m→zaB c j row=row.take m++row.drop (m+1)
  | [],j,m,_=>by simp[zaB]
  | n :: r,j,0,h=>by
    simp only[zaB]
    rw[if_pos (by omega)]
    have none:∀(l:List Int) (i:Nat),c<i→zaB c i l=l:=by
      intro l
      induction l with
      | nil=>intro i _;rfl
      | cons x l ih=>intro i hi;simp only[zaB];rw[if_neg (by omega),ih (i+1) (by omega)]
    rw[none r (j+1) (by omega)]
    simp
  | n::r,j,m+1,h=>by
    simp only[zaB]
    rw[if_neg (by omega),zhU c r (j+1) m (by omega)]
    simp
theorem zlM {c:Int} {rows:List (List Int)} (h:0<rows.length):zap 0 c 0 rows=(rows.drop 1).map (zaB c 0):=by
  cases rows with
  | nil=>simp at h
  | cons r t=>
    simp only[zap,Int.natCast_zero,if_true]
    exact zex c t 0
theorem zgV {N i k:Nat} {rows:List (List Int)} (hp:zby (N+1) rows) (hi:N≤i):((rows.drop 1).map (zaB (k:Int) 0)).take i=zap 0 k 0 rows:=by
  rw[zlM (by rw[hp.1];omega),List.take_of_length_le]
  rw[List.length_map,List.length_drop,hp.1];omega
theorem zmC:zc0 Try.prog 99:=⟨Try.f99,Try.func99,by kernel_rfl,by kernel_rfl⟩
theorem zqU:Ok 99 zl6:=⟨fun w M x vs bs _ _ h=>h.elim,zmC⟩
def zoP (N:Nat) (rows:List (List Int)):LoopAnn:=
  {σ:=Nat×Int×Int,pat:=fun s=>[sI 5 s.1,sI 3 s.2.1,sI 4 s.2.2],inv:=fun s=>zoM N rows s.1 s.2.1 s.2.2,meas:=fun s=>(rows.getD 0 []).length - s.1}
def zoN (rows:List (List Int)) (st:St):LoopAnn:=zgK 5 st fun k=>{σ:=Nat,pat:=fun i=>sI 7 (i+1)::zmS 6 60006 31 (((rows.drop 1).map (zaB k 0)).take i),inv:=fun i=>i+1≤rows.length,meas:=fun i=>rows.length - i}
theorem zoJ:Ok 99 (sDet 0):=by
  refine mk (ctr:=[(45,zf0),(99,zl6)]) ⟨h45o,zqU,trivial⟩ (nt:=57) Try.func99 rfl rfl rfl rfl (by kernel_rfl) (by kernel_rfl) (fun x=>[fun _=>zoP 0 x.1,zoN x.1]) ?_
  rintro⟨(rows:List (List Int)),_⟩ (hp:zby 0 rows)
  have hl:rows.length=0:=hp.1
  repeat' (intro hzz;(try (rename Two=>hq;cases hq));(try dsimp only at hzz);(try simp only[zad,zac,eqD,inR,big,zaa,Bool.not_true,Bool.not_false,Bool.true_eq,decide_eq_true_eq,decide_eq_false_iff_not,Bool.not_eq_true',Bool.not_eq_false',Bool.and_eq_true,Prod.mk.injEq,and_true,true_and,Int.not_lt,Int.not_le,gt_iff_lt,ge_iff_le] at hzz);(try simp only[zad,zac,eqD,inR,big,zaa,Bool.not_true,Bool.not_false,Bool.true_eq,decide_eq_true_eq,decide_eq_false_iff_not,Bool.not_eq_true',Bool.not_eq_false',Bool.and_eq_true,Prod.mk.injEq,and_true,true_and,Int.not_lt,Int.not_le,gt_iff_lt,ge_iff_le,zax,zaj,zfF,Int.toNat_natCast,zcw,zcx,zcI] at hzz);(try (first|contradiction|(exfalso;omega)));(try (revert hzz;intro _)))
  all_goals try (rename Unit=>hq;clear hq)
  all_goals try ((with_reducible refine Held.mk ?_);(with_reducible (first|refine Frz.mk ?_|refine And.intro (Frz.mk ?_) ?_|refine And.intro ?_ (Frz.mk ?_)));repeat' first|exact True.intro|(change _=_;with_reducible rfl)|refine And.intro ?_ ?_|(with_reducible refine Frz.mk ?_))
  all_goals try (refine Held.mk ?_;(try dsimp only at *);(try simp only[zad,zac,eqD,inR,big,zaa,Bool.not_true,Bool.not_false,Bool.true_eq,decide_eq_true_eq,decide_eq_false_iff_not,Bool.not_eq_true',Bool.not_eq_false',Bool.and_eq_true,Prod.mk.injEq,and_true,true_and,Int.not_lt,Int.not_le,gt_iff_lt,ge_iff_le] at *);(try simp only[zad,zac,eqD,inR,big,zaa,Bool.not_true,Bool.not_false,Bool.true_eq,decide_eq_true_eq,decide_eq_false_iff_not,Bool.not_eq_true',Bool.not_eq_false',Bool.and_eq_true,Prod.mk.injEq,and_true,true_and,Int.not_lt,Int.not_le,gt_iff_lt,ge_iff_le,zax,zaj,zfF,Int.toNat_natCast,zcw,zcx,zcI] at *))
  all_goals try omega
  · rfl
theorem zoK {N:Nat} (hN:N<4) (ih:Ok 99 (sDet N)):Ok 99 (sDet (N+1)):=by
  refine mk (ctr:=[(45,zf0),(99,sDet N)]) ⟨h45o,ih,trivial⟩ (nt:=57) Try.func99 rfl rfl rfl rfl (by kernel_rfl) (by kernel_rfl) (fun x=>[fun _=>zoP N x.1,zoN x.1]) ?_
  rintro⟨(rows:List (List Int)),_⟩ (hp:zby (N+1) rows)
  have hl:rows.length=N+1:=hp.1
  repeat' (intro hzz;(try (rename Two=>hq;cases hq));(try dsimp only at hzz);(try simp only[zad,zac,eqD,inR,big,zaa,Bool.not_true,Bool.not_false,Bool.true_eq,decide_eq_true_eq,decide_eq_false_iff_not,Bool.not_eq_true',Bool.not_eq_false',Bool.and_eq_true,Prod.mk.injEq,and_true,true_and,Int.not_lt,Int.not_le,gt_iff_lt,ge_iff_le] at hzz);(try simp only[zad,zac,eqD,inR,big,zaa,Bool.not_true,Bool.not_false,Bool.true_eq,decide_eq_true_eq,decide_eq_false_iff_not,Bool.not_eq_true',Bool.not_eq_false',Bool.and_eq_true,Prod.mk.injEq,and_true,true_and,Int.not_lt,Int.not_le,gt_iff_lt,ge_iff_le,zax,zaj,zfF,Int.toNat_natCast,zcw,zcx,zcI,List.length_cons,List.length_nil] at hzz);(try (revert hzz;intro _)))
  all_goals try (rename Unit=>hq;clear hq)
  all_goals try ((with_reducible refine Held.mk ?_);(with_reducible (first|refine Frz.mk ?_|refine And.intro (Frz.mk ?_) ?_|refine And.intro ?_ (Frz.mk ?_)));repeat' first|exact True.intro|(change _=_;with_reducible rfl)|refine And.intro ?_ ?_|(with_reducible refine Frz.mk ?_))
  all_goals try (refine Held.mk ?_;(try dsimp only at *);(try simp only[zad,zac,eqD,inR,big,zaa,Bool.not_true,Bool.not_false,Bool.true_eq,decide_eq_true_eq,decide_eq_false_iff_not,Bool.not_eq_true',Bool.not_eq_false',Bool.and_eq_true,Prod.mk.injEq,and_true,true_and,Int.not_lt,Int.not_le,gt_iff_lt,ge_iff_le] at *);(try simp only[zad,zac,eqD,inR,big,zaa,Bool.not_true,Bool.not_false,Bool.true_eq,decide_eq_true_eq,decide_eq_false_iff_not,Bool.not_eq_true',Bool.not_eq_false',Bool.and_eq_true,Prod.mk.injEq,and_true,true_and,Int.not_lt,Int.not_le,gt_iff_lt,ge_iff_le,zax,zaj,zfF,Int.toNat_natCast,zcw,zcx,zcI,List.length_cons,List.length_nil] at *))
  all_goals try omega
  ·
    refine zah.mk ?_
    refine Exists.intro (0,0,1) ?_
    refine And.intro (Leaf.mk ?_) ?_
    · repeat' first|exact True.intro|refine And.intro ?_ ?_
      all_goals try ((change _=_<;>try dsimp only)<;>try with_reducible rfl)
      all_goals try omega
    refine⟨Nat.zero_le _,.inl rfl,?_,by simp,by simp⟩
    simp[detN]
  · rename_i h0 s hi hg
    refine zah.mk ?_
    refine Exists.intro (0:Nat) ?_
    refine And.intro (Leaf.mk ?_) ?_
    · repeat' first|exact True.intro|refine And.intro ?_ ?_
      all_goals try ((change _=_<;>try dsimp only)<;>try with_reducible rfl)
      all_goals try omega
      all_goals (rfl)
    change 0+1≤rows.length
    omega
  all_goals (have hr:=row0 hp)
  · rename_i h0 s hi hg i hI hi2
    have:=ze4 hp (i:=i+1) (by omega)
    omega
  · rename_i h0 s hi hg i hI hi2
    have:=ze4 hp (i:=i+1) (by omega)
    rw[List.length_take];omega
  · rename_i h0 s hi hg i hI hi2
    have:=ze4 hp (i:=i+1) (by omega)
    omega
  · rename_i h0 s hi hg i hI hi2
    have:=ze4 hp (i:=i+1) (by omega)
    change (List.take s.1 (rows.getD (i+1) [])).length+(List.drop (s.1+1) (rows.getD (i+1) [])).length≤2147483648
    rw[List.length_take,List.length_drop];omega
  · rename_i h0 s hi hg i hI hi2
    rw[List.length_take];omega
  · rename_i h0 s hi hg i hI hi2
    have hl1:(rows.drop 1).length=N:=by rw[List.length_drop];omega
    have e:=zbJ [] (show i<((rows.drop 1).map (zaB (s.1:Int) 0)).length by rw[List.length_map];omega)
    rw[zhC _ [] [] (by omega)] at e
    have e1:(rows.drop 1).getD i []=rows.getD (i+1) []:=by simp[List.getD,List.getElem?_drop,Nat.add_comm]
    rw[e1,zhU (s.1:Int) _ 0 s.1 (by omega)] at e
    refine zah.mk ?_
    refine Exists.intro (i+1) ?_
    refine And.intro (Leaf.mk ?_) ?_
    · repeat' first|exact True.intro|refine And.intro ?_ ?_
      all_goals try ((change _=_<;>try dsimp only)<;>try with_reducible rfl)
      all_goals try omega
      all_goals (first|exact e|exact congrArg List.length e)
    change i+1+1≤rows.length∧rows.length - (i+1)<rows.length - i
    omega
  · rename_i h0 s hi hg i hI hi2
    have:=hr.1
    change 0≤(s.1:Int)∧(s.1:Int)<(rows.getD 0 []).length
    omega
  · rename_i h0 s hi hg i hI hi2
    have hx:=hr.2 s.1 (by omega)
    have hs:s.2.2=1∨s.2.2 = -1:=hi.2.1
    change -9223372036854775808≤s.2.2*(rows.getD 0 []).getD s.1 0∧s.2.2*(rows.getD 0 []).getD s.1 0≤9223372036854775807
    rcases hs with hs|hs<;>rw[hs]<;>omega
  · rename_i h0 s hi hg i hI hi2
    rw[zgV hp (by omega)]
    exact zi9 hp (by omega)
  · rename_i h0 s hi hg i hI hi2
    rw[zgV hp (by omega)]
    exact (zeI hN hp hi (by have:=hr.1;omega)).1
  · rename_i h0 s hi hg i hI hi2
    rw[zgV hp (by omega)]
    exact (zeI hN hp hi (by have:=hr.1;omega)).2.1
  · rename_i h0 s hi hg i hI hi2
    have hd:=zeI hN hp hi (by have:=hr.1;omega)
    rw[←zgV (k:=s.1) hp (show N≤i by omega)] at hd
    refine zah.mk ?_
    refine Exists.intro ((s.1+1,s.2.1+s.2.2*(rows.getD 0 []).getD s.1 0*detN N (((rows.drop 1).map (zaB (s.1:Int) 0)).take i),-s.2.2):Nat×Int×Int) ?_
    refine And.intro (Leaf.mk ?_) ?_
    · repeat' first|exact True.intro|refine And.intro ?_ ?_
      all_goals try ((change _=_<;>try dsimp only)<;>try with_reducible rfl)
      all_goals try omega
      all_goals (rfl)
    refine⟨hd.2.2,?_⟩
    change (rows.getD 0 []).length - (s.1+1)<(rows.getD 0 []).length - s.1
    have:=hr.1
    omega
  · rename_i h0 s hi hg
    obtain⟨i1,i2,i3,i4⟩:=hi
    rw[List.drop_eq_nil_of_le (by have:=hr.1;omega)] at i3
    simpa [sumD] using i3
theorem h99:∀N,N≤4→Ok 99 (sDet N)
  | 0,_=>zoJ
  | N+1,h=>zoK (by omega) (h99 N (by omega))
theorem ztd:Ok 99 zdE:=⟨fun w M x vs bs hM hA ⟨N,hN,hs⟩=>by
  have h:=(h99 N hN).1 w M x vs bs hM hA hs
  have e:(sDet N).f x=zdE.f x:=by
    simp only[sDet,zdE]
    rw[←hs.1]
  rw[e] at h
  exact h,zmC⟩
theorem zmq:∀(rows:List (List Int)) (o i:Nat),i<rows.length→(matI o rows).getD i []=rowI ((o+i:Nat):Int) 0 (rows.getD i [])
  | [],o,i,h=>by simp at h
  | r::t,o,0,_=>by simp[matI]
  | r::t,o,i+1,h=>by
    have:=zmq t (o+1) i (by simpa using h)
    simp only[matI,List.getD_cons_succ]
    rw[this,show o+1+i=o+(i+1) by omega]
theorem zmf (i:Int):∀(row:List Int) (o k:Nat),k<row.length→(rowI i o row).getD k 0=zdw i ((o+k:Nat):Int) (row.getD k 0)
  | [],o,k,h=>by simp at h
  | n::r,o,0,_=>by simp[rowI]
  | n::r,o,k+1,h=>by
    have:=zmf i r (o+1) k (by simpa using h)
    simp only[rowI,List.getD_cons_succ]
    rw[this,show o+1+k=o+(k+1) by omega]
theorem Lines.cell {rows:List (List Int)} (h:Lines rows) {i k:Nat} (hi:i<rows.length) (hk:k<rows.length):((matI 0 rows).getD i []).getD k 0=zdw i k ((rows.getD i []).getD k 0):=by
  rw[zmq rows 0 i hi,zmf _ _ 0 k (by rw[h.row hi];exact hk)]
  simp
@[reducible] def zjj:Spec:={pats:=[.dat zcv],res:=[{t:=.sl I64}],pre:=fun x=>Lines x.1.1,f:=fun x=>(zaG (matI 0 x.1.1),())}
def mrA (m:List (List Int)):LoopAnn:={σ:=Nat,pat:=fun k=>sI 4 (k+1)::sOwn 3 60003 3 (tab (zfx m) k),inv:=fun k=>k≤m.length,meas:=fun k=>m.length - k}
def mrB (m:List (List Int)) (st:St):LoopAnn:=zgK 4 st fun n=>{σ:=Nat,pat:=fun i=>sI 6 i::zmS 5 60005 31 (tab (fun r=>(m.getD r []).take n.toNat) i),inv:=fun i=>i≤n.toNat,meas:=fun i=>n.toNat - i}
def mrC (m:List (List Int)) (st:St):LoopAnn:=zgK 4 st fun n=>zgK 6 st fun i=>{σ:=Nat,pat:=fun j=>sI 8 j::sOwn 7 60007 3 ((m.getD i.toNat []).take j),inv:=fun j=>j≤n.toNat,meas:=fun j=>n.toNat - j}
theorem h49:Ok 49 zjj:=by
  refine mk (ctr:=[(99,zdE)]) ⟨ztd,trivial⟩ (nt:=55) Try.func49 rfl rfl rfl rfl (by kernel_rfl) (by kernel_rfl) (fun x=>[fun _=>mrA (matI 0 x.1.1),mrB (matI 0 x.1.1),mrC (matI 0 x.1.1)]) ?_
  rintro⟨⟨(rows:List (List Int)),_⟩,_⟩ (hL:Lines rows)
  have hm:(matI 0 rows).length=rows.length:=zfA 0 rows
  repeat' (intro hzz;(try (rename Two=>hq;cases hq));(try dsimp only at hzz);(try simp only[zad,zac,eqD,inR,big,zaa,Bool.not_true,Bool.not_false,Bool.true_eq,decide_eq_true_eq,decide_eq_false_iff_not,Bool.not_eq_true',Bool.not_eq_false',Bool.and_eq_true,Prod.mk.injEq,and_true,true_and,Int.not_lt,Int.not_le,gt_iff_lt,ge_iff_le] at hzz);(try simp only[zad,zac,eqD,inR,big,zaa,Bool.not_true,Bool.not_false,Bool.true_eq,decide_eq_true_eq,decide_eq_false_iff_not,Bool.not_eq_true',Bool.not_eq_false',Bool.and_eq_true,Prod.mk.injEq,and_true,true_and,Int.not_lt,Int.not_le,gt_iff_lt,ge_iff_le,zax,zaj,zar,List.length_take,List.length_cons,List.length_nil,Int.toNat_natCast,zcw,zcx,zcI] at hzz);(try (revert hzz;intro _)))
  all_goals try (rename Unit=>hq;clear hq)
  all_goals try ((with_reducible refine Held.mk ?_);(with_reducible (first|refine Frz.mk ?_|refine And.intro (Frz.mk ?_) ?_|refine And.intro ?_ (Frz.mk ?_)));repeat' first|exact True.intro|(change _=_;with_reducible rfl)|refine And.intro ?_ ?_|(with_reducible refine Frz.mk ?_))
  all_goals try (refine Held.mk ?_;(try dsimp only at *);(try simp only[zad,zac,eqD,inR,big,zaa,Bool.not_true,Bool.not_false,Bool.true_eq,decide_eq_true_eq,decide_eq_false_iff_not,Bool.not_eq_true',Bool.not_eq_false',Bool.and_eq_true,Prod.mk.injEq,and_true,true_and,Int.not_lt,Int.not_le,gt_iff_lt,ge_iff_le] at *);(try simp only[zad,zac,eqD,inR,big,zaa,Bool.not_true,Bool.not_false,Bool.true_eq,decide_eq_true_eq,decide_eq_false_iff_not,Bool.not_eq_true',Bool.not_eq_false',Bool.and_eq_true,Prod.mk.injEq,and_true,true_and,Int.not_lt,Int.not_le,gt_iff_lt,ge_iff_le,zax,zaj,zar,List.length_take,List.length_cons,List.length_nil,Int.toNat_natCast,zcw,zcx,zcI] at *))
  all_goals try omega
  ·
    refine zah.mk ?_
    refine Exists.intro (0:Nat) ?_
    refine And.intro (Leaf.mk ?_) ?_
    · repeat' first|exact True.intro|refine And.intro ?_ ?_
      all_goals try ((change _=_<;>try dsimp only)<;>try with_reducible rfl)
      all_goals try omega
      all_goals (rfl)
    exact Nat.zero_le _
  ·
    refine zah.mk ?_
    refine Exists.intro (0:Nat) ?_
    refine And.intro (Leaf.mk ?_) ?_
    · repeat' first|exact True.intro|refine And.intro ?_ ?_
      all_goals try ((change _=_<;>try dsimp only)<;>try with_reducible rfl)
      all_goals try omega
      all_goals (rfl)
    exact Nat.zero_le _
  ·
    refine zah.mk ?_
    refine Exists.intro (0:Nat) ?_
    refine And.intro (Leaf.mk ?_) ?_
    · repeat' first|exact True.intro|refine And.intro ?_ ?_
      all_goals try ((change _=_<;>try dsimp only)<;>try with_reducible rfl)
      all_goals try omega
      all_goals (rfl)
    exact Nat.zero_le _
  all_goals have h4:=hL.le
  · rename_i k hk hk2 i hi hi2 j hj hj2
    have:=hL.row (i:=i) (by omega)
    omega
  · rename_i k hk hk2 i hi hi2 j hj hj2
    have:=hL.get (i:=i) (k:=j) (by omega) (by omega)
    omega
  · rename_i k hk hk2 i hi hi2 j hj hj2 hij
    have:=hL.get (i:=i) (k:=j) (by omega) (by omega)
    omega
  · rename_i k hk hk2 i hi hi2 j hj hj2 hij
    omega
  · rename_i k hk hk2 i hi hi2 j hj hj2 hij
    omega
  · rename_i k hk hk2 i hi hi2 j hj hj2 hij
    have hlen:((matI 0 rows).getD i []).length=rows.length:=by have:=ze4 hL.sq (i:=i) (by omega);exact this
    have e:=zbJ 0 (show j<((matI 0 rows).getD i []).length by omega)
    rw[hL.cell (by omega) (by omega)] at e
    have e2:zdw i j ((rows.getD i []).getD j 0) = -((rows.getD i []).getD j 0)+1000:=by simp only[zdw];rw[if_pos hij];omega
    rw[e2] at e
    refine zah.mk ?_
    refine Exists.intro (j+1) ?_
    refine And.intro (Leaf.mk ?_) ?_
    · repeat' first|exact True.intro|refine And.intro ?_ ?_
      all_goals try ((change _=_<;>try dsimp only)<;>try with_reducible rfl)
      all_goals try omega
      all_goals (first|exact e|exact congrArg List.length e)
    change j+1≤k+1∧k+1 - (j+1)<k+1 - j
    omega
  · rename_i k hk hk2 i hi hi2 j hj hj2 hij
    omega
  · rename_i k hk hk2 i hi hi2 j hj hj2 hij
    omega
  · rename_i k hk hk2 i hi hi2 j hj hj2 hij
    have hlen:((matI 0 rows).getD i []).length=rows.length:=by have:=ze4 hL.sq (i:=i) (by omega);exact this
    have e:=zbJ 0 (show j<((matI 0 rows).getD i []).length by omega)
    rw[hL.cell (by omega) (by omega)] at e
    have e2:zdw i j ((rows.getD i []).getD j 0) = -((rows.getD i []).getD j 0):=by simp only[zdw];rw[if_neg hij]
    rw[e2] at e
    refine zah.mk ?_
    refine Exists.intro (j+1) ?_
    refine And.intro (Leaf.mk ?_) ?_
    · repeat' first|exact True.intro|refine And.intro ?_ ?_
      all_goals try ((change _=_<;>try dsimp only)<;>try with_reducible rfl)
      all_goals try omega
      all_goals (first|exact e|exact congrArg List.length e)
    change j+1≤k+1∧k+1 - (j+1)<k+1 - j
    omega
  · rename_i k hk hk2 i hi hi2 j hj hj2
    omega
  · rename_i k hk hk2 i hi hi2 j hj hj2
    omega
  · rename_i k hk hk2 i hi hi2 j hj hj2
    obtain rfl:j=k+1:=by omega
    refine zah.mk ?_
    refine Exists.intro (i+1) ?_
    refine And.intro (Leaf.mk ?_) ?_
    · repeat' first|exact True.intro|refine And.intro ?_ ?_
      all_goals try ((change _=_<;>try dsimp only)<;>try with_reducible rfl)
      all_goals try omega
      all_goals (rfl)
    change i+1≤k+1∧k+1 - (i+1)<k+1 - i
    omega
  · rename_i k hk hk2 i hi hi2
    obtain rfl:i=k+1:=by omega
    exact⟨k+1,by omega,zhc hL.sq (n:=k) (by omega)⟩
  · rename_i k hk hk2 i hi hi2
    omega
  · rename_i k hk hk2 i hi hi2
    omega
  · rename_i k hk hk2 i hi hi2
    obtain rfl:i=k+1:=by omega
    have e:tab (zfx (matI 0 rows)) k++[detN (tab (fun r=>((matI 0 rows).getD r []).take (k+1)) (k+1)).length (tab (fun r=>((matI 0 rows).getD r []).take (k+1)) (k+1))]=tab (zfx (matI 0 rows)) (k+1):=by rw[zar];rfl
    refine zah.mk ?_
    refine Exists.intro (k+1) ?_
    refine And.intro (Leaf.mk ?_) ?_
    · repeat' first|exact True.intro|refine And.intro ?_ ?_
      all_goals try ((change _=_<;>try dsimp only)<;>try with_reducible rfl)
      all_goals try omega
      all_goals (first|exact e|exact congrArg List.length e)
    change k+1≤(matI 0 rows).length∧(matI 0 rows).length - (k+1)<(matI 0 rows).length - k
    omega
  · rename_i k hk hk2
    obtain rfl:k=(matI 0 rows).length:=by omega
    rfl
@[reducible] def zll:Spec:={pats:=[.dat zcv],res:=[{t:=.bool}],pre:=fun x=>Lines x.1.1,f:=fun x=>(zb4 (zaG (matI 0 x.1.1)),())}
theorem h50:Ok 50 zll:=by
  refine mk (ctr:=[(49,zjj)]) ⟨h49,trivial⟩ (nt:=18) Try.func50 rfl rfl rfl rfl (by kernel_rfl) (by kernel_rfl) (fun x=>[fun _=>zst 4 (zaG (matI 0 x.1.1))]) ?_
  rintro⟨⟨(rows:List (List Int)),_⟩,_⟩ (hL:Lines rows)
  repeat' (intro hzz;(try (rename Two=>hq;cases hq));(try dsimp only at hzz);(try simp only[zad,zac,eqD,inR,big,zaa,Bool.not_true,Bool.not_false,Bool.true_eq,decide_eq_true_eq,decide_eq_false_iff_not,Bool.not_eq_true',Bool.not_eq_false',Bool.and_eq_true,Prod.mk.injEq,and_true,true_and,Int.not_lt,Int.not_le,gt_iff_lt,ge_iff_le] at hzz);(try simp only[zad,zac,eqD,inR,big,zaa,Bool.not_true,Bool.not_false,Bool.true_eq,decide_eq_true_eq,decide_eq_false_iff_not,Bool.not_eq_true',Bool.not_eq_false',Bool.and_eq_true,Prod.mk.injEq,and_true,true_and,Int.not_lt,Int.not_le,gt_iff_lt,ge_iff_le,zaj] at hzz);(try (revert hzz;intro _)))
  all_goals try (rename Unit=>hq;clear hq)
  all_goals try ((with_reducible refine Held.mk ?_);(with_reducible (first|refine Frz.mk ?_|refine And.intro (Frz.mk ?_) ?_|refine And.intro ?_ (Frz.mk ?_)));repeat' first|exact True.intro|(change _=_;with_reducible rfl)|refine And.intro ?_ ?_|(with_reducible refine Frz.mk ?_))
  all_goals try (refine Held.mk ?_;(try dsimp only at *);(try simp only[zad,zac,eqD,inR,big,zaa,Bool.not_true,Bool.not_false,Bool.true_eq,decide_eq_true_eq,decide_eq_false_iff_not,Bool.not_eq_true',Bool.not_eq_false',Bool.and_eq_true,Prod.mk.injEq,and_true,true_and,Int.not_lt,Int.not_le,gt_iff_lt,ge_iff_le] at *);(try simp only[zad,zac,eqD,inR,big,zaa,Bool.not_true,Bool.not_false,Bool.true_eq,decide_eq_true_eq,decide_eq_false_iff_not,Bool.not_eq_true',Bool.not_eq_false',Bool.and_eq_true,Prod.mk.injEq,and_true,true_and,Int.not_lt,Int.not_le,gt_iff_lt,ge_iff_le,zaj] at *))
  all_goals try omega
  ·
    refine zah.mk ?_
    refine Exists.intro (0:Nat) ?_
    refine And.intro (Leaf.mk ?_) ?_
    · repeat' first|exact True.intro|refine And.intro ?_ ?_
      all_goals try ((change _=_<;>try dsimp only)<;>try with_reducible rfl)
      all_goals try omega
      all_goals (rfl)
    exact⟨Nat.zero_le _,fun i hi=>by omega⟩
  · rename_i k hI hk h0
    symm;simp only[zb4,decide_eq_false_iff_not]
    intro hc
    have:=hc k (by omega)
    omega
  · rename_i k hI hk h0
    have:(zaG (matI 0 rows)).length=rows.length:=by rw[zaG,zar];exact zfA 0 rows
    have:=hL.le
    omega
  · rename_i k hI hk h0
    refine zah.mk ?_
    refine Exists.intro (k+1) ?_
    refine And.intro (Leaf.mk ?_) ?_
    · repeat' first|exact True.intro|refine And.intro ?_ ?_
      all_goals try ((change _=_<;>try dsimp only)<;>try with_reducible rfl)
      all_goals try omega
      all_goals (rfl)
    refine⟨⟨by change k+1≤(zaG (matI 0 rows)).length;omega,fun i hi=>?_⟩,?_⟩
    · by_cases hik:i<k
      · exact hI.2 i hik
      · obtain rfl:i=k:=by omega
        exact h0
    · change (zaG (matI 0 rows)).length - (k+1)<(zaG (matI 0 rows)).length - k
      omega
  · rename_i k hI hk
    simp only[zb4,decide_eq_true_eq]
    exact fun i hi=>hI.2 i (by omega)
abbrev rowN (xss:List (List Int)) (i:Nat):List Int:=xss.getD i []
structure RowsAt (w:World) (B:Nat) (xss:List (List Int)) (bs:List Nat) (us:List Value):Prop where
  lb:bs.length=xss.length
  lu:us.length=xss.length
  nd:bs.Nodup
  at':∀i,i<xss.length→∃b c cur,bs[i]?=some b∧us[i]?=some (.slice (some ⟨b,0,none⟩) (rowN xss i).length c)∧B≤b∧w.heap[b]?=some (.cells cur 3 (0,0))∧rowJ (rowN xss i) c cur
theorem RowsAt.low {w:World} {B:Nat} {xss:List (List Int)} {bs:List Nat} {us:List Value} (h:RowsAt w B xss bs us):∀b∈bs,b<w.heap.size:=by
  intro b hb
  obtain⟨i,hi,rfl⟩:=List.getElem_of_mem hb
  obtain⟨b',c,cur,h1,_,_,h2,_⟩:=h.at' i (by rw[←h.lb];exact hi)
  rw[List.getElem?_eq_getElem hi] at h1
  cases h1
  exact zag h2
theorem RowsAt.nil {w:World} {B:Nat}:RowsAt w B [] [] []:=⟨rfl,rfl,List.nodup_nil,fun i hi=>absurd hi (Nat.not_lt_zero i)⟩
theorem RowsAt.mono {w w':World} {B:Nat} {xss:List (List Int)} {bs:List Nat} {us:List Value} (h:RowsAt w B xss bs us) (hk:∀b∈bs,w'.heap[b]?=w.heap[b]?):RowsAt w' B xss bs us:=by
  refine⟨h.lb,h.lu,h.nd,fun i hi=>?_⟩
  obtain⟨b,c,cur,h1,h2,h3,h4,h5⟩:=h.at' i hi
  exact⟨b,c,cur,h1,h2,h3,(hk b (List.mem_of_getElem? h1)).trans h4,h5⟩
theorem RowsAt.app {w:World} {B:Nat} {xss:List (List Int)} {bs:List Nat} {us:List Value} (h:RowsAt w B xss bs us) {row:List Int} {b c:Nat} {cur:Array Value} (h1:B≤b) (h2:w.heap[b]?=some (.cells cur 3 (0,0))) (h3:rowJ row c cur) (hn:b ∉ bs) :
    RowsAt w B (xss++[row]) (bs++[b]) (us++[.slice (some ⟨b,0,none⟩) row.length c]):=by
  refine⟨by simp[h.lb],by simp[h.lu],?_,fun i hi=>?_⟩
  · rw[List.nodup_append]
    refine⟨h.nd,by simp,fun x hx y hy=>?_⟩
    simp only[List.mem_singleton] at hy
    subst hy
    exact fun e=>hn (e▸hx)
  · by_cases hlt:i<xss.length
    · obtain⟨b',c',cur',q1,q2,q3,q4,q5⟩:=h.at' i hlt
      have e:rowN (xss++[row]) i=rowN xss i:=by simp only[rowN,List.getD,List.getElem?_append_left hlt]
      rw[e]
      exact⟨b',c',cur',by rw[List.getElem?_append_left (by rw[h.lb];exact hlt)];exact q1,by rw[List.getElem?_append_left (by rw[h.lu];exact hlt)];exact q2,q3,q4,q5⟩
    · have hi':i=xss.length:=by simp at hi;omega
      subst hi'
      have e:rowN (xss++[row]) xss.length=row:=by simp[rowN,List.getD]
      rw[e]
      exact⟨b,c,cur,by rw[←h.lb];simp,by rw[←h.lu];simp,h1,h2,h3⟩
def zp1 (w:World) (B:Nat) (bs:List Nat) (us:List Value) (v:Value):Prop:=
  (us=[]∧v=.slice none 0 0)∨∃ls c cur,B≤ls∧ls ∉ bs∧w.heap[ls]?=some (.cells cur 31 (0,0))∧v=.slice (some ⟨ls,0,none⟩) us.length c∧rowU us c cur
theorem zof {V:View} {xss:List (List Int)} {l:Value} (h:RepV V (.sl (.sl I64)) xss l) (hne:xss≠[]):∃b off cap c,l=.slice (some ⟨b,off,none⟩) xss.length cap∧V b c∧
    ∀i,i<xss.length→∃u,c[off+i]?=some u∧RepV V (.sl I64) (rowN xss i) u:=by
  obtain⟨l',⟨ad,cap,e1,e2,e3,e4,e5⟩,⟨hf,_⟩|⟨_,hv⟩⟩:=h
  · cases hf
  · rw [e1] at hv
    simp only[List.cons.injEq,and_true] at hv
    cases ad with
    | none=>exact absurd (e4 rfl).1 hne
    | some ad=>
      obtain⟨hsp,c,hV,hsz,hrep⟩:=e5 ad rfl hne
      obtain⟨b,off,sp⟩:=ad
      simp only at hsp hV hsz hrep
      subst hsp
      refine⟨b,off,cap,c,hv.symm,hV,fun i hi=>?_⟩
      have hr:=hrep i _ (List.getElem?_eq_getElem hi)
      have e:rowN xss i=xss[i]:=by simp[rowN,List.getD,List.getElem?_eq_getElem hi]
      rw[e]
      have hl:=Rep.length _ _ _ hr
      have hr':Rep V (.sl I64) xss[i] ((c.toList.drop (off+i)).take 1):=by simpa [Ty.size] using hr
      have hlt:off+i<c.size:=by
        have h1:((c.toList.drop (off+i)).take 1).length=1:=Rep.length _ _ _ hr'
        simp[List.length_take,List.length_drop] at h1
        omega
      have e1:(c.toList.drop (off+i)).take 1=[c[off+i]]:=by
        rw[List.drop_eq_getElem_cons (by simpa using hlt)];simp
      rw[e1] at hr'
      exact⟨c[off+i],Array.getElem?_eq_getElem hlt,[c[off+i]],hr',.inr ⟨rfl,rfl⟩⟩
theorem zr6 {Q:Exit→Act→World→Prop} {a:Act} {w:World} {K:Act→World→Prop} {o:Oper} {x y:Operand} (hnd:∀d,o.op≠.defer d) (ho:o.op=.call {callee:=.builtin .append,args:=#[x,y],argTypes:=#[60,60]}) {v u:Value} {us:List Value} {b1:Nat} (hx:a.eval x=v)
    (hv:(us=[]∧v=.slice none 0 0)∨∃ls c cur,w.heap[ls]?=some (.cells cur 31 (0,0))∧v=.slice (some ⟨ls,0,none⟩) us.length c∧rowU us c cur) (hl:us.length+1≤1000) (hu:u.oneCell'=true)
    (hy:a.eval y=.slice (some ⟨b1,0,none⟩) 1 1) (hb1:w.heap[b1]?=some (.cells #[u] 31 (0,0)))
    (h : ∀ls c cur w',w'.heap[ls]?=some (.cells cur 31 (0,0))→rowU (us++[u]) c cur→(ls=w.heap.size∨∃n c0,v=.slice (some ⟨ls,0,none⟩) n c0)→w'.os=w.os→w'.tape=w.tape→w'.output=w.output→w.heap.size≤w'.heap.size→
      (∀b,b<w.heap.size→b≠ls→w'.heap[b]?=w.heap[b]?)→K (a.put o.dst (.slice (some ⟨ls,0,none⟩) (us.length+1) c)) w'):o.wpIn (Fw none) 0 Try.prog a w K Q:=by
  obtain⟨ls,c,cur,w',h0,h1,h2,h3,h4,h5,h6,h7,h8⟩:=apS a w o x y ho hx hv hl hu hy hb1
  exact zpw hnd h0 (h ls c cur w' h1 h2 h3 h4 h5 h6 h7 h8)
structure CS (a:Act) (l:Value):Prop where
  size:a.tmps.size=20
  defers:a.defers=[]
  s0:a.tmps.getD 0 undef=l
noncomputable def b95:Code:=match (Try.f95.body:Option Code) with|some c=>c|none=>.skip
noncomputable def N0:Code:=match b95 with | .seq x _=>x|c=>c
noncomputable def N1:Code:=match b95 with | .seq _ (.seq x _)=>x|c=>c
noncomputable def N2:Code:=match b95 with | .seq _ (.seq _ (.seq (.seq x _) _))=>x|c=>c
noncomputable def NL:Code:=match b95 with | .seq _ (.seq _ (.seq (.seq _ (.block _ (.loop x))) _))=>x|c=>c
noncomputable def N3:Code:=match NL with | .seq (.seq x _) _=>x|c=>c
noncomputable def N5:Code:=match NL with | .seq _ (.seq (.block _ x) _)=>x|c=>c
noncomputable def N4:Code:=match NL with | .seq _ (.seq _ x)=>x|c=>c
noncomputable def N6:Code:=match b95 with | .seq _ (.seq _ (.seq _ (.seq x _)))=>x|c=>c
theorem zso:(Try.f95.body:Option Code)=some (.seq N0 (.seq N1 (.seq (.seq N2 (.block 0 (.loop (.seq (.seq N3 (.cond (.tmp 8) .skip (.exit 0))) (.seq (.block 1 N5) N4))))) (.seq N6 .ret)))):=rfl
theorem zsY {w:World} {a:Act} {R:Ending→World→Prop} {v:Value} (hd:a.defers=[]) (h7:a.tmps.getD 2 undef=v) (h:R (.returned v) w):bodyPost Try.prog Try.f95 R .ret a w:=by
  refine⟨hd,v,?_,h⟩
  have:=zcP (P:=Try.prog) (fn:=Try.f95) (tmps:=a.tmps) (w:=w) (vs:=[v]) (by
    show ([ResultVar.tmp 2].mapM (zeh a.tmps)).run Try.prog w=.ok [v] w
    simp[zeh,←h7])
  exact this
theorem zpO:zc0 Try.prog 45:=⟨Try.f45,Try.func45,by kernel_rfl,by kernel_rfl⟩
theorem zri {l:Value} {a0:Act} (ha:a0 = {tmps:=#[l]++Array.replicate (Try.f95.ntmps - (#[l]:Array Value).size) undef,defers:=[]}):CS a0 l:=by
  have e : #[l]++Array.replicate (Try.f95.ntmps - (#[l]:Array Value).size) undef = #[l]++Array.replicate 19 undef:=rfl
  rw[e] at ha
  rw[ha]
  refine⟨by simp,rfl,?_⟩;simp
theorem zkR {W:World} {l:Value} {xss:List (List Int)} (hrep:RepV (fun b c=>∃el f,W.heap[b]?=some (.cells c el f)) (.sl (.sl I64)) xss l) (hne:xss≠[]) (hlen:xss.length≤999) (hrow:∀i,i<xss.length→0<(rowN xss i).length∧(rowN xss i).length≤1000) :
    CallsIn (Fw none) 0 Try.prog 95 #[l] W fun e w'=>∃v bs us,e=.returned v∧Bel W.heap.size W w'∧RowsAt w' W.heap.size xss bs us∧zp1 w' W.heap.size bs us v:=by
  obtain⟨bl,off,lc,c0,hl,hV,hat⟩:=zof hrep hne
  obtain⟨lel,lf,hbl⟩:=hV
  have ev:∀(a:Act) (t:Nat),a.eval (.tmp t)=a.tmps.getD t undef:=fun a t=>rfl
  refine callsIn_of_wp (F:=Fw none) (n:=0) (fn:=Try.f95) Try.func95 zso trivial ?_
  obtain⟨a0,ha0⟩:∃a0:Act,a0 = {tmps:=#[l]++Array.replicate (Try.f95.ntmps - (#[l]:Array Value).size) undef,defers:=[]}:=⟨_,rfl⟩
  rw[←ha0]
  have R0:CS a0 l:=zri ha0
  clear ha0
  refine wpIn_seq (wpIn_region_list ?_)
  refine zaw rfl (zbK (by intro d h;cases h) (asR a0 W _ (.const (.slice none 0 0)) rfl rfl) ?_)
  obtain⟨u1,qu1⟩:∃x,x=a0.put (some 2) (.slice none 0 0):=⟨_,rfl⟩
  have zu1:u1.tmps.size=20:=by rw[qu1,zaH];exact R0.size
  have du1:u1.defers=[]:=by rw[qu1,zas];exact R0.defers
  have gu1_0:u1.tmps.getD 0 undef=l:=by rw[qu1];exact (zab (by decide)).trans R0.s0
  have gu1_2:u1.tmps.getD 2 undef=(.slice none 0 0):=by rw[qu1];exact zak (by rw[R0.size];decide)
  change wpListIn (Fw none) 0 Try.prog _ _ _ (a0.put (some 2) (.slice none 0 0)) W
  rw[←qu1]
  have R1:CS u1 l:=⟨zu1,du1,gu1_0⟩
  refine zcE (wpIn_seq (wpIn_region_list ?_))
  refine zaw rfl (zbK (by intro d h;cases h) (asR u1 W _ (.const (.slice none 0 0)) rfl rfl) ?_)
  obtain⟨v1,qv1⟩:∃x,x=u1.put (some 3) (.slice none 0 0):=⟨_,rfl⟩
  have zv1:v1.tmps.size=20:=by rw[qv1,zaH];exact R1.size
  have dv1:v1.defers=[]:=by rw[qv1,zas];exact R1.defers
  have gv1_0:v1.tmps.getD 0 undef=l:=by rw[qv1];exact (zab (by decide)).trans R1.s0
  have gv1_3:v1.tmps.getD 3 undef=(.slice none 0 0):=by rw[qv1];exact zak (by rw[R1.size];decide)
  change wpListIn (Fw none) 0 Try.prog _ _ _ (u1.put (some 3) (.slice none 0 0)) W
  rw[←qv1]
  have R2:CS v1 l:=⟨zv1,dv1,gv1_0⟩
  have h3:=gv1_3
  refine zcE (wpIn_seq (wpIn_seq (wpIn_region_list ?_)))
  refine zaw rfl (zbK (by intro d h;cases h) (asR v1 W _ (.const (.int .i64 0)) rfl rfl) ?_)
  obtain⟨x1,qx1⟩:∃x,x=v1.put (some 4) (.int .i64 0):=⟨_,rfl⟩
  have zx1:x1.tmps.size=20:=by rw[qx1,zaH];exact R2.size
  have dx1:x1.defers=[]:=by rw[qx1,zas];exact R2.defers
  have gx1_0:x1.tmps.getD 0 undef=l:=by rw[qx1];exact (zab (by decide)).trans R2.s0
  have gx1_3:x1.tmps.getD 3 undef=(.slice none 0 0):=by rw[qx1];exact (zab (by decide)).trans h3
  have gx1_4:x1.tmps.getD 4 undef=(.int .i64 0):=by rw[qx1];exact zak (by rw[R2.size];decide)
  change wpListIn (Fw none) 0 Try.prog _ _ _ (v1.put (some 4) (.int .i64 0)) W
  rw[←qx1]
  have R3:CS x1 l:=⟨zx1,dx1,gx1_0⟩
  have h3a:=gx1_3
  have h4a:=gx1_4
  refine zcE ?_
  refine wpIn_block (zb5 (fun n a w=>∃(k:Nat) (v:Value) (bs:List Nat) (us:List Value),k≤xss.length∧n=xss.length - k∧CS a l∧a.tmps.getD 3 undef=v∧a.tmps.getD 4 undef=.int .i64 (k:Nat)∧Bel W.heap.size W w∧RowsAt w W.heap.size (xss.take k) bs us∧zp1 w W.heap.size bs us v) (n:=xss.length) (a:=x1) (w:=W) ⟨0,_,[],[],Nat.zero_le _,rfl,R3,h3a,h4a,Bel.refl _ _,RowsAt.nil,.inl ⟨rfl,rfl⟩⟩ ?_)
  rintro n a w ⟨k,v,bs,us,hk,rfl,R,h3,h4,hbel,hrows,hout⟩
  have hlus:us.length=k:=by rw[hrows.lu,List.length_take];omega
  refine wpIn_seq (wpIn_seq (wpIn_region_list ?_))
  refine zaw rfl (zbK (by intro d h;cases h) (mvR a w _ (.tmp 4) rfl h4) ?_)
  obtain⟨l1,ql1⟩:∃x,x=a.put (some 5) (.int .i64 (k:Nat)):=⟨_,rfl⟩
  have zl1:l1.tmps.size=20:=by rw[ql1,zaH];exact R.size
  have dl1:l1.defers=[]:=by rw[ql1,zas];exact R.defers
  have gl1_0:l1.tmps.getD 0 undef=l:=by rw[ql1];exact (zab (by decide)).trans R.s0
  have gl1_3:l1.tmps.getD 3 undef=v:=by rw[ql1];exact (zab (by decide)).trans h3
  have gl1_4:l1.tmps.getD 4 undef=(.int .i64 (k:Nat)):=by rw[ql1];exact (zab (by decide)).trans h4
  have gl1_5:l1.tmps.getD 5 undef=(.int .i64 (k:Nat)):=by rw[ql1];exact zak (by rw[R.size];decide)
  change wpListIn (Fw none) 0 Try.prog _ _ _ (a.put (some 5) (.int .i64 (k:Nat))) w
  rw[←ql1]
  refine zaw rfl (zbK (by intro d h;cases h) (mvR l1 w _ (.tmp 0) rfl gl1_0) ?_)
  obtain⟨l2,ql2⟩:∃x,x=l1.put (some 6) l:=⟨_,rfl⟩
  have zl2:l2.tmps.size=20:=by rw[ql2,zaH];exact zl1
  have dl2:l2.defers=[]:=by rw[ql2,zas];exact dl1
  have gl2_0:l2.tmps.getD 0 undef=l:=by rw[ql2];exact (zab (by decide)).trans gl1_0
  have gl2_3:l2.tmps.getD 3 undef=v:=by rw[ql2];exact (zab (by decide)).trans gl1_3
  have gl2_4:l2.tmps.getD 4 undef=(.int .i64 (k:Nat)):=by rw[ql2];exact (zab (by decide)).trans gl1_4
  have gl2_5:l2.tmps.getD 5 undef=(.int .i64 (k:Nat)):=by rw[ql2];exact (zab (by decide)).trans gl1_5
  have gl2_6:l2.tmps.getD 6 undef=l:=by rw[ql2];exact zak (by rw[zl1];decide)
  change wpListIn (Fw none) 0 Try.prog _ _ _ (l1.put (some 6) l) w
  rw[←ql2]
  refine zaw rfl (zbK (by intro d h;cases h) (lnR Try.underlying60 l2 w _ (.tmp 6) rfl (gl2_6.trans hl)) ?_)
  obtain⟨l3,ql3⟩:∃x,x=l2.put (some 7) (.int .i64 (xss.length:Nat)):=⟨_,rfl⟩
  have zl3:l3.tmps.size=20:=by rw[ql3,zaH];exact zl2
  have dl3:l3.defers=[]:=by rw[ql3,zas];exact dl2
  have gl3_0:l3.tmps.getD 0 undef=l:=by rw[ql3];exact (zab (by decide)).trans gl2_0
  have gl3_3:l3.tmps.getD 3 undef=v:=by rw[ql3];exact (zab (by decide)).trans gl2_3
  have gl3_4:l3.tmps.getD 4 undef=(.int .i64 (k:Nat)):=by rw[ql3];exact (zab (by decide)).trans gl2_4
  have gl3_5:l3.tmps.getD 5 undef=(.int .i64 (k:Nat)):=by rw[ql3];exact (zab (by decide)).trans gl2_5
  have gl3_6:l3.tmps.getD 6 undef=l:=by rw[ql3];exact (zab (by decide)).trans gl2_6
  have gl3_7:l3.tmps.getD 7 undef=(.int .i64 (xss.length:Nat)):=by rw[ql3];exact zak (by rw[zl2];decide)
  change wpListIn (Fw none) 0 Try.prog _ _ _ (l2.put (some 7) (.int .i64 (xss.length:Nat))) w
  rw[←ql3]
  refine zaw rfl (zbK (by intro d h;cases h) (ltR l3 w _ (.tmp 5) (.tmp 7) rfl gl3_5 gl3_7) ?_)
  obtain⟨l4,ql4⟩:∃x,x=l3.put (some 8) (.bool (decide (((k:Nat):Int)<((xss.length:Nat):Int)))):=⟨_,rfl⟩
  have zl4:l4.tmps.size=20:=by rw[ql4,zaH];exact zl3
  have dl4:l4.defers=[]:=by rw[ql4,zas];exact dl3
  have gl4_0:l4.tmps.getD 0 undef=l:=by rw[ql4];exact (zab (by decide)).trans gl3_0
  have gl4_3:l4.tmps.getD 3 undef=v:=by rw[ql4];exact (zab (by decide)).trans gl3_3
  have gl4_4:l4.tmps.getD 4 undef=(.int .i64 (k:Nat)):=by rw[ql4];exact (zab (by decide)).trans gl3_4
  have gl4_5:l4.tmps.getD 5 undef=(.int .i64 (k:Nat)):=by rw[ql4];exact (zab (by decide)).trans gl3_5
  have gl4_6:l4.tmps.getD 6 undef=l:=by rw[ql4];exact (zab (by decide)).trans gl3_6
  have gl4_7:l4.tmps.getD 7 undef=(.int .i64 (xss.length:Nat)):=by rw[ql4];exact (zab (by decide)).trans gl3_7
  have gl4_8:l4.tmps.getD 8 undef=(.bool (decide (((k:Nat):Int)<((xss.length:Nat):Int)))):=by rw[ql4];exact zak (by rw[zl3];decide)
  change wpListIn (Fw none) 0 Try.prog _ _ _ (l3.put (some 8) (.bool (decide (((k:Nat):Int)<((xss.length:Nat):Int))))) w
  rw[←ql4]
  have R4:CS l4 l:=⟨zl4,dl4,gl4_0⟩
  have h3':=gl4_3
  have h4':=gl4_4
  have h8:=gl4_8
  refine zcE ?_
  by_cases hlt:k<xss.length
  · rw [decide_eq_true (by omega)] at h8
    refine wpIn_cond_true h8 (wpIn_skip ?_)
    refine wpIn_seq (wpIn_block (wpIn_region_list ?_))
    have hblw:w.heap[bl]?=some (.cells c0 lel lf):=(hbel.keep bl (zag hbl) (zag hbl)).trans hbl
    obtain⟨u,hu,hur⟩:=hat k hlt
    refine zaw rfl (zbK (by intro d h;cases h) (mvR l4 w _ (.tmp 3) rfl h3') ?_)
    obtain⟨m1,qm1⟩:∃x,x=l4.put (some 11) v:=⟨_,rfl⟩
    have zm1:m1.tmps.size=20:=by rw[qm1,zaH];exact R4.size
    have dm1:m1.defers=[]:=by rw[qm1,zas];exact R4.defers
    have gm1_0:m1.tmps.getD 0 undef=l:=by rw[qm1];exact (zab (by decide)).trans R4.s0
    have gm1_3:m1.tmps.getD 3 undef=v:=by rw[qm1];exact (zab (by decide)).trans h3'
    have gm1_4:m1.tmps.getD 4 undef=(.int .i64 (k:Nat)):=by rw[qm1];exact (zab (by decide)).trans h4'
    have gm1_11:m1.tmps.getD 11 undef=v:=by rw[qm1];exact zak (by rw[R4.size];decide)
    change wpListIn (Fw none) 0 Try.prog _ _ _ (l4.put (some 11) v) w
    rw[←qm1]
    refine zaw rfl (zbK (by intro d h;cases h) (mvR m1 w _ (.tmp 0) rfl gm1_0) ?_)
    obtain⟨m2,qm2⟩:∃x,x=m1.put (some 12) l:=⟨_,rfl⟩
    have zm2:m2.tmps.size=20:=by rw[qm2,zaH];exact zm1
    have dm2:m2.defers=[]:=by rw[qm2,zas];exact dm1
    have gm2_0:m2.tmps.getD 0 undef=l:=by rw[qm2];exact (zab (by decide)).trans gm1_0
    have gm2_3:m2.tmps.getD 3 undef=v:=by rw[qm2];exact (zab (by decide)).trans gm1_3
    have gm2_4:m2.tmps.getD 4 undef=(.int .i64 (k:Nat)):=by rw[qm2];exact (zab (by decide)).trans gm1_4
    have gm2_11:m2.tmps.getD 11 undef=v:=by rw[qm2];exact (zab (by decide)).trans gm1_11
    have gm2_12:m2.tmps.getD 12 undef=l:=by rw[qm2];exact zak (by rw[zm1];decide)
    change wpListIn (Fw none) 0 Try.prog _ _ _ (m1.put (some 12) l) w
    rw[←qm2]
    refine zaw rfl (zbK (by intro d h;cases h) (mvR m2 w _ (.tmp 4) rfl gm2_4) ?_)
    obtain⟨m3,qm3⟩:∃x,x=m2.put (some 13) (.int .i64 (k:Nat)):=⟨_,rfl⟩
    have zm3:m3.tmps.size=20:=by rw[qm3,zaH];exact zm2
    have dm3:m3.defers=[]:=by rw[qm3,zas];exact dm2
    have gm3_0:m3.tmps.getD 0 undef=l:=by rw[qm3];exact (zab (by decide)).trans gm2_0
    have gm3_3:m3.tmps.getD 3 undef=v:=by rw[qm3];exact (zab (by decide)).trans gm2_3
    have gm3_4:m3.tmps.getD 4 undef=(.int .i64 (k:Nat)):=by rw[qm3];exact (zab (by decide)).trans gm2_4
    have gm3_11:m3.tmps.getD 11 undef=v:=by rw[qm3];exact (zab (by decide)).trans gm2_11
    have gm3_12:m3.tmps.getD 12 undef=l:=by rw[qm3];exact (zab (by decide)).trans gm2_12
    have gm3_13:m3.tmps.getD 13 undef=(.int .i64 (k:Nat)):=by rw[qm3];exact zak (by rw[zm2];decide)
    change wpListIn (Fw none) 0 Try.prog _ _ _ (m2.put (some 13) (.int .i64 (k:Nat))) w
    rw[←qm3]
    refine zaw rfl (zbK (by intro d h;cases h) (ia60 m3 w _ (.tmp 12) (.tmp 13) rfl (gm3_12.trans hl) gm3_13 hlt) ?_)
    obtain⟨m4,qm4⟩:∃x,x=m3.put (some 14) (.pointer (some ⟨bl,off+k,none⟩)):=⟨_,rfl⟩
    have zm4:m4.tmps.size=20:=by rw[qm4,zaH];exact zm3
    have dm4:m4.defers=[]:=by rw[qm4,zas];exact dm3
    have gm4_0:m4.tmps.getD 0 undef=l:=by rw[qm4];exact (zab (by decide)).trans gm3_0
    have gm4_3:m4.tmps.getD 3 undef=v:=by rw[qm4];exact (zab (by decide)).trans gm3_3
    have gm4_4:m4.tmps.getD 4 undef=(.int .i64 (k:Nat)):=by rw[qm4];exact (zab (by decide)).trans gm3_4
    have gm4_11:m4.tmps.getD 11 undef=v:=by rw[qm4];exact (zab (by decide)).trans gm3_11
    have gm4_12:m4.tmps.getD 12 undef=l:=by rw[qm4];exact (zab (by decide)).trans gm3_12
    have gm4_13:m4.tmps.getD 13 undef=(.int .i64 (k:Nat)):=by rw[qm4];exact (zab (by decide)).trans gm3_13
    have gm4_14:m4.tmps.getD 14 undef=(.pointer (some ⟨bl,off+k,none⟩)):=by rw[qm4];exact zak (by rw[zm3];decide)
    change wpListIn (Fw none) 0 Try.prog _ _ _ (m3.put (some 14) (.pointer (some ⟨bl,off+k,none⟩))) w
    rw[←qm4]
    refine zaw rfl (zbK (by intro d h;cases h) (ld31 m4 w _ (.tmp 14) rfl gm4_14 hblw hu) ?_)
    obtain⟨m5,qm5⟩:∃x,x=m4.put (some 15) u:=⟨_,rfl⟩
    have zm5:m5.tmps.size=20:=by rw[qm5,zaH];exact zm4
    have dm5:m5.defers=[]:=by rw[qm5,zas];exact dm4
    have gm5_0:m5.tmps.getD 0 undef=l:=by rw[qm5];exact (zab (by decide)).trans gm4_0
    have gm5_3:m5.tmps.getD 3 undef=v:=by rw[qm5];exact (zab (by decide)).trans gm4_3
    have gm5_4:m5.tmps.getD 4 undef=(.int .i64 (k:Nat)):=by rw[qm5];exact (zab (by decide)).trans gm4_4
    have gm5_11:m5.tmps.getD 11 undef=v:=by rw[qm5];exact (zab (by decide)).trans gm4_11
    have gm5_12:m5.tmps.getD 12 undef=l:=by rw[qm5];exact (zab (by decide)).trans gm4_12
    have gm5_13:m5.tmps.getD 13 undef=(.int .i64 (k:Nat)):=by rw[qm5];exact (zab (by decide)).trans gm4_13
    have gm5_14:m5.tmps.getD 14 undef=(.pointer (some ⟨bl,off+k,none⟩)):=by rw[qm5];exact (zab (by decide)).trans gm4_14
    have gm5_15:m5.tmps.getD 15 undef=u:=by rw[qm5];exact zak (by rw[zm4];decide)
    change wpListIn (Fw none) 0 Try.prog _ _ _ (m4.put (some 15) u) w
    rw[←qm5]
    have hur':RepV (fun b c=>¬False∧∃el f,w.heap[b]?=some (.cells c el f)) (.sl I64) (rowN xss k) u:=hur.mono fun b c ⟨el,f,h⟩=>⟨id,el,f,(hbel.keep b (zag h) (zag h)).trans h⟩
    have hcall:=h45o.1 w (fun _=>False) (rowN xss k,()) [u] [] (fun _ h=>h.elim) ⟨u,[],rfl,hur',rfl,rfl⟩ (by have:=(hrow k hlt).2;show (rowN xss k).length≤1000000;omega)
    refine zaw rfl ?_
    refine zpv (f:=45) (args:=#[u]) (by intro d h;cases h) ?_ (hcall.mono ?_)
    · obtain⟨fn,e1,e2,e3⟩:=zpO
      have e2':¬fn.name = "runtime.NumGoroutine" := by simpa using e2
      have e3':¬fn.body=none:=by intro hn;rw[hn] at e3;cases e3
      have evf:∀(a:Act) (t:Nat),a.eval (.func t)=.func (.func t) #[] #[]:=fun a t=>rfl
      simp[execOp,resolve,Deferred.ofValue,ev,evf,gm5_15,invoke,callFunc,e1,e2',e3']
    rintro e wd ⟨rs,g,rfl,hp,v1,vs1,rfl,⟨rfl,_⟩,hv1⟩
    rcases hv1 with ⟨h0,_,_⟩|⟨b,c,cur,rfl,rfl,hbge,hbw,hbr⟩
    · exact absurd (congrArg List.length h0) (by have:=(hrow k hlt).1;simp only[List.length_nil];omega)
    refine⟨_,rfl,?_⟩
    have hbr':rowJ (rowN xss k) c cur:=zq6 hbr
    obtain⟨n1,qn1⟩:∃x,x=m5.put (some 16) (.slice (some ⟨b,0,none⟩) (rowN xss k).length c):=⟨_,rfl⟩
    have zn1:n1.tmps.size=20:=by rw[qn1,zaH];exact zm5
    have dn1:n1.defers=[]:=by rw[qn1,zas];exact dm5
    have gn1_0:n1.tmps.getD 0 undef=l:=by rw[qn1];exact (zab (by decide)).trans gm5_0
    have gn1_3:n1.tmps.getD 3 undef=v:=by rw[qn1];exact (zab (by decide)).trans gm5_3
    have gn1_4:n1.tmps.getD 4 undef=(.int .i64 (k:Nat)):=by rw[qn1];exact (zab (by decide)).trans gm5_4
    have gn1_11:n1.tmps.getD 11 undef=v:=by rw[qn1];exact (zab (by decide)).trans gm5_11
    have gn1_12:n1.tmps.getD 12 undef=l:=by rw[qn1];exact (zab (by decide)).trans gm5_12
    have gn1_13:n1.tmps.getD 13 undef=(.int .i64 (k:Nat)):=by rw[qn1];exact (zab (by decide)).trans gm5_13
    have gn1_14:n1.tmps.getD 14 undef=(.pointer (some ⟨bl,off+k,none⟩)):=by rw[qn1];exact (zab (by decide)).trans gm5_14
    have gn1_15:n1.tmps.getD 15 undef=u:=by rw[qn1];exact (zab (by decide)).trans gm5_15
    have gn1_16:n1.tmps.getD 16 undef=(.slice (some ⟨b,0,none⟩) (rowN xss k).length c):=by rw[qn1];exact zak (by rw[zm5];decide)
    change wpListIn (Fw none) 0 Try.prog _ _ _ (m5.put (some 16) (.slice (some ⟨b,0,none⟩) (rowN xss k).length c)) wd
    rw[←qn1]
    obtain⟨we,hwe⟩:∃x,x=wd.alloc (.cells #[.slice (some ⟨b,0,none⟩) (rowN xss k).length c] 31 (0,0)):=⟨_,rfl⟩
    refine zaw rfl (zpw (by intro d h;cases h) (bsS n1 wd _ (.tmp 16) rfl gn1_16) ?_)
    rw[←hwe]
    obtain⟨n2,qn2⟩:∃x,x=n1.put (some 17) (.slice (some ⟨wd.heap.size,0,none⟩) 1 1):=⟨_,rfl⟩
    have zn2:n2.tmps.size=20:=by rw[qn2,zaH];exact zn1
    have dn2:n2.defers=[]:=by rw[qn2,zas];exact dn1
    have gn2_0:n2.tmps.getD 0 undef=l:=by rw[qn2];exact (zab (by decide)).trans gn1_0
    have gn2_3:n2.tmps.getD 3 undef=v:=by rw[qn2];exact (zab (by decide)).trans gn1_3
    have gn2_4:n2.tmps.getD 4 undef=(.int .i64 (k:Nat)):=by rw[qn2];exact (zab (by decide)).trans gn1_4
    have gn2_11:n2.tmps.getD 11 undef=v:=by rw[qn2];exact (zab (by decide)).trans gn1_11
    have gn2_12:n2.tmps.getD 12 undef=l:=by rw[qn2];exact (zab (by decide)).trans gn1_12
    have gn2_13:n2.tmps.getD 13 undef=(.int .i64 (k:Nat)):=by rw[qn2];exact (zab (by decide)).trans gn1_13
    have gn2_14:n2.tmps.getD 14 undef=(.pointer (some ⟨bl,off+k,none⟩)):=by rw[qn2];exact (zab (by decide)).trans gn1_14
    have gn2_15:n2.tmps.getD 15 undef=u:=by rw[qn2];exact (zab (by decide)).trans gn1_15
    have gn2_16:n2.tmps.getD 16 undef=(.slice (some ⟨b,0,none⟩) (rowN xss k).length c):=by rw[qn2];exact (zab (by decide)).trans gn1_16
    have gn2_17:n2.tmps.getD 17 undef=(.slice (some ⟨wd.heap.size,0,none⟩) 1 1):=by rw[qn2];exact zak (by rw[zn1];decide)
    change wpListIn (Fw none) 0 Try.prog _ _ _ (n1.put (some 17) (.slice (some ⟨wd.heap.size,0,none⟩) 1 1)) we
    rw[←qn2]
    have hsz:=hp.size
    have zwe:we.heap.size=wd.heap.size+1:=by rw[hwe,zjd]
    have hb1:we.heap[wd.heap.size]?=some (.cells #[.slice (some ⟨b,0,none⟩) (rowN xss k).length c] 31 (0,0)):=by rw[hwe];exact zfD rfl
    have kd:∀b',b'<w.heap.size→we.heap[b']?=w.heap[b']?:=fun b' h=>by
      obtain⟨o,ho⟩:∃o,w.heap[b']?=some o:=⟨_,Array.getElem?_eq_getElem h⟩
      rw[ho,hwe];exact zfC ((hp.keep b' h (by simp)).trans ho)
    have hbe:we.heap[b]?=some (.cells cur 3 (0,0)):=by rw[hwe];exact zfC hbw
    have blt:b<wd.heap.size:=zag hbw
    have hO:(us=[]∧v=.slice none 0 0)∨∃ls c cur,we.heap[ls]?=some (.cells cur 31 (0,0))∧v=.slice (some ⟨ls,0,none⟩) us.length c∧rowU us c cur:=by
      rcases hout with h|⟨ls,c,cur,q1,q2,q3,q4,q5⟩
      · exact .inl h
      · exact .inr ⟨ls,c,cur,(kd ls (zag q3)).trans q3,q4,q5⟩
    refine zaw rfl (zr6 (by intro d h;cases h) rfl gn2_11 hO (by omega) rfl gn2_17 hb1 fun ls cc curo wf hlw hls hwho f1 f2 f3 f4 f5=>?_)
    obtain⟨o1,qo1⟩:∃x,x=n2.put (some 18) (.slice (some ⟨ls,0,none⟩) (us.length+1) cc):=⟨_,rfl⟩
    have zo1:o1.tmps.size=20:=by rw[qo1,zaH];exact zn2
    have do1:o1.defers=[]:=by rw[qo1,zas];exact dn2
    have go1_0:o1.tmps.getD 0 undef=l:=by rw[qo1];exact (zab (by decide)).trans gn2_0
    have go1_3:o1.tmps.getD 3 undef=v:=by rw[qo1];exact (zab (by decide)).trans gn2_3
    have go1_4:o1.tmps.getD 4 undef=(.int .i64 (k:Nat)):=by rw[qo1];exact (zab (by decide)).trans gn2_4
    have go1_11:o1.tmps.getD 11 undef=v:=by rw[qo1];exact (zab (by decide)).trans gn2_11
    have go1_12:o1.tmps.getD 12 undef=l:=by rw[qo1];exact (zab (by decide)).trans gn2_12
    have go1_13:o1.tmps.getD 13 undef=(.int .i64 (k:Nat)):=by rw[qo1];exact (zab (by decide)).trans gn2_13
    have go1_14:o1.tmps.getD 14 undef=(.pointer (some ⟨bl,off+k,none⟩)):=by rw[qo1];exact (zab (by decide)).trans gn2_14
    have go1_15:o1.tmps.getD 15 undef=u:=by rw[qo1];exact (zab (by decide)).trans gn2_15
    have go1_16:o1.tmps.getD 16 undef=(.slice (some ⟨b,0,none⟩) (rowN xss k).length c):=by rw[qo1];exact (zab (by decide)).trans gn2_16
    have go1_17:o1.tmps.getD 17 undef=(.slice (some ⟨wd.heap.size,0,none⟩) 1 1):=by rw[qo1];exact (zab (by decide)).trans gn2_17
    have go1_18:o1.tmps.getD 18 undef=(.slice (some ⟨ls,0,none⟩) (us.length+1) cc):=by rw[qo1];exact zak (by rw[zn2];decide)
    change wpListIn (Fw none) 0 Try.prog _ _ _ (n2.put (some 18) (.slice (some ⟨ls,0,none⟩) (us.length+1) cc)) wf
    rw[←qo1]
    refine zaw rfl (zbK (by intro d h;cases h) (asR o1 wf _ (.tmp 18) rfl go1_18) ?_)
    obtain⟨o2,qo2⟩:∃x,x=o1.put (some 3) (.slice (some ⟨ls,0,none⟩) (us.length+1) cc):=⟨_,rfl⟩
    have zo2:o2.tmps.size=20:=by rw[qo2,zaH];exact zo1
    have do2:o2.defers=[]:=by rw[qo2,zas];exact do1
    have go2_0:o2.tmps.getD 0 undef=l:=by rw[qo2];exact (zab (by decide)).trans go1_0
    have go2_4:o2.tmps.getD 4 undef=(.int .i64 (k:Nat)):=by rw[qo2];exact (zab (by decide)).trans go1_4
    have go2_11:o2.tmps.getD 11 undef=v:=by rw[qo2];exact (zab (by decide)).trans go1_11
    have go2_12:o2.tmps.getD 12 undef=l:=by rw[qo2];exact (zab (by decide)).trans go1_12
    have go2_13:o2.tmps.getD 13 undef=(.int .i64 (k:Nat)):=by rw[qo2];exact (zab (by decide)).trans go1_13
    have go2_14:o2.tmps.getD 14 undef=(.pointer (some ⟨bl,off+k,none⟩)):=by rw[qo2];exact (zab (by decide)).trans go1_14
    have go2_15:o2.tmps.getD 15 undef=u:=by rw[qo2];exact (zab (by decide)).trans go1_15
    have go2_16:o2.tmps.getD 16 undef=(.slice (some ⟨b,0,none⟩) (rowN xss k).length c):=by rw[qo2];exact (zab (by decide)).trans go1_16
    have go2_17:o2.tmps.getD 17 undef=(.slice (some ⟨wd.heap.size,0,none⟩) 1 1):=by rw[qo2];exact (zab (by decide)).trans go1_17
    have go2_18:o2.tmps.getD 18 undef=(.slice (some ⟨ls,0,none⟩) (us.length+1) cc):=by rw[qo2];exact (zab (by decide)).trans go1_18
    have go2_3:o2.tmps.getD 3 undef=(.slice (some ⟨ls,0,none⟩) (us.length+1) cc):=by rw[qo2];exact zak (by rw[zo1];decide)
    change wpListIn (Fw none) 0 Try.prog _ _ _ (o1.put (some 3) (.slice (some ⟨ls,0,none⟩) (us.length+1) cc)) wf
    rw[←qo2]
    refine zcE ?_
    have R5:CS o2 l:=⟨zo2,do2,go2_0⟩
    have h3'':=go2_3
    have h4'':=go2_4
    refine wpIn_region_list ?_
    refine zaw rfl (zbK (by intro d h;cases h) (mvR o2 wf _ (.tmp 4) rfl h4'') ?_)
    obtain⟨s1,qs1⟩:∃x,x=o2.put (some 9) (.int .i64 (k:Nat)):=⟨_,rfl⟩
    have zs1:s1.tmps.size=20:=by rw[qs1,zaH];exact R5.size
    have ds1:s1.defers=[]:=by rw[qs1,zas];exact R5.defers
    have gs1_0:s1.tmps.getD 0 undef=l:=by rw[qs1];exact (zab (by decide)).trans R5.s0
    have gs1_3:s1.tmps.getD 3 undef=(.slice (some ⟨ls,0,none⟩) (us.length+1) cc):=by rw[qs1];exact (zab (by decide)).trans h3''
    have gs1_4:s1.tmps.getD 4 undef=(.int .i64 (k:Nat)):=by rw[qs1];exact (zab (by decide)).trans h4''
    have gs1_9:s1.tmps.getD 9 undef=(.int .i64 (k:Nat)):=by rw[qs1];exact zak (by rw[R5.size];decide)
    change wpListIn (Fw none) 0 Try.prog _ _ _ (o2.put (some 9) (.int .i64 (k:Nat))) wf
    rw[←qs1]
    refine zaw rfl (zbK (by intro d h;cases h) (adN s1 wf _ (.tmp 9) (.const (.int .i64 1)) rfl gs1_9 rfl (by omega)) ?_)
    obtain⟨s2,qs2⟩:∃x,x=s1.put (some 10) (.int .i64 ((k+1:Nat))):=⟨_,rfl⟩
    have zs2:s2.tmps.size=20:=by rw[qs2,zaH];exact zs1
    have ds2:s2.defers=[]:=by rw[qs2,zas];exact ds1
    have gs2_0:s2.tmps.getD 0 undef=l:=by rw[qs2];exact (zab (by decide)).trans gs1_0
    have gs2_3:s2.tmps.getD 3 undef=(.slice (some ⟨ls,0,none⟩) (us.length+1) cc):=by rw[qs2];exact (zab (by decide)).trans gs1_3
    have gs2_4:s2.tmps.getD 4 undef=(.int .i64 (k:Nat)):=by rw[qs2];exact (zab (by decide)).trans gs1_4
    have gs2_9:s2.tmps.getD 9 undef=(.int .i64 (k:Nat)):=by rw[qs2];exact (zab (by decide)).trans gs1_9
    have gs2_10:s2.tmps.getD 10 undef=(.int .i64 ((k+1:Nat))):=by rw[qs2];exact zak (by rw[zs1];decide)
    change wpListIn (Fw none) 0 Try.prog _ _ _ (s1.put (some 10) (.int .i64 ((k+1:Nat)))) wf
    rw[←qs2]
    refine zaw rfl (zbK (by intro d h;cases h) (asR s2 wf _ (.tmp 10) rfl gs2_10) ?_)
    obtain⟨s3,qs3⟩:∃x,x=s2.put (some 4) (.int .i64 ((k+1:Nat))):=⟨_,rfl⟩
    have zs3:s3.tmps.size=20:=by rw[qs3,zaH];exact zs2
    have ds3:s3.defers=[]:=by rw[qs3,zas];exact ds2
    have gs3_0:s3.tmps.getD 0 undef=l:=by rw[qs3];exact (zab (by decide)).trans gs2_0
    have gs3_3:s3.tmps.getD 3 undef=(.slice (some ⟨ls,0,none⟩) (us.length+1) cc):=by rw[qs3];exact (zab (by decide)).trans gs2_3
    have gs3_9:s3.tmps.getD 9 undef=(.int .i64 (k:Nat)):=by rw[qs3];exact (zab (by decide)).trans gs2_9
    have gs3_10:s3.tmps.getD 10 undef=(.int .i64 ((k+1:Nat))):=by rw[qs3];exact (zab (by decide)).trans gs2_10
    have gs3_4:s3.tmps.getD 4 undef=(.int .i64 ((k+1:Nat))):=by rw[qs3];exact zak (by rw[zs2];decide)
    change wpListIn (Fw none) 0 Try.prog _ _ _ (s2.put (some 4) (.int .i64 ((k+1:Nat)))) wf
    rw[←qs3]
    have R6:CS s3 l:=⟨zs3,ds3,gs3_0⟩
    have h3b:=gs3_3
    have h4b:=gs3_4
    refine zcE ?_
    have lsge:W.heap.size≤ls∧ls ∉ bs∧ls≠b:=by
      have hW:=hbel.size
      rcases hwho with rfl|⟨n,c1,e⟩
      · exact⟨by omega,fun h=>by have:=hrows.low _ h;omega,by omega⟩
      · rcases hout with ⟨_,h⟩|⟨ls',c',cur',q1,q2,q3,q4,q5⟩
        · rw[h] at e;cases e
        · rw[q4] at e
          cases e
          have:=zag q3
          exact⟨q1,q2,by omega⟩
    have hW:=hbel.size
    have kf:∀b'∈bs,wf.heap[b']?=w.heap[b']?:=fun b' hb'=>by
      have:=hrows.low b' hb'
      exact (f5 b' (by omega) (fun e=>lsge.2.1 (e▸hb'))).trans (kd b' this)
    have hbf:wf.heap[b]?=some (.cells cur 3 (0,0)):=(f5 b (by omega) (fun e=>lsge.2.2 e.symm)).trans hbe
    have et:xss.take (k+1)=xss.take k++[rowN xss k]:=by
      rw[List.take_succ];simp[rowN,List.getD,List.getElem?_eq_getElem hlt]
    refine⟨xss.length - (k+1),by omega,k+1,_,bs++[b],us++[.slice (some ⟨b,0,none⟩) (rowN xss k).length c],by omega,rfl,R6,h3b,h4b,⟨?_,?_,?_,by omega,?_⟩,?_,.inr ⟨ls,cc,curo,lsge.1,?_,hlw,by simp,hls⟩⟩
    · rw[f1,hwe];exact hp.os.trans hbel.os
    · rw[f2,hwe];exact hp.tape.trans hbel.tape
    · rw[f3,hwe];exact hp.output.trans hbel.output
    · intro b' hb' hb2
      exact (f5 b' (by omega) (by omega)).trans ((kd b' (by omega)).trans (hbel.keep b' hb' hb2))
    · rw[et]
      exact (hrows.mono kf).app (by omega) hbf hbr' (fun h=>by have:=hrows.low b h;omega)
    · intro h
      rcases List.mem_append.1 h with h|h
      · exact lsge.2.1 h
      · exact lsge.2.2 (by simpa using h)
  · rw[decide_eq_false (by omega)] at h8
    refine wpIn_cond_false h8 (wpIn_exit ?_)
    refine wpIn_seq (wpIn_region_list ?_)
    refine zaw rfl (zbK (by intro d h;cases h) (mvR l4 w _ (.tmp 3) rfl h3') ?_)
    obtain⟨e1,qe1⟩:∃x,x=l4.put (some 19) v:=⟨_,rfl⟩
    have ze1:e1.tmps.size=20:=by rw[qe1,zaH];exact R4.size
    have de1:e1.defers=[]:=by rw[qe1,zas];exact R4.defers
    have ge1_0:e1.tmps.getD 0 undef=l:=by rw[qe1];exact (zab (by decide)).trans R4.s0
    have ge1_3:e1.tmps.getD 3 undef=v:=by rw[qe1];exact (zab (by decide)).trans h3'
    have ge1_19:e1.tmps.getD 19 undef=v:=by rw[qe1];exact zak (by rw[R4.size];decide)
    change wpListIn (Fw none) 0 Try.prog _ _ _ (l4.put (some 19) v) w
    rw[←qe1]
    refine zaw rfl (zbK (by intro d h;cases h) (asR e1 w _ (.tmp 19) rfl ge1_19) ?_)
    obtain⟨e2,qe2⟩:∃x,x=e1.put (some 2) v:=⟨_,rfl⟩
    have ze2:e2.tmps.size=20:=by rw[qe2,zaH];exact ze1
    have de2:e2.defers=[]:=by rw[qe2,zas];exact de1
    have ge2_0:e2.tmps.getD 0 undef=l:=by rw[qe2];exact (zab (by decide)).trans ge1_0
    have ge2_3:e2.tmps.getD 3 undef=v:=by rw[qe2];exact (zab (by decide)).trans ge1_3
    have ge2_19:e2.tmps.getD 19 undef=v:=by rw[qe2];exact (zab (by decide)).trans ge1_19
    have ge2_2:e2.tmps.getD 2 undef=v:=by rw[qe2];exact zak (by rw[ze1];decide)
    change wpListIn (Fw none) 0 Try.prog _ _ _ (e1.put (some 2) v) w
    rw[←qe2]
    refine zcE (wpIn_ret ?_)
    have ek:k=xss.length:=by omega
    subst ek
    rw[List.take_length] at hrows
    exact zsY de2 ge2_2 ⟨v,bs,us,rfl,hbel,hrows,hout⟩
theorem bx62 (a:Act) (w:World) (o:Oper) (x:Operand) (ho:o.op=.box 62 x) {l:Value} (hl:l.oneCell'=true) (hx:a.eval x=.agg #[l]):(execOp a.eval o).run Try.prog w=.ok (.value (.pointer (some ⟨w.heap.size,0,none⟩))) (w.alloc (.cells #[l] 62 (0,0))):=by
  have hS:=zay zkh w
  have hA:=zfq zkh w
  have hs:i62.size=1:=rfl
  have hk:i62.kind.isAgg=true:=rfl
  rw[hk] at hA
  simp[execOp,ho,hx,Instr.box,hS,hs,newVar,newRow,Value.cells]
  try rfl
theorem al62 (a:Act) (w:World) (o:Oper) (ho:o.op=.alloc 62):(execOp a.eval o).run Try.prog w=.ok (.value (.pointer (some ⟨w.heap.size,0,none⟩))) (w.alloc (.cells #[.slice none 0 0] 62 (0,0))):=by
  have hz:=zbC zkh w
  simp[execOp,ho,hz,newVar,newRow,Instr.alloc]
  try rfl
theorem fa62 (a:Act) (w:World) (o:Oper) (x:Operand) (ho:o.op=.fieldAddr 62 x 0) {b:Nat} (hx:a.eval x=.pointer (some ⟨b,0,none⟩)):(execOp a.eval o).run Try.prog w=.ok (.value (.pointer (some ⟨b,0,none⟩))) w:=by
  have hd:=Try.underlying62
  simp[execOp,ho,hx,Instr.fieldAt,fieldPlace,run_underlying hd,Instr.sureAddr,zaC]
  try rfl
theorem ld60 (a:Act) (w:World) (o:Oper) (x:Operand) (ho:o.op=.load 60 x) {b off el:Nat} {cur:Array Value} {f:Nat×Nat} {v:Value} (hx:a.eval x=.pointer (some ⟨b,off,none⟩)) (hb:w.heap[b]?=some (.cells cur el f)) (hv:cur[off]?=some v) :
    (execOp a.eval o).run Try.prog w=.ok (.value v) w:=by
  have hl:(loadVar 60 ⟨b,off,none⟩).run Try.prog w=.ok v w:=zaZ zrS rfl (by rw[zbe hb];exact hv)
  simp[execOp,ho,hx,Instr.loadAt,Instr.sureAddr,hl]
theorem bd62 (a:Act) (w:World) (o:Oper) (x:Operand) (ho:o.op=.build 62 #[(0,x)]) {ad:Option Addr} {n c:Nat} (hx:a.eval x=.slice ad n c):(execOp a.eval o).run Try.prog w=.ok (.value (.agg #[.slice ad n c])) w:=by
  have hd:=Try.underlying62
  have hz:=zbC zkh w
  have hS:=zay zkh w
  have hs:i62.size=1:=rfl
  simp[execOp,ho,hx,Instr.build,run_underlying hd,hz,hS,hs]
  try rfl
theorem st62 (a:Act) (w:World) (o:Oper) (x y:Operand) (ho:o.op=.store 62 x y) {b el:Nat} {u:Value} {ad:Option Addr} {n c:Nat} (hx:a.eval x=.pointer (some ⟨b,0,none⟩)) (hy:a.eval y=.agg #[.slice ad n c]) (hb:w.heap[b]?=some (.cells #[u] el (0,0))) :
    (execOp a.eval o).run Try.prog w=.ok .skip (w.setRow b #[.slice ad n c]):=by
  have hst:=za1 (P:=Try.prog) zkh (b:=b) (off:=0) (v:=.agg #[.slice ad n c]) hb rfl (by simp[Value.cells]) (fun q hq=>by
    have:q=.slice ad n c:=by simpa [Value.cells] using hq
    rw[this];rfl)
  have e:((#[u]:Array Value).toList.take 0++(Value.agg #[.slice ad n c]).cells.toList++(#[u]:Array Value).toList.drop (0+(Value.agg #[.slice ad n c]).cells.size)).toArray = #[.slice ad n c]:=by simp[Value.cells]
  rw[e] at hst
  simp[execOp,ho,hx,hy,Instr.storeAt,Instr.sureAddr,hst]
theorem RowsAt.le {w:World} {B B':Nat} {xss:List (List Int)} {bs:List Nat} {us:List Value} (h:RowsAt w B xss bs us) (hb:B'≤B):RowsAt w B' xss bs us:=
  ⟨h.lb,h.lu,h.nd,fun i hi=>by
    obtain⟨b,c,cur,h1,h2,h3,h4⟩:=h.at' i hi
    exact⟨b,c,cur,h1,h2,by omega,h4⟩⟩
noncomputable def b42:Code:=match (Try.f42.body:Option Code) with|some c=>c|none=>.skip
noncomputable def P0:Code:=match b42 with | .seq x _=>x|c=>c
noncomputable def P1':Code:=match b42 with | .seq _ (.seq x _)=>x|c=>c
theorem zsp:(Try.f42.body:Option Code)=some (.seq P0 (.seq P1' .ret)):=rfl
theorem zpN:zc0 Try.prog 95:=⟨Try.f95,Try.func95,by kernel_rfl,by kernel_rfl⟩
theorem zpP:zc0 Try.prog 42:=⟨Try.f42,Try.func42,by kernel_rfl,by kernel_rfl⟩
theorem zsZ {w:World} {a:Act} {R:Ending→World→Prop} {v:Value} {b:Nat} (hd:a.defers=[]) (h2:a.tmps.getD 2 undef=.pointer (some ⟨b,0,none⟩)) (hb:w.heap[b]?=some (.cells #[v] 62 (0,0))) (h:R (.returned (.agg #[v])) w):bodyPost Try.prog Try.f42 R .ret a w:=by
  refine⟨hd,.agg #[v],?_,h⟩
  have hl:=zbk (w:=w) zkh rfl (a:=⟨b,0,none⟩) (cs:=[v]) rfl (fun j u hj=>by
    have:j=0:=by have:=(List.getElem?_eq_some_iff.1 hj).1;simpa using this
    subst this
    rw[zaC,zbe hb];simpa using hj)
  have:=zcP (P:=Try.prog) (fn:=Try.f42) (tmps:=a.tmps) (w:=w) (vs:=[.agg #[v]]) (by
    show ([ResultVar.cell 2 62].mapM (zeh a.tmps)).run Try.prog w=.ok [.agg #[v]] w
    simp[zeh,h2,asAddr,hl])
  exact this
theorem zsb {l:Value} {a0:Act} (ha:a0 = {tmps:=#[l]++Array.replicate (Try.f42.ntmps - (#[l]:Array Value).size) undef,defers:=[]}):a0.tmps.size=7∧a0.defers=[]∧a0.tmps.getD 0 undef=l:=by
  have e : #[l]++Array.replicate (Try.f42.ntmps - (#[l]:Array Value).size) undef = #[l]++Array.replicate 6 undef:=rfl
  rw[e] at ha
  rw[ha]
  refine⟨by simp,rfl,?_⟩;simp
theorem zkS {W:World} {l:Value} {xss:List (List Int)} (hrep:RepV (fun b c=>∃el f,W.heap[b]?=some (.cells c el f)) (.sl (.sl I64)) xss l) (hne:xss≠[]) (hlen:xss.length≤999) (hrow:∀i,i<xss.length→0<(rowN xss i).length∧(rowN xss i).length≤1000) :
    CallsIn (Fw none) 0 Try.prog 42 #[.agg #[l]] W fun e w'=>∃v bs us,e=.returned (.agg #[v])∧Bel W.heap.size W w'∧RowsAt w' W.heap.size xss bs us∧zp1 w' W.heap.size bs us v:=by
  obtain⟨bl,off,lc,c0,hl,hV,hat⟩:=zof hrep hne
  have ev:∀(a:Act) (t:Nat),a.eval (.tmp t)=a.tmps.getD t undef:=fun a t=>rfl
  refine callsIn_of_wp (F:=Fw none) (n:=0) (fn:=Try.f42) Try.func42 zsp trivial ?_
  obtain⟨a0,ha0⟩:∃a0:Act,a0 = {tmps:=#[.agg #[l]]++Array.replicate (Try.f42.ntmps - (#[.agg #[l]]:Array Value).size) undef,defers:=[]}:=⟨_,rfl⟩
  rw[←ha0]
  obtain⟨z0,d0,g0⟩:=zsb ha0
  clear ha0
  refine wpIn_seq (wpIn_region_list ?_)
  obtain⟨W1,hW1⟩:∃x,x=W.alloc (.cells #[l] 62 (0,0)):=⟨_,rfl⟩
  refine zaw rfl (zpw (by intro d h;cases h) (bx62 a0 W _ (.tmp 0) rfl (by rw[hl];rfl) g0) ?_)
  rw[←hW1]
  obtain⟨u1,qu1⟩:∃x,x=a0.put (some 1) (.pointer (some ⟨W.heap.size,0,none⟩)):=⟨_,rfl⟩
  have zu1:u1.tmps.size=7:=by rw[qu1,zaH];exact z0
  have du1:u1.defers=[]:=by rw[qu1,zas];exact d0
  have gu1_0:u1.tmps.getD 0 undef=(.agg #[l]):=by rw[qu1];exact (zab (by decide)).trans g0
  have gu1_1:u1.tmps.getD 1 undef=(.pointer (some ⟨W.heap.size,0,none⟩)):=by rw[qu1];exact zak (by rw[z0];decide)
  change wpListIn (Fw none) 0 Try.prog _ _ _ (a0.put (some 1) (.pointer (some ⟨W.heap.size,0,none⟩))) W1
  rw[←qu1]
  obtain⟨W2,hW2⟩:∃x,x=W1.alloc (.cells #[.slice none 0 0] 62 (0,0)):=⟨_,rfl⟩
  have e1:W1.heap.size=W.heap.size+1:=by rw[hW1,zjd]
  have e2:W2.heap.size=W.heap.size+2:=by rw[hW2,zjd,e1]
  refine zaw rfl (zpw (by intro d h;cases h) (al62 u1 W1 _ rfl) ?_)
  rw[←hW2]
  obtain⟨u2,qu2⟩:∃x,x=u1.put (some 2) (.pointer (some ⟨W1.heap.size,0,none⟩)):=⟨_,rfl⟩
  have zu2:u2.tmps.size=7:=by rw[qu2,zaH];exact zu1
  have du2:u2.defers=[]:=by rw[qu2,zas];exact du1
  have gu2_0:u2.tmps.getD 0 undef=(.agg #[l]):=by rw[qu2];exact (zab (by decide)).trans gu1_0
  have gu2_1:u2.tmps.getD 1 undef=(.pointer (some ⟨W.heap.size,0,none⟩)):=by rw[qu2];exact (zab (by decide)).trans gu1_1
  have gu2_2:u2.tmps.getD 2 undef=(.pointer (some ⟨W1.heap.size,0,none⟩)):=by rw[qu2];exact zak (by rw[zu1];decide)
  change wpListIn (Fw none) 0 Try.prog _ _ _ (u1.put (some 2) (.pointer (some ⟨W1.heap.size,0,none⟩))) W2
  rw[←qu2]
  refine zcE (wpIn_seq (wpIn_region_list ?_))
  have x1:W2.heap[W.heap.size]?=some (.cells #[l] 62 (0,0)):=by rw[hW2,hW1];exact zfC (zfD rfl)
  have x2:W2.heap[W1.heap.size]?=some (.cells #[.slice none 0 0] 62 (0,0)):=by rw[hW2];exact zfD rfl
  have old:∀b,b<W.heap.size→W2.heap[b]?=W.heap[b]?:=fun b h=>by
    obtain⟨o,ho⟩:∃o,W.heap[b]?=some o:=⟨_,Array.getElem?_eq_getElem h⟩
    rw[ho,hW2,hW1];exact zfC (zfC ho)
  refine zaw rfl (zbK (by intro d h;cases h) (fa62 u2 W2 _ (.tmp 1) rfl gu2_1) ?_)
  obtain⟨u3,qu3⟩:∃x,x=u2.put (some 3) (.pointer (some ⟨W.heap.size,0,none⟩)):=⟨_,rfl⟩
  have zu3:u3.tmps.size=7:=by rw[qu3,zaH];exact zu2
  have du3:u3.defers=[]:=by rw[qu3,zas];exact du2
  have gu3_0:u3.tmps.getD 0 undef=(.agg #[l]):=by rw[qu3];exact (zab (by decide)).trans gu2_0
  have gu3_1:u3.tmps.getD 1 undef=(.pointer (some ⟨W.heap.size,0,none⟩)):=by rw[qu3];exact (zab (by decide)).trans gu2_1
  have gu3_2:u3.tmps.getD 2 undef=(.pointer (some ⟨W1.heap.size,0,none⟩)):=by rw[qu3];exact (zab (by decide)).trans gu2_2
  have gu3_3:u3.tmps.getD 3 undef=(.pointer (some ⟨W.heap.size,0,none⟩)):=by rw[qu3];exact zak (by rw[zu2];decide)
  change wpListIn (Fw none) 0 Try.prog _ _ _ (u2.put (some 3) (.pointer (some ⟨W.heap.size,0,none⟩))) W2
  rw[←qu3]
  refine zaw rfl (zbK (by intro d h;cases h) (ld60 u3 W2 _ (.tmp 3) rfl gu3_3 x1 rfl) ?_)
  obtain⟨u4,qu4⟩:∃x,x=u3.put (some 4) l:=⟨_,rfl⟩
  have zu4:u4.tmps.size=7:=by rw[qu4,zaH];exact zu3
  have du4:u4.defers=[]:=by rw[qu4,zas];exact du3
  have gu4_0:u4.tmps.getD 0 undef=(.agg #[l]):=by rw[qu4];exact (zab (by decide)).trans gu3_0
  have gu4_1:u4.tmps.getD 1 undef=(.pointer (some ⟨W.heap.size,0,none⟩)):=by rw[qu4];exact (zab (by decide)).trans gu3_1
  have gu4_2:u4.tmps.getD 2 undef=(.pointer (some ⟨W1.heap.size,0,none⟩)):=by rw[qu4];exact (zab (by decide)).trans gu3_2
  have gu4_3:u4.tmps.getD 3 undef=(.pointer (some ⟨W.heap.size,0,none⟩)):=by rw[qu4];exact (zab (by decide)).trans gu3_3
  have gu4_4:u4.tmps.getD 4 undef=l:=by rw[qu4];exact zak (by rw[zu3];decide)
  change wpListIn (Fw none) 0 Try.prog _ _ _ (u3.put (some 4) l) W2
  rw[←qu4]
  have hrep2:RepV (fun b c=>∃el f,W2.heap[b]?=some (.cells c el f)) (.sl (.sl I64)) xss l:=hrep.mono fun b c ⟨el,f,h⟩=>⟨el,f,(old b (zag h)).trans h⟩
  have hcall:=zkR hrep2 hne hlen hrow
  obtain⟨args,hargs⟩:∃x,x=(#[l]:Array Value):=⟨_,rfl⟩
  rw[←hargs] at hcall
  refine zaw rfl ?_
  refine zix (f:=95) (args:=args) (by intro d h;cases h) ?_ (hcall.mono ?_)
  · obtain⟨fn,e1,e2,e3⟩:=zpN
    have e2':¬fn.name = "runtime.NumGoroutine" := by simpa using e2
    have e3':¬fn.body=none:=by intro hn;rw[hn] at e3;cases e3
    have evf:∀(a:Act) (t:Nat),a.eval (.func t)=.func (.func t) #[] #[]:=fun a t=>rfl
    rw[hargs]
    simp[execOp,resolve,Deferred.ofValue,ev,evf,gu4_4,invoke,callFunc,e1,e2',e3']
  rintro e W3 ⟨v,bs,us,rfl,hbel,hrows,hout⟩
  refine⟨_,rfl,?_⟩
  have hvs:∃ad n c,v=.slice ad n c:=by
    rcases hout with ⟨_,h⟩|⟨ls,c,cur,_,_,_,h,_⟩
    · exact⟨_,_,_,h⟩
    · exact⟨_,_,_,h⟩
  obtain⟨vad,vn,vc,hv⟩:=hvs
  obtain⟨u5,qu5⟩:∃x,x=u4.put (some 5) v:=⟨_,rfl⟩
  have zu5:u5.tmps.size=7:=by rw[qu5,zaH];exact zu4
  have du5:u5.defers=[]:=by rw[qu5,zas];exact du4
  have gu5_0:u5.tmps.getD 0 undef=(.agg #[l]):=by rw[qu5];exact (zab (by decide)).trans gu4_0
  have gu5_1:u5.tmps.getD 1 undef=(.pointer (some ⟨W.heap.size,0,none⟩)):=by rw[qu5];exact (zab (by decide)).trans gu4_1
  have gu5_2:u5.tmps.getD 2 undef=(.pointer (some ⟨W1.heap.size,0,none⟩)):=by rw[qu5];exact (zab (by decide)).trans gu4_2
  have gu5_3:u5.tmps.getD 3 undef=(.pointer (some ⟨W.heap.size,0,none⟩)):=by rw[qu5];exact (zab (by decide)).trans gu4_3
  have gu5_4:u5.tmps.getD 4 undef=l:=by rw[qu5];exact (zab (by decide)).trans gu4_4
  have gu5_5:u5.tmps.getD 5 undef=v:=by rw[qu5];exact zak (by rw[zu4];decide)
  change wpListIn (Fw none) 0 Try.prog _ _ _ (u4.put (some 5) v) W3
  rw[←qu5]
  refine zaw rfl (zbK (by intro d h;cases h) (bd62 u5 W3 _ (.tmp 5) rfl (gu5_5.trans hv)) ?_)
  obtain⟨u6,qu6⟩:∃x,x=u5.put (some 6) (.agg #[.slice vad vn vc]):=⟨_,rfl⟩
  have zu6:u6.tmps.size=7:=by rw[qu6,zaH];exact zu5
  have du6:u6.defers=[]:=by rw[qu6,zas];exact du5
  have gu6_0:u6.tmps.getD 0 undef=(.agg #[l]):=by rw[qu6];exact (zab (by decide)).trans gu5_0
  have gu6_1:u6.tmps.getD 1 undef=(.pointer (some ⟨W.heap.size,0,none⟩)):=by rw[qu6];exact (zab (by decide)).trans gu5_1
  have gu6_2:u6.tmps.getD 2 undef=(.pointer (some ⟨W1.heap.size,0,none⟩)):=by rw[qu6];exact (zab (by decide)).trans gu5_2
  have gu6_3:u6.tmps.getD 3 undef=(.pointer (some ⟨W.heap.size,0,none⟩)):=by rw[qu6];exact (zab (by decide)).trans gu5_3
  have gu6_4:u6.tmps.getD 4 undef=l:=by rw[qu6];exact (zab (by decide)).trans gu5_4
  have gu6_5:u6.tmps.getD 5 undef=v:=by rw[qu6];exact (zab (by decide)).trans gu5_5
  have gu6_6:u6.tmps.getD 6 undef=(.agg #[.slice vad vn vc]):=by rw[qu6];exact zak (by rw[zu5];decide)
  change wpListIn (Fw none) 0 Try.prog _ _ _ (u5.put (some 6) (.agg #[.slice vad vn vc])) W3
  rw[←qu6]
  have x3:W3.heap[W1.heap.size]?=some (.cells #[.slice none 0 0] 62 (0,0)):=(hbel.keep _ (by omega) (by omega)).trans x2
  refine zaw rfl (zqS (by intro d h;cases h) (st62 u6 W3 _ (.tmp 2) (.tmp 6) rfl gu6_2 gu6_6 x3) ?_)
  obtain⟨W4,hW4⟩:∃x,x=W3.setRow W1.heap.size #[.slice vad vn vc]:=⟨_,rfl⟩
  rw[←hW4]
  have x4:W4.heap[W1.heap.size]?=some (.cells #[v] 62 (0,0)):=by rw[hW4,hv];exact setRow_heap W3 _ _ _ 62 (0,0) x3
  have k4:∀b,b≠W1.heap.size→W4.heap[b]?=W3.heap[b]?:=fun b h=>by rw[hW4];exact setRow_other W3 _ b _ h
  have s4:W4.heap.size=W3.heap.size:=by rw[hW4];simp[World.setRow]
  have hs3:=hbel.size
  have hin:∀b∈bs,W2.heap.size≤b:=fun b hb=>by
    obtain⟨i,hi,rfl⟩:=List.getElem_of_mem hb
    obtain⟨b',c,cur,q1,_,q2,_⟩:=hrows.at' i (by rw[←hrows.lb];exact hi)
    rw[List.getElem?_eq_getElem hi] at q1
    cases q1
    exact q2
  refine zcE (wpIn_ret ?_)
  refine zsZ du6 gu6_2 x4 ⟨v,bs,us,rfl,⟨?_,?_,?_,by omega,fun b h1 h2=>(k4 b (by omega)).trans ((hbel.keep b (by omega) (by omega)).trans (old b h2))⟩,(hrows.mono fun b hb=>k4 b (by have:=hin b hb;omega)).le (by omega),?_⟩
  · rw[hW4];exact hbel.os.trans (by rw[hW2,hW1];rfl)
  · rw[hW4];exact hbel.tape.trans (by rw[hW2,hW1];rfl)
  · rw[hW4];exact hbel.output.trans (by rw[hW2,hW1];rfl)
  · rcases hout with h|⟨ls,c,cur,q1,q2,q3,q4⟩
    · exact .inl h
    · exact .inr ⟨ls,c,cur,by omega,q2,(k4 ls (by omega)).trans q3,q4⟩
end Go.Eng.Lp
