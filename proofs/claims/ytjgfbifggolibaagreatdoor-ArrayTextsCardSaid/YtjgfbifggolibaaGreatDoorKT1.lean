/- Texts X3 X4 X5 A16 A23 A26 X6 W8, as far as they are used. Conditions: each lemma's own. -/
import Derived.Test.YtjgfbifggolibaaGreatDoorKM6
namespace Go.Eng.Ar
open Go.Eng Go.Proofs Go.Lib
set_option linter.all false
set_option maxRecDepth 100000
set_option maxHeartbeats 8000000
abbrev zo5 (n:Int):Prop:=-9000000000000000000≤n∧n≤9000000000000000000
abbrev zmV (n:Int):Int:=n.natAbs
@[reducible] def zu0:Spec:={pats:=[.dat I64],res:=[{t:=I64}],pre:=fun x=>zo5 x.1,f:=fun x=>(zmV x.1,())}
theorem zAw:Ok 152 zu0:=by
  refine mk (ctr:=[]) trivial (nt:=7) Tryz.func152 rfl rfl rfl rfl (by kernel_rfl) (by kernel_rfl) (fun _=>[]) ?_
  rintro⟨(n:Int),_⟩ ⟨h1,h2⟩
  repeat' (intro hzz;(try (rename Two=>hq;cases hq));(try dsimp only at hzz);(try simp only[zad,zac,eqD,inR,big,zab,zB] at hzz);(try simp only[zad,zac,eqD,inR,big,zab,zB,zo5,zmV] at hzz);(try (revert hzz;intro _)))
  all_goals try (rename Unit=>hq;clear hq)
  all_goals try ((with_reducible refine Held.mk ?_);(with_reducible (first|refine Frz.mk ?_|refine And.intro (Frz.mk ?_) ?_|refine And.intro ?_ (Frz.mk ?_)));repeat' first|exact True.intro|(change _=_;with_reducible rfl)|refine And.intro ?_ ?_|(with_reducible refine Frz.mk ?_))
  all_goals try (refine Held.mk ?_;(try dsimp only at *);(try simp only[zad,zac,eqD,inR,big,zab,zB] at *);(try simp only[zad,zac,eqD,inR,big,zab,zB,zo5,zmV] at *))
  all_goals try omega
  all_goals (simp only[cond_true];split<;>omega)
/-! ### Decimal -/
def sgT (n:Int) (r:Nat):Int:=if n<0 then -(r:Int) else r
theorem zoG (n:Int):sgT n n.natAbs=n:=by simp only[sgT];split<;>omega
theorem zkK (n:Int) (r:Nat):(sgT n r).tdiv 10=sgT n (r / 10):=by
  simp only[sgT]
  split
  · rw[Int.neg_tdiv];rfl
  · rfl
theorem zkJ (n:Int) (r:Nat):(sgT n r).tmod 10=sgT n (r % 10):=by
  simp only[sgT]
  split
  · rw[Int.neg_tmod];rfl
  · rfl
def ddx (u:Nat):List UInt8:=if u=0 then [] else decDigits u
theorem zuv {u:Nat} (h:u≠0):ddx u=ddx (u / 10)++[UInt8.ofNat (48+u % 10)]:=by
  simp only[ddx]
  rw[if_neg h]
  by_cases h1:u<10
  · rw[if_pos (by omega),decDigits,dif_pos h1,Nat.mod_eq_of_lt h1];rfl
  · rw[if_neg (by omega),decDigits,dif_neg h1]
theorem zkp (k:Nat) (t:List UInt8):strOfNums [48+(k:Int)]++bA t=bA (UInt8.ofNat (48+k)::t):=by
  have:strOfNums [48+(k:Int)]=bA [UInt8.ofNat (48+k)]:=by
    simp only[strOfNums,bA,List.map_cons,List.map_nil]
    rw[show (48+(k:Int)).toNat=48+k by omega]
  rw[this,zjk];rfl
theorem zhP (n:Int) (r:Nat):zmV (sgT n r)=r:=by simp only[zmV,sgT];(repeat' split)<;>omega
theorem zoF {n:Int} {r:Nat}:sgT n r=0↔r=0:=by simp only[sgT];split<;>omega
theorem zoi:∀(k u:Nat),u<10 ^ k→0<k→(decDigits u).length≤k
  | 0,u,_,h=>absurd h (Nat.lt_irrefl 0)
  | k + 1,u,h,_=>by
    rw[decDigits]
    split
    · simp
    · rename_i hu
      have hk:0<k:=by
        rcases Nat.eq_zero_or_pos k with rfl|h1
        · simp at h;omega
        · exact h1
      have:=zoi k (u / 10) (by rw[Nat.pow_succ] at h;omega) hk
      simp only[List.length_append,List.length_cons,List.length_nil];omega
theorem zpn {n:Int} (h:n<0):itoa n=45::decDigits n.natAbs:=by unfold itoa;rw[if_pos h]
theorem zld {n:Int} (h:¬n<0):itoa n=decDigits n.natAbs:=by unfold itoa;rw[if_neg h,show n.toNat=n.natAbs by omega]
theorem zea {n:Int} (h0 : -9223372036854775808≤n) (h1:n≤9223372036854775807):(itoa n).length≤20:=by
  have:=zoi 19 n.natAbs (by omega) (by decide)
  by_cases h:n<0
  · rw[zpn h,List.length_cons];omega
  · rw[zld h];omega
theorem zqk (k:Nat) (t:List UInt8):(strOfNums [48+(k:Int)]).size+(bA t).size=t.length+1:=by rw[strOfNums_size,zca];simp[Nat.add_comm]
@[reducible] def zoP:Spec:={pats:=[.dat I64],res:=[{t:=.str}],pre:=fun x=>-9223372036854775808≤x.1∧x.1≤9223372036854775807,f:=fun x=>(bA (itoa x.1),())}
def zm6 (n:Int) (s:Nat×List UInt8):Prop:=s.1≤n.natAbs∧s.2.length≤20∧ddx s.1++s.2=decDigits n.natAbs
def zzx (n:Int):LoopAnn:={σ:=Nat×List UInt8,pat:=fun s=>[sI 0 (sgT n s.1),.slot 3 (.one (.d .str (bA s.2)))],inv:=zm6 n,meas:=fun s=>s.1}
theorem zm5 {n:Int} (h:¬n=0):zm6 n (n.natAbs,[]):=by
  refine⟨Nat.le_refl _,by simp,?_⟩
  simp only[ddx];rw[if_neg (by omega),List.append_nil]
theorem zpB {n:Int} {r:Nat} {t:List UInt8} (h0 : -9223372036854775808≤n) (h1:n≤9223372036854775807) (h:zm6 n (r,t)) (hr:r≠0):zm6 n (r / 10,UInt8.ofNat (48+r % 10)::t):=by
  obtain⟨i1,i2,i3⟩:=h
  have e:ddx (r / 10)++(UInt8.ofNat (48+r % 10)::t)=decDigits n.natAbs:=by
    rw[←i3,zuv hr,List.append_assoc];rfl
  have hl:=zoi 19 n.natAbs (by omega) (by decide)
  refine⟨(show r / 10≤n.natAbs by have:r≤n.natAbs:=i1;omega),?_,e⟩
  have:=congrArg List.length e
  rw[List.length_append] at this
  show (_::t).length≤20
  omega
theorem zpC {n:Int} {r:Nat} {t:List UInt8} (h:zm6 n (r,t)) (hr:r=0):t=decDigits n.natAbs:=by
  subst hr;exact h.2.2
theorem zAz:Ok 132 zoP:=by
  refine mk (ctr:=[(152,zu0)]) ⟨zAw,trivial⟩ (nt:=27) Tryz.func132 rfl rfl rfl rfl (by kernel_rfl) (by kernel_rfl) (fun x=>[fun _=>zzx x.1]) ?_
  rintro⟨(n:Int),_⟩ ⟨(h0 : -9223372036854775808≤n),(h1:n≤9223372036854775807)⟩
  repeat' (intro hzz;(try (rename Two=>hq;cases hq));(try dsimp only at hzz);(try simp only[zad,zac,eqD,inR,big,zab,zB] at hzz);(try simp only[zad,zac,eqD,inR,big,zab,zB,zkJ,zkK,zhP,zoF] at hzz);(try (revert hzz;intro _)))
  all_goals try (rename Unit=>hq;clear hq)
  all_goals try ((with_reducible refine Held.mk ?_);(with_reducible (first|refine Frz.mk ?_|refine And.intro (Frz.mk ?_) ?_|refine And.intro ?_ (Frz.mk ?_)));repeat' first|exact True.intro|(change _=_;with_reducible rfl)|refine And.intro ?_ ?_|(with_reducible refine Frz.mk ?_))
  all_goals try (refine Held.mk ?_;(try dsimp only at *);(try simp only[zad,zac,eqD,inR,big,zab,zB] at *);(try simp only[zad,zac,eqD,inR,big,zab,zB,zkJ,zkK,zhP,zoF] at *))
  · rename_i h;subst h
    have:itoa 0=[48]:=by rw[zld (by decide),decDigits,dif_pos (by decide)];rfl
    rw[this];rfl
  all_goals try (rename_i s hi hr;obtain⟨r,t⟩:=s;have hi1:r≤n.natAbs:=hi.1;have hi2:t.length≤20:=hi.2.1;dsimp only at hr ⊢)
  all_goals try omega
  all_goals try (simp only[zo5,sgT];split<;>omega)
  all_goals try (refine⟨by decide,?_⟩;simp only[sgT];split<;>omega)
  all_goals try (rw[zqk];omega)
  ·
    refine zai.mk ?_
    refine Exists.intro (n.natAbs,([]:List UInt8)) ?_
    refine And.intro (Leaf.mk ?_) ?_
    · repeat' first|exact True.intro|refine And.intro ?_ ?_
      all_goals try ((change _=_<;>try dsimp only)<;>try with_reducible rfl)
      all_goals try omega
      all_goals (first|rfl|exact (zoG n).symm)
    exact zm5 (by assumption)
  ·
    refine zai.mk ?_
    refine Exists.intro (r / 10,UInt8.ofNat (48+r % 10)::t) ?_
    refine And.intro (Leaf.mk ?_) ?_
    · repeat' first|exact True.intro|refine And.intro ?_ ?_
      all_goals try ((change _=_<;>try dsimp only)<;>try with_reducible rfl)
      all_goals try omega
      all_goals (first|rfl|exact zkK n r|(rw[zkJ,zhP];exact zkp _ _))
    exact⟨zpB h0 h1 hi hr,(show r / 10<r by omega)⟩
  · rw[zca];show 1+_≤_;omega
  · rw[zpC hi hr]
    rename_i hn
    rw[zpn hn];exact zjk [45] _
  ·
    refine zai.mk ?_
    refine Exists.intro (n.natAbs,([]:List UInt8)) ?_
    refine And.intro (Leaf.mk ?_) ?_
    · repeat' first|exact True.intro|refine And.intro ?_ ?_
      all_goals try ((change _=_<;>try dsimp only)<;>try with_reducible rfl)
      all_goals try omega
      all_goals (first|rfl|exact (zoG n).symm)
    exact zm5 (by assumption)
  ·
    refine zai.mk ?_
    refine Exists.intro (r / 10,UInt8.ofNat (48+r % 10)::t) ?_
    refine And.intro (Leaf.mk ?_) ?_
    · repeat' first|exact True.intro|refine And.intro ?_ ?_
      all_goals try ((change _=_<;>try dsimp only)<;>try with_reducible rfl)
      all_goals try omega
      all_goals (first|rfl|exact zkK n r|(rw[zkJ,zhP];exact zkp _ _))
    exact⟨zpB h0 h1 hi hr,(show r / 10<r by omega)⟩
  · rw[zca];show 0+_≤_;omega
  · rw[zpC hi hr]
    rename_i hn
    rw[zld (by omega)];exact zjk [] _
@[reducible] def zzY (t k el:Nat) (xs:List ByteArray):St:=[.slot t (.one (.o k xs.length)),.row k el .str xs]
/-! ### Cut -/
@[reducible] def zx2:Spec:={pats:=[.dat .str,.dat (.int .u8)],res:=[{t:=.sl .str}],pre:=fun x=>x.1.size≤1000000∧0≤x.2.1∧x.2.1≤255,f:=fun x=>(cutB (UInt8.ofNat (Int.toNat x.2.1)) x.1,())}
def zch (c:UInt8) (l:List UInt8):Nat→List ByteArray×Nat
  | 0=>([],0)
  | k+1=>if l.getD k 0=c then ((zch c l k).1++[bA ((l.drop (zch c l k).2).take (k - (zch c l k).2))],k+1) else zch c l k
theorem zpE (c:UInt8) (l:List UInt8):∀k,(zch c l k).2≤k∧(zch c l k).1.length≤k
  | 0=>⟨Nat.le_refl _,Nat.le_refl _⟩
  | k+1=>by
    have:=zpE c l k
    simp only[zch]
    split
    · simp only[List.length_append,List.length_cons,List.length_nil];omega
    · omega
theorem zsW (c:UInt8) (l:List UInt8):∀k,k≤l.length→(zch c l k).1.map bL++[(l.drop (zch c l k).2).take (k - (zch c l k).2)]=zat c (l.take k)
  | 0,_=>by simp[zch,zat]
  | k + 1,hk=>by
    have ih:=zsW c l k (by omega)
    have hb:=zpE c l k
    have ht:l.take (k+1)=l.take k++[l.getD k 0]:=by
      rw[List.take_add_one,List.getElem?_eq_getElem (by omega),List.getD_eq_getElem?_getD,List.getElem?_eq_getElem (by omega)];rfl
    rw[ht,zjX,←ih]
    simp only[List.dropLast_concat,List.getLastD_concat,zch,zat]
    by_cases h:l.getD k 0=c
    · rw[if_pos h,if_pos h]
      simp[zbZ]
    · rw[if_neg h,if_neg h]
      simp only[List.append_cancel_left_eq,List.cons.injEq,and_true]
      rw[show k+1 - (zch c l k).2=(k - (zch c l k).2)+1 by omega,List.take_add_one,List.getElem?_drop,show (zch c l k).2+(k - (zch c l k).2)=k by omega,List.getElem?_eq_getElem (by omega),List.getD_eq_getElem?_getD,List.getElem?_eq_getElem (by omega)]
      rfl
theorem zwX (c:UInt8) (s:ByteArray):(zch c (bL s) s.size).1++[s.extract (zch c (bL s) s.size).2 s.size]=cutB c s:=by
  have h:=zsW c (bL s) s.size (Nat.le_of_eq (zfD s).symm)
  rw[List.take_of_length_le (Nat.le_of_eq (zfD s))] at h
  simp only[cutB,←h,List.map_append,List.map_map,List.map_cons,List.map_nil]
  have:(bA ∘ fun x:ByteArray=>x.data.toList)=id:=by funext x;exact zte x
  rw[this,List.map_id]
  congr 2
  exact zkw (by rw[zbZ,zkx])
theorem zwW (c:UInt8) (s:ByteArray) (k:Nat) (h:(((bL s).getD k 0).toNat:Int)=c.toNat):zch c (bL s) (k+1)=((zch c (bL s) k).1++[s.extract (zch c (bL s) k).2 k],k+1):=by
  have h:(bL s).getD k 0=c:=UInt8.toNat_inj.1 (by omega)
  have e:s.extract (zch c (bL s) k).2 k=bA (((bL s).drop (zch c (bL s) k).2).take (k - (zch c (bL s) k).2)):=zkw (by rw[zbZ,zkx])
  simp only[zch]
  rw[if_pos h,e]
theorem zzy (c:UInt8) (s:ByteArray) (k:Nat) (h:¬(((bL s).getD k 0).toNat:Int)=c.toNat):zch c (bL s) (k+1)=zch c (bL s) k:=by
  have h:¬(bL s).getD k 0=c:=fun e=>h (by rw[e])
  simp only[zch]
  rw[if_neg h]
def zzA (c:UInt8) (s:ByteArray):LoopAnn:={σ:=Nat,pat:=fun k=>[sI 7 k,sI 6 (zch c (bL s) k).2]++zzY 5 60005 9 (zch c (bL s) k).1,inv:=fun k=>k≤s.size,meas:=fun k=>s.size - k}
theorem zAA:Ok 130 zx2:=by
  refine mk (ctr:=[]) trivial (nt:=34) Tryz.func130 rfl rfl rfl rfl (by kernel_rfl) (by kernel_rfl) (fun x=>[fun _=>zzA (UInt8.ofNat (Int.toNat x.2.1)) x.1]) ?_
  rintro⟨(s:ByteArray),(ci:Int),_⟩ ⟨(hs:s.size≤1000000),(hc0:0≤ci),(hc1:ci≤255)⟩
  obtain⟨c,rfl⟩:∃c:UInt8,ci=(c.toNat:Int):=⟨UInt8.ofNat ci.toNat,by rw[UInt8.toNat_ofNat'];omega⟩
  have hC:UInt8.ofNat c.toNat=c:=UInt8.ofNat_toNat
  repeat' (intro hzz;(try (rename Two=>hq;cases hq));(try dsimp only at hzz);(try simp only[zad,zac,eqD,inR,big,zab,zB] at hzz);(try simp only[zad,zac,eqD,inR,big,zab,zB,Int.toNat_natCast,List.length_append,List.length_cons,List.length_nil] at hzz);(try (revert hzz;intro _)))
  all_goals try (rename Unit=>hq;clear hq)
  all_goals try ((with_reducible refine Held.mk ?_);(with_reducible (first|refine Frz.mk ?_|refine And.intro (Frz.mk ?_) ?_|refine And.intro ?_ (Frz.mk ?_)));repeat' first|exact True.intro|(change _=_;with_reducible rfl)|refine And.intro ?_ ?_|(with_reducible refine Frz.mk ?_))
  all_goals try (refine Held.mk ?_;(try dsimp only at *);(try simp only[zad,zac,eqD,inR,big,zab,zB] at *);(try simp only[zad,zac,eqD,inR,big,zab,zB,Int.toNat_natCast,List.length_append,List.length_cons,List.length_nil] at *))
  all_goals try (rename_i k hk hlt hcc;have hb:=zpE (UInt8.ofNat c.toNat) (bL s) k;omega)
  all_goals try (rename_i k hk hlt;have hb:=zpE (UInt8.ofNat c.toNat) (bL s) k;omega)
  ·
    refine zai.mk ?_
    refine Exists.intro (0:Nat) ?_
    refine And.intro (Leaf.mk ?_) ?_
    · repeat' first|exact True.intro|refine And.intro ?_ ?_
      all_goals try ((change _=_<;>try dsimp only)<;>try with_reducible rfl)
      all_goals try omega
      all_goals (rfl)
    exact Nat.zero_le _
  · rename_i k hk hlt hcc
    have e:=zwW (UInt8.ofNat c.toNat) s k (by rw[hC];exact hcc)
    refine zai.mk ?_
    refine Exists.intro (k+1) ?_
    refine And.intro (Leaf.mk ?_) ?_
    · repeat' first|exact True.intro|refine And.intro ?_ ?_
      all_goals try ((change _=_<;>try dsimp only)<;>try with_reducible rfl)
      all_goals try omega
      all_goals (first|rfl|exact (congrArg (fun x:List ByteArray×Nat=>((x.2:Nat):Int)) e).symm|exact (congrArg (fun x:List ByteArray×Nat=>x.1.length) e).symm|exact (congrArg Prod.fst e).symm)
    exact⟨(show k+1≤s.size by omega),(show s.size - (k+1)<s.size - k by omega)⟩
  · rename_i k hk hlt hcc
    have e:=zzy (UInt8.ofNat c.toNat) s k (by rw[hC];exact hcc)
    refine zai.mk ?_
    refine Exists.intro (k+1) ?_
    refine And.intro (Leaf.mk ?_) ?_
    · repeat' first|exact True.intro|refine And.intro ?_ ?_
      all_goals try ((change _=_<;>try dsimp only)<;>try with_reducible rfl)
      all_goals try omega
      all_goals (first|rfl|exact (congrArg (fun x:List ByteArray×Nat=>((x.2:Nat):Int)) e).symm|exact (congrArg (fun x:List ByteArray×Nat=>x.1.length) e).symm|exact (congrArg Prod.fst e).symm)
    exact⟨(show k+1≤s.size by omega),(show s.size - (k+1)<s.size - k by omega)⟩
  · rename_i k hk hlt
    obtain rfl:k=s.size:=by omega
    exact zwX _ s
def zhD (s:ByteArray):Nat:=if (zaA (bL s)).1 then 1 else 0
@[reducible] def zoN:Spec:={pats:=[.dat .str,.dat I64],res:=[{t:=I64},{t:=.bool}],pre:=fun x=>x.1.size≤1000000∧1≤x.2.1∧x.2.1≤18,f:=fun x=>(if zba (bL x.1) (Int.toNat x.2.1) then numV (bL x.1) else 0,zba (bL x.1) (Int.toNat x.2.1),())}
def zyN (s:ByteArray):LoopAnn:={σ:=Nat,pat:=fun k=>[sI 8 ((zhD s:Int)+k),sI 7 (dval ((zaA (bL s)).2.take k))],inv:=fun k=>k≤(zaA (bL s)).2.length∧((zaA (bL s)).2.take k).all zb4=true,meas:=fun k=>(zaA (bL s)).2.length - k}
theorem ze9 (l:List UInt8):(∃d,l=45::d∧zaA l=(true,d))∨(l.getD 0 0≠45∧zaA l=(false,l)):=by
  cases l with
  | nil=>exact .inr ⟨by decide,rfl⟩
  | cons b r=>
    by_cases h:b=45
    · subst h;exact .inl ⟨r,rfl,rfl⟩
    · exact .inr ⟨h,zl6 (by simpa using h)⟩
theorem zcz (s:ByteArray) (k:Nat):s.data.toList.getD ((zhD s:Int)+(k:Int)).toNat 0=(zaA (bL s)).2.getD k 0:=by
  rw[show ((zhD s:Int)+(k:Int)).toNat=zhD s+k by omega]
  show (bL s).getD _ 0=_
  simp only[zhD]
  rcases ze9 (bL s) with ⟨d,h1,h2⟩|⟨h1,h2⟩
  · rw[h2,h1,if_pos rfl,Nat.add_comm];rfl
  · rw[h2,if_neg (by simp),Nat.zero_add]
theorem zpb (s:ByteArray):s.size=zhD s+(zaA (bL s)).2.length:=by
  rw[←zfD s]
  simp only[zhD]
  rcases ze9 (bL s) with ⟨d,h1,h2⟩|⟨h1,h2⟩
  · rw[h2,h1,if_pos rfl,List.length_cons,Nat.add_comm]
  · rw[h2,if_neg (by simp),Nat.zero_add]
theorem znR {l:List UInt8} {k:Nat} (h:(zaA l).2.length=0):zba l k=false:=by
  have:(zaA l).2=[]:=List.eq_nil_of_length_eq_zero h
  simp[zba,this]
theorem zrL {l:List UInt8} {k:Nat} (h:k<(zaA l).2.length):zba l k=false:=by
  have:¬(zaA l).2.length≤k:=by omega
  simp[zba,this]
theorem zrK {l:List UInt8} {k:Nat} (h0:0<(zaA l).2.length) (h:((zaA l).2.getD 0 0).toNat=48) (h1:1<l.length):zba l k=false:=by
  have:(zaA l).2.head?=some 48:=by
    cases hd:(zaA l).2 with
    | nil=>rw[hd] at h0;simp at h0
    | cons b r=>rw[hd] at h;rw[List.head?_cons];congr 1;exact UInt8.toNat_inj.1 h
  simp[zba,this,h1]
theorem zrJ {l:List UInt8} {k j:Nat} (hj:j<(zaA l).2.length) (h:¬(48≤((zaA l).2.getD j 0).toNat∧((zaA l).2.getD j 0).toNat≤57)):zba l k=false:=by
  have:(zaA l).2.all zb4=false:=by
    rw[List.all_eq_false]
    refine⟨(zaA l).2[j],List.getElem_mem hj,?_⟩
    rw[List.getD_eq_getElem?_getD,List.getElem?_eq_getElem hj] at h
    simp only[zb4,decide_eq_true_eq];exact h
  simp[zba,this]
theorem zwk {l : List UInt8} {k:Nat} (h0:0<(zaA l).2.length) (h1:(zaA l).2.length≤k) (h2:¬(((zaA l).2.getD 0 0).toNat=48∧1<l.length)) (h3:(zaA l).2.all zb4=true):zba l k=true:=by
  have hne:(zaA l).2≠[]:=List.length_pos_iff.1 h0
  have hh : ¬ ((zaA l).2.head?=some 48∧1<l.length):=fun h=>h2 ⟨by
    cases hd:(zaA l).2 with
    | nil=>exact absurd hd hne
    | cons b r => rw[hd] at h;have:b=48:=by simpa using h.1
                  subst this;rfl,h.2⟩
  simp only[zba,h3,h1,Bool.true_and,Bool.and_eq_true,Bool.not_eq_true',List.isEmpty_eq_false_iff,decide_eq_true_eq,Bool.and_eq_false_imp,decide_eq_false_iff_not]
  exact⟨⟨hne,trivial⟩,fun h4 h5=>hh ⟨h4,h5⟩⟩
theorem zlT {d:List UInt8} {k:Nat} (hk:k<d.length) (h:(d.take k).all zb4=true) (hd:48≤(d.getD k 0).toNat∧(d.getD k 0).toNat≤57) :
    (d.take (k+1)).all zb4=true∧dval (d.take (k+1))=10*dval (d.take k)+((d.getD k 0).toNat - 48):=by
  have e:d.take (k+1)=d.take k++[d.getD k 0]:=by
    rw[List.take_add_one,List.getD_eq_getElem?_getD,List.getElem?_eq_getElem hk];rfl
  rw[e]
  refine⟨?_,ze4 _ _⟩
  rw[List.all_append,h]
  simp only[List.all_cons,List.all_nil,Bool.and_true,Bool.true_and,zb4]
  exact decide_eq_true hd
theorem zqM {d:List UInt8} {k:Nat} (h:(d.take k).all zb4=true) (hl:d.length≤18):dval (d.take k)<1000000000000000000:=by
  have h1:=zoe _ h
  have h2:(d.take k).length≤18:=by rw[List.length_take];omega
  have h3:10 ^ (d.take k).length≤10 ^ 18:=Nat.pow_le_pow_right (by decide) h2
  omega
theorem zcc {l:List UInt8} {k:Nat} (h:zba l k=false):(0=if zba l k=true then numV l else 0)∧false=zba l k:=by rw[h];exact⟨rfl,rfl⟩
theorem ziG {l:List UInt8} {k:Nat} {v:Int} (h:zba l k=true) (hv:v=numV l):(v=if zba l k=true then numV l else 0)∧zba l k=true:=⟨by rw[if_pos h];exact hv,h⟩
theorem zlU {d:List UInt8} {k:Nat} (h:(d.take k).all zb4=true) (hl:k≤17):dval (d.take k)<100000000000000000:=by
  have h1:=zoe _ h
  have h2:(d.take k).length≤17:=by rw[List.length_take];omega
  have h3:10 ^ (d.take k).length≤10 ^ 17:=Nat.pow_le_pow_right (by decide) h2
  omega
theorem zrM {s:ByteArray} {n k:Nat} (hi:k≤(zaA (bL s)).2.length∧((zaA (bL s)).2.take k).all zb4=true) (hle:(s.size:Int)≤(zhD s:Int)+(k:Int)) (h0:0<(zaA (bL s)).2.length) (h1:(zaA (bL s)).2.length≤n)
    (h2:¬(((zaA (bL s)).2.getD 0 0).toNat=48∧1<s.size)):zba (bL s) n=true∧(dval ((zaA (bL s)).2.take k)=dval (zaA (bL s)).2):=by
  have hsz:=zpb s
  have hi1:=hi.1
  obtain rfl:k=(zaA (bL s)).2.length:=by omega
  have hi2:=hi.2
  rw[List.take_length] at hi2 ⊢
  exact⟨zwk h0 h1 (by rw[zfD];exact h2) hi2,rfl⟩
theorem znT {s:ByteArray} {n k:Nat} (hv:numV (bL s) = -(dval (zaA (bL s)).2:Int)) (h:zba (bL s) n=true∧(dval ((zaA (bL s)).2.take k)=dval (zaA (bL s)).2)) :
    (-(dval ((zaA (bL s)).2.take k):Int)=if zba (bL s) n=true then numV (bL s) else 0)∧zba (bL s) n=true:=ziG h.1 (by rw[h.2,hv])
theorem znS {s:ByteArray} {n k:Nat} (hv:numV (bL s)=(dval (zaA (bL s)).2:Int)) (h:zba (bL s) n=true∧(dval ((zaA (bL s)).2.take k)=dval (zaA (bL s)).2)) :
    ((dval ((zaA (bL s)).2.take k):Int)=if zba (bL s) n=true then numV (bL s) else 0)∧zba (bL s) n=true:=ziG h.1 (by rw[h.2,hv])
theorem zwF:Ok 131 zoN:=by
  refine mk (ctr:=[]) trivial (nt:=70) Tryz.func131 rfl rfl rfl rfl (by kernel_rfl) (by kernel_rfl) (fun x=>[fun _=>zyN x.1]) ?_
  rintro⟨(s:ByteArray),(d:Int),_⟩ ⟨(hs:s.size≤1000000),(hd0:1≤d),(hd1:d≤18)⟩
  have hsz:=zpb s
  rcases ze9 (bL s) with ⟨d',h1,h2⟩|⟨h1,h2⟩
  · have hat:zhD s=1:=by simp only[zhD];rw[h2];rfl
    have hb0:((s.data.toList.getD (Int.toNat 0) 0).toNat:Int)=45:=by
      show (((bL s).getD 0 0).toNat:Int)=45
      rw[h1];rfl
    have hb1:s.data.toList.getD (Int.toNat 1) 0=(zaA (bL s)).2.getD 0 0:=by
      have:=zcz s 0
      rw[hat] at this;exact this
    have hv:numV (bL s) = -(dval (zaA (bL s)).2:Int):=by simp only[numV];rw[h2];rfl
    clear h1 h2
    repeat' (intro hzz;(try (rename Two=>hq;cases hq));(try dsimp only at hzz);(try simp only[zad,zac,eqD,inR,big,zab,zB] at hzz);(try simp only[zad,zac,eqD,inR,big,zab,zB,Int.toNat_natCast,zcz,hb1] at hzz);(try (first|contradiction|(exfalso;omega)));(try (revert hzz;intro _)))
    all_goals try (rename Unit=>hq;clear hq)
    all_goals try ((with_reducible refine Held.mk ?_);(with_reducible (first|refine Frz.mk ?_|refine And.intro (Frz.mk ?_) ?_|refine And.intro ?_ (Frz.mk ?_)));repeat' first|exact True.intro|(change _=_;with_reducible rfl)|refine And.intro ?_ ?_|(with_reducible refine Frz.mk ?_))
    all_goals try (refine Held.mk ?_;(try dsimp only at *);(try simp only[zad,zac,eqD,inR,big,zab,zB] at *);(try simp only[zad,zac,eqD,inR,big,zab,zB,Int.toNat_natCast,zcz,hb1] at *))
    all_goals try omega
    all_goals try (rename Nat=>k;rename k≤_∧_=>hi;rename (_:Int)+(k:Int)<_=>hlt;have hi1:=hi.1;exact zcc (zrJ (j:=k) (by omega) (by omega)))
    all_goals try (rename Nat=>k;rename k≤_∧_=>hi;have hi1:=hi.1;have h18:=zqM hi.2 (by omega);first|omega|(have h17:=zlU hi.2 (by omega);omega))
    all_goals try (first|exact zcc (znR (by omega))|exact zcc (zrL (by omega))|exact zcc (zrK (by omega) (by omega) (by rw[zfD];omega)))
    all_goals try (rename Nat=>k;rename k≤_∧_=>hi;rename _≤(_:Int)+(k:Int)=>hle;exact znT hv (zrM hi hle (by omega) (by omega) (by omega)))
    all_goals try ((skip);refine zai.mk ?_;refine Exists.intro (0:Nat) ?_;refine And.intro (Leaf.mk ?_) ?_;(focus ((repeat' first|exact True.intro|refine And.intro ?_ ?_);(all_goals try ((change _=_<;>try dsimp only)<;>try with_reducible rfl));(all_goals try omega);(all_goals ((first|rfl|(rw[hat];rfl))))));(exact⟨Nat.zero_le _,rfl⟩))
    all_goals try ((rename Nat=>k;rename k≤_∧_=>hi;rename (_:Int)+(k:Int)<_=>hlt;have hi1:=hi.1;have ht:=zlT (show k<(zaA (bL s)).2.length by omega) hi.2 (by omega));refine zai.mk ?_;refine Exists.intro (k+1) ?_;refine And.intro (Leaf.mk ?_) ?_;(focus ((repeat' first|exact True.intro|refine And.intro ?_ ?_);(all_goals try ((change _=_<;>try dsimp only)<;>try with_reducible rfl));(all_goals try omega);(all_goals ((first|rfl|(rw[zcz];omega)|(simp only[zcz];omega))))));(exact⟨⟨(show k+1≤(zaA (bL s)).2.length by omega),ht.1⟩,(show (zaA (bL s)).2.length - (k+1)<(zaA (bL s)).2.length - k by omega)⟩))
  · have hat:zhD s=0:=by simp only[zhD];rw[h2];rfl
    have hb1:s.data.toList.getD (Int.toNat 0) 0=(zaA (bL s)).2.getD 0 0:=by
      have:=zcz s 0
      rw[hat] at this;exact this
    have hb0:¬(((zaA (bL s)).2.getD 0 0).toNat:Int)=45:=by
      rw[h2]
      intro h
      have h:(((bL s).getD 0 0).toNat:Int)=45:=h
      exact h1 (UInt8.toNat_inj.1 (by show _=45;omega))
    have hv:numV (bL s)=(dval (zaA (bL s)).2:Int):=by simp only[numV];rw[h2];rfl
    clear h1 h2
    repeat' (intro hzz;(try (rename Two=>hq;cases hq));(try dsimp only at hzz);(try simp only[zad,zac,eqD,inR,big,zab,zB] at hzz);(try simp only[zad,zac,eqD,inR,big,zab,zB,Int.toNat_natCast,zcz,hb1] at hzz);(try (first|contradiction|(exfalso;omega)));(try (revert hzz;intro _)))
    all_goals try (rename Unit=>hq;clear hq)
    all_goals try ((with_reducible refine Held.mk ?_);(with_reducible (first|refine Frz.mk ?_|refine And.intro (Frz.mk ?_) ?_|refine And.intro ?_ (Frz.mk ?_)));repeat' first|exact True.intro|(change _=_;with_reducible rfl)|refine And.intro ?_ ?_|(with_reducible refine Frz.mk ?_))
    all_goals try (refine Held.mk ?_;(try dsimp only at *);(try simp only[zad,zac,eqD,inR,big,zab,zB] at *);(try simp only[zad,zac,eqD,inR,big,zab,zB,Int.toNat_natCast,zcz,hb1] at *))
    all_goals try omega
    all_goals try (rename Nat=>k;rename k≤_∧_=>hi;rename (_:Int)+(k:Int)<_=>hlt;have hi1:=hi.1;exact zcc (zrJ (j:=k) (by omega) (by omega)))
    all_goals try (rename Nat=>k;rename k≤_∧_=>hi;have hi1:=hi.1;have h18:=zqM hi.2 (by omega);first|omega|(have h17:=zlU hi.2 (by omega);omega))
    all_goals try (first|exact zcc (znR (by omega))|exact zcc (zrL (by omega))|exact zcc (zrK (by omega) (by omega) (by rw[zfD];omega)))
    all_goals try (rename Nat=>k;rename k≤_∧_=>hi;rename _≤(_:Int)+(k:Int)=>hle;exact znS hv (zrM hi hle (by omega) (by omega) (by omega)))
    all_goals try ((skip);refine zai.mk ?_;refine Exists.intro (0:Nat) ?_;refine And.intro (Leaf.mk ?_) ?_;(focus ((repeat' first|exact True.intro|refine And.intro ?_ ?_);(all_goals try ((change _=_<;>try dsimp only)<;>try with_reducible rfl));(all_goals try omega);(all_goals ((first|rfl|(rw[hat];rfl))))));(exact⟨Nat.zero_le _,rfl⟩))
    all_goals try ((rename Nat=>k;rename k≤_∧_=>hi;rename (_:Int)+(k:Int)<_=>hlt;have hi1:=hi.1;have ht:=zlT (show k<(zaA (bL s)).2.length by omega) hi.2 (by omega));refine zai.mk ?_;refine Exists.intro (k+1) ?_;refine And.intro (Leaf.mk ?_) ?_;(focus ((repeat' first|exact True.intro|refine And.intro ?_ ?_);(all_goals try ((change _=_<;>try dsimp only)<;>try with_reducible rfl));(all_goals try omega);(all_goals ((first|rfl|(rw[zcz];omega)|(simp only[zcz];omega))))));(exact⟨⟨(show k+1≤(zaA (bL s)).2.length by omega),ht.1⟩,(show (zaA (bL s)).2.length - (k+1)<(zaA (bL s)).2.length - k by omega)⟩))
end Go.Eng.Ar
namespace Go.Eng.Ar
open Go.Eng Go.Proofs Go.Lib
set_option linter.all false
set_option maxRecDepth 100000
set_option maxHeartbeats 8000000
def gT (s:SpkD):List UInt8:=itoa s.2.1++32::itoa s.2.2.1
def inSg (s:SpkD):Prop:=(-9223372036854775808≤s.2.1∧s.2.1≤9223372036854775807)∧-9223372036854775808≤s.2.2.1∧s.2.2.1≤9223372036854775807
def gnIn (xs:List SpkD):Prop:=xs.length≤10∧∀s∈xs,inSg s
theorem zqN {α:Type} {f:Nat→α} {k:Nat}:tab f (k+1)=tab f k++[f k]:=rfl
def gnL (xs:List SpkD) (k:Nat):List ByteArray:=tab (fun i=>bA (gT (spkN xs i))) k
def fmtN (xs:List SpkD) (k:Nat):List UInt8:=Lib.join (tab (fun i=>gT (spkN xs i)) k) [59]
def fmtG (xs:List SpkD):ByteArray:=bA (fmtN xs xs.length)
theorem zbQ {xs:List SpkD} (h:gnIn xs) (k:Nat):inSg (spkN xs k):=by
  unfold spkN
  rw[List.getD_eq_getElem?_getD]
  cases hk:xs[k]? with
  | none=>exact⟨⟨by decide,by decide⟩,by decide,by decide⟩
  | some t=>exact h.2 t (List.mem_of_getElem? hk)
theorem zze {s:SpkD} (h:inSg s):(gT s).length≤41:=by
  have h1:=zea h.1.1 h.1.2
  have h2:=zea h.2.1 h.2.2
  unfold gT
  rw[List.length_append,List.length_cons];omega
theorem zfQ {xs:List SpkD} {k:Nat}:(gnL xs k).length=k:=zam _ _
theorem zsk (xs:List (List UInt8)) (y sep:List UInt8) (h:xs≠[]):Lib.join (xs++[y]) sep=Lib.join xs sep++sep++y:=by
  cases xs with
  | nil=>exact absurd rfl h
  | cons x r=>rw[List.cons_append,Lib.join_cons,Lib.join_cons];simp[Lib.joinTail,List.append_assoc]
theorem zpt (xs:List SpkD):fmtN xs 0=[]:=by unfold fmtN;rfl
theorem zvl (xs:List SpkD):fmtN xs 1=gT (spkN xs 0):=by unfold fmtN;exact Lib.join_one _ _
theorem zvk (xs:List SpkD) (k:Nat) (h:0<k):fmtN xs (k+1)=fmtN xs k++59::gT (spkN xs k):=by
  unfold fmtN
  rw[zqN,zsk _ _ _ (fun e=>by have:=congrArg List.length e;rw[zam] at this;simp at this;omega),List.append_assoc];rfl
theorem zli {xs:List SpkD} (h:gnIn xs):∀k,(fmtN xs k).length≤42*k
  | 0=>by rw[zpt];exact Nat.le_refl _
  | k + 1=>by
    have ih:=zli h k
    have g:=zze (zbQ h k)
    by_cases hk:0<k
    · rw[zvk xs k hk,List.length_append,List.length_cons];omega
    · obtain rfl:k=0:=by omega
      rw[zvl];omega
theorem zwH (xs:List SpkD) (k:Nat):(gnL xs k).map bL=tab (fun i=>gT (spkN xs i)) k:=by
  induction k with
  | zero=>rfl
  | succ k ih=>unfold gnL at ih ⊢;rw[zqN,zqN,List.map_append,ih,List.map_cons,List.map_nil,zbZ]
theorem zpm (xs:List SpkD):zn2 (gnL xs xs.length) 59=fmtG xs:=by
  unfold zn2 fmtG fmtN;rw[zwH]
theorem zAE (l t:List UInt8):bA l++(⟨#[32]⟩:ByteArray)++bA t=bA (l++32::t):=by
  refine zkw ?_
  rw[zb6,zb6,zbZ,zbZ,zbZ,List.append_assoc];rfl
theorem zuj {xs:List SpkD} {k:Nat}:gnL xs (k+1)=gnL xs k++[bA (itoa (spkN xs k).2.1)++(⟨#[32]⟩:ByteArray)++bA (itoa (spkN xs k).2.2.1)]:=by
  rw[zAE];exact rfl
theorem zmW {n j:Nat} (h:j≤n) (hz:(n:Int)≤(j:Int)):j=n:=by omega
@[reducible] def zxZ:Spec:={pats:=[.dat (.sl SpkT),.gw 2 PowT],res:=[{t:=.str}],pre:=fun x=>gnIn x.1∧x.2.1=powD,f:=fun x=>(fmtG x.1,())}
def zAH (xs:List SpkD):LoopAnn:={σ:=Nat,pat:=fun k=>[sI 8 k,.slot 3 (.one (.o 60003 k)),.row 60003 9 .str (gnL xs k)],inv:=fun k=>k≤xs.length,meas:=fun k=>xs.length - k}
theorem h66:Ok 66 zxZ:=by
  refine mk (ctr:=[(125,zvV),(126,zxW)]) ⟨zy8,zAt,trivial⟩ (nt:=26) Tryz.func66 rfl rfl rfl rfl (by kernel_rfl) (by kernel_rfl) (fun x=>[fun _=>zAH x.1]) ?_
  rintro⟨(xs:List SpkD),(p:PowT.Den),_⟩ ⟨(hr:gnIn xs),(hp:p=powD)⟩
  have hl:=hr.1
  repeat' (intro hzz;(try (rename Two=>hq;cases hq));(try dsimp only at hzz);(try simp only[zad,zac,eqD,inR,big,zab,zB] at hzz);(try simp only[zad,zac,eqD,inR,big,zab,zB,Int.toNat_natCast] at hzz);(try (revert hzz;intro _)))
  all_goals try (rename Unit=>hq;clear hq)
  all_goals try ((with_reducible refine Held.mk ?_);(with_reducible (first|refine Frz.mk ?_|refine And.intro (Frz.mk ?_) ?_|refine And.intro ?_ (Frz.mk ?_)));repeat' first|exact True.intro|(change _=_;with_reducible rfl)|refine And.intro ?_ ?_|(with_reducible refine Frz.mk ?_))
  all_goals try (refine Held.mk ?_;(try dsimp only at *);(try simp only[zad,zac,eqD,inR,big,zab,zB] at *);(try simp only[zad,zac,eqD,inR,big,zab,zB,Int.toNat_natCast] at *))
  ·
    refine zai.mk ?_
    refine Exists.intro (0:Nat) ?_
    refine And.intro (Leaf.mk ?_) ?_
    · repeat' first|exact True.intro|refine And.intro ?_ ?_
      all_goals try ((change _=_<;>try dsimp only)<;>try with_reducible rfl)
      all_goals try omega
      all_goals (rfl)
    exact Nat.zero_le _
  · exact⟨Int.natCast_nonneg _,by assumption⟩
  · exact⟨(zbQ hr _).1,hp⟩
  · rename_i k hk hlt
    have:=zea (zbQ hr k).1.1 (zbQ hr k).1.2
    rw[zca];show (itoa (spkN xs k).2.1).length+1≤_;omega
  · exact⟨(zbQ hr _).2,hp⟩
  · rename_i k hk hlt
    have:=zea (zbQ hr k).1.1 (zbQ hr k).1.2
    have h2:=zea (zbQ hr k).2.1 (zbQ hr k).2.2
    rw[ByteArray.size_append,zca,zca];show (itoa (spkN xs k).2.1).length+1+(itoa (spkN xs k).2.2.1).length≤_;omega
  · rename_i k hk hlt
    rw[zfQ];refine⟨rfl,?_⟩
    show k+1≤2147483648;omega
  · rename_i k hk hlt
    exact⟨by omega,(show (k:Int)+1≤9223372036854775807 by omega)⟩
  · rename_i k hk hlt
    have hk2:k<xs.length:=Int.ofNat_lt.1 hlt
    have e:=zuj (xs:=xs) (k:=k)
    refine zai.mk ?_
    refine Exists.intro (k+1) ?_
    refine And.intro (Leaf.mk ?_) ?_
    · repeat' first|exact True.intro|refine And.intro ?_ ?_
      all_goals try ((change _=_<;>try dsimp only)<;>try with_reducible rfl)
      all_goals try omega
      all_goals (first|rfl|exact e.symm|exact e|exact congrArg List.length e|exact (congrArg List.length e).symm|exact (congrArg List.length e).symm.trans zfQ|exact zfQ.symm|exact zfQ)
    exact⟨(show k+1≤xs.length by omega),(show xs.length - (k+1)<xs.length - k by omega)⟩
  · exact zfQ.symm
  · exact zfQ.symm
  · rename_i k hk hlt
    obtain rfl:k=xs.length:=zmW hk hlt
    have hf:=zli hr xs.length
    refine⟨rfl,by rw[zfQ];omega,?_⟩
    rw[zpm];unfold fmtG;rw[zca];omega
  · rename_i k hk hlt
    obtain rfl:k=xs.length:=zmW hk hlt
    exact zpm xs
theorem zAF (xs:List SpkD) (k:Nat) (h:0<k):bA (fmtN xs k)++(⟨#[59]⟩:ByteArray)++bA (itoa (spkN xs k).2.1)++(⟨#[32]⟩:ByteArray)++bA (itoa (spkN xs k).2.2.1)=bA (fmtN xs (k+1)):=by
  refine zkw ?_
  rw[zvk xs k h,zb6,zb6,zb6,zb6,zbZ,zbZ,zbZ,zbZ,List.append_assoc,List.append_assoc,List.append_assoc];rfl
theorem zAG (xs:List SpkD):bA (fmtN xs 0)++bA (itoa (spkN xs 0).2.1)++(⟨#[32]⟩:ByteArray)++bA (itoa (spkN xs 0).2.2.1)=bA (fmtN xs 1):=by
  refine zkw ?_
  rw[zvl,zpt,zb6,zb6,zb6,zbZ,zbZ,zbZ,zbZ,List.nil_append,List.append_assoc];rfl
@[reducible] def zu5:Spec:={pats:=[.dat (.sl SpkT)],res:=[{t:=.str}],pre:=fun x=>gnIn x.1,f:=fun x=>(fmtG x.1,())}
def zzj (xs:List SpkD):LoopAnn:={σ:=Nat,pat:=fun k=>[sI 4 k,.slot 3 (.one (.d .str (bA (fmtN xs k))))],inv:=fun k=>k≤xs.length,meas:=fun k=>xs.length - k}
theorem h69:Ok 69 zu5:=by
  refine mk (ctr:=[(132,zoP)]) ⟨zAz,trivial⟩ (nt:=32) Tryz.func69 rfl rfl rfl rfl (by kernel_rfl) (by kernel_rfl) (fun x=>[fun _=>zzj x.1]) ?_
  rintro⟨(xs:List SpkD),_⟩ (hr:gnIn xs)
  have hl:=hr.1
  repeat' (intro hzz;(try (rename Two=>hq;cases hq));(try dsimp only at hzz);(try simp only[zad,zac,eqD,inR,big,zab,zB] at hzz);(try simp only[zad,zac,eqD,inR,big,zab,zB,Int.toNat_natCast,zca,ByteArray.size_append] at hzz);(try (revert hzz;intro _)))
  all_goals try (rename Unit=>hq;clear hq)
  all_goals try ((with_reducible refine Held.mk ?_);(with_reducible (first|refine Frz.mk ?_|refine And.intro (Frz.mk ?_) ?_|refine And.intro ?_ (Frz.mk ?_)));repeat' first|exact True.intro|(change _=_;with_reducible rfl)|refine And.intro ?_ ?_|(with_reducible refine Frz.mk ?_))
  all_goals try (refine Held.mk ?_;(try dsimp only at *);(try simp only[zad,zac,eqD,inR,big,zab,zB] at *);(try simp only[zad,zac,eqD,inR,big,zab,zB,Int.toNat_natCast,zca,ByteArray.size_append] at *))
  all_goals try (rename_i k hk hlt h0;(with_reducible refine And.intro ?_ ?_)<;>first|exact (zbQ hr k).1.1|exact (zbQ hr k).1.2|exact (zbQ hr k).2.1|exact (zbQ hr k).2.2)
  all_goals try (with_reducible refine And.intro (Int.natCast_nonneg _) ?_;assumption)
  all_goals try (with_reducible refine And.intro ?_ ?_<;>omega)
  all_goals try (rename_i k hk hlt h0;have q0:=zli hr k;have q1:=zea (zbQ hr k).1.1 (zbQ hr k).1.2;have q2:=zea (zbQ hr k).2.1 (zbQ hr k).2.2;first|(show (fmtN xs k).length+1≤2147483648;omega)|(show (fmtN xs k).length+1+(itoa (spkN xs k).2.1).length≤2147483648;omega)|(show (fmtN xs k).length+1+(itoa (spkN xs k).2.1).length+1≤2147483648;omega)|(show (fmtN xs k).length+1+(itoa (spkN xs k).2.1).length+1+(itoa (spkN xs k).2.2.1).length≤2147483648;omega)|(show (fmtN xs k).length+(itoa (spkN xs k).2.1).length≤2147483648;omega)|(show (fmtN xs k).length+(itoa (spkN xs k).2.1).length+1≤2147483648;omega)|(show (fmtN xs k).length+(itoa (spkN xs k).2.1).length+1+(itoa (spkN xs k).2.2.1).length≤2147483648;omega))
  ·
    refine zai.mk ?_
    refine Exists.intro (0:Nat) ?_
    refine And.intro (Leaf.mk ?_) ?_
    · repeat' first|exact True.intro|refine And.intro ?_ ?_
      all_goals try ((change _=_<;>try dsimp only)<;>try with_reducible rfl)
      all_goals try omega
      all_goals (first|rfl|exact congrArg bA (zpt xs)|exact (congrArg bA (zpt xs)).symm)
    exact Nat.zero_le _
  · rename_i k hk hlt h0
    have e:=zAF xs k (Int.ofNat_lt.1 h0)
    refine zai.mk ?_
    refine Exists.intro (k+1) ?_
    refine And.intro (Leaf.mk ?_) ?_
    · repeat' first|exact True.intro|refine And.intro ?_ ?_
      all_goals try ((change _=_<;>try dsimp only)<;>try with_reducible rfl)
      all_goals try omega
      all_goals (first|rfl|exact e.symm|exact e)
    exact⟨(show k+1≤xs.length by omega),(show xs.length - (k+1)<xs.length - k by omega)⟩
  · rename_i k hk hlt h0
    obtain rfl:k=0:=by omega
    have e:=zAG xs
    refine zai.mk ?_
    refine Exists.intro (1:Nat) ?_
    refine And.intro (Leaf.mk ?_) ?_
    · repeat' first|exact True.intro|refine And.intro ?_ ?_
      all_goals try ((change _=_<;>try dsimp only)<;>try with_reducible rfl)
      all_goals try omega
      all_goals (first|rfl|exact e.symm|exact e)
    exact⟨(show 0+1≤xs.length by omega),(show xs.length - (0+1)<xs.length - 0 by omega)⟩
  · rename_i k hk hlt
    obtain rfl:k=xs.length:=zmW hk hlt
    rfl
end Go.Eng.Ar
namespace Go.Eng.Ar
open Go.Eng Go.Proofs Go.Lib
set_option linter.all false
set_option maxRecDepth 100000
set_option maxHeartbeats 8000000
theorem ziQ (l:List UInt8) (c:UInt8):index l [c] = -1∨∃i:Nat,index l [c]=i:=by
  have:=index_ge l [c]
  by_cases h:index l [c] = -1
  · exact .inl h
  · exact .inr ⟨(index l [c]).toNat,by omega⟩
theorem znM {c:UInt8} {l:List UInt8} (h:(zat c l).length=1):zat c l=[l]:=by
  rcases ziQ l c with e|⟨i,e⟩
  · exact zc9 c l e
  · rw[zc6 c l i e,List.length_cons] at h
    have:=zeN c (l.drop (i+1))
    exact absurd (List.eq_nil_of_length_eq_zero (by omega)) this
theorem zrN {k:Nat}:zba [] k=false:=znR rfl
theorem znU {l:List UInt8} {k:Nat} (h:32∈l):zba l k=false:=by
  have hm:32∈(zaA l).2:=by
    rcases ze9 l with ⟨d,h1,h2⟩|⟨h1,h2⟩
    · rw[h2];rw[h1] at h
      rcases List.mem_cons.1 h with e|e
      · exact absurd e (by decide)
      · exact e
    · rw[h2];exact h
  have:(zaA l).2.all zb4=false:=List.all_eq_false.2 ⟨32,hm,by decide⟩
  simp[zba,this]
theorem zlu {p:ByteArray} (h:(cutB 32 p).length=2):strN (cutB 32 p) 0=(cutP p).1∧strN (cutB 32 p) 1=(cutP p).2.1:=by
  have h:(zat 32 (bL p)).length=2:=by simpa [cutB] using h
  rcases ziQ (bL p) 32 with e|⟨i,e⟩
  · rw[zc9 32 _ e] at h;cases h
  · have hh:=zc6 32 (bL p) i e
    rw[hh,List.length_cons] at h
    have h1:=znM (c:=32) (l:=(bL p).drop (i+1)) (by omega)
    unfold cutB cutP Lib.cut strN
    rw[hh,h1,e,if_pos (by omega)]
    exact⟨rfl,rfl⟩
theorem zoj {p:ByteArray} (h:¬(cutB 32 p).length=2):okP p=false:=by
  have h:¬(zat 32 (bL p)).length=2:=by simpa [cutB] using h
  unfold okP
  rw[Bool.and_eq_false_iff]
  right
  unfold cutP Lib.cut
  rcases ziQ (bL p) 32 with e|⟨i,e⟩
  · rw[e,if_neg (by omega),zbZ];exact zrN
  · rw[e,if_pos (by omega),zbZ]
    refine znU (Classical.byContradiction fun hn=>h ?_)
    have hn:(32:UInt8) ∉ (bL p).drop (i+1):=hn
    rw[zc6 32 (bL p) i e,ziB 32 _ hn];rfl
theorem ziF {p:ByteArray} (h:(cutB 32 p).length=2):okP p=(zba (bL (strN (cutB 32 p) 0)) 5&&zba (bL (strN (cutB 32 p) 1)) 5):=by
  rw[(zlu h).1,(zlu h).2];rfl
theorem zn7 {p:ByteArray} (h:(cutB 32 p).length=2) (h1:zba (bL (strN (cutB 32 p) 0)) 5=true) (h2:zba (bL (strN (cutB 32 p) 1)) 5=true):gdP p=(numV (bL (strN (cutB 32 p) 0)),numV (bL (strN (cutB 32 p) 1)),()):=by
  rw[(zlu h).1,(zlu h).2] at *
  unfold gdP
  rw[(zcU (by decide) h1).1,(zcU (by decide) h2).1]
theorem e59:UInt8.ofNat (Int.toNat 59)=59:=by decide
theorem e32:UInt8.ofNat (Int.toNat 32)=32:=by decide
theorem eN5:Int.toNat 5=5:=rfl
@[reducible] def zoM:Spec:={pats:=[.dat .str],res:=[{t:=.sl zaD},{t:=I64}],pre:=fun x=>x.1.size≤1000000,f:=fun x=>pgR x.1}
def zyE (L:List ByteArray):LoopAnn:={σ:=Nat,pat:=fun k=>[sI 6 k,.slot 4 (.one (.o 60004 k)),.row 60004 82 zaD (gdL L k)],inv:=fun k=>k≤L.length∧∀i,i<k→okP (strN L i)=true,meas:=fun k=>L.length - k}
def zwe (L:List ByteArray):LoopAnn:={σ:=Nat,pat:=fun k=>[sI 12 k],inv:=fun k=>k≤L.length∧∀i,i<k→zcO (gdP (strN L i)).1 (gdP (strN L i)).2.1=0,meas:=fun k=>L.length - k}
theorem h68:Ok 68 zoM:=by
  refine mk (ctr:=[(92,zfr),(130,zx2),(131,zoN)]) ⟨h92,zAA,zwF,trivial⟩ (nt:=80) Tryz.func68 rfl rfl rfl rfl (by kernel_rfl) (by kernel_rfl) (fun x=>[fun _=>zyE (cutB 59 x.1),fun _=>zwe (cutB 59 x.1)]) ?_
  rintro⟨(s:ByteArray),_⟩ (hs:s.size≤1000000)
  have hc:=zja 59 s
  have hcl:=zlx 59 s
  have hc2:=fun i=>zja 32 (strN (cutB 59 s) i)
  have hN:∀k,k<(cutB 59 s).length→(gdL (cutB 59 s) (cutB 59 s).length).getD k zaD.dflt=gdP (strN (cutB 59 s) k):=fun k hk=>zaE _ _ _ _ hk
  have hG:∀k,(gdL (cutB 59 s) k).length=k:=fun k=>zam _ _
  repeat' (intro hzz;(try (rename Two=>hq;cases hq));(try dsimp only at hzz);(try simp only[zad,zac,eqD,inR,big,zab,zB] at hzz);(try simp only[zad,zac,eqD,inR,big,zab,zB,zbZ,Int.toNat_natCast,e59,e32,eN5] at hzz);(try (revert hzz;intro _)))
  all_goals try (rename Unit=>hq;clear hq)
  all_goals try ((with_reducible refine Held.mk ?_);(with_reducible (first|refine Frz.mk ?_|refine And.intro (Frz.mk ?_) ?_|refine And.intro ?_ (Frz.mk ?_)));repeat' first|exact True.intro|(change _=_;with_reducible rfl)|refine And.intro ?_ ?_|(with_reducible refine Frz.mk ?_))
  all_goals try (refine Held.mk ?_;(try dsimp only at *);(try simp only[zad,zac,eqD,inR,big,zab,zB] at *);(try simp only[zad,zac,eqD,inR,big,zab,zB,zbZ,Int.toNat_natCast,e59,e32,eN5] at *))
  all_goals try omega
  · exact⟨hs,by decide,by decide⟩
  ·
    refine zai.mk ?_
    refine Exists.intro (0:Nat) ?_
    refine And.intro (Leaf.mk ?_) ?_
    · repeat' first|exact True.intro|refine And.intro ?_ ?_
      all_goals try ((change _=_<;>try dsimp only)<;>try with_reducible rfl)
      all_goals try omega
      all_goals (rfl)
    exact⟨Nat.zero_le _,fun i hi=>absurd hi (Nat.not_lt_zero _)⟩
  · exact⟨Nat.le_trans (hc _) hs,by decide,by decide⟩
  · rename_i k hk hlt h2
    have e:pgR s=([],7,()):=pg7 (k:=k) (Int.ofNat_lt.1 hlt) (zoj fun e=>h2 (congrArg Nat.cast e))
    rw[e];exact⟨rfl,rfl⟩
  · exact⟨Nat.le_trans (hc2 _ _) (Nat.le_trans (hc _) hs),by decide,by decide⟩
  · exact⟨Nat.le_trans (hc2 _ _) (Nat.le_trans (hc _) hs),by decide,by decide⟩
  · rename_i k hk hlt h2 ha hb
    have h2':(cutB 32 (strN (cutB 59 s) k)).length=2:=Int.ofNat.inj h2
    have e:pgR s=([],7,()):=pg7 (k:=k) (Int.ofNat_lt.1 hlt) (by rw[ziF h2',Bool.and_eq_false_iff];exact .inr hb)
    rw[e];exact⟨rfl,rfl⟩
  · rename_i k hk hlt h2 ha hb
    rw[hG]
    refine⟨rfl,?_⟩
    have:=Int.ofNat_lt.1 hlt
    show k+1≤2147483648;omega
  · rename_i k hk hlt h2 ha hb
    have hlt':k<(cutB 59 s).length:=Int.ofNat_lt.1 hlt
    have h2':(cutB 32 (strN (cutB 59 s) k)).length=2:=Int.ofNat.inj h2
    have e8:gdP (strN (cutB 59 s) k)=(if zba (bL (strN (cutB 32 (strN (cutB 59 s) k)) 0)) 5=true then numV (bL (strN (cutB 32 (strN (cutB 59 s) k)) 0)) else 0,if zba (bL (strN (cutB 32 (strN (cutB 59 s) k)) 1)) 5=true then numV (bL (strN (cutB 32 (strN (cutB 59 s) k)) 1)) else 0,()):=by
      rw[zn7 h2' ha hb,if_pos (show zba (bL (strN (cutB 32 (strN (cutB 59 s) k)) 0)) 5=true from ha),if_pos (show zba (bL (strN (cutB 32 (strN (cutB 59 s) k)) 1)) 5=true from hb)]
    have e9:=congrArg (fun x=>gdL (cutB 59 s) k++[x]) e8
    refine zai.mk ?_
    refine Exists.intro (k+1) ?_
    refine And.intro (Leaf.mk ?_) ?_
    · repeat' first|exact True.intro|refine And.intro ?_ ?_
      all_goals try ((change _=_<;>try dsimp only)<;>try with_reducible rfl)
      all_goals try omega
      all_goals (first|rfl|exact (hG (k+1)).symm|exact hG (k+1)|exact e9|exact e9.symm|exact (congrArg List.length e9).symm.trans (hG (k+1)))
    refine⟨⟨by show k+1≤(cutB 59 s).length;omega,fun i hi=>?_⟩,by show (cutB 59 s).length - (k+1)<(cutB 59 s).length - k;omega⟩
    by_cases e:i=k
    · subst e;rw[ziF h2',Bool.and_eq_true];exact⟨ha,hb⟩
    · exact hk.2 i (by omega)
  · rename_i k hk hlt h2 ha
    have h2':(cutB 32 (strN (cutB 59 s) k)).length=2:=Int.ofNat.inj h2
    have e:pgR s=([],7,()):=pg7 (k:=k) (Int.ofNat_lt.1 hlt) (by rw[ziF h2',Bool.and_eq_false_iff];exact .inl ha)
    rw[e];exact⟨rfl,rfl⟩
  · rename_i k hk hlt h8
    have hk':k=(cutB 59 s).length:=zmW hk.1 hlt
    have e:pgR s=([],8,()):=pg8 (fun i hi=>hk.2 i (by omega)) (by omega)
    rw[e];exact⟨rfl,rfl⟩
  ·
    refine zai.mk ?_
    refine Exists.intro (0:Nat) ?_
    refine And.intro (Leaf.mk ?_) ?_
    · repeat' first|exact True.intro|refine And.intro ?_ ?_
      all_goals try ((change _=_<;>try dsimp only)<;>try with_reducible rfl)
      all_goals try omega
      all_goals (rfl)
    exact⟨Nat.zero_le _,fun i hi=>absurd hi (Nat.not_lt_zero _)⟩
  · rw[hG];exact⟨Int.natCast_nonneg _,by assumption⟩
  · rw[hG];exact⟨Int.natCast_nonneg _,by assumption⟩
  · rename_i n hn hle h8 k hk hlt h
    obtain rfl:n=(cutB 59 s).length:=zmW hn.1 hle
    have hlt':k<(cutB 59 s).length:=Int.ofNat_lt.1 hlt
    rw[hN k hlt'] at h
    rw[hN k hlt']
    have e:pgR s=([],2,()):=pg2 (fun i hi=>hn.2 i hi) (by omega) hlt' h
    rw[e];exact⟨rfl,zst h⟩
  · rename_i n hn hle h8 k hk hlt h
    obtain rfl:n=(cutB 59 s).length:=zmW hn.1 hle
    have hlt':k<(cutB 59 s).length:=Int.ofNat_lt.1 hlt
    rw[hN k hlt'] at h
    refine zai.mk ?_
    refine Exists.intro (k+1) ?_
    refine And.intro (Leaf.mk ?_) ?_
    · repeat' first|exact True.intro|refine And.intro ?_ ?_
      all_goals try ((change _=_<;>try dsimp only)<;>try with_reducible rfl)
      all_goals try omega
      all_goals (rfl)
    refine⟨⟨by show k+1≤(cutB 59 s).length;omega,fun i hi=>?_⟩,by show (cutB 59 s).length - (k+1)<(cutB 59 s).length - k;omega⟩
    by_cases e:i=k
    · subst e;exact h
    · exact hk.2 i (by omega)
  all_goals try exact (hG _).symm
  · rename_i n hn hle h8 k hk hlt
    obtain rfl:n=(cutB 59 s).length:=zmW hn.1 hle
    obtain rfl:k=(cutB 59 s).length:=zmW hk.1 hlt
    have e:pgR s=(gdL (cutB 59 s) (cutB 59 s).length,0,()):=pg0 (fun i hi=>hn.2 i hi) (by omega) (fun i hi=>hk.2 i hi)
    rw[e];exact⟨rfl,rfl⟩
end Go.Eng.Ar
namespace Go.Eng.Ar
open Go.Eng Go.Proofs
set_option linter.all false
set_option maxRecDepth 100000
set_option maxHeartbeats 8000000
def e0 (L:List RayD) (k:Nat):Int:=sm (fun i=>(endR (rayN L i)).1.1) k
def e1 (L:List RayD) (k:Nat):Int:=sm (fun i=>(endR (rayN L i)).1.2.1) k
def e2 (L:List RayD) (k:Nat):Int:=sm (fun i=>(endR (rayN L i)).2.1.1) k
def e3 (L:List RayD) (k:Nat):Int:=sm (fun i=>(endR (rayN L i)).2.1.2.1) k
def gL (x:RayD):Int:=x.1.2.1*x.2.1.1
def gU (x:RayD):Int:=x.1.2.1*x.2.1.2.1
def n0 (L:List RayD) (k:Nat):Int:=sm (fun i=>gL (rayN L i)*gL (rayN L i)) k
def n1 (L:List RayD) (k:Nat):Int:=sm (fun i=>gU (rayN L i)*gU (rayN L i)) k
end Go.Eng.Ar
namespace Go.Eng.Ar
open Go.Eng Go.Proofs
set_option linter.all false
set_option maxRecDepth 100000
set_option maxHeartbeats 8000000
noncomputable def w26:InlF:={nt:=9,np:=1,body:=zcM Tryz.f26,rs:=[.cell 2 41],anns:=[]}
theorem ok26:zqA Tryz.prog [(26,w26)]:=zrI Tryz.func26 rfl rfl rfl (by kernel_rfl) (by kernel_rfl) rfl (by kernel_rfl)
end Go.Eng.Ar
namespace Go.Eng.Ar
open Go.Eng Go.Proofs
set_option linter.all false
set_option maxRecDepth 100000
set_option maxHeartbeats 8000000
abbrev prZ:zaD.Den:=((0:Int),(0:Int),())
abbrev prN (l:List zaD.Den) (i:Nat):zaD.Den:=l.getD i prZ
def wgS (l:List zaD.Den) (i:Nat) (s:SpkD):SpkD:=(s.1,(prN l i).1,(prN l i).2.1,())
def zzc (l:List zaD.Den):Prop:=∀i,i<l.length→zcO (prN l i).1 (prN l i).2.1=0
open Classical in
noncomputable def zfV (r v:Int) (xs:List SpkD) (l:List zaD.Den):Int:=if (chkA r v xs).2=0 then (if l.length=xs.length then (if zzc l then 0 else 2) else 10) else (chkA r v xs).2
noncomputable def wgR (r v:Int) (xs:List SpkD) (l:List zaD.Den):ArrD×Int×Unit:=if zfV r v xs l=0 then ((r,v,zaB (wgS l) xs xs.length,()),0,()) else ((0,0,([]:List SpkD),()),zfV r v xs l,())
theorem zqC {r v:Int} {xs:List SpkD} {l:List zaD.Den} (h:(if (chkA r v xs).2=0 then (if l.length=xs.length then (0:Int) else 10) else (chkA r v xs).2)=0):(chkA r v xs).2=0∧l.length=xs.length:=by
  split at h
  · rename_i h1
    split at h
    · rename_i h2;exact⟨h1,h2⟩
    · cases h
  · rename_i h1;exact absurd h h1
theorem zxv {r v:Int} {xs:List SpkD} {l:List zaD.Den} (h:¬(if (chkA r v xs).2=0 then (if l.length=xs.length then (0:Int) else 10) else (chkA r v xs).2)=0):zfV r v xs l=(if (chkA r v xs).2=0 then (if l.length=xs.length then (0:Int) else 10) else (chkA r v xs).2):=by
  unfold zfV
  by_cases h1:(chkA r v xs).2=0
  · rw[if_pos h1,if_pos h1]
    by_cases h2:l.length=xs.length
    · rw[if_pos h1,if_pos h2] at h;exact absurd rfl h
    · rw[if_neg h2,if_neg h2]
  · rw[if_neg h1,if_neg h1]
theorem zuN {r v:Int} {xs:List SpkD} {l:List zaD.Den} (h:(chkA r v xs).2=0∧l.length=xs.length) {k:Nat} (hk:k<l.length) (hg:¬zcO (prN l k).1 (prN l k).2.1=0):zfV r v xs l=2:=by
  unfold zfV;rw[if_pos h.1,if_pos h.2,if_neg fun q=>hg (q k hk)]
theorem znq {r v:Int} {xs:List SpkD} {l:List zaD.Den} (h:(chkA r v xs).2=0∧l.length=xs.length) (hg:zzc l):zfV r v xs l=0:=by
  unfold zfV;rw[if_pos h.1,if_pos h.2,if_pos hg]
theorem gn_2 {g d:Int} (h:¬zcO g d=0):zcO g d=2:=by
  unfold zcO at *;split at h
  · exact absurd rfl h
  · rename_i h1;rw[if_neg h1]
theorem zlO {r v:Int} {xs:List SpkD} {l:List zaD.Den} (h:¬zfV r v xs l=0):wgR r v xs l=((0,0,([]:List SpkD),()),zfV r v xs l,()):=if_neg h
theorem zqD {r v:Int} {xs:List SpkD} {l:List zaD.Den} (h:zfV r v xs l=0):wgR r v xs l=((r,v,zaB (wgS l) xs xs.length,()),0,()):=if_pos h
theorem zuO {l:List zaD.Den} {xs:List SpkD} {k:Nat} (hk:k<xs.length):((zaB (wgS l) xs k).set k (((zaB (wgS l) xs k).getD k spkZ).1,(prN l k).1,((zaB (wgS l) xs k).getD k spkZ).2.2)).set k ((((zaB (wgS l) xs k).set k (((zaB (wgS l) xs k).getD k spkZ).1,(prN l k).1,((zaB (wgS l) xs k).getD k spkZ).2.2)).getD k spkZ).1,(((zaB (wgS l) xs k).set k (((zaB (wgS l) xs k).getD k spkZ).1,(prN l k).1,((zaB (wgS l) xs k).getD k spkZ).2.2)).getD k spkZ).2.1,(prN l k).2.1,())=zaB (wgS l) xs (k+1):=by
  have hd:((zaB (wgS l) xs k).set k (((zaB (wgS l) xs k).getD k spkZ).1,(prN l k).1,((zaB (wgS l) xs k).getD k spkZ).2.2)).getD k spkZ=(((zaB (wgS l) xs k).getD k spkZ).1,(prN l k).1,((zaB (wgS l) xs k).getD k spkZ).2.2):=by
    rw[List.getD_eq_getElem?_getD,List.getElem?_set,if_pos rfl,if_pos (by rw[zaq];exact hk)];rfl
  rw[hd,List.set_set,zdf hk,if_neg (Nat.lt_irrefl _),←ziN hk];rfl
noncomputable def w133:InlF:={nt:=21,np:=3,body:=zcM Tryz.f133,rs:=[],anns:=[]}
theorem zAo:zqA Tryz.prog [(133,w133)]:=zrI Tryz.func133 rfl rfl rfl (by kernel_rfl) (by kernel_rfl) rfl (by kernel_rfl)
def zxz (l:List zaD.Den):LoopAnn:={σ:=Nat,pat:=fun k=>[sI 27 k],inv:=fun k=>k≤l.length∧∀i,i<k→zcO (prN l i).1 (prN l i).2.1=0,meas:=fun k=>l.length - k}
def zxy (xs:List SpkD) (l:List zaD.Den):LoopAnn:={σ:=Nat,pat:=fun k=>[sI 13 k,.row 8 53 SpkT (zaB (wgS l) xs k)],inv:=fun k=>k≤xs.length,meas:=fun k=>xs.length - k}
@[reducible] noncomputable def zq2:Spec:={pats:=[.dat ArrT,.dat (.sl zaD)],res:=[{t:=ArrT},{t:=I64}],pre:=fun x=>pTen (List.length (α:=SpkD) x.1.2.2.1)∧pTen (List.length (α:=zaD.Den) x.2.1),f:=fun x=>wgR x.1.1 x.1.2.1 x.1.2.2.1 x.2.1}
theorem h70:Ok 70 zq2:=by
  refine zwj (fun x0 h0=>?_) ⟨_,Tryz.func70,by kernel_rfl,by kernel_rfl⟩
  obtain⟨⟨(r:Int),(v:Int),(xs:List SpkD),⟨⟩⟩,(l:List zaD.Den),⟨⟩⟩:=x0
  obtain⟨hp,hq⟩:xs.length≤1000∧l.length≤1000:=h0
  refine mkI (sp:={zq2 with pre:=fun x=>x=((r,v,xs,()),l,())}) (c:=((cfg {} [(73,zeJ),(85,zb7),(86,zfr),(87,zkR),(139,zrd)] 0).withInl [(133,w133)]).withInl [(89,w89 fun _=>zxy xs l)]) (zgG (zgG (fun nt=>zhH (X:={}) True.intro (ctr:=[(73,zeJ),(85,zb7),(86,zfr),(87,zkR),(139,zrd)]) ⟨h73,h85,h86,h87,h139,trivial⟩) mixed zAo) mixed (ok89 _)) (nt:=44) Tryz.func70 rfl rfl rfl rfl (by kernel_rfl) (by kernel_rfl) (fun _=>[fun _=>zxz l]) ?_
  rintro _ rfl
  have hE:za8 [(chkA r v xs).2,bif decide ((l.length:Int)=(xs.length:Int)) then 0 else 10]=(if (chkA r v xs).2=0 then (if l.length=xs.length then 0 else 10) else (chkA r v xs).2):=by
    simp only[za8]
    by_cases h:l.length=xs.length
    · rw[decide_eq_true (by rw[h]),if_pos h];split<;>rfl
    · rw[decide_eq_false (by omega),if_neg h];split<;>rfl
  repeat' (intro hzz;(try (rename Two=>hq;cases hq));(try dsimp only at hzz);(try simp only[zad,zac,eqD,inR,big,zab,zB] at hzz);(try simp only[zad,zac,eqD,inR,big,zab,zB,hE,Int.toNat_natCast] at hzz);(try (revert hzz;intro _)))
  all_goals try (rename Unit=>hq;clear hq)
  all_goals try ((with_reducible refine Held.mk ?_);(with_reducible (first|refine Frz.mk ?_|refine And.intro (Frz.mk ?_) ?_|refine And.intro ?_ (Frz.mk ?_)));repeat' first|exact True.intro|(change _=_;with_reducible rfl)|refine And.intro ?_ ?_|(with_reducible refine Frz.mk ?_))
  all_goals try (refine Held.mk ?_;(try dsimp only at *);(try simp only[zad,zac,eqD,inR,big,zab,zB] at *);(try simp only[zad,zac,eqD,inR,big,zab,zB,hE,Int.toNat_natCast] at *))
  · show (xs.length:Int)≤4611686018427387904;omega
  · show ((2:Nat):Int)≤4611686018427387904;decide
  · rename_i h
    have e:=zlO (r:=r) (v:=v) (xs:=xs) (l:=l) (by rw[zxv h];exact h)
    rw[e];exact⟨⟨rfl,rfl,rfl⟩,(zxv h).symm⟩
  ·
    refine zai.mk ?_
    refine Exists.intro (0:Nat) ?_
    refine And.intro (Leaf.mk ?_) ?_
    · repeat' first|exact True.intro|refine And.intro ?_ ?_
      all_goals try ((change _=_<;>try dsimp only)<;>try with_reducible rfl)
      all_goals try omega
      all_goals (rfl)
    exact⟨Nat.zero_le _,fun i hi=>absurd hi (Nat.not_lt_zero _)⟩
  · exact And.intro (Int.natCast_nonneg _) (by assumption)
  · rename_i h0 k hk hlt h
    have e2:=zuN (zqC h0) (Int.ofNat_lt.1 hlt) h
    have e:=zlO (r:=r) (v:=v) (xs:=xs) (l:=l) (by rw[e2];decide)
    rw[e];exact⟨⟨rfl,rfl,rfl⟩,(gn_2 h).trans e2.symm⟩
  · rename_i h0 k hk hlt h
    exact And.intro (by omega) (by omega)
  · rename_i h0 k hk hlt h
    have hlt':k<l.length:=Int.ofNat_lt.1 hlt
    refine zai.mk ?_
    refine Exists.intro (k+1) ?_
    refine And.intro (Leaf.mk ?_) ?_
    · repeat' first|exact True.intro|refine And.intro ?_ ?_
      all_goals try ((change _=_<;>try dsimp only)<;>try with_reducible rfl)
      all_goals try omega
      all_goals (rfl)
    refine⟨⟨(show k+1≤l.length by omega),fun i hi=>?_⟩,(show l.length - (k+1)<l.length - k by omega)⟩
    by_cases e:i=k
    · subst e;exact h
    · exact hk.2 i (by omega)
  · rename_i h0 k hk hlt
    exact⟨(zjo (zqC h0).1).pos,(show xs.length≤2000000000 by omega)⟩
  · rename_i h0 k hk hlt
    refine zai.mk ?_
    refine Exists.intro (0:Nat) ?_
    refine And.intro (Leaf.mk ?_) ?_
    · repeat' first|exact True.intro|refine And.intro ?_ ?_
      all_goals try ((change _=_<;>try dsimp only)<;>try with_reducible rfl)
      all_goals try omega
      all_goals (first|rfl|exact zeR.symm|exact zeR)
    exact Nat.zero_le _
  · exact And.intro (Int.natCast_nonneg _) (by assumption)
  · rename_i h0 n hn hln k hk hlt
    have:=(zqC h0).2
    exact And.intro (Int.natCast_nonneg _) (by rw[this];assumption)
  · rename_i h0 n hn hln k hk hlt
    have:=(zqC h0).2
    exact And.intro (Int.natCast_nonneg _) (by rw[this];assumption)
  · rw[zaq];exact And.intro (Int.natCast_nonneg _) (by assumption)
  · rw[List.length_set,zaq];exact And.intro (Int.natCast_nonneg _) (by assumption)
  · rename_i h0 n hn hln k hk hlt
    exact And.intro (by omega) (by omega)
  · rename_i h0 n hn hln k hk hlt
    have hk':k<xs.length:=Int.ofNat_lt.1 hlt
    have e3:=zuO (l:=l) hk'
    refine zai.mk ?_
    refine Exists.intro (k+1) ?_
    refine And.intro (Leaf.mk ?_) ?_
    · repeat' first|exact True.intro|refine And.intro ?_ ?_
      all_goals try ((change _=_<;>try dsimp only)<;>try with_reducible rfl)
      all_goals try omega
      all_goals (first|rfl|exact e3|exact e3.symm)
    exact⟨(show k+1≤xs.length by omega),(show xs.length - (k+1)<xs.length - k by omega)⟩
  all_goals try exact zaq.symm
  all_goals try exact zaq
  · rename_i h0 n hn hln k hk hlt
    obtain rfl:k=xs.length:=by omega
    have e:=zqD (znq (r:=r) (v:=v) (zqC h0) fun i hi=>hn.2 i (by omega))
    rw[e];exact⟨⟨rfl,rfl,rfl⟩,rfl⟩
def zxx (xs:List SpkD) (l:List zaD.Den):LoopAnn:={σ:=Nat,pat:=fun k=>[sI 7 k,.row 11 53 SpkT (zaB (wgS l) xs k)],inv:=fun k=>k≤l.length∧∀i,i<k→zcO (prN l i).1 (prN l i).2.1=0,meas:=fun k=>l.length - k}
@[reducible] noncomputable def zny:Spec:={pats:=[.dat ArrT,.dat (.sl zaD)],res:=[{t:=ArrT},{t:=I64}],pre:=fun x=>(chkA x.1.1 x.1.2.1 x.1.2.2.1).2=0∧pTen (List.length (α:=zaD.Den) x.2.1),f:=fun x=>wgR x.1.1 x.1.2.1 x.1.2.2.1 x.2.1}
theorem h71:Ok 71 zny:=by
  refine mkI (sp:=zny) (c:=(cfg {} [(92,zfr)] 0).withInl [(26,w26)]) (zgG (fun nt=>zhH (X:={}) True.intro (ctr:=[(92,zfr)]) ⟨h92,trivial⟩) mixed ok26) (nt:=60) Tryz.func71 rfl rfl rfl rfl (by kernel_rfl) (by kernel_rfl) (fun x=>[fun _=>zxx x.1.2.2.1 x.2.1]) ?_
  rintro⟨⟨(r:Int),(v:Int),(xs:List SpkD),⟨⟩⟩,(l:List zaD.Den),⟨⟩⟩ ⟨(hc:(chkA r v xs).2=0),(hq:l.length≤1000)⟩
  have hl8:=(zjo hc).le
  repeat' (intro hzz;(try (rename Two=>hq;cases hq));(try dsimp only at hzz);(try simp only[zad,zac,eqD,inR,big,zab,zB] at hzz);(try simp only[zad,zac,eqD,inR,big,zab,zB,Int.toNat_natCast,List.nil_append] at hzz);(try (revert hzz;intro _)))
  all_goals try (rename Unit=>hq;clear hq)
  all_goals try ((with_reducible refine Held.mk ?_);(with_reducible (first|refine Frz.mk ?_|refine And.intro (Frz.mk ?_) ?_|refine And.intro ?_ (Frz.mk ?_)));repeat' first|exact True.intro|(change _=_;with_reducible rfl)|refine And.intro ?_ ?_|(with_reducible refine Frz.mk ?_))
  all_goals try (refine Held.mk ?_;(try dsimp only at *);(try simp only[zad,zac,eqD,inR,big,zab,zB] at *);(try simp only[zad,zac,eqD,inR,big,zab,zB,Int.toNat_natCast,List.nil_append] at *))
  · rename_i h
    have e2:zfV r v xs l=10:=by unfold zfV;rw[if_pos hc,if_neg fun q=>h (by rw[q])]
    have e:=zlO (r:=r) (v:=v) (xs:=xs) (l:=l) (by rw[e2];decide)
    rw[e];exact⟨⟨rfl,rfl,rfl⟩,e2.symm⟩
  · show 0+xs.length≤2147483648;omega
  · rename_i h0
    refine zai.mk ?_
    refine Exists.intro (0:Nat) ?_
    refine And.intro (Leaf.mk ?_) ?_
    · repeat' first|exact True.intro|refine And.intro ?_ ?_
      all_goals try ((change _=_<;>try dsimp only)<;>try with_reducible rfl)
      all_goals try omega
      all_goals (first|rfl|exact zeR.symm|exact zeR)
    exact⟨Nat.zero_le _,fun i hi=>absurd hi (Nat.not_lt_zero _)⟩
  · exact And.intro (Int.natCast_nonneg _) (by assumption)
  · exact And.intro (Int.natCast_nonneg _) (by assumption)
  · rename_i h0 k hk hlt h
    have e2:=zuN ⟨hc,Int.ofNat.inj h0⟩ (Int.ofNat_lt.1 hlt) h
    have e:=zlO (r:=r) (v:=v) (xs:=xs) (l:=l) (by rw[e2];decide)
    rw[e];exact⟨⟨rfl,rfl,rfl⟩,(gn_2 h).trans e2.symm⟩
  · exact And.intro (Int.natCast_nonneg _) (by assumption)
  · exact And.intro (Int.natCast_nonneg _) (by assumption)
  · rename_i h0 k hk hlt h
    exact And.intro (Int.natCast_nonneg _) (by rw[←h0];assumption)
  · rename_i h0 k hk hlt h
    rw[zaq];exact And.intro (Int.natCast_nonneg _) (by rw[←h0];assumption)
  · rename_i h0 k hk hlt h
    exact And.intro (Int.natCast_nonneg _) (by rw[←h0];assumption)
  · rename_i h0 k hk hlt h
    rw[List.length_set,zaq];exact And.intro (Int.natCast_nonneg _) (by rw[←h0];assumption)
  · rename_i h0 k hk hlt h
    exact And.intro (by omega) (by omega)
  · rename_i h0 k hk hlt h
    have h0':l.length=xs.length:=Int.ofNat.inj h0
    have hlt':k<l.length:=Int.ofNat_lt.1 hlt
    have e3:=zuO (l:=l) (xs:=xs) (k:=k) (by omega)
    refine zai.mk ?_
    refine Exists.intro (k+1) ?_
    refine And.intro (Leaf.mk ?_) ?_
    · repeat' first|exact True.intro|refine And.intro ?_ ?_
      all_goals try ((change _=_<;>try dsimp only)<;>try with_reducible rfl)
      all_goals try omega
      all_goals (first|rfl|exact e3|exact e3.symm)
    refine⟨⟨(show k+1≤l.length by omega),fun i hi=>?_⟩,(show l.length - (k+1)<l.length - k by omega)⟩
    by_cases e:i=k
    · subst e;exact h
    · exact hk.2 i (by omega)
  all_goals try exact zaq.symm
  all_goals try exact zaq
  · rename_i h0 k hk hlt
    have h0':l.length=xs.length:=Int.ofNat.inj h0
    obtain rfl:k=xs.length:=by omega
    have e:=zqD (znq (r:=r) (v:=v) ⟨hc,h0'⟩ fun i hi=>hk.2 i (by omega))
    rw[e];exact⟨⟨rfl,rfl,rfl⟩,rfl⟩
end Go.Eng.Ar
namespace Go.Eng.Ar
open Go.Eng Go.Proofs Go.Lib
set_option linter.all false
set_option maxRecDepth 100000
set_option maxHeartbeats 8000000
theorem zfO (c:UInt8):∀l,Lib.join (zat c l) [c]=l
  | []=>Lib.join_one _ _
  | b :: l=>by
    have ih:=zfO c l
    cases hP:zat c l with
    | nil=>exact absurd hP (zeN c l)
    | cons q r=>
      rw[hP,Lib.join_cons] at ih
      simp only[zat,hP]
      split
      · rename_i e
        rw[Lib.join_cons,←ih,e];simp[Lib.joinTail]
      · rw[Lib.join_cons,←ih];rfl
theorem zt5 {p:ByteArray} (h:okP p=true):itoa (gdP p).1++32::itoa (gdP p).2.1=bL p:=by
  have h2:(cutB 32 p).length=2:=Classical.byContradiction fun hn=>by rw[zoj hn] at h;cases h
  rw[ziF h2,Bool.and_eq_true] at h
  rw[zn7 h2 h.1 h.2]
  dsimp only
  rw[(zcU (by decide) h.1).2.1,(zcU (by decide) h.2).2.1]
  have hj:=zfO 32 (bL p)
  have h2':(zat 32 (bL p)).length=2:=by simpa [cutB] using h2
  match hP:zat 32 (bL p),h2' with
  | [x,y],_=>
    have e:cutB 32 p=[bA x,bA y]:=by unfold cutB;rw[hP];rfl
    rw[hP,Lib.join_cons] at hj
    rw[e]
    show bL (bA x)++32::bL (bA y)=bL p
    rw[zbZ,zbZ,←hj];simp[Lib.joinTail]
theorem zo4 {s:ByteArray} {X:List zhM} (h:pgR s=(X,0,())):X=gdL (cutB 59 s) (cutB 59 s).length∧(∀i,i<(cutB 59 s).length→okP (strN (cutB 59 s) i)=true)∧(cutB 59 s).length≤8∧∀i,i<(cutB 59 s).length→zcO (gdP (strN (cutB 59 s) i)).1 (gdP (strN (cutB 59 s) i)).2.1=0:=by
  have hm:∀i,i<(cutB 59 s).length→strN (cutB 59 s) i∈cutB 59 s:=fun i hi=>by
    have:strN (cutB 59 s) i=(cutB 59 s)[i]:=by simp[strN,List.getD,List.getElem?_eq_getElem hi]
    rw[this];exact List.getElem_mem hi
  unfold pgR pgL at h
  split at h
  · rename_i h1
    split at h
    · rename_i h2
      split at h
      · rename_i h3
        refine⟨(congrArg Prod.fst h).symm,fun i hi=>List.all_eq_true.1 h1 _ (hm i hi),h2,fun i hi=>?_⟩
        have:=List.all_eq_true.1 h3 _ (hm i hi)
        exact of_decide_eq_true this
      · have:=congrArg (fun x:List zhM×Int×Unit=>x.2.1) h;cases this
    · have:=congrArg (fun x:List zhM×Int×Unit=>x.2.1) h;cases this
  · have:=congrArg (fun x:List zhM×Int×Unit=>x.2.1) h;cases this
theorem zyD {s:ByteArray}:(pgR s).1.length≤8:=by
  unfold pgR pgL
  repeat' split
  · show (tab _ _).length≤8;rw[zam];assumption
  all_goals exact Nat.zero_le _
theorem zpN {s:ByteArray} {X:List zhM} {xs:List SpkD} (h:pgR s=(X,0,())) (hl:X.length=xs.length) {i:Nat} (hi:i<xs.length):(spkN (zaB (wgS X) xs xs.length) i).2.1=(gdP (strN (cutB 59 s) i)).1∧(spkN (zaB (wgS X) xs xs.length) i).2.2.1=(gdP (strN (cutB 59 s) i)).2.1:=by
  obtain⟨rfl,h1,h2,h3⟩:=zo4 h
  have hl:(cutB 59 s).length=xs.length:=by rw[←hl];exact (zam _ _).symm
  have e:prN (gdL (cutB 59 s) (cutB 59 s).length) i=gdP (strN (cutB 59 s) i):=zaE _ _ _ _ (by omega)
  have e2:=zdf (f:=wgS (gdL (cutB 59 s) (cutB 59 s).length)) (xs:=xs) (k:=xs.length) hi
  rw[if_pos hi] at e2
  have e3:spkN (zaB (wgS (gdL (cutB 59 s) (cutB 59 s).length)) xs xs.length) i=wgS (gdL (cutB 59 s) (cutB 59 s).length) i (spkN xs i):=e2
  rw[e3];unfold wgS;rw[e];exact⟨rfl,rfl⟩
theorem zxC {α:Type} {f:Nat→α} {L:List α} {d:α} (h:∀i,i<L.length→f i=L.getD i d):tab f L.length=L:=by
  refine List.ext_getElem? fun i=>?_
  by_cases hi:i<L.length
  · have h1:=zaE f d L.length i hi
    rw[h i hi,List.getD_eq_getElem?_getD,List.getD_eq_getElem?_getD,List.getElem?_eq_getElem (by rw[zam];exact hi),List.getElem?_eq_getElem hi] at h1
    rw[List.getElem?_eq_getElem (by rw[zam];exact hi),List.getElem?_eq_getElem hi]
    exact congrArg some h1
  · rw[List.getElem?_eq_none (by rw[zam];omega),List.getElem?_eq_none (by omega)]
theorem zrv {s:ByteArray} {X:List zhM} {xs:List SpkD} (h:pgR s=(X,0,())) (hl:X.length=xs.length):fmtG (zaB (wgS X) xs xs.length)=s:=by
  have hv:=zo4 h
  have hl2:(zat 59 (bL s)).length=xs.length:=by
    rw[←hl,hv.1]
    have:(gdL (cutB 59 s) (cutB 59 s).length).length=(cutB 59 s).length:=zam _ _
    rw[this];simp[cutB]
  have e:tab (fun i=>gT (spkN (zaB (wgS X) xs xs.length) i)) (zat 59 (bL s)).length=zat 59 (bL s):=zxC (d:=[]) fun i hi=>by
    have hi2:i<(cutB 59 s).length:=by simpa [cutB] using hi
    have g:=zpN h hl (i:=i) (by omega)
    show gT (spkN (zaB (wgS X) xs xs.length) i)=_
    unfold gT
    rw[g.1,g.2,zt5 (hv.2.1 i hi2)]
    unfold strN cutB
    rw[List.getD_eq_getElem?_getD,List.getD_eq_getElem?_getD,List.getElem?_map,List.getElem?_eq_getElem hi]
    exact zbZ _
  rw[hl2] at e
  unfold fmtG fmtN
  rw[zaq,e,zfO]
  exact zte s
theorem zxd {s:ByteArray} {X:List zhM} {xs:List SpkD} (h:pgR s=(X,0,())) (hl:X.length=xs.length):gnIn (zaB (wgS X) xs xs.length):=by
  have hv:=zo4 h
  have hl3:(cutB 59 s).length=xs.length:=by rw[←hl,hv.1];exact (zam _ _).symm
  refine⟨by rw[zaq];omega,fun t ht=>?_⟩
  obtain⟨i,hi,rfl⟩:=List.mem_iff_getElem.1 ht
  have e:spkN (zaB (wgS X) xs xs.length) i=(zaB (wgS X) xs xs.length)[i]:=by
    unfold spkN;rw[List.getD_eq_getElem?_getD,List.getElem?_eq_getElem hi];rfl
  rw[←e]
  rw[zaq] at hi
  have g:=zpN h hl hi
  have hk:=hv.2.1 i (by omega)
  have h2:(cutB 32 (strN (cutB 59 s) i)).length=2:=Classical.byContradiction fun hn=>by rw[zoj hn] at hk;cases hk
  rw[ziF h2,Bool.and_eq_true] at hk
  unfold inSg
  rw[g.1,g.2,zn7 h2 hk.1 hk.2]
  exact⟨(zcU (by decide) hk.1).2.2.2,(zcU (by decide) hk.2).2.2.2⟩
theorem zxc {r v:Int} {s:ByteArray} {X:List zhM} {xs:List SpkD} (hc:(chkA r v xs).2=0) (h:pgR s=(X,0,())) (hl:X.length=xs.length):wgR r v xs X=((r,v,zaB (wgS X) xs xs.length,()),0,()):=by
  have hv:=zo4 h
  refine zqD (znq ⟨hc,hl⟩ fun i hi=>?_)
  have hl3:(cutB 59 s).length=X.length:=by rw[hv.1];exact (zam _ _).symm
  have e:prN X i=gdP (strN (cutB 59 s) i):=by rw[hv.1];exact zaE _ _ _ _ (by omega)
  rw[e];exact hv.2.2.2 i (by omega)
end Go.Eng.Ar
namespace Go.Eng.Ar
open Go.Eng Go.Proofs Go.Lib
set_option linter.all false
set_option maxRecDepth 100000
set_option maxHeartbeats 8000000
def zzQ (n:Nat):LoopAnn:={σ:=Nat,pat:=fun k=>[sI 12 k],inv:=fun k=>k≤n,meas:=fun k=>n - k}
@[reducible] def zuX:Spec:={pats:=[.dat ArrT,.dat (.sl zaD),.dat .str,.gw 3 .err,.gw 4 .err,.gw 2 PowT,.gw 1 I64],res:=[{t:=.bool}],pre:=fun x=>(∀s∈(show List SpkD from x.1.2.2.1),inSg s)∧x.2.2.2.2.2.1=powD,f:=fun _=>(true,())}
theorem zoZ (a:zaD.Den):(zbs (List.replicate 2 I64)).beq a a=true:=by
  obtain⟨(x:Int),(y:Int),⟨⟩⟩:=a
  show (decide (x=x)&&(decide (y=y)&&true))=true
  simp
theorem zxw {r v:Int} {xs:List SpkD} {l:List zaD.Den}:(wgR r v xs l).1.2.2.1.length≤xs.length:=by
  unfold wgR
  split
  · show (zaB (wgS l) xs xs.length).length≤_;rw[zaq];exact Nat.le_refl _
  · exact Nat.zero_le _
def txF (r v:Int) (xs:List SpkD) (l:List zaD.Den) (Y:ArrD) (d:Int):Prop:=wgR r v xs l=(Y,d,())
theorem tx1 {r v:Int} {xs:List SpkD} {l:List zaD.Den} {Y:ArrD} {d:Int} (h:txF r v xs l Y d) (hl:xs.length<11):pLen (wgR r v xs l).1.2.2.1.length∧pLen Y.2.2.1.length:=by
  have hY:wgR r v xs l=(Y,d,()):=h
  have h1:=zxw (r:=r) (v:=v) (xs:=xs) (l:=l)
  have h2:=h1
  rw[hY] at h2
  have h2:Y.2.2.1.length≤xs.length:=h2
  exact⟨(show ((wgR r v xs l).1.2.2.1.length:Int)≤4611686018427387904 by omega),(show (Y.2.2.1.length:Int)≤4611686018427387904 by omega)⟩
theorem tx2 {r v:Int} {xs:List SpkD} {l:List zaD.Den} {Y:ArrD} {d:Int} (h:txF r v xs l Y d):ztH ((wgR r v xs l).1.1,(wgR r v xs l).1.2.1,(wgR r v xs l).1.2.2.1,()) (Y.1,Y.2.1,Y.2.2.1,())=true:=by
  rw[show wgR r v xs l=(Y,d,()) from h];exact zpV _ _ _
theorem tx3 {r v:Int} {xs:List SpkD} {l:List zaD.Den} {Y:ArrD} {d:Int} (h:txF r v xs l Y d):(wgR r v xs l).2.1=d:=by
  rw[show wgR r v xs l=(Y,d,()) from h]
theorem zy6 : Ok 13 zuX:=by
  refine mk (ctr:=[(14,zmf),(24,sFew),(26,zvW),(28,zoR),(30,zq6),(66,zxZ),(67,znB),(68,zoM),(69,zu5),(70,zq2),(71,zny)]) ⟨h14,h24,h26,h28,h30,h66,h67,h68,h69,h70,h71,trivial⟩ (nt:=149) Tryz.func13 rfl rfl rfl rfl (by kernel_rfl) (by kernel_rfl) (fun x=>[fun _=>zzQ (pgR x.2.2.1).1.length]) ?_
  rintro⟨⟨(r:Int),(v:Int),(xs:List SpkD),⟨⟩⟩,(l:List zaD.Den),(s:ByteArray),(b0:Bool),(b1:Bool),(pw:PowT.Den),(m:Int),⟨⟩⟩ ⟨(hin:∀s∈xs,inSg s),(hpw:pw=powD)⟩
  by_cases hl:xs.length≤10
  · by_cases hl2 : (l.length:Int)≤10
    · by_cases hl3 : (s.size:Int)≤150
      · have hl' : xs.length<11:=Nat.lt_succ_of_le hl
        have hp':Hid (pLen xs.length):=by show (xs.length:Int)≤4611686018427387904;omega
        have hp2':Hid (pTen xs.length):=by show xs.length≤1000;omega
        have hls:l.length<11:=by omega
        have hss:s.size<151:=by omega
        have hgn:Hid (gnIn xs):=⟨hl,hin⟩
        clear hin
        obtain⟨X,c,hX⟩:∃X c,pgR s=(X,c,()):=⟨_,_,rfl⟩
        have hX8:X.length≤8:=by have:=zyD (s:=s);rw[hX] at this;exact this
        by_cases hc:(chkA r v xs).2=0
        · by_cases hk:c=0
          · subst hk
            by_cases hn:(X.length:Int)=xs.length
            · have hn':X.length=xs.length:=Int.ofNat.inj hn
              obtain⟨Y,d,hY⟩:∃Y d,wgR r v xs l=(Y,d,()):=⟨_,_,rfl⟩
              have hR:=zxc hc hX hn'
              have hF:=zrv hX hn'
              have hG:Hid (gnIn (zaB (wgS X) xs xs.length)):=zxd hX hn'
              have hWl:(zaB (wgS X) xs xs.length).length=xs.length:=zaq
              generalize zaB (wgS X) xs xs.length=W at *
              have hT:txF r v xs l Y d:=hY
              have hlx:xs.length=X.length:=hn'.symm
              repeat' (intro hzz;(try (rename Two=>hq;cases hq));(try dsimp only at hzz);(try simp only[zad,zac,eqD,inR,big,zab,zB] at hzz);(try simp only[zad,zac,eqD,inR,big,zab,zB,hl,hl2,hl3,hc,hn,hX,hY,hR,hF,hpw,List.nil_append,not_true_eq_false,not_false_eq_true,beq_self_eq_true,bne_self_eq_false] at hzz);(try (revert hzz;intro _)))
              all_goals try (rename Unit=>hq;clear hq)
              all_goals try ((with_reducible refine Held.mk ?_);(with_reducible (first|refine Frz.mk ?_|refine And.intro (Frz.mk ?_) ?_|refine And.intro ?_ (Frz.mk ?_)));repeat' first|exact True.intro|(change _=_;with_reducible rfl)|refine And.intro ?_ ?_|(with_reducible refine Frz.mk ?_))
              all_goals try (refine Held.mk ?_;(try dsimp only at *);(try simp only[zad,zac,eqD,inR,big,zab,zB] at *);(try simp only[zad,zac,eqD,inR,big,zab,zB,hl,hl2,hl3,hc,hn,hX,hY,hR,hF,hpw,List.nil_append,not_true_eq_false,not_false_eq_true,beq_self_eq_true,bne_self_eq_false] at *))
              all_goals try omega
              · exact hgn
              · exact hgn
              ·
                refine zai.mk ?_
                refine Exists.intro (0:Nat) ?_
                refine And.intro (Leaf.mk ?_) ?_
                · repeat' first|exact True.intro|refine And.intro ?_ ?_
                  all_goals try ((change _=_<;>try dsimp only)<;>try with_reducible rfl)
                  all_goals try omega
                  all_goals (rfl)
                exact Nat.zero_le _
              · rename_i h
                exact absurd ((zoZ _).symm.trans h) (by decide)
              · rename_i k hk hlt h
                have hlt':k<X.length:=by rw[←hlx];exact Int.ofNat_lt.1 hlt
                refine zai.mk ?_
                refine Exists.intro (k+1) ?_
                refine And.intro (Leaf.mk ?_) ?_
                · repeat' first|exact True.intro|refine And.intro ?_ ?_
                  all_goals try ((change _=_<;>try dsimp only)<;>try with_reducible rfl)
                  all_goals try omega
                  all_goals (rfl)
                rw[hX]
                exact⟨(show k+1≤X.length by omega),(show X.length - (k+1)<X.length - k by omega)⟩
              · show 0+l.length≤2147483648;omega
              · exact And.intro hp2' (show l.length≤1000 by omega)
              · exact hp'
              · exact tx1 hT hl'
              · rename_i h;exact absurd ((tx2 hT).symm.trans h) (by decide)
              · exact hp'
              · exact hG
              · rename_i h;exact absurd (tx3 hT) h
            · have hn2:¬(X.length:Int)=xs.length:=hn
              obtain⟨Y,d,hY⟩:∃Y d,wgR r v xs l=(Y,d,()):=⟨_,_,rfl⟩
              have hT:txF r v xs l Y d:=hY
              repeat' (intro hzz;(try (rename Two=>hq;cases hq));(try dsimp only at hzz);(try simp only[zad,zac,eqD,inR,big,zab,zB] at hzz);(try simp only[zad,zac,eqD,inR,big,zab,zB,hl,hl2,hl3,hc,hn,hX,hY,hpw,List.nil_append,not_true_eq_false,not_false_eq_true,beq_self_eq_true,bne_self_eq_false] at hzz);(try (revert hzz;intro _)))
              all_goals try (rename Unit=>hq;clear hq)
              all_goals try ((with_reducible refine Held.mk ?_);(with_reducible (first|refine Frz.mk ?_|refine And.intro (Frz.mk ?_) ?_|refine And.intro ?_ (Frz.mk ?_)));repeat' first|exact True.intro|(change _=_;with_reducible rfl)|refine And.intro ?_ ?_|(with_reducible refine Frz.mk ?_))
              all_goals try (refine Held.mk ?_;(try dsimp only at *);(try simp only[zad,zac,eqD,inR,big,zab,zB] at *);(try simp only[zad,zac,eqD,inR,big,zab,zB,hl,hl2,hl3,hc,hn,hX,hY,hpw,List.nil_append,not_true_eq_false,not_false_eq_true,beq_self_eq_true,bne_self_eq_false] at *))
              all_goals try omega
              · exact hgn
              · exact hgn
              ·
                refine zai.mk ?_
                refine Exists.intro (0:Nat) ?_
                refine And.intro (Leaf.mk ?_) ?_
                · repeat' first|exact True.intro|refine And.intro ?_ ?_
                  all_goals try ((change _=_<;>try dsimp only)<;>try with_reducible rfl)
                  all_goals try omega
                  all_goals (rfl)
                exact Nat.zero_le _
              · rename_i h
                exact absurd ((zoZ _).symm.trans h) (by decide)
              · rename_i k hk hlt h
                have hlt':k<X.length:=Int.ofNat_lt.1 hlt
                refine zai.mk ?_
                refine Exists.intro (k+1) ?_
                refine And.intro (Leaf.mk ?_) ?_
                · repeat' first|exact True.intro|refine And.intro ?_ ?_
                  all_goals try ((change _=_<;>try dsimp only)<;>try with_reducible rfl)
                  all_goals try omega
                  all_goals (rfl)
                rw[hX]
                exact⟨(show k+1≤X.length by omega),(show X.length - (k+1)<X.length - k by omega)⟩
              · show 0+l.length≤2147483648;omega
              · exact And.intro hp2' (show l.length≤1000 by omega)
              · exact hp'
              · exact tx1 hT hl'
              · rename_i h;exact absurd ((tx2 hT).symm.trans h) (by decide)
              · exact hp'
              · rename_i h;exact absurd (tx3 hT) h
          · obtain ⟨Y,d,hY⟩:∃Y d,wgR r v xs l=(Y,d,()):=⟨_,_,rfl⟩
            have hT:txF r v xs l Y d:=hY
            repeat' (intro hzz;(try (rename Two=>hq;cases hq));(try dsimp only at hzz);(try simp only[zad,zac,eqD,inR,big,zab,zB] at hzz);(try simp only[zad,zac,eqD,inR,big,zab,zB,hl,hl2,hl3,hc,hk,hX,hY,hpw,List.nil_append,not_true_eq_false,not_false_eq_true,beq_self_eq_true,bne_self_eq_false] at hzz);(try (revert hzz;intro _)))
            all_goals try (rename Unit=>hq;clear hq)
            all_goals try ((with_reducible refine Held.mk ?_);(with_reducible (first|refine Frz.mk ?_|refine And.intro (Frz.mk ?_) ?_|refine And.intro ?_ (Frz.mk ?_)));repeat' first|exact True.intro|(change _=_;with_reducible rfl)|refine And.intro ?_ ?_|(with_reducible refine Frz.mk ?_))
            all_goals try (refine Held.mk ?_;(try dsimp only at *);(try simp only[zad,zac,eqD,inR,big,zab,zB] at *);(try simp only[zad,zac,eqD,inR,big,zab,zB,hl,hl2,hl3,hc,hk,hX,hY,hpw,List.nil_append,not_true_eq_false,not_false_eq_true,beq_self_eq_true,bne_self_eq_false] at *))
            all_goals try omega
            · exact hgn
            · exact hgn
            ·
              refine zai.mk ?_
              refine Exists.intro (0:Nat) ?_
              refine And.intro (Leaf.mk ?_) ?_
              · repeat' first|exact True.intro|refine And.intro ?_ ?_
                all_goals try ((change _=_<;>try dsimp only)<;>try with_reducible rfl)
                all_goals try omega
                all_goals (rfl)
              exact Nat.zero_le _
            · rename_i h
              exact absurd ((zoZ _).symm.trans h) (by decide)
            · rename_i k hk hlt h
              have hlt':k<X.length:=Int.ofNat_lt.1 hlt
              refine zai.mk ?_
              refine Exists.intro (k+1) ?_
              refine And.intro (Leaf.mk ?_) ?_
              · repeat' first|exact True.intro|refine And.intro ?_ ?_
                all_goals try ((change _=_<;>try dsimp only)<;>try with_reducible rfl)
                all_goals try omega
                all_goals (rfl)
              rw[hX]
              exact⟨(show k+1≤X.length by omega),(show X.length - (k+1)<X.length - k by omega)⟩
            · show 0+l.length≤2147483648;omega
            · exact And.intro hp2' (show l.length≤1000 by omega)
            · exact hp'
            · exact tx1 hT hl'
            · rename_i h;exact absurd ((tx2 hT).symm.trans h) (by decide)
            · exact hp'
            · rename_i h;exact absurd (tx3 hT) h
        · have hZ:wgR r v xs l=((0,0,([]:List SpkD),()),(chkA r v xs).2,()):=by
            have e:zfV r v xs l=(chkA r v xs).2:=if_neg hc
            rw[zlO (by rw[e];exact hc),e]
          obtain⟨q,hq⟩:∃q,(chkA r v xs).2=q:=⟨_,rfl⟩
          rw[hq] at hZ hc
          have hT:txF r v xs l (0,0,([]:List SpkD),()) q:=hZ
          repeat' (intro hzz;(try (rename Two=>hq;cases hq));(try dsimp only at hzz);(try simp only[zad,zac,eqD,inR,big,zab,zB] at hzz);(try simp only[zad,zac,eqD,inR,big,zab,zB,hl,hl2,hl3,hq,hc,hX,hZ,hpw,List.nil_append,not_true_eq_false,not_false_eq_true,beq_self_eq_true,bne_self_eq_false] at hzz);(try (revert hzz;intro _)))
          all_goals try (rename Unit=>hq;clear hq)
          all_goals try ((with_reducible refine Held.mk ?_);(with_reducible (first|refine Frz.mk ?_|refine And.intro (Frz.mk ?_) ?_|refine And.intro ?_ (Frz.mk ?_)));repeat' first|exact True.intro|(change _=_;with_reducible rfl)|refine And.intro ?_ ?_|(with_reducible refine Frz.mk ?_))
          all_goals try (refine Held.mk ?_;(try dsimp only at *);(try simp only[zad,zac,eqD,inR,big,zab,zB] at *);(try simp only[zad,zac,eqD,inR,big,zab,zB,hl,hl2,hl3,hq,hc,hX,hZ,hpw,List.nil_append,not_true_eq_false,not_false_eq_true,beq_self_eq_true,bne_self_eq_false] at *))
          all_goals try omega
          · exact hgn
          · exact hgn
          ·
            refine zai.mk ?_
            refine Exists.intro (0:Nat) ?_
            refine And.intro (Leaf.mk ?_) ?_
            · repeat' first|exact True.intro|refine And.intro ?_ ?_
              all_goals try ((change _=_<;>try dsimp only)<;>try with_reducible rfl)
              all_goals try omega
              all_goals (rfl)
            exact Nat.zero_le _
          · rename_i h
            exact absurd ((zoZ _).symm.trans h) (by decide)
          · rename_i k hk hlt h
            have hlt':k<X.length:=Int.ofNat_lt.1 hlt
            refine zai.mk ?_
            refine Exists.intro (k+1) ?_
            refine And.intro (Leaf.mk ?_) ?_
            · repeat' first|exact True.intro|refine And.intro ?_ ?_
              all_goals try ((change _=_<;>try dsimp only)<;>try with_reducible rfl)
              all_goals try omega
              all_goals (rfl)
            rw[hX]
            exact⟨(show k+1≤X.length by omega),(show X.length - (k+1)<X.length - k by omega)⟩
          · show 0+l.length≤2147483648;omega
          · exact And.intro hp2' (show l.length≤1000 by omega)
          · exact hp'
          · exact tx1 hT hl'
          · rename_i h;exact absurd ((tx2 hT).symm.trans h) (by decide)
          · exact hp'
          · rename_i h;exact absurd (tx3 hT) h
      · have hl3':(150:Int)<s.size:=by omega
        repeat' (intro hzz;(try (rename Two=>hq;cases hq));(try dsimp only at hzz);(try simp only[zad,zac,eqD,inR,big,zab,zB] at hzz);(try simp only[zad,zac,eqD,inR,big,zab,zB,hl,hl2,hl3,hl3',hpw] at hzz);(try (first|contradiction|(exfalso;omega)));(try (revert hzz;intro _)))
        all_goals try (rename Unit=>hq;clear hq)
        all_goals try ((with_reducible refine Held.mk ?_);(with_reducible (first|refine Frz.mk ?_|refine And.intro (Frz.mk ?_) ?_|refine And.intro ?_ (Frz.mk ?_)));repeat' first|exact True.intro|(change _=_;with_reducible rfl)|refine And.intro ?_ ?_|(with_reducible refine Frz.mk ?_))
        all_goals try (refine Held.mk ?_;(try dsimp only at *);(try simp only[zad,zac,eqD,inR,big,zab,zB] at *);(try simp only[zad,zac,eqD,inR,big,zab,zB,hl,hl2,hl3,hl3',hpw] at *))
        all_goals try omega
    · have hl2':(10:Int)<l.length:=by omega
      repeat' (intro hzz;(try (rename Two=>hq;cases hq));(try dsimp only at hzz);(try simp only[zad,zac,eqD,inR,big,zab,zB] at hzz);(try simp only[zad,zac,eqD,inR,big,zab,zB,hl,hl2,hl2',hpw] at hzz);(try (first|contradiction|(exfalso;omega)));(try (revert hzz;intro _)))
      all_goals try (rename Unit=>hq;clear hq)
      all_goals try ((with_reducible refine Held.mk ?_);(with_reducible (first|refine Frz.mk ?_|refine And.intro (Frz.mk ?_) ?_|refine And.intro ?_ (Frz.mk ?_)));repeat' first|exact True.intro|(change _=_;with_reducible rfl)|refine And.intro ?_ ?_|(with_reducible refine Frz.mk ?_))
      all_goals try (refine Held.mk ?_;(try dsimp only at *);(try simp only[zad,zac,eqD,inR,big,zab,zB] at *);(try simp only[zad,zac,eqD,inR,big,zab,zB,hl,hl2,hl2',hpw] at *))
      all_goals try omega
  · have hlX:xs.length<11→False:=fun h=>by omega
    repeat' (intro hzz;(try (rename Two=>hq;cases hq));(try dsimp only at hzz);(try simp only[zad,zac,eqD,inR,big,zab,zB] at hzz);(try simp only[zad,zac,eqD,inR,big,zab,zB,hl,hpw] at hzz);(try (first|contradiction|(exfalso;omega)));(try (revert hzz;intro _)))
    all_goals try (rename Unit=>hq;clear hq)
    all_goals try ((with_reducible refine Held.mk ?_);(with_reducible (first|refine Frz.mk ?_|refine And.intro (Frz.mk ?_) ?_|refine And.intro ?_ (Frz.mk ?_)));repeat' first|exact True.intro|(change _=_;with_reducible rfl)|refine And.intro ?_ ?_|(with_reducible refine Frz.mk ?_))
    all_goals try (refine Held.mk ?_;(try dsimp only at *);(try simp only[zad,zac,eqD,inR,big,zab,zB] at *);(try simp only[zad,zac,eqD,inR,big,zab,zB,hl,hpw] at *))
    all_goals try omega
end Go.Eng.Ar
