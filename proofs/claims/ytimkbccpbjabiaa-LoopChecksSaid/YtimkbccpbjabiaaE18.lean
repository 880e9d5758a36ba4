/- Regions whose order is open: their operations' facts with all that may do away with them, and the verification condition that covers each order. Definitions alone; nothing is proved here. -/
import Derived.Test.YtimkbccpbjabiaaE14
set_option linter.all false
namespace Go.Eng

def forceCs : List (Nat × Nat) → (List (Nat × Nat) → Prop) → Prop
  | [], K => K []
  | (a, b) :: r, K => forceN a fun a' => forceN b fun b' => forceCs r fun r' => K ((a', b') :: r')

def forceKill (k : Kill) (K : Kill → Prop) : Prop :=
  forceNs k.slots fun a => forceNs k.keys fun b => forceCs k.cells fun c => forceNs k.rows fun d => forceNs k.allof fun e => forceNs k.cont fun f =>
    K { slots := a, keys := b, cells := c, rows := d, allof := e, cont := f }

def forceKs : List Kill → (List Kill → Prop) → Prop
  | [], K => K []
  | k :: r, K => forceKill k fun k' => forceKs r fun r' => K (k' :: r')

theorem forceCs_eq : ∀ (l : List (Nat × Nat)) (K : List (Nat × Nat) → Prop), forceCs l K = K l
  | [], K => rfl
  | (a, b) :: r, K => by simp only [forceCs, forceN_eq, forceCs_eq r]

theorem forceKs_eq : ∀ (l : List Kill) (K : List Kill → Prop), forceKs l K = K l
  | [], K => rfl
  | k :: r, K => by simp only [forceKs, forceKill, forceNs_eq, forceCs_eq, forceKs_eq r]

/-- A fact with the operation that gives it (a power of two; nought for what is known ahead) and those that may do away with it (bits). -/
structure PF where
  src : Nat
  kill : Nat
  f : Fact

def killers (f : Fact) : Nat → Nat → List Kill → Nat
  | acc, _, [] => acc
  | acc, b, K :: r => bif K.surv f then killers f acc (2 * b) r else killers f (Nat.lor acc b) (2 * b) r

def maskPF (bef naft : Nat) : List PF → St
  | [] => []
  | ⟨src, kill, f⟩ :: r => bif Nat.beq (Nat.land src bef) src && Nat.beq (Nat.land kill naft) 0 then f :: maskPF bef naft r else maskPF bef naft r

def naftOf (bi : Nat) : Nat → List Nat → Nat
  | _, [] => 0
  | b, m :: r => bif Nat.beq b bi || !Nat.beq (Nat.land m bi) 0 then naftOf bi (2 * b) r else Nat.lor b (naftOf bi (2 * b) r)

def exclOf (bl ml : Nat) : Nat → List Nat → Nat
  | _, [] => 0
  | b, _ :: r => bif Nat.beq b bl || !Nat.beq (Nat.land ml b) 0 then exclOf bl ml (2 * b) r else Nat.lor b (exclOf bl ml (2 * b) r)

def tagK (ks : List Kill) (src excl : Nat) : St → List PF → (List PF → Prop) → Prop
  | [], acc, K => K acc
  | f :: r, acc, K => forceN (killers f 0 1 ks) fun q => forceN (Nat.land q excl) fun m => tagK ks src excl r (⟨src, m, f⟩ :: acc) K

/-- The same ahead of the region: nothing is left out. -/
def tag0 (ks : List Kill) : St → (List PF → Prop) → Prop
  | [], K => K []
  | f :: r, K => forceN (killers f 0 1 ks) fun m => tag0 ks r fun acc => K (⟨0, m, f⟩ :: acc)

def subN : List Nat → List Nat → Bool
  | [], _ => true
  | n :: r, l => memN n l && subN r l

def subC : List (Nat × Nat) → List (Nat × Nat) → Bool
  | [], _ => true
  | n :: r, l => memC n.1 n.2 l && subC r l

def subKill (K K' : Kill) : Bool :=
  subN K.slots K'.slots && subN K.keys K'.keys && subC K.cells K'.cells && subN K.rows K'.rows && subN K.allof K'.allof && subN K.cont K'.cont

/-- New slices that a later operation needs as data become data at once. -/
def frzRes : List Nat → Res → Option Res
  | [], r => some r
  | k :: l, r => bif memN k r.kill.keys then (match freeze k r.add with
      | some (p, add) => frzRes l { ob := some (r.ob.hold ∧ Frz p), add := add, kill := r.kill }
      | none => frzRes l r) else frzRes l r

def parOne (c : Cfg) (need : List Nat) (Ki : Kill) (o : Oper) (M : St) (K : St → Prop) : Prop :=
  match stepRes c M o with
  | some r => match frzRes need r with
    | some r' => bif subKill r'.kill Ki then r'.ob.andK (force r'.add K) else False
    | none => False
  | none => False

def undefP (c : Cfg) (Ki : Kill) (d : Option Nat) (K : St → Prop) : Prop :=
  match d with
  | none => K []
  | some d => bif Nat.blt d c.nt && memN d Ki.slots then K [.slot d (.one (.v (.tuple #[])))] else False

def findPF (t : Nat) : List PF → Option (Nat × Nat × Bool)
  | [] => none
  | p :: r => match p with
    | ⟨src, kill, .slot t' (.one (.d .bool x))⟩ => bif Nat.beq t' t then some (src, kill, x) else findPF t r
    | _ => findPF t r

def isYes : GV → Bool
  | .yes => true
  | _ => false

def isNo : GV → Bool
  | .no => true
  | _ => false

def parOps (c : Cfg) (ops : Array Oper) (need : List Nat) (befs : List Nat) (ks : List Kill) : List Oper → List Nat → List Kill → Nat → List PF → (List PF → Prop) → Prop
  | [], _, _, _, acc, K => K acc
  | o :: r, m :: ms, Ki :: kr, b, acc, K =>
    forceN (naftOf b 1 befs) fun na => forceN (exclOf b m 1 befs) fun ex =>
    let cont := fun acc add => tagK ks b ex add acc fun acc' => forceN (2 * b) fun b' => parOps c ops need befs ks r ms kr b' acc' K
    match guardOf c ops (maskPF m na acc) o with
    | .yes => force (maskPF m na acc) fun M => parOne c need Ki o M (cont acc)
    | .no => undefP c Ki o.dst (cont acc)
    | .open_ t _ => match findPF t acc with
      | some (src, kill, x) =>
        let acc1 := ⟨src, kill, .slot t (.one (.lb (wantOf o)))⟩ :: acc
        let acc2 := ⟨src, kill, .slot t (.one (.lb (!wantOf o)))⟩ :: acc
        bif isYes (guardOf c ops (maskPF m na acc1) o) && isNo (guardOf c ops (maskPF m na acc2) o) then
          both (x = wantOf o → force (maskPF m na acc1) fun M => parOne c need Ki o M (cont acc1))
            (x = (!wantOf o) → undefP c Ki o.dst (cont acc2))
        else False
      | none => False
    | .bad => False
  | _, _, _, _, _, _ => False

/-! ### The tables, laid out ahead -/

def befEdges (tbl : List Nat) : List Edge → Nat
  | [] => 0
  | e :: r => bif Region.binds .any e then Nat.lor (Nat.lor (Nat.pow 2 e.on) (match nth tbl e.on with | some m => m | none => 0)) (befEdges tbl r) else befEdges tbl r

def mkBef : List Oper → List Nat → (List Nat → Prop) → Prop
  | [], tbl, K => K tbl
  | o :: r, tbl, K => forceN (befEdges tbl o.after.toList) fun m => forceNs (tbl ++ [m]) fun tbl' => mkBef r tbl' K

def edgesLt (i : Nat) : List Edge → Bool
  | [] => true
  | e :: r => (bif Region.binds .any e then Nat.blt e.on i else true) && edgesLt i r

def chkBef (all : List Nat) : List Oper → List Nat → Nat → Bool
  | [], [], _ => true
  | o :: r, m :: ms, i => Nat.beq m (befEdges all o.after.toList) && edgesLt i o.after.toList && chkBef all r ms (i + 1)
  | _, _, _ => false

def hintKs (c : Cfg) (ops : Array Oper) : List Oper → St → List Kill → List Nat → (List Kill → List Nat → Prop) → Prop
  | [], _, ks, need, K => forceKs ks.reverse fun ks' => K ks' need
  | o :: r, st, ks, need, K =>
    let run := fun (st : St) =>
      match freezes (needKeys st o) st with
      | some (_, st1) => match stepRes c st1 o with
        | some q => force (after st1 q) fun st' => forceKill q.kill fun k => forceNs (needKeys st o ++ need) fun need' => hintKs c ops r st' (k :: ks) need' K
        | none => False
      | none => False
    match guardOf c ops st o with
    | .yes => run st
    | .no => hintKs c ops r (undefSt o.dst st) ((match o.dst with | some d => { slots := [d] } | none => {}) :: ks) need K
    | .open_ _ _ => run st
    | .bad => False

def finals : List PF → St
  | [] => []
  | ⟨_, kill, f⟩ :: r => bif Nat.beq kill 0 then f :: finals r else finals r

/-- The verification condition of a region whose order is open. -/
def par (c : Cfg) (ops : Array Oper) (st : St) (K : St → Prop) : Prop :=
  mkBef ops.toList [] fun befs =>
    bif chkBef befs ops.toList befs 0 then
      hintKs c ops ops.toList st [] [] fun ks need =>
        match freezes need st with
        | some (p, st1) => p.andK (force st1 fun st2 => tag0 ks st2 fun acc => parOps c ops need befs ks ops.toList befs ks 1 acc fun acc' => force (finals acc') K)
        | none => False
    else False

end Go.Eng
