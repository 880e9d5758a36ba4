/- Contracts of the library's functions on texts, as the executor takes them. Conditions: the variables ErrSyntax, ErrRange hold errors, the table of powers its numbers. -/
import Derived.Test.YtnficfhnfpbhkaaGreatDoorSH
import Derived.Test.YtnficfhnfpbhkaaGreatDoorX0
import Derived.Test.YtnficfhnfpbhkaaGreatDoorQ16
namespace Go.Eng.Pu
open Go.Eng Go.Proofs Go.Lib
set_option linter.all false
set_option maxRecDepth 100000
set_option maxHeartbeats 8000000

abbrev PowT : Ty := chain (List.replicate 20 (.int .u64))
def powD : PowT.Den := ((1 : Int), (10 : Int), (100 : Int), (1000 : Int), (10000 : Int), (100000 : Int), (1000000 : Int), (10000000 : Int), (100000000 : Int), (1000000000 : Int), (10000000000 : Int), (100000000000 : Int), (1000000000000 : Int), (10000000000000 : Int), (100000000000000 : Int), (1000000000000000 : Int), (10000000000000000 : Int), (100000000000000000 : Int), (1000000000000000000 : Int), (10000000000000000000 : Int), ())

theorem rep_ints {V : View} {k : IntKind} : ∀ (n : Nat) (x : (chain (List.replicate n (.int k))).Den) (l : List Value), Rep V (chain (List.replicate n (.int k))) x l → l = (chL (.int k) n x).map (Value.int k)
  | 0, _, l, h => h
  | n + 1, x, l, h => by
    obtain ⟨l1, l2, rfl, h1, h2⟩ := h
    have h1 : l1 = [.int k x.1] := h1
    rw [h1, rep_ints n x.2 l2 h2]
    rfl

theorem rep_pow {V : View} {l : List Value} (h : Rep V PowT powD l) : l = pow10Tab.map (Value.int .u64) := by
  rw [rep_ints 20 powD l h]
  have : chL (.int .u64) 20 powD = pow10Tab := by decide +kernel
  rw [this]

theorem v_int {V : View} {k : IntKind} {n : Int} {v : Value} (h : RepV V (.int k) n v) : v = .int k n := by
  obtain ⟨l, h1, ⟨h2, _⟩ | ⟨_, h2⟩⟩ := h
  · cases h2
  · have h1 : l = [.int k n] := h1
    rw [h1] at h2; simpa using h2.symm
theorem v_str {V : View} {s : ByteArray} {v : Value} (h : RepV V .str s v) : v = .string s := by
  obtain ⟨l, h1, ⟨h2, _⟩ | ⟨_, h2⟩⟩ := h
  · cases h2
  · have h1 : l = [.string s] := h1
    rw [h1] at h2; simpa using h2.symm

theorem post_same {OB : Nat → Obj → Prop} {w : World} : CPost OB w w [] := ⟨rfl, rfl, rfl, Nat.le_refl _, fun _ _ _ => rfl, fun _ h => by cases h⟩
theorem post_bytes {OB : Nat → Obj → Prop} {w : World} {e : TypeId} {t : ByteArray} : CPost OB w (bytesWorld w e t) [] := by
  refine ⟨rfl, rfl, rfl, ?_, fun b hb _ => bytesWorld_at_old w e t b hb, fun _ h => by cases h⟩
  simp [bytesWorld, World.freeze, World.alloc, World.drew, -World.alloc_eq, -World.drew_eq]
theorem post_below {OB : Nat → Obj → Prop} {w w' : World} (h : RowKit.Below w.heap.size w w') : CPost OB w w' [] :=
  ⟨h.os, h.tape, h.output, h.size, fun b hb _ => h.block b hb, fun _ h => by cases h⟩

@[reducible] def sItoa : Spec := { pats := [.dat I64, .gw 3 PowT], res := [{ t := .str }], pre := fun x => (-9223372036854775808 ≤ x.1 ∧ x.1 ≤ 9223372036854775807) ∧ x.2.1 = powD, f := fun x => (bA (itoa x.1), ()) }
/-- strconv.Itoa -/
theorem hItoa : Ok 20 sItoa := by
  refine ⟨?_, Tryz.f20, Tryz.func20, by kernel_rfl, by kernel_rfl⟩
  rintro w M ⟨(n : Int), (x : PowT.Den), _⟩ vs bs hM ⟨v, vs', rfl, hv, ⟨c, el, f, h1, h2, h3, h4⟩, rfl, rfl⟩ ⟨⟨(hn0 : -9223372036854775808 ≤ n), (hn1 : n ≤ 9223372036854775807)⟩, (hx : x = powD)⟩
  obtain rfl := v_int hv
  subst hx
  have hc := rep_pow h4
  refine (Any.strconv_Itoa Tryz.laysM171 n hn0 hn1 w ?_).mono ?_
  · unfold Lib.TabIs World.var?
    rw [show Tryz.prog.globalNamed _ = some 3 from by kernel_rfl]
    simp only [Option.bind_some, h1]
    congr 1
    exact Array.toList_inj.1 (by rw [hc])
  rintro e w' ⟨rfl, k, os, rfl⟩
  refine ⟨[.string _], none, rfl, ⟨rfl, rfl, rfl, (by show w.heap.size ≤ (w.heap ++ os).size; simp), fun b hb _ => ?_, fun _ h => by cases h⟩, _, _, rfl, RepV.mk1 rfl rfl, rfl, rfl⟩
  show (w.heap ++ os)[b]? = w.heap[b]?
  exact Array.getElem?_append_left hb

def atoiR (l : List UInt8) : Int × Bool × Unit := match atoiAll l with
  | .ok v => (v, false, ())
  | .range => (atoiSat l, true, ())
  | _ => (0, true, ())

theorem err_cell {V : View} {w : World} {M : Nat → Prop} {g : Nat} {b : Bool} (h : ∃ c el f, w.heap[g]? = some (.cells c el f) ∧ ¬ M g ∧ c.size = Ty.size .err ∧ Rep V .err b c.toList) :
    ∃ ev, w.cell? ⟨g, 0, none⟩ = some ev ∧ (ev = .nilIface ∨ ∃ te pe, ev = .iface te pe) := by
  obtain ⟨c, el, f, h1, _, _, h4⟩ := h
  have key : ∀ ev, c.toList = [ev] → w.cell? ⟨g, 0, none⟩ = some ev := fun ev he => by
    rw [cell_of h1, ← Array.getElem?_toList, he]; rfl
  rcases h4 with ⟨_, h5⟩ | ⟨_, t, u, h5⟩
  · exact ⟨_, key _ h5, .inl rfl⟩
  · exact ⟨_, key _ h5, .inr ⟨t, u, rfl⟩⟩

@[reducible] def sAtoi : Spec := { pats := [.dat .str, .gw 1 .err, .gw 2 .err], res := [{ t := I64 }, { t := .err }], pre := fun x => x.1.size ≤ 1000000, f := fun x => atoiR (bL x.1) }
/-- strconv.Atoi -/
theorem hAtoi : Ok 24 sAtoi := by
  refine ⟨?_, Tryz.f24, Tryz.func24, by kernel_rfl, by kernel_rfl⟩
  rintro w M ⟨(s : ByteArray), (b0 : Bool), (b1 : Bool), _⟩ vs bs hM ⟨v, vs', rfl, hv, g0, g1, rfl, rfl⟩ (hs : s.size ≤ 1000000)
  obtain rfl := v_str hv
  obtain ⟨e0, hv0, he0⟩ := err_cell g0
  obtain ⟨e1, hv1, he1⟩ := err_cell g1
  cases hr : atoiAll s.data.toList with
  | ok n =>
    refine (Tryz.strconv_Atoi_ok s (by omega) n hr w).mono ?_
    rintro e w' ⟨rfl, hw⟩
    have hf : sAtoi.f (s, b0, b1, ()) = (n, false, ()) := by show atoiR s.data.toList = _; simp only [atoiR, hr]
    rw [hf]
    refine ⟨[.int .i64 n, .nilIface], none, rfl, ?_, _, _, rfl, RepV.mk1 rfl rfl, _, _, rfl, RepV.mk1 rfl (.inl ⟨rfl, rfl⟩), rfl, rfl⟩
    rcases hw with rfl | ⟨t, rfl⟩
    · exact post_same
    · exact post_bytes
  | range =>
    refine (Tryz.strconv_Atoi_range s (by omega) hr e1 w hv1 he1).mono ?_
    rintro e w' ⟨N, rfl, hN, hN2, hB⟩
    have hf : sAtoi.f (s, b0, b1, ()) = (atoiSat s.data.toList, true, ()) := by show atoiR s.data.toList = _; simp only [atoiR, hr]
    rw [hf]
    refine ⟨[.int .i64 _, .iface 133 (.pointer (some ⟨N, 0, none⟩))], none, rfl, post_below hB, _, _, rfl, RepV.mk1 rfl rfl, _, _, rfl, RepV.mk1 rfl (.inr ⟨rfl, _, _, rfl⟩), rfl, rfl⟩
  | _ =>
    refine (Tryz.strconv_Atoi_syntax s (by omega) (fun v h => by rw [hr] at h; cases h) (fun h => by rw [hr] at h; cases h) e0 w hv0 he0).mono ?_
    rintro e w' ⟨N, rfl, hN, hN2, hB⟩
    have hf : sAtoi.f (s, b0, b1, ()) = (0, true, ()) := by show atoiR s.data.toList = _; simp only [atoiR, hr]
    rw [hf]
    refine ⟨[.int .i64 0, .iface 133 (.pointer (some ⟨N, 0, none⟩))], none, rfl, post_below hB, _, _, rfl, RepV.mk1 rfl rfl, _, _, rfl, RepV.mk1 rfl (.inr ⟨rfl, _, _, rfl⟩), rfl, rfl⟩

@[reducible] def sTrim : Spec := { pats := [.dat .str, .dat .str], res := [{ t := .str }], pre := fun _ => True, f := fun x => (bA (trimPrefix (bL x.1) (bL x.2.1)), ()) }
/-- strings.TrimPrefix -/
theorem hTrim : Ok 25 sTrim := by
  refine ⟨?_, Tryz.f25, Tryz.func25, by kernel_rfl, by kernel_rfl⟩
  rintro w M ⟨(s : ByteArray), (p : ByteArray), _⟩ vs bs hM ⟨v, vs', rfl, hv, u, us, rfl, hu, rfl, rfl⟩ _
  obtain rfl := v_str hv
  obtain rfl := v_str hu
  refine (Tryz.strings_TrimPrefix s p w).mono ?_
  rintro e w' ⟨rfl, rfl⟩
  exact ⟨[.string _], none, rfl, post_same, _, _, rfl, RepV.mk1 rfl rfl, rfl, rfl⟩

theorem cutB_len (c : UInt8) (s : ByteArray) : (cutB c s).length ≤ s.size + 1 := by
  have := pieces_len c (bL s)
  rw [bL_len] at this
  simpa [cutB] using this

theorem v_sl {V : View} {e : Ty} {xs : List e.Den} {v : Value} (h : RepV V (.sl e) xs v) : Rep V (.sl e) xs [v] := by
  obtain ⟨l, h1, ⟨h2, _⟩ | ⟨_, h2⟩⟩ := h
  · cases h2
  · rw [← h2]; exact h1

def joinB (xs : List ByteArray) (c : UInt8) : ByteArray := bA (Lib.join (xs.map bL) [c])

@[reducible] def sJoin : Spec := { pats := [.dat (.sl .str), .dat .str], res := [{ t := .str }], pre := fun x => x.2.1 = bA [32] ∧ List.length (α := ByteArray) x.1 ≤ 1000000 ∧ (joinB x.1 32).size ≤ 1000000, f := fun x => (joinB x.1 32, ()) }
/-- strings.Join with a blank -/
theorem hJoin : Ok 21 sJoin := by
  refine ⟨?_, Tryz.f21, Tryz.func21, by kernel_rfl, by kernel_rfl⟩
  rintro w M ⟨(xs : List ByteArray), (p : ByteArray), _⟩ vs bs hM ⟨v, vs', rfl, hv, u, us, rfl, hu, rfl, rfl⟩ ⟨(hp : p = bA [32]), (hl : List.length (α := ByteArray) xs ≤ 1000000), (hj : (joinB xs 32).size ≤ 1000000)⟩
  obtain rfl := v_str hu
  subst hp
  obtain ⟨a, cap, e1, e2, e3, e4, e5⟩ := v_sl hv
  have e1 : v = .slice a (List.length (α := ByteArray) xs) cap := (List.cons.inj e1).1
  subst e1
  by_cases hx : xs = []
  · subst hx
    refine (Tryz.strings_Join_none a cap (bA [32]) w).mono ?_
    rintro e w' ⟨rfl, rfl⟩
    exact ⟨[.string _], none, rfl, post_same, _, _, rfl, RepV.mk1 rfl rfl, rfl, rfl⟩
  · cases a with
    | none => exact absurd (e4 rfl).1 hx
    | some ad =>
      obtain ⟨hsp, c, ⟨hM', el, f, hh⟩, hsz, hi⟩ := e5 ad rfl hx
      obtain ⟨bk, o, sp⟩ := ad
      have hsp : sp = none := hsp
      subst hsp
      have hcells : ∀ (j : Nat) (x : ByteArray), xs[j]? = some x → w.cell? ⟨bk, o + j, none⟩ = some (.string x) := fun j x hx => by
        have h := hi j x hx
        have h : (c.toList.drop (o + j * 1)).take 1 = [.string x] := h
        rw [cell_of hh, ← Array.getElem?_toList]
        have h2 : ((c.toList.drop (o + j * 1)).take 1)[0]? = some (.string x) := by rw [h]; rfl
        rw [List.getElem?_take, if_pos (by decide), List.getElem?_drop] at h2
        simpa using h2
      have hb : bk < w.heap.size := lt_of_heap hh
      have hjl : (Lib.join (xs.map (·.data.toList)) (bA [32]).data.toList).length ≤ 140737488355328 := by
        have : (joinB xs 32).size = (Lib.join (xs.map bL) [32]).length := bA_size _
        have e : (Lib.join (xs.map (·.data.toList)) (bA [32]).data.toList) = Lib.join (xs.map bL) [32] := by rw [show (bA [32]).data.toList = [32] from bL_bA [32]]
        rw [e]; omega
      refine (Tryz.strings_Join bk o cap xs (bA [32]) w hcells hb (by omega) e2 hjl).mono ?_
      rintro e w' ⟨rfl, hB⟩
      refine ⟨[.string _], none, rfl, post_below hB, _, _, rfl, RepV.mk1 rfl ?_, rfl, rfl⟩
      show [Value.string _] = [Value.string (joinB xs 32)]
      rw [show (bA [32]).data.toList = [32] from bL_bA [32]]
      rfl

end Go.Eng.Pu
