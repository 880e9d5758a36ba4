/- Contracts of the library's functions on texts, as the executor takes them. Conditions: the variables ErrSyntax, ErrRange hold errors, the table of powers its numbers. -/
import Derived.Test.YtacgcendcdiodaaDoorSH
import Derived.Test.YtacgcendcdiodaaDoorX0
import Derived.Test.YtacgcendcdiodaaDoorL6
namespace Go.Eng.Lp
open Go.Eng Go.Proofs Go.Lib
set_option linter.all false
set_option maxRecDepth 100000
set_option maxHeartbeats 8000000

abbrev PowT : Ty := chain (List.replicate 20 (.int .u64))
def powD : PowT.Den := ((1 : Int), (10 : Int), (100 : Int), (1000 : Int), (10000 : Int), (100000 : Int), (1000000 : Int), (10000000 : Int), (100000000 : Int), (1000000000 : Int), (10000000000 : Int), (100000000000 : Int), (1000000000000 : Int), (10000000000000 : Int), (100000000000000 : Int), (1000000000000000 : Int), (10000000000000000 : Int), (100000000000000000 : Int), (1000000000000000000 : Int), (10000000000000000000 : Int), ())

theorem rep_ints {V : View} {k : IntKind} : ∀ (n : Nat) (x : (chain (List.replicate n (.int k))).Den) (l : List Value), Rep V (chain (List.replicate n (.int k))) x l → l = (chL (.int k) n x).map (Value.int k)
  | 0, _, l, h => h
  | n + 1, x, l, h => by
    obtain ⟨l1, l2, rfl, h1, h2⟩ := h
    have h1 : l1 = [.int k x.1] := h1
    rw [h1, rep_ints n x.2 l2 h2]
    rfl

theorem rep_pow {V : View} {l : List Value} (h : Rep V PowT powD l) : l = pow10Tab.map (Value.int .u64) := by
  rw [rep_ints 20 powD l h]
  have : chL (.int .u64) 20 powD = pow10Tab := by decide +kernel
  rw [this]

theorem v_int {V : View} {k : IntKind} {n : Int} {v : Value} (h : RepV V (.int k) n v) : v = .int k n := by
  obtain ⟨l, h1, ⟨h2, _⟩ | ⟨_, h2⟩⟩ := h
  · cases h2
  · have h1 : l = [.int k n] := h1
    rw [h1] at h2; simpa using h2.symm
theorem v_str {V : View} {s : ByteArray} {v : Value} (h : RepV V .str s v) : v = .string s := by
  obtain ⟨l, h1, ⟨h2, _⟩ | ⟨_, h2⟩⟩ := h
  · cases h2
  · have h1 : l = [.string s] := h1
    rw [h1] at h2; simpa using h2.symm

theorem post_same {OB : Nat → Obj → Prop} {w : World} : CPost OB w w [] := ⟨rfl, rfl, rfl, Nat.le_refl _, fun _ _ _ => rfl, fun _ h => by cases h⟩
theorem post_bytes {OB : Nat → Obj → Prop} {w : World} {e : TypeId} {t : ByteArray} : CPost OB w (bytesWorld w e t) [] := by
  refine ⟨rfl, rfl, rfl, ?_, fun b hb _ => bytesWorld_at_old w e t b hb, fun _ h => by cases h⟩
  simp [bytesWorld, World.freeze, World.alloc, World.drew, -World.alloc_eq, -World.drew_eq]
theorem post_below {OB : Nat → Obj → Prop} {w w' : World} (h : RowKit.Below w.heap.size w w') : CPost OB w w' [] :=
  ⟨h.os, h.tape, h.output, h.size, fun b hb _ => h.block b hb, fun _ h => by cases h⟩

@[reducible] def sItoa : Spec := { pats := [.dat I64, .gw 2 PowT], res := [{ t := .str }], pre := fun x => (-9223372036854775808 ≤ x.1 ∧ x.1 ≤ 9223372036854775807) ∧ x.2.1 = powD, f := fun x => (bA (itoa x.1), ()) }
/-- strconv.Itoa -/
theorem hItoa : Ok 17 sItoa := by
  refine ⟨?_, Tryd.f17, Tryd.func17, by kernel_rfl, by kernel_rfl⟩
  rintro w M ⟨(n : Int), (x : PowT.Den), _⟩ vs bs hM ⟨v, vs', rfl, hv, ⟨c, el, f, h1, h2, h3, h4⟩, rfl, rfl⟩ ⟨⟨(hn0 : -9223372036854775808 ≤ n), (hn1 : n ≤ 9223372036854775807)⟩, (hx : x = powD)⟩
  obtain rfl := v_int hv
  subst hx
  have hc := rep_pow h4
  refine (Any.strconv_Itoa Tryd.laysM171 n hn0 hn1 w ?_).mono ?_
  · unfold Lib.TabIs World.var?
    rw [show Tryd.prog.globalNamed _ = some 2 from by kernel_rfl]
    simp only [Option.bind_some, h1]
    congr 1
    exact Array.toList_inj.1 (by rw [hc])
  rintro e w' ⟨rfl, k, os, rfl⟩
  refine ⟨[.string _], none, rfl, ⟨rfl, rfl, rfl, (by show w.heap.size ≤ (w.heap ++ os).size; simp), fun b hb _ => ?_, fun _ h => by cases h⟩, _, _, rfl, RepV.mk1 rfl rfl, rfl, rfl⟩
  show (w.heap ++ os)[b]? = w.heap[b]?
  exact Array.getElem?_append_left hb

def atoiR (l : List UInt8) : Int × Bool × Unit := match atoiAll l with
  | .ok v => (v, false, ())
  | .range => (atoiSat l, true, ())
  | _ => (0, true, ())

theorem err_cell {V : View} {w : World} {M : Nat → Prop} {g : Nat} {b : Bool} (h : ∃ c el f, w.heap[g]? = some (.cells c el f) ∧ ¬ M g ∧ c.size = Ty.size .err ∧ Rep V .err b c.toList) :
    ∃ ev, w.cell? ⟨g, 0, none⟩ = some ev ∧ (ev = .nilIface ∨ ∃ te pe, ev = .iface te pe) := by
  obtain ⟨c, el, f, h1, _, _, h4⟩ := h
  have key : ∀ ev, c.toList = [ev] → w.cell? ⟨g, 0, none⟩ = some ev := fun ev he => by
    rw [cell_of h1, ← Array.getElem?_toList, he]; rfl
  rcases h4 with ⟨_, h5⟩ | ⟨_, t, u, h5⟩
  · exact ⟨_, key _ h5, .inl rfl⟩
  · exact ⟨_, key _ h5, .inr ⟨t, u, rfl⟩⟩

@[reducible] def sAtoi : Spec := { pats := [.dat .str, .gw 0 .err, .gw 1 .err], res := [{ t := I64 }, { t := .err }], pre := fun x => x.1.size ≤ 1000000, f := fun x => atoiR (bL x.1) }
/-- strconv.Atoi -/
theorem hAtoi : Ok 19 sAtoi := by
  refine ⟨?_, Tryd.f19, Tryd.func19, by kernel_rfl, by kernel_rfl⟩
  rintro w M ⟨(s : ByteArray), (b0 : Bool), (b1 : Bool), _⟩ vs bs hM ⟨v, vs', rfl, hv, g0, g1, rfl, rfl⟩ (hs : s.size ≤ 1000000)
  obtain rfl := v_str hv
  obtain ⟨e0, hv0, he0⟩ := err_cell g0
  obtain ⟨e1, hv1, he1⟩ := err_cell g1
  cases hr : atoiAll s.data.toList with
  | ok n =>
    refine (Tryd.strconv_Atoi_ok s (by omega) n hr w).mono ?_
    rintro e w' ⟨rfl, hw⟩
    have hf : sAtoi.f (s, b0, b1, ()) = (n, false, ()) := by show atoiR s.data.toList = _; simp only [atoiR, hr]
    rw [hf]
    refine ⟨[.int .i64 n, .nilIface], none, rfl, ?_, _, _, rfl, RepV.mk1 rfl rfl, _, _, rfl, RepV.mk1 rfl (.inl ⟨rfl, rfl⟩), rfl, rfl⟩
    rcases hw with rfl | ⟨t, rfl⟩
    · exact post_same
    · exact post_bytes
  | range =>
    refine (Tryd.strconv_Atoi_range s (by omega) hr e1 w hv1 he1).mono ?_
    rintro e w' ⟨N, rfl, hN, hN2, hB⟩
    have hf : sAtoi.f (s, b0, b1, ()) = (atoiSat s.data.toList, true, ()) := by show atoiR s.data.toList = _; simp only [atoiR, hr]
    rw [hf]
    refine ⟨[.int .i64 _, .iface 96 (.pointer (some ⟨N, 0, none⟩))], none, rfl, post_below hB, _, _, rfl, RepV.mk1 rfl rfl, _, _, rfl, RepV.mk1 rfl (.inr ⟨rfl, _, _, rfl⟩), rfl, rfl⟩
  | _ =>
    refine (Tryd.strconv_Atoi_syntax s (by omega) (fun v h => by rw [hr] at h; cases h) (fun h => by rw [hr] at h; cases h) e0 w hv0 he0).mono ?_
    rintro e w' ⟨N, rfl, hN, hN2, hB⟩
    have hf : sAtoi.f (s, b0, b1, ()) = (0, true, ()) := by show atoiR s.data.toList = _; simp only [atoiR, hr]
    rw [hf]
    refine ⟨[.int .i64 0, .iface 96 (.pointer (some ⟨N, 0, none⟩))], none, rfl, post_below hB, _, _, rfl, RepV.mk1 rfl rfl, _, _, rfl, RepV.mk1 rfl (.inr ⟨rfl, _, _, rfl⟩), rfl, rfl⟩

@[reducible] def sTrim : Spec := { pats := [.dat .str, .dat .str], res := [{ t := .str }], pre := fun _ => True, f := fun x => (bA (trimPrefix (bL x.1) (bL x.2.1)), ()) }
/-- strings.TrimPrefix -/
theorem hTrim : Ok 20 sTrim := by
  refine ⟨?_, Tryd.f20, Tryd.func20, by kernel_rfl, by kernel_rfl⟩
  rintro w M ⟨(s : ByteArray), (p : ByteArray), _⟩ vs bs hM ⟨v, vs', rfl, hv, u, us, rfl, hu, rfl, rfl⟩ _
  obtain rfl := v_str hv
  obtain rfl := v_str hu
  refine (Tryd.strings_TrimPrefix s p w).mono ?_
  rintro e w' ⟨rfl, rfl⟩
  exact ⟨[.string _], none, rfl, post_same, _, _, rfl, RepV.mk1 rfl rfl, rfl, rfl⟩

@[reducible] def sSplit : Spec := { pats := [.dat .str, .dat .str, .gw 3 I64], res := [{ t := .sl .str }], pre := fun x => x.1.size ≤ 1000000 ∧ x.2.1 = bA [32], f := fun x => (cutB 32 x.1, ()) }

theorem cutB_len (c : UInt8) (s : ByteArray) : (cutB c s).length ≤ s.size + 1 := by
  have := pieces_len c (bL s)
  rw [bL_len] at this
  simpa [cutB] using this

/-- strings.Split at a blank -/
theorem hSplit : Ok 18 sSplit := by
  refine ⟨?_, Tryd.f18, Tryd.func18, by kernel_rfl, by kernel_rfl⟩
  rintro w M ⟨(s : ByteArray), (p : ByteArray), (m : Int), _⟩ vs bs hM ⟨v, vs', rfl, hv, u, us, rfl, hu, ⟨c, el, f, h1, _, _, h4⟩, rfl, rfl⟩ ⟨(hs : s.size ≤ 1000000), (hp : p = bA [32])⟩
  obtain rfl := v_str hv
  obtain rfl := v_str hu
  subst hp
  have hm : w.cell? ⟨3, 0, none⟩ = some (.int .i64 m) := by
    have h4 : c.toList = [.int .i64 m] := h4
    rw [cell_of h1, ← Array.getElem?_toList, h4]; rfl
  refine (Tryd.strings_Split s (bA [32]) m w (by omega) hm (by rw [bA_size]; decide)).mono ?_
  rintro e w' ⟨rfl, rfl⟩
  rw [splitB_cut]
  have hlen := cutB_count 32 s
  have hle := cutB_len 32 s
  refine ⟨[.slice (some ⟨w.heap.size, 0, none⟩) (countB s (bA [32]) + 1) (countB s (bA [32]) + 1)], none, rfl, ⟨rfl, rfl, rfl, by simp, fun b hb _ => heap_alloc_old w _ hb, fun _ h => by cases h⟩, _, _, rfl,
    RepV.mk1 rfl ⟨some ⟨w.heap.size, 0, none⟩, countB s (bA [32]) + 1, ?_, ?_, ?_, (fun h => by cases h), fun ad had _ => ?_⟩, rfl, rfl⟩
  · show [_] = [Value.slice _ (cutB 32 s).length _]
    rw [hlen]
  · show (cutB 32 s).length ≤ _
    omega
  · unfold maxLen; omega
  · obtain rfl := Option.some.inj had
    refine ⟨rfl, ((cutB 32 s).map Value.string).toArray, ⟨fun hh => absurd (hM _ hh) (Nat.lt_irrefl _), by simp, _, _, heap_alloc_new w _⟩, ?_, fun i y hy => ?_⟩
    · show 0 + (cutB 32 s).length * 1 ≤ ((cutB 32 s).map Value.string).toArray.size
      simp
    · have hi := (List.getElem?_eq_some_iff.1 hy).1
      have hc : ((cutB 32 s).map Value.string)[i]? = some (.string y) := by rw [List.getElem?_map]; show Option.map _ (lget (α := ByteArray) (cutB 32 s) i) = _; rw [hy]; rfl
      have hlt := (List.getElem?_eq_some_iff.1 hc).1
      show Rep _ .str y ((((cutB 32 s).map Value.string).toArray.toList.drop (0 + i * 1)).take 1)
      rw [Nat.zero_add, Nat.mul_one, List.toList_toArray, List.drop_eq_getElem_cons hlt]
      simp only [List.take_succ_cons, List.take_zero]
      rw [List.getElem?_eq_getElem hlt] at hc
      rw [Option.some.inj hc]
      rfl

end Go.Eng.Lp
