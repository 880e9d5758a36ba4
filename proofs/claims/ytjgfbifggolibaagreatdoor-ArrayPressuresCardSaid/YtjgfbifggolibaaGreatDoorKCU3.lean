/- The law ArrayPressures: for every input the law returns true, and each argument reads behind the call as before. Conditions: none. -/
import Derived.Test.YtjgfbifggolibaaGreatDoorKC6
import Derived.Test.YtjgfbifggolibaaGreatDoorTie
import Derived.Test.YtjgfbifggolibaaGreatDoorCards
import Derived.SevenTiedAt
namespace Go.Proofs.YtjgfbifggolibaaGreatDoor
open Go.Eng Go.Eng.Ar Go.ChangeShapes Go.WideShapes Go.ChangeAt Go.RowKit
set_option linter.all false
set_option maxRecDepth 100000
theorem arrayPressures_calls {H : Type} {enc : TypeId × Value → H} {W : World} (hg : Globs W) {args : Array Value} {ds : List (DataW H)} {ps : List MemPlace} {base : Nat}
    (hA : DataW.TrodAll enc Tryz.prog W 0 (fun _ => true) true Tryz.f10.params.toList args.toList ds ps) (hval : ∀ (j : Nat) t v, Tryz.f10.params.toList[j]? = some t → args.toList[j]? = some v → Value.okWide Tryz.prog W .any base t v) :
    Calls Tryz.prog 10 args W fun e W' => e = .returned (.bool true) ∧ Below W.heap.size W W' := by
  obtain ⟨x, hx, hf⟩ := args_of tbl (OB := OB) (ts := Tryz.f10.params.toList) (tys := [ArrT, PlaceT]) ⟨by kernel_rfl, by kernel_rfl, trivial⟩ hA hval
  obtain ⟨b0, b1, mx, hg⟩ := hg
  obtain ⟨x0, x1, _⟩ := x
  obtain ⟨v0, vs, e0, hr0, v1, vs1, rfl, hr1, rfl, _⟩ := hx
  have hpre : sPressures.pre (x0, x1, b0, b1, powD, mx, ()) := rfl
  have := hLaw10.1 W (fun _ => False) (x0, x1, b0, b1, powD, mx, ()) args.toList [] (fun _ h => h.elim) ⟨v0, _, e0, hr0, v1, _, rfl, hr1, hg⟩ hpre
  refine this.mono fun e W' ⟨rs, g, h1, h2, h3⟩ => ?_
  subst h1
  obtain ⟨v, vs', rfl, ⟨l, r1, ⟨r2, _⟩ | ⟨_, r2⟩⟩, rfl, rfl⟩ := h3
  · cases r2
  · have r1 : l = [.bool true] := r1
    rw [r1] at r2
    simp at r2
    subst r2
    exact ⟨rfl, h2.os, h2.tape, h2.output, h2.size, fun k hk => h2.keep k hk (by simp)⟩
theorem arrayPressures_lifted (os : Os) (started : os.Started) (H : Type) (enc : TypeId × Value → H) :
    ReturnsInHanded {} Tryz.checked os 10 .any (fun w args => (Rows.arrayPressuresSpec.pre enc Tryz.prog Tryz.f10 [] false w args ∧ laidMetH Tryz.prog laidG w) ∧ sizedMet enc Tryz.prog Tryz.f10 (OpenSpec.ofChange Rows.arrayPressuresSpec) false w args) (Rows.arrayPressuresSpec.post enc Tryz.prog Tryz.f10 false true false false) :=
  law_lifted (fun _ _ _ _ _ _ _ hg hA hv => arrayPressures_calls hg hA hv) Tryz.func10 (by kernel_rfl) rfl (by kernel_rfl) (by kernel_rfl) (by kernel_rfl)
    (fun H ds hl => by
      have hn : Tryz.f10.params.size = 2 := by kernel_rfl
      rw [hn] at hl
      match ds, hl with
      | [d0, d1], _ => rfl) os started H enc
    (ChangeSpec.witness_shaped (enc := enc) (C := Tryz.checked) (os := os) (X := fun w _ => laidMetH Tryz.prog laidG w) false (World.laidAll Tryz.prog os laidG) #[.agg #[.int .i64 0, .int .i64 0, .slice none 0 0], .agg #[.int .i64 0, .int .i64 0, .int .i64 0]] 8 (World.laidAll_os _ _ _) (World.shaped_of_RefB (by kernel_rfl) (by kernel_rfl)) (by kernel_rfl) (by kernel_rfl) (by kernel_rfl) (door_met os _))
theorem arrayPressures_row : Rows.ArrayPressuresSaid :=
  OpenClaim.holds_of_wide 10 Tryz.f10 rfl rfl rfl rfl rfl rfl rfl ⟨rfl, rfl, rfl, rfl, rfl⟩ rfl rfl rfl rfl rfl (by kernel_rfl) Tryz.func10 (by kernel_rfl)
    (of_decide_eq_true (by kernel_rfl)) (by unfold Func.isWrapper; first | (rw [if_pos (by decide +kernel)]; kernel_rfl) | (rw [if_neg (by decide +kernel)]; exact ⟨rfl, rfl⟩))
    (fun os started H enc _ => arrayPressures_lifted os started H enc)
theorem arrayPressures_holds : Rows.ArrayPressuresCardSaid :=
  Claim7.holds_tied_plain_at .later [] [.data, .data, .data, .data, .sentinel, .sentinel, .pinned] true (true, "da4023decad99b4ef13ca36b880daa76bb8857ef4e49dc12120ad025f0fd3d67") true
    arrayPressures_row (fun _ h => by cases h) (by kernel_rfl) (fun _ h => by cases h) arrayPressures_row_tie rfl ⟨rfl, rfl⟩ (by kernel_rfl) rfl
    (fun f fn hf hfn => by
      obtain rfl : f = 10 := Option.some.inj ((show Tryz.prog.funcNamed "shoebox/shoeboxlaw07.ArrayPressures" = some 10 by kernel_rfl).symm.trans hf) |>.symm
      obtain rfl : fn = Tryz.f10 := (Option.some.inj (Tryz.func10.symm.trans hfn)).symm
      exact ⟨by kernel_rfl, fun j t ht => by
        have hm : t ∈ Tryz.f10.params := Array.mem_of_getElem? ht
        have hall : (Tryz.f10.params.toList.all fun u => !Tryz.prog.wantsStandIn u) = true := by kernel_rfl
        exact (show Tryz.prog.wantsStandIn t = false by simpa using List.all_eq_true.1 hall t (by simpa using hm))⟩)
    (by kernel_rfl)
#print axioms arrayPressures_holds
end Go.Proofs.YtjgfbifggolibaaGreatDoor

