/- The law PulseTexts: for every input the law returns true, and each argument reads behind the call as before. Conditions: none. -/
import Derived.Test.YtnficfhnfpbhkaaGreatDoorB2
import Derived.Test.YtnficfhnfpbhkaaGreatDoorTie
import Derived.Test.YtnficfhnfpbhkaaGreatDoorCards
import Derived.SevenTiedAt
import Derived.Test.YtnficfhnfpbhkaaGreatDoorX12
namespace Go.Proofs.YtnficfhnfpbhkaaGreatDoor
open Go.Eng Go.Eng.Pu Go.ChangeShapes Go.WideShapes Go.ChangeAt Go.RowKit
set_option linter.all false
set_option maxRecDepth 100000

theorem pulseTexts_calls {H : Type} {enc : TypeId × Value → H} {W : World} (hg : Globs W) {args : Array Value} {ds : List (DataW H)} {ps : List MemPlace} {base : Nat}
    (hA : DataW.TrodAll enc Tryz.prog W 0 (fun _ => true) true Tryz.f3.params.toList args.toList ds ps) (hval : ∀ (j : Nat) t v, Tryz.f3.params.toList[j]? = some t → args.toList[j]? = some v → Value.okWide Tryz.prog W .any base t v) :
    Calls Tryz.prog 3 args W fun e W' => e = .returned (.bool true) ∧ Below W.heap.size W W' := by
  obtain ⟨x, hx, hf⟩ := args_of tbl (OB := OB) (ts := Tryz.f3.params.toList) (tys := [Reg0, .str]) ⟨by kernel_rfl, by kernel_rfl, trivial⟩ hA hval
  obtain ⟨b0, b1, hg⟩ := hg
  obtain ⟨x0, x1, _⟩ := x
  obtain ⟨v0, vs, e0, hr0, v1, vs', rfl, hr1, rfl, _⟩ := hx
  have hfit : (-9223372036854775808 ≤ x0.1 ∧ x0.1 ≤ 9223372036854775807) ∧ ∀ t ∈ (show List Int from x0.2.1), -9223372036854775808 ≤ t ∧ t ≤ 9223372036854775807 := ⟨hf.1.1, hf.1.2.1⟩
  have := hLaw.1 W (fun _ => False) (x0, x1, b0, b1, powD, ()) args.toList [] (fun _ h => h.elim) ⟨v0, _, e0, hr0, v1, _, rfl, hr1, hg⟩ ⟨hfit, rfl⟩
  refine this.mono fun e W' ⟨rs, g, h1, h2, h3⟩ => ?_
  subst h1
  obtain ⟨v, vs', rfl, ⟨l, r1, ⟨r2, _⟩ | ⟨_, r2⟩⟩, rfl, rfl⟩ := h3
  · cases r2
  · have r1 : l = [.bool true] := r1
    rw [r1] at r2
    simp at r2
    subst r2
    exact ⟨rfl, h2.os, h2.tape, h2.output, h2.size, fun k hk => h2.keep k hk (by simp)⟩

theorem pulseTexts_lifted (os : Os) (started : os.Started) (H : Type) (enc : TypeId × Value → H) :
    ReturnsInHanded {} Tryz.checked os 3 .any (fun w args => (Rows.pulseTextsSpec.pre enc Tryz.prog Tryz.f3 [] false w args ∧ laidMetH Tryz.prog laidG w) ∧ sizedMet enc Tryz.prog Tryz.f3 (OpenSpec.ofChange Rows.pulseTextsSpec) false w args) (Rows.pulseTextsSpec.post enc Tryz.prog Tryz.f3 false true false false) :=
  law_lifted (fun _ _ _ _ _ _ _ hg hA hv => pulseTexts_calls hg hA hv) Tryz.func3 (by kernel_rfl) rfl (by kernel_rfl) (by kernel_rfl) (by kernel_rfl)
    (fun H ds hl => by
      have hn : Tryz.f3.params.size = 2 := by kernel_rfl
      rw [hn] at hl
      match ds, hl with
      | [d0, d1], _ => rfl) os started H enc
    (ChangeSpec.witness_shaped (enc := enc) (C := Tryz.checked) (os := os) (X := fun w _ => laidMetH Tryz.prog laidG w) false (World.laidAll Tryz.prog os laidG) #[.agg #[.int .i64 0, .slice none 0 0], .string ⟨#[]⟩] 8 (World.laidAll_os _ _ _) (World.shaped_of_RefB (by kernel_rfl) (by kernel_rfl)) (by kernel_rfl) (by kernel_rfl) (by kernel_rfl) (door_met os _))

theorem pulseTexts_row : Rows.PulseTextsSaid :=
  OpenClaim.holds_of_wide 3 Tryz.f3 rfl rfl rfl rfl rfl rfl rfl ⟨rfl, rfl, rfl, rfl, rfl⟩ rfl rfl rfl rfl rfl (by kernel_rfl) Tryz.func3 (by kernel_rfl)
    (of_decide_eq_true (by kernel_rfl)) (by unfold Func.isWrapper; first | (rw [if_pos (by decide +kernel)]; kernel_rfl) | (rw [if_neg (by decide +kernel)]; exact ⟨rfl, rfl⟩))
    (fun os started H enc _ => pulseTexts_lifted os started H enc)

theorem pulseTexts_holds : Rows.PulseTextsCardSaid :=
  Claim7.holds_tied_plain_at .later [] [.data, .data, .data, .data, .sentinel, .sentinel, .pinned] true (true, "bbd1e5c2730f9934ee654a282310351f3c70ff195a7f5c8cf059929af1848040") true
    pulseTexts_row (fun _ h => by cases h) (by kernel_rfl) (fun _ h => by cases h) pulseTexts_row_tie rfl ⟨rfl, rfl⟩ (by kernel_rfl) rfl
    (fun f fn hf hfn => by
      obtain rfl : f = 3 := Option.some.inj ((show Tryz.prog.funcNamed "shoebox/shoeboxlaw04.PulseTexts" = some 3 by kernel_rfl).symm.trans hf) |>.symm
      obtain rfl : fn = Tryz.f3 := (Option.some.inj (Tryz.func3.symm.trans hfn)).symm
      exact ⟨by kernel_rfl, fun j t ht => by
        have hm : t ∈ Tryz.f3.params := Array.mem_of_getElem? ht
        have hall : (Tryz.f3.params.toList.all fun u => !Tryz.prog.wantsStandIn u) = true := by kernel_rfl
        exact (show Tryz.prog.wantsStandIn t = false by simpa using List.all_eq_true.1 hall t (by simpa using hm))⟩)
    (by kernel_rfl)
#print axioms pulseTexts_holds
end Go.Proofs.YtnficfhnfpbhkaaGreatDoor
