/- The law TopCoveredOrNot: for every input the law returns true, and each argument reads behind the call as before. Conditions: none. -/
import Derived.Test.YtnlpnkcbiakmgaaKB1
namespace Go.Proofs.Ytnlpnkcbiakmgaa
open Go.Eng Go.Eng.Ar Go.ChangeShapes Go.WideShapes Go.ChangeAt Go.RowKit
set_option linter.all false
set_option maxRecDepth 100000
theorem zeG:Ok 3 (zkk [ArrT,(.sl zbc),CovT]):=⟨fun w M x vs bs hM hA _=>hCov.1 w M x vs bs hM hA trivial,hCov.2⟩
theorem zdK (os:Os) (started:os.Started) (H:Type) (enc:TypeId×Value→H) :
    ReturnsInHanded {} Try.checked os 3 .any (Rows.topCoveredOrNotSpec.pre6 enc Try.prog Try.f3 Rows.topCoveredOrNotRow.domain false) (Rows.topCoveredOrNotSpec.post enc Try.prog Try.f3 false true false false):=
  zlB zeG Try.func3 (by kernel_rfl) ⟨by kernel_rfl,by kernel_rfl,by kernel_rfl,trivial⟩ rfl (by kernel_rfl) (by kernel_rfl) (by kernel_rfl)
    (fun H ds hl=>by
      have hn:Try.f3.params.size=3:=by kernel_rfl
      rw[hn] at hl
      match ds,hl with
      | [d0,d1,d2],_=>rfl) os started H enc
    (ChangeSpec.witness6 (enc:=enc) (C:=Try.checked) false ⟨#[],#[.agg #[.int .i64 0,.int .i64 0,.slice none 0 0],.slice none 0 0,.agg #[.int .i64 0,.int .i64 0,.int .i64 0]],[]⟩ 8 (by kernel_rfl) (by kernel_rfl) (by kernel_rfl) (by kernel_rfl))
theorem topCoveredOrNot_holds:Rows.TopCoveredOrNotSaid:=
  OpenClaim.holds_of_wide 3 Try.f3 rfl rfl rfl rfl rfl rfl rfl ⟨rfl,rfl,rfl,rfl,rfl⟩ rfl rfl rfl rfl rfl (by kernel_rfl) Try.func3 (by kernel_rfl)
    (of_decide_eq_true (by kernel_rfl)) (by unfold Func.isWrapper;first|(rw[if_pos (by decide +kernel)];kernel_rfl)|(rw[if_neg (by decide +kernel)];exact⟨rfl,rfl⟩))
    (fun os started H enc _=>zdK os started H enc)
#print axioms topCoveredOrNot_holds
end Go.Proofs.Ytnlpnkcbiakmgaa
