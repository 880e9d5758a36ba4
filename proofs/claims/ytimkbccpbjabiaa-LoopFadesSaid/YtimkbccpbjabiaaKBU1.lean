/- The law LoopFades: for every input the law returns true, and each argument reads behind the call as before. Conditions: none. -/
import Derived.Test.YtimkbccpbjabiaaKB3
namespace Go.Proofs.Ytimkbccpbjabiaa
open Go.Eng Go.Eng.Lp Go.ChangeShapes Go.WideShapes Go.ChangeAt Go.RowKit
set_option linter.all false
set_option maxRecDepth 100000
theorem zku:Ok 12 (zlC [zcv,(.sl I64)]):=⟨fun w M x vs bs hM hA _=>zqi.1 w M x vs bs hM hA trivial,zqi.2⟩
theorem zgP (os:Os) (started:os.Started) (H:Type) (enc:TypeId×Value→H) :
    ReturnsInHanded {} Try.checked os 12 .any (Rows.loopFadesSpec.pre6 enc Try.prog Try.f12 Rows.loopFadesRow.domain false) (Rows.loopFadesSpec.post enc Try.prog Try.f12 false true false false):=
  zm6 zku Try.func12 (by kernel_rfl) ⟨by kernel_rfl,by kernel_rfl,trivial⟩ rfl (by kernel_rfl) (by kernel_rfl) (by kernel_rfl)
    (fun H ds hl=>by
      have hn:Try.f12.params.size=2:=by kernel_rfl
      rw[hn] at hl
      match ds,hl with
      | [d0,d1],_=>rfl) os started H enc
    (ChangeSpec.witness6 (enc:=enc) (C:=Try.checked) false ⟨#[],#[.agg #[.slice none 0 0],.slice none 0 0],[]⟩ 8 (by kernel_rfl) (by kernel_rfl) (by kernel_rfl) (by kernel_rfl))
theorem loopFades_holds:Rows.LoopFadesSaid:=
  OpenClaim.holds_of_wide 12 Try.f12 rfl rfl rfl rfl rfl rfl rfl ⟨rfl,rfl,rfl,rfl,rfl⟩ rfl rfl rfl rfl rfl (by kernel_rfl) Try.func12 (by kernel_rfl)
    (of_decide_eq_true (by kernel_rfl)) (by unfold Func.isWrapper;first|(rw[if_pos (by decide +kernel)];kernel_rfl)|(rw[if_neg (by decide +kernel)];exact⟨rfl,rfl⟩))
    (fun os started H enc _=>zgP os started H enc)
#print axioms loopFades_holds
end Go.Proofs.Ytimkbccpbjabiaa
