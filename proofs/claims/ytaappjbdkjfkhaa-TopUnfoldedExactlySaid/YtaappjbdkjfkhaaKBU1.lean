/- The law TopUnfoldedExactly: for every input the law returns true, and each argument reads behind the call as before. Conditions: none. -/
import Derived.Test.YtaappjbdkjfkhaaKB2
namespace Go.Proofs.Ytaappjbdkjfkhaa
open Go.Eng Go.Eng.Pu Go.ChangeShapes Go.WideShapes Go.ChangeAt Go.RowKit
set_option linter.all false
set_option maxRecDepth 100000
theorem zdh:Ok 3 (zi8 [(.sl zak),zjr,(.sl zak)]):=⟨fun w M x vs bs hM hA _=>h3.1 w M x vs bs hM hA trivial,h3.2⟩
theorem zcs (os:Os) (started:os.Started) (H:Type) (enc:TypeId×Value→H) :
    ReturnsInHanded {} Try.checked os 3 .any (Rows.topUnfoldedExactlySpec.pre6 enc Try.prog Try.f3 Rows.topUnfoldedExactlyRow.domain false) (Rows.topUnfoldedExactlySpec.post enc Try.prog Try.f3 false true false false):=
  zkm zdh Try.func3 (by kernel_rfl) ⟨by kernel_rfl,by kernel_rfl,by kernel_rfl,trivial⟩ rfl (by kernel_rfl) (by kernel_rfl) (by kernel_rfl)
    (fun H ds hl=>by
      have hn:Try.f3.params.size=3:=by kernel_rfl
      rw[hn] at hl
      match ds,hl with
      | [d0,d1,d2],_=>rfl) os started H enc
    (ChangeSpec.witness6 (enc:=enc) (C:=Try.checked) false ⟨#[],#[.slice none 0 0,.agg #[.int .i64 0,.slice none 0 0,.int .i64 0],.slice none 0 0],[]⟩ 8 (by kernel_rfl) (by kernel_rfl) (by kernel_rfl) (by kernel_rfl))
theorem topUnfoldedExactly_holds:Rows.TopUnfoldedExactlySaid:=
  OpenClaim.holds_of_wide 3 Try.f3 rfl rfl rfl rfl rfl rfl rfl ⟨rfl,rfl,rfl,rfl,rfl⟩ rfl rfl rfl rfl rfl (by kernel_rfl) Try.func3 (by kernel_rfl)
    (of_decide_eq_true (by kernel_rfl)) (by unfold Func.isWrapper;first|(rw[if_pos (by decide +kernel)];kernel_rfl)|(rw[if_neg (by decide +kernel)];exact⟨rfl,rfl⟩))
    (fun os started H enc _=>zcs os started H enc)
#print axioms topUnfoldedExactly_holds
end Go.Proofs.Ytaappjbdkjfkhaa
