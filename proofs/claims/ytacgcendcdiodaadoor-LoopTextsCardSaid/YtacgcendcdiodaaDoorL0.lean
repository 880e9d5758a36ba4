/- The table of the program's types for the executor, with its proof. Conditions: none. -/
import Derived.KernelRfl
import Derived.Test.YtacgcendcdiodaaDoorProg
import Derived.Test.YtacgcendcdiodaaDoorEC
namespace Go.Eng.Lp
open Go.Eng Go.Proofs

def RowsOk (P : Program) : TT → Prop
  | [] => True
  | (t, i) :: r => TIOk P t i ∧ RowsOk P r

theorem rowsOk_get {P : Program} : ∀ {tt : TT} {t : Nat} {i : TInfo}, RowsOk P tt → tt.get t = some i → TIOk P t i
  | [], _, _, _, h => by simp [TT.get] at h
  | (t', i') :: r, t, i, hr, h => by
    simp only [TT.get] at h
    cases hb : Nat.beq t' t with
    | true =>
      rw [hb] at h
      have := Nat.eq_of_beq_eq_true hb
      subst this
      simp only [cond_true, Option.some.injEq] at h
      subst h
      exact hr.1
    | false => rw [hb] at h; exact rowsOk_get hr.2 h

def i3 : TInfo := { kind := .int .i64, size := 1, bytes := 8, zero := .int .i64 0 }
theorem row3 : TIOk Tryd.prog 3 i3 := ⟨Tryd.underlying3, ⟨Tryd.t3, by kernel_rfl, by kernel_rfl, by kernel_rfl, by kernel_rfl⟩, rfl⟩

def i4 : TInfo := { kind := .bool, size := 1, bytes := 1, zero := .bool false }
theorem row4 : TIOk Tryd.prog 4 i4 := ⟨Tryd.underlying4, ⟨Tryd.t4, by kernel_rfl, by kernel_rfl, by kernel_rfl, by kernel_rfl⟩, rfl⟩

def i5 : TInfo := { kind := .int .u8, size := 1, bytes := 1, zero := .int .u8 0 }
theorem row5 : TIOk Tryd.prog 5 i5 := ⟨Tryd.underlying5, ⟨Tryd.t5, by kernel_rfl, by kernel_rfl, by kernel_rfl, by kernel_rfl⟩, rfl⟩

def i9 : TInfo := { kind := .str, size := 1, bytes := 16, zero := .string ByteArray.empty }
theorem row9 : TIOk Tryd.prog 9 i9 := ⟨Tryd.underlying9, ⟨Tryd.t9, by kernel_rfl, by kernel_rfl, by kernel_rfl, by kernel_rfl⟩, rfl⟩

def i23 : TInfo := { kind := .struct [(9, 0), (3, 1)], size := 2, bytes := 24, zero := .agg #[.string ByteArray.empty, .int .i64 0] }
theorem row23 : TIOk Tryd.prog 23 i23 := ⟨⟨_, Tryd.underlying23, rfl⟩, ⟨Tryd.t23, by kernel_rfl, by kernel_rfl, by kernel_rfl, by kernel_rfl⟩, rfl⟩

def i26 : TInfo := { kind := .int .i64, size := 1, bytes := 8, zero := .int .i64 0 }
theorem row26 : TIOk Tryd.prog 26 i26 := ⟨Tryd.underlying26, ⟨Tryd.t26, by kernel_rfl, by kernel_rfl, by kernel_rfl, by kernel_rfl⟩, rfl⟩

def i35 : TInfo := { kind := .struct [(3, 0), (3, 1), (3, 2)], size := 3, bytes := 24, zero := .agg #[.int .i64 0, .int .i64 0, .int .i64 0] }
theorem row35 : TIOk Tryd.prog 35 i35 := ⟨⟨_, Tryd.underlying35, rfl⟩, ⟨Tryd.t35, by kernel_rfl, by kernel_rfl, by kernel_rfl, by kernel_rfl⟩, rfl⟩

def i38 : TInfo := { kind := .slice 3, size := 1, bytes := 24, zero := .slice none 0 0 }
theorem row38 : TIOk Tryd.prog 38 i38 := ⟨Tryd.underlying38, ⟨Tryd.t38, by kernel_rfl, by kernel_rfl, by kernel_rfl, by kernel_rfl⟩, rfl⟩

def i40 : TInfo := { kind := .struct [(38, 0), (3, 1)], size := 2, bytes := 32, zero := .agg #[.slice none 0 0, .int .i64 0] }
theorem row40 : TIOk Tryd.prog 40 i40 := ⟨⟨_, Tryd.underlying40, rfl⟩, ⟨Tryd.t40, by kernel_rfl, by kernel_rfl, by kernel_rfl, by kernel_rfl⟩, rfl⟩

def i44 : TInfo := { kind := .struct [(3, 0), (3, 1)], size := 2, bytes := 16, zero := .agg #[.int .i64 0, .int .i64 0] }
theorem row44 : TIOk Tryd.prog 44 i44 := ⟨⟨_, Tryd.underlying44, rfl⟩, ⟨Tryd.t44, by kernel_rfl, by kernel_rfl, by kernel_rfl, by kernel_rfl⟩, rfl⟩

def i48 : TInfo := { kind := .slice 38, size := 1, bytes := 24, zero := .slice none 0 0 }
theorem row48 : TIOk Tryd.prog 48 i48 := ⟨Tryd.underlying48, ⟨Tryd.t48, by kernel_rfl, by kernel_rfl, by kernel_rfl, by kernel_rfl⟩, rfl⟩

def i50 : TInfo := { kind := .struct [(48, 0)], size := 1, bytes := 24, zero := .agg #[.slice none 0 0] }
theorem row50 : TIOk Tryd.prog 50 i50 := ⟨⟨_, Tryd.underlying50, rfl⟩, ⟨Tryd.t50, by kernel_rfl, by kernel_rfl, by kernel_rfl, by kernel_rfl⟩, rfl⟩

def i53 : TInfo := { kind := .slice 9, size := 1, bytes := 24, zero := .slice none 0 0 }
theorem row53 : TIOk Tryd.prog 53 i53 := ⟨Tryd.underlying53, ⟨Tryd.t53, by kernel_rfl, by kernel_rfl, by kernel_rfl, by kernel_rfl⟩, rfl⟩

def i56 : TInfo := { kind := .iface, size := 1, bytes := 16, zero := .nilIface }
theorem row56 : TIOk Tryd.prog 56 i56 := ⟨⟨_, Tryd.underlying56⟩, ⟨Tryd.t56, by kernel_rfl, by kernel_rfl, by kernel_rfl, by kernel_rfl⟩, rfl⟩

def i67 : TInfo := { kind := .ptr 71, size := 1, bytes := 8, zero := .pointer none }
theorem row67 : TIOk Tryd.prog 67 i67 := ⟨Tryd.underlying67, ⟨Tryd.t67, by kernel_rfl, by kernel_rfl, by kernel_rfl, by kernel_rfl⟩, rfl⟩

def i77 : TInfo := { kind := .slice 38, size := 1, bytes := 24, zero := .slice none 0 0 }
theorem row77 : TIOk Tryd.prog 77 i77 := ⟨Tryd.underlying77, ⟨Tryd.t77, by kernel_rfl, by kernel_rfl, by kernel_rfl, by kernel_rfl⟩, rfl⟩

def i82 : TInfo := { kind := .slice 5, size := 1, bytes := 24, zero := .slice none 0 0 }
theorem row82 : TIOk Tryd.prog 82 i82 := ⟨Tryd.underlying82, ⟨Tryd.t82, by kernel_rfl, by kernel_rfl, by kernel_rfl, by kernel_rfl⟩, rfl⟩

def i84 : TInfo := { kind := .slice 26, size := 1, bytes := 24, zero := .slice none 0 0 }
theorem row84 : TIOk Tryd.prog 84 i84 := ⟨Tryd.underlying84, ⟨Tryd.t84, by kernel_rfl, by kernel_rfl, by kernel_rfl, by kernel_rfl⟩, rfl⟩

def i120 : TInfo := { kind := .struct [(3, 0), (3, 1)], size := 2, bytes := 16, zero := .agg #[.int .i64 0, .int .i64 0] }
theorem row120 : TIOk Tryd.prog 120 i120 := ⟨⟨_, Tryd.underlying120, rfl⟩, ⟨Tryd.t120, by kernel_rfl, by kernel_rfl, by kernel_rfl, by kernel_rfl⟩, rfl⟩

def i142 : TInfo := { kind := .flt .f64, size := 1, bytes := 8, zero := .float .f64 0 }
theorem row142 : TIOk Tryd.prog 142 i142 := ⟨Tryd.underlying142, ⟨Tryd.t142, by kernel_rfl, by kernel_rfl, by kernel_rfl, by kernel_rfl⟩, rfl⟩

def i159 : TInfo := { kind := .other, size := 1, bytes := 8, zero := .nilFunc }
theorem row159 : TIOk Tryd.prog 159 i159 := ⟨⟨_, Tryd.underlying159, trivial⟩, ⟨Tryd.t159, by kernel_rfl, by kernel_rfl, by kernel_rfl, by kernel_rfl⟩, rfl⟩

def tt : TT := [(3, i3), (4, i4), (5, i5), (9, i9), (23, i23), (26, i26), (35, i35), (38, i38), (40, i40), (44, i44), (48, i48), (50, i50), (53, i53), (56, i56), (67, i67), (77, i77), (82, i82), (84, i84), (120, i120), (142, i142), (159, i159)]
theorem rows : RowsOk Tryd.prog tt := ⟨row3, row4, row5, row9, row23, row26, row35, row38, row40, row44, row48, row50, row53, row56, row67, row77, row82, row84, row120, row142, row159, trivial⟩
theorem tbl : TblOk Tryd.prog tt := ⟨fun _ _ h => rowsOk_get rows h, by kernel_rfl⟩
end Go.Eng.Lp
