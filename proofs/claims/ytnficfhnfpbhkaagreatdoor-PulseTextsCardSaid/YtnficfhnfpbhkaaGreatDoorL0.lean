/- The table of the program's types for the executor, with its proof. Conditions: none. -/
import Derived.KernelRfl
import Derived.Test.YtnficfhnfpbhkaaGreatDoorProg
import Derived.Test.YtnficfhnfpbhkaaGreatDoorED
namespace Go.Eng.Pu
open Go.Eng Go.Proofs

def RowsOk (P : Program) : TT → Prop
  | [] => True
  | (t, i) :: r => TIOk P t i ∧ RowsOk P r

theorem rowsOk_get {P : Program} : ∀ {tt : TT} {t : Nat} {i : TInfo}, RowsOk P tt → tt.get t = some i → TIOk P t i
  | [], _, _, _, h => by simp [TT.get] at h
  | (t', i') :: r, t, i, hr, h => by
    simp only [TT.get] at h
    cases hb : Nat.beq t' t with
    | true =>
      rw [hb] at h
      have := Nat.eq_of_beq_eq_true hb
      subst this
      simp only [cond_true, Option.some.injEq] at h
      subst h
      exact hr.1
    | false => rw [hb] at h; exact rowsOk_get hr.2 h

def i3 : TInfo := { kind := .int .i64, size := 1, bytes := 8, zero := .int .i64 0 }
theorem row3 : TIOk Tryz.prog 3 i3 := ⟨Tryz.underlying3, ⟨Tryz.t3, by kernel_rfl, by kernel_rfl, by kernel_rfl, by kernel_rfl⟩, rfl⟩

def i4 : TInfo := { kind := .bool, size := 1, bytes := 1, zero := .bool false }
theorem row4 : TIOk Tryz.prog 4 i4 := ⟨Tryz.underlying4, ⟨Tryz.t4, by kernel_rfl, by kernel_rfl, by kernel_rfl, by kernel_rfl⟩, rfl⟩

def i5 : TInfo := { kind := .int .u8, size := 1, bytes := 1, zero := .int .u8 0 }
theorem row5 : TIOk Tryz.prog 5 i5 := ⟨Tryz.underlying5, ⟨Tryz.t5, by kernel_rfl, by kernel_rfl, by kernel_rfl, by kernel_rfl⟩, rfl⟩

def i9 : TInfo := { kind := .str, size := 1, bytes := 16, zero := .string ByteArray.empty }
theorem row9 : TIOk Tryz.prog 9 i9 := ⟨Tryz.underlying9, ⟨Tryz.t9, by kernel_rfl, by kernel_rfl, by kernel_rfl, by kernel_rfl⟩, rfl⟩

def i22 : TInfo := { kind := .slice 3, size := 1, bytes := 24, zero := .slice none 0 0 }
theorem row22 : TIOk Tryz.prog 22 i22 := ⟨Tryz.underlying22, ⟨Tryz.t22, by kernel_rfl, by kernel_rfl, by kernel_rfl, by kernel_rfl⟩, rfl⟩

def i24 : TInfo := { kind := .struct [(3, 0), (22, 1)], size := 2, bytes := 32, zero := .agg #[.int .i64 0, .slice none 0 0] }
theorem row24 : TIOk Tryz.prog 24 i24 := ⟨⟨_, Tryz.underlying24, rfl⟩, ⟨Tryz.t24, by kernel_rfl, by kernel_rfl, by kernel_rfl, by kernel_rfl⟩, rfl⟩

def i28 : TInfo := { kind := .int .i64, size := 1, bytes := 8, zero := .int .i64 0 }
theorem row28 : TIOk Tryz.prog 28 i28 := ⟨Tryz.underlying28, ⟨Tryz.t28, by kernel_rfl, by kernel_rfl, by kernel_rfl, by kernel_rfl⟩, rfl⟩

def i39 : TInfo := { kind := .slice 89, size := 1, bytes := 24, zero := .slice none 0 0 }
theorem row39 : TIOk Tryz.prog 39 i39 := ⟨Tryz.underlying39, ⟨Tryz.t39, by kernel_rfl, by kernel_rfl, by kernel_rfl, by kernel_rfl⟩, rfl⟩

def i43 : TInfo := { kind := .flt .f32, size := 1, bytes := 4, zero := .float .f32 0 }
theorem row43 : TIOk Tryz.prog 43 i43 := ⟨Tryz.underlying43, ⟨Tryz.t43, by kernel_rfl, by kernel_rfl, by kernel_rfl, by kernel_rfl⟩, rfl⟩

def i44 : TInfo := { kind := .array 2 43, size := 2, bytes := 8, zero := .agg #[.float .f32 0, .float .f32 0] }
theorem row44 : TIOk Tryz.prog 44 i44 := ⟨Tryz.underlying44, ⟨Tryz.t44, by kernel_rfl, by kernel_rfl, by kernel_rfl, by kernel_rfl⟩, rfl⟩

def i45 : TInfo := { kind := .slice 44, size := 1, bytes := 24, zero := .slice none 0 0 }
theorem row45 : TIOk Tryz.prog 45 i45 := ⟨Tryz.underlying45, ⟨Tryz.t45, by kernel_rfl, by kernel_rfl, by kernel_rfl, by kernel_rfl⟩, rfl⟩

def i46 : TInfo := { kind := .slice 44, size := 1, bytes := 24, zero := .slice none 0 0 }
theorem row46 : TIOk Tryz.prog 46 i46 := ⟨Tryz.underlying46, ⟨Tryz.t46, by kernel_rfl, by kernel_rfl, by kernel_rfl, by kernel_rfl⟩, rfl⟩

def i51 : TInfo := { kind := .struct [(3, 0), (3, 1), (3, 2)], size := 3, bytes := 24, zero := .agg #[.int .i64 0, .int .i64 0, .int .i64 0] }
theorem row51 : TIOk Tryz.prog 51 i51 := ⟨⟨_, Tryz.underlying51, rfl⟩, ⟨Tryz.t51, by kernel_rfl, by kernel_rfl, by kernel_rfl, by kernel_rfl⟩, rfl⟩

def i55 : TInfo := { kind := .slice 9, size := 1, bytes := 24, zero := .slice none 0 0 }
theorem row55 : TIOk Tryz.prog 55 i55 := ⟨Tryz.underlying55, ⟨Tryz.t55, by kernel_rfl, by kernel_rfl, by kernel_rfl, by kernel_rfl⟩, rfl⟩

def i62 : TInfo := { kind := .iface, size := 1, bytes := 16, zero := .nilIface }
theorem row62 : TIOk Tryz.prog 62 i62 := ⟨⟨_, Tryz.underlying62⟩, ⟨Tryz.t62, by kernel_rfl, by kernel_rfl, by kernel_rfl, by kernel_rfl⟩, rfl⟩

def i72 : TInfo := { kind := .struct [(24, 0)], size := 2, bytes := 32, zero := .agg #[.int .i64 0, .slice none 0 0] }
theorem row72 : TIOk Tryz.prog 72 i72 := ⟨⟨_, Tryz.underlying72, rfl⟩, ⟨Tryz.t72, by kernel_rfl, by kernel_rfl, by kernel_rfl, by kernel_rfl⟩, rfl⟩

def i78 : TInfo := { kind := .slice 87, size := 1, bytes := 24, zero := .slice none 0 0 }
theorem row78 : TIOk Tryz.prog 78 i78 := ⟨Tryz.underlying78, ⟨Tryz.t78, by kernel_rfl, by kernel_rfl, by kernel_rfl, by kernel_rfl⟩, rfl⟩

def i79 : TInfo := { kind := .slice 87, size := 1, bytes := 24, zero := .slice none 0 0 }
theorem row79 : TIOk Tryz.prog 79 i79 := ⟨Tryz.underlying79, ⟨Tryz.t79, by kernel_rfl, by kernel_rfl, by kernel_rfl, by kernel_rfl⟩, rfl⟩

def i87 : TInfo := { kind := .struct [(3, 0), (3, 1)], size := 2, bytes := 16, zero := .agg #[.int .i64 0, .int .i64 0] }
theorem row87 : TIOk Tryz.prog 87 i87 := ⟨⟨_, Tryz.underlying87, rfl⟩, ⟨Tryz.t87, by kernel_rfl, by kernel_rfl, by kernel_rfl, by kernel_rfl⟩, rfl⟩

def i89 : TInfo := { kind := .cpx .f32, size := 1, bytes := 8, zero := .complex .f32 0 0 }
theorem row89 : TIOk Tryz.prog 89 i89 := ⟨Tryz.underlying89, ⟨Tryz.t89, by kernel_rfl, by kernel_rfl, by kernel_rfl, by kernel_rfl⟩, rfl⟩

def i92 : TInfo := { kind := .struct [(51, 0)], size := 3, bytes := 24, zero := .agg #[.int .i64 0, .int .i64 0, .int .i64 0] }
theorem row92 : TIOk Tryz.prog 92 i92 := ⟨⟨_, Tryz.underlying92, rfl⟩, ⟨Tryz.t92, by kernel_rfl, by kernel_rfl, by kernel_rfl, by kernel_rfl⟩, rfl⟩

def i96 : TInfo := { kind := .cpx .f64, size := 1, bytes := 16, zero := .complex .f64 0 0 }
theorem row96 : TIOk Tryz.prog 96 i96 := ⟨Tryz.underlying96, ⟨Tryz.t96, by kernel_rfl, by kernel_rfl, by kernel_rfl, by kernel_rfl⟩, rfl⟩

def i98 : TInfo := { kind := .slice 5, size := 1, bytes := 24, zero := .slice none 0 0 }
theorem row98 : TIOk Tryz.prog 98 i98 := ⟨Tryz.underlying98, ⟨Tryz.t98, by kernel_rfl, by kernel_rfl, by kernel_rfl, by kernel_rfl⟩, rfl⟩

def i108 : TInfo := { kind := .slice 28, size := 1, bytes := 24, zero := .slice none 0 0 }
theorem row108 : TIOk Tryz.prog 108 i108 := ⟨Tryz.underlying108, ⟨Tryz.t108, by kernel_rfl, by kernel_rfl, by kernel_rfl, by kernel_rfl⟩, rfl⟩

def i109 : TInfo := { kind := .other, size := 1, bytes := 8, zero := .nilFunc }
theorem row109 : TIOk Tryz.prog 109 i109 := ⟨⟨_, Tryz.underlying109, trivial⟩, ⟨Tryz.t109, by kernel_rfl, by kernel_rfl, by kernel_rfl, by kernel_rfl⟩, rfl⟩

def i118 : TInfo := { kind := .other, size := 1, bytes := 8, zero := .nilFunc }
theorem row118 : TIOk Tryz.prog 118 i118 := ⟨⟨_, Tryz.underlying118, trivial⟩, ⟨Tryz.t118, by kernel_rfl, by kernel_rfl, by kernel_rfl, by kernel_rfl⟩, rfl⟩

def i121 : TInfo := { kind := .int .u64, size := 1, bytes := 8, zero := .int .u64 0 }
theorem row121 : TIOk Tryz.prog 121 i121 := ⟨Tryz.underlying121, ⟨Tryz.t121, by kernel_rfl, by kernel_rfl, by kernel_rfl, by kernel_rfl⟩, rfl⟩

def i123 : TInfo := { kind := .flt .f64, size := 1, bytes := 8, zero := .float .f64 0 }
theorem row123 : TIOk Tryz.prog 123 i123 := ⟨Tryz.underlying123, ⟨Tryz.t123, by kernel_rfl, by kernel_rfl, by kernel_rfl, by kernel_rfl⟩, rfl⟩

def i147 : TInfo := { kind := .int .u64, size := 1, bytes := 8, zero := .int .u64 0 }
theorem row147 : TIOk Tryz.prog 147 i147 := ⟨Tryz.underlying147, ⟨Tryz.t147, by kernel_rfl, by kernel_rfl, by kernel_rfl, by kernel_rfl⟩, rfl⟩

def i155 : TInfo := { kind := .int .u32, size := 1, bytes := 4, zero := .int .u32 0 }
theorem row155 : TIOk Tryz.prog 155 i155 := ⟨Tryz.underlying155, ⟨Tryz.t155, by kernel_rfl, by kernel_rfl, by kernel_rfl, by kernel_rfl⟩, rfl⟩

def tt : TT := [(3, i3), (4, i4), (5, i5), (9, i9), (22, i22), (24, i24), (28, i28), (39, i39), (43, i43), (44, i44), (45, i45), (46, i46), (51, i51), (55, i55), (62, i62), (72, i72), (78, i78), (79, i79), (87, i87), (89, i89), (92, i92), (96, i96), (98, i98), (108, i108), (109, i109), (118, i118), (121, i121), (123, i123), (147, i147), (155, i155)]
theorem rows : RowsOk Tryz.prog tt := ⟨row3, row4, row5, row9, row22, row24, row28, row39, row43, row44, row45, row46, row51, row55, row62, row72, row78, row79, row87, row89, row92, row96, row98, row108, row109, row118, row121, row123, row147, row155, trivial⟩
theorem tbl : TblOk Tryz.prog tt := ⟨fun _ _ h => rowsOk_get rows h, by kernel_rfl⟩
end Go.Eng.Pu
