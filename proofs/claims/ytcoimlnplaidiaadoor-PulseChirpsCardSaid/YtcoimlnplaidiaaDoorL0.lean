/- The table of the program's types for the executor, with its proof. Conditions: none. -/
import Derived.KernelRfl
import Derived.Test.YtcoimlnplaidiaaDoorProg
import Derived.Test.YtcoimlnplaidiaaDoorEB
namespace Go.Eng.Pu
open Go.Eng Go.Proofs

def RowsOk (P : Program) : TT → Prop
  | [] => True
  | (t, i) :: r => TIOk P t i ∧ RowsOk P r

theorem rowsOk_get {P : Program} : ∀ {tt : TT} {t : Nat} {i : TInfo}, RowsOk P tt → tt.get t = some i → TIOk P t i
  | [], _, _, _, h => by simp [TT.get] at h
  | (t', i') :: r, t, i, hr, h => by
    simp only [TT.get] at h
    cases hb : Nat.beq t' t with
    | true =>
      rw [hb] at h
      have := Nat.eq_of_beq_eq_true hb
      subst this
      simp only [cond_true, Option.some.injEq] at h
      subst h
      exact hr.1
    | false => rw [hb] at h; exact rowsOk_get hr.2 h

def i3 : TInfo := { kind := .int .i64, size := 1, bytes := 8, zero := .int .i64 0 }
theorem row3 : TIOk Tryd.prog 3 i3 := ⟨Tryd.underlying3, ⟨Tryd.t3, by kernel_rfl, by kernel_rfl, by kernel_rfl, by kernel_rfl⟩, rfl⟩

def i4 : TInfo := { kind := .bool, size := 1, bytes := 1, zero := .bool false }
theorem row4 : TIOk Tryd.prog 4 i4 := ⟨Tryd.underlying4, ⟨Tryd.t4, by kernel_rfl, by kernel_rfl, by kernel_rfl, by kernel_rfl⟩, rfl⟩

def i23 : TInfo := { kind := .slice 48, size := 1, bytes := 24, zero := .slice none 0 0 }
theorem row23 : TIOk Tryd.prog 23 i23 := ⟨Tryd.underlying23, ⟨Tryd.t23, by kernel_rfl, by kernel_rfl, by kernel_rfl, by kernel_rfl⟩, rfl⟩

def i24 : TInfo := { kind := .int .i64, size := 1, bytes := 8, zero := .int .i64 0 }
theorem row24 : TIOk Tryd.prog 24 i24 := ⟨Tryd.underlying24, ⟨Tryd.t24, by kernel_rfl, by kernel_rfl, by kernel_rfl, by kernel_rfl⟩, rfl⟩

def i31 : TInfo := { kind := .slice 37, size := 1, bytes := 24, zero := .slice none 0 0 }
theorem row31 : TIOk Tryd.prog 31 i31 := ⟨Tryd.underlying31, ⟨Tryd.t31, by kernel_rfl, by kernel_rfl, by kernel_rfl, by kernel_rfl⟩, rfl⟩

def i32 : TInfo := { kind := .slice 3, size := 1, bytes := 24, zero := .slice none 0 0 }
theorem row32 : TIOk Tryd.prog 32 i32 := ⟨Tryd.underlying32, ⟨Tryd.t32, by kernel_rfl, by kernel_rfl, by kernel_rfl, by kernel_rfl⟩, rfl⟩

def i34 : TInfo := { kind := .struct [(3, 0), (32, 1)], size := 2, bytes := 32, zero := .agg #[.int .i64 0, .slice none 0 0] }
theorem row34 : TIOk Tryd.prog 34 i34 := ⟨⟨_, Tryd.underlying34, rfl⟩, ⟨Tryd.t34, by kernel_rfl, by kernel_rfl, by kernel_rfl, by kernel_rfl⟩, rfl⟩

def i35 : TInfo := { kind := .struct [(34, 0), (3, 2)], size := 3, bytes := 40, zero := .agg #[.int .i64 0, .slice none 0 0, .int .i64 0] }
theorem row35 : TIOk Tryd.prog 35 i35 := ⟨⟨_, Tryd.underlying35, rfl⟩, ⟨Tryd.t35, by kernel_rfl, by kernel_rfl, by kernel_rfl, by kernel_rfl⟩, rfl⟩

def i36 : TInfo := { kind := .struct [(34, 0), (3, 2)], size := 3, bytes := 40, zero := .agg #[.int .i64 0, .slice none 0 0, .int .i64 0] }
theorem row36 : TIOk Tryd.prog 36 i36 := ⟨⟨_, Tryd.underlying36, rfl⟩, ⟨Tryd.t36, by kernel_rfl, by kernel_rfl, by kernel_rfl, by kernel_rfl⟩, rfl⟩

def i37 : TInfo := { kind := .array 2 3, size := 2, bytes := 16, zero := .agg #[.int .i64 0, .int .i64 0] }
theorem row37 : TIOk Tryd.prog 37 i37 := ⟨Tryd.underlying37, ⟨Tryd.t37, by kernel_rfl, by kernel_rfl, by kernel_rfl, by kernel_rfl⟩, rfl⟩

def i48 : TInfo := { kind := .cpx .f32, size := 1, bytes := 8, zero := .complex .f32 0 0 }
theorem row48 : TIOk Tryd.prog 48 i48 := ⟨Tryd.underlying48, ⟨Tryd.t48, by kernel_rfl, by kernel_rfl, by kernel_rfl, by kernel_rfl⟩, rfl⟩

def i50 : TInfo := { kind := .flt .f32, size := 1, bytes := 4, zero := .float .f32 0 }
theorem row50 : TIOk Tryd.prog 50 i50 := ⟨Tryd.underlying50, ⟨Tryd.t50, by kernel_rfl, by kernel_rfl, by kernel_rfl, by kernel_rfl⟩, rfl⟩

def i56 : TInfo := { kind := .array 2 50, size := 2, bytes := 8, zero := .agg #[.float .f32 0, .float .f32 0] }
theorem row56 : TIOk Tryd.prog 56 i56 := ⟨Tryd.underlying56, ⟨Tryd.t56, by kernel_rfl, by kernel_rfl, by kernel_rfl, by kernel_rfl⟩, rfl⟩

def i57 : TInfo := { kind := .slice 56, size := 1, bytes := 24, zero := .slice none 0 0 }
theorem row57 : TIOk Tryd.prog 57 i57 := ⟨Tryd.underlying57, ⟨Tryd.t57, by kernel_rfl, by kernel_rfl, by kernel_rfl, by kernel_rfl⟩, rfl⟩

def i58 : TInfo := { kind := .slice 56, size := 1, bytes := 24, zero := .slice none 0 0 }
theorem row58 : TIOk Tryd.prog 58 i58 := ⟨Tryd.underlying58, ⟨Tryd.t58, by kernel_rfl, by kernel_rfl, by kernel_rfl, by kernel_rfl⟩, rfl⟩

def i63 : TInfo := { kind := .struct [(3, 0), (3, 1), (3, 2)], size := 3, bytes := 24, zero := .agg #[.int .i64 0, .int .i64 0, .int .i64 0] }
theorem row63 : TIOk Tryd.prog 63 i63 := ⟨⟨_, Tryd.underlying63, rfl⟩, ⟨Tryd.t63, by kernel_rfl, by kernel_rfl, by kernel_rfl, by kernel_rfl⟩, rfl⟩

def i65 : TInfo := { kind := .other, size := 1, bytes := 8, zero := .nilFunc }
theorem row65 : TIOk Tryd.prog 65 i65 := ⟨⟨_, Tryd.underlying65, trivial⟩, ⟨Tryd.t65, by kernel_rfl, by kernel_rfl, by kernel_rfl, by kernel_rfl⟩, rfl⟩

def i66 : TInfo := { kind := .slice 69, size := 1, bytes := 24, zero := .slice none 0 0 }
theorem row66 : TIOk Tryd.prog 66 i66 := ⟨Tryd.underlying66, ⟨Tryd.t66, by kernel_rfl, by kernel_rfl, by kernel_rfl, by kernel_rfl⟩, rfl⟩

def i67 : TInfo := { kind := .slice 69, size := 1, bytes := 24, zero := .slice none 0 0 }
theorem row67 : TIOk Tryd.prog 67 i67 := ⟨Tryd.underlying67, ⟨Tryd.t67, by kernel_rfl, by kernel_rfl, by kernel_rfl, by kernel_rfl⟩, rfl⟩

def i69 : TInfo := { kind := .struct [(3, 0), (3, 1)], size := 2, bytes := 16, zero := .agg #[.int .i64 0, .int .i64 0] }
theorem row69 : TIOk Tryd.prog 69 i69 := ⟨⟨_, Tryd.underlying69, rfl⟩, ⟨Tryd.t69, by kernel_rfl, by kernel_rfl, by kernel_rfl, by kernel_rfl⟩, rfl⟩

def i75 : TInfo := { kind := .cpx .f64, size := 1, bytes := 16, zero := .complex .f64 0 0 }
theorem row75 : TIOk Tryd.prog 75 i75 := ⟨Tryd.underlying75, ⟨Tryd.t75, by kernel_rfl, by kernel_rfl, by kernel_rfl, by kernel_rfl⟩, rfl⟩

def i84 : TInfo := { kind := .struct [(34, 0)], size := 2, bytes := 32, zero := .agg #[.int .i64 0, .slice none 0 0] }
theorem row84 : TIOk Tryd.prog 84 i84 := ⟨⟨_, Tryd.underlying84, rfl⟩, ⟨Tryd.t84, by kernel_rfl, by kernel_rfl, by kernel_rfl, by kernel_rfl⟩, rfl⟩

def i97 : TInfo := { kind := .struct [(63, 0)], size := 3, bytes := 24, zero := .agg #[.int .i64 0, .int .i64 0, .int .i64 0] }
theorem row97 : TIOk Tryd.prog 97 i97 := ⟨⟨_, Tryd.underlying97, rfl⟩, ⟨Tryd.t97, by kernel_rfl, by kernel_rfl, by kernel_rfl, by kernel_rfl⟩, rfl⟩

def i101 : TInfo := { kind := .array 4 37, size := 8, bytes := 64, zero := .agg #[.int .i64 0, .int .i64 0, .int .i64 0, .int .i64 0, .int .i64 0, .int .i64 0, .int .i64 0, .int .i64 0] }
theorem row101 : TIOk Tryd.prog 101 i101 := ⟨Tryd.underlying101, ⟨Tryd.t101, by kernel_rfl, by kernel_rfl, by kernel_rfl, by kernel_rfl⟩, rfl⟩

def i103 : TInfo := { kind := .int .u64, size := 1, bytes := 8, zero := .int .u64 0 }
theorem row103 : TIOk Tryd.prog 103 i103 := ⟨Tryd.underlying103, ⟨Tryd.t103, by kernel_rfl, by kernel_rfl, by kernel_rfl, by kernel_rfl⟩, rfl⟩

def i105 : TInfo := { kind := .flt .f64, size := 1, bytes := 8, zero := .float .f64 0 }
theorem row105 : TIOk Tryd.prog 105 i105 := ⟨Tryd.underlying105, ⟨Tryd.t105, by kernel_rfl, by kernel_rfl, by kernel_rfl, by kernel_rfl⟩, rfl⟩

def i112 : TInfo := { kind := .slice 24, size := 1, bytes := 24, zero := .slice none 0 0 }
theorem row112 : TIOk Tryd.prog 112 i112 := ⟨Tryd.underlying112, ⟨Tryd.t112, by kernel_rfl, by kernel_rfl, by kernel_rfl, by kernel_rfl⟩, rfl⟩

def i113 : TInfo := { kind := .other, size := 1, bytes := 8, zero := .nilFunc }
theorem row113 : TIOk Tryd.prog 113 i113 := ⟨⟨_, Tryd.underlying113, trivial⟩, ⟨Tryd.t113, by kernel_rfl, by kernel_rfl, by kernel_rfl, by kernel_rfl⟩, rfl⟩

def i120 : TInfo := { kind := .int .u64, size := 1, bytes := 8, zero := .int .u64 0 }
theorem row120 : TIOk Tryd.prog 120 i120 := ⟨Tryd.underlying120, ⟨Tryd.t120, by kernel_rfl, by kernel_rfl, by kernel_rfl, by kernel_rfl⟩, rfl⟩

def i128 : TInfo := { kind := .int .u32, size := 1, bytes := 4, zero := .int .u32 0 }
theorem row128 : TIOk Tryd.prog 128 i128 := ⟨Tryd.underlying128, ⟨Tryd.t128, by kernel_rfl, by kernel_rfl, by kernel_rfl, by kernel_rfl⟩, rfl⟩

def i70 : TInfo := { kind := .array 4 69, size := 8, bytes := 64, zero := .agg #[.int .i64 0, .int .i64 0, .int .i64 0, .int .i64 0, .int .i64 0, .int .i64 0, .int .i64 0, .int .i64 0] }
theorem row70 : TIOk Tryd.prog 70 i70 := ⟨Tryd.underlying70, ⟨Tryd.t70, by kernel_rfl, by kernel_rfl, by kernel_rfl, by kernel_rfl⟩, rfl⟩

def tt : TT := [(3, i3), (4, i4), (23, i23), (24, i24), (31, i31), (32, i32), (34, i34), (35, i35), (36, i36), (37, i37), (48, i48), (50, i50), (56, i56), (57, i57), (58, i58), (63, i63), (65, i65), (66, i66), (67, i67), (69, i69), (75, i75), (84, i84), (97, i97), (101, i101), (103, i103), (105, i105), (112, i112), (113, i113), (120, i120), (128, i128), (70, i70)]
theorem rows : RowsOk Tryd.prog tt := ⟨row3, row4, row23, row24, row31, row32, row34, row35, row36, row37, row48, row50, row56, row57, row58, row63, row65, row66, row67, row69, row75, row84, row97, row101, row103, row105, row112, row113, row120, row128, row70, trivial⟩
theorem tbl : TblOk Tryd.prog tt := ⟨fun _ _ h => rowsOk_get rows h, by kernel_rfl⟩
end Go.Eng.Pu
