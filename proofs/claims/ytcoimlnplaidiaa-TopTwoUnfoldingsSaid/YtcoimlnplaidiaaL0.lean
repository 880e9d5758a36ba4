/- The table of the program's types for the executor, with its proof. Conditions: none. -/
import Derived.KernelRfl
import Derived.Test.YtcoimlnplaidiaaProg
import Derived.Test.YtcoimlnplaidiaaEB
namespace Go.Eng.Pu
open Go.Eng Go.Proofs

def RowsOk (P : Program) : TT → Prop
  | [] => True
  | (t, i) :: r => TIOk P t i ∧ RowsOk P r

theorem rowsOk_get {P : Program} : ∀ {tt : TT} {t : Nat} {i : TInfo}, RowsOk P tt → tt.get t = some i → TIOk P t i
  | [], _, _, _, h => by simp [TT.get] at h
  | (t', i') :: r, t, i, hr, h => by
    simp only [TT.get] at h
    cases hb : Nat.beq t' t with
    | true =>
      rw [hb] at h
      have := Nat.eq_of_beq_eq_true hb
      subst this
      simp only [cond_true, Option.some.injEq] at h
      subst h
      exact hr.1
    | false => rw [hb] at h; exact rowsOk_get hr.2 h

def i3 : TInfo := { kind := .int .i64, size := 1, bytes := 8, zero := .int .i64 0 }
theorem row3 : TIOk Try.prog 3 i3 := ⟨Try.underlying3, ⟨Try.t3, by kernel_rfl, by kernel_rfl, by kernel_rfl, by kernel_rfl⟩, rfl⟩

def i4 : TInfo := { kind := .bool, size := 1, bytes := 1, zero := .bool false }
theorem row4 : TIOk Try.prog 4 i4 := ⟨Try.underlying4, ⟨Try.t4, by kernel_rfl, by kernel_rfl, by kernel_rfl, by kernel_rfl⟩, rfl⟩

def i22 : TInfo := { kind := .slice 3, size := 1, bytes := 24, zero := .slice none 0 0 }
theorem row22 : TIOk Try.prog 22 i22 := ⟨Try.underlying22, ⟨Try.t22, by kernel_rfl, by kernel_rfl, by kernel_rfl, by kernel_rfl⟩, rfl⟩

def i24 : TInfo := { kind := .struct [(3, 0), (22, 1)], size := 2, bytes := 32, zero := .agg #[.int .i64 0, .slice none 0 0] }
theorem row24 : TIOk Try.prog 24 i24 := ⟨⟨_, Try.underlying24, rfl⟩, ⟨Try.t24, by kernel_rfl, by kernel_rfl, by kernel_rfl, by kernel_rfl⟩, rfl⟩

def i26 : TInfo := { kind := .int .i64, size := 1, bytes := 8, zero := .int .i64 0 }
theorem row26 : TIOk Try.prog 26 i26 := ⟨Try.underlying26, ⟨Try.t26, by kernel_rfl, by kernel_rfl, by kernel_rfl, by kernel_rfl⟩, rfl⟩

def i39 : TInfo := { kind := .slice 113, size := 1, bytes := 24, zero := .slice none 0 0 }
theorem row39 : TIOk Try.prog 39 i39 := ⟨Try.underlying39, ⟨Try.t39, by kernel_rfl, by kernel_rfl, by kernel_rfl, by kernel_rfl⟩, rfl⟩

def i40 : TInfo := { kind := .slice 113, size := 1, bytes := 24, zero := .slice none 0 0 }
theorem row40 : TIOk Try.prog 40 i40 := ⟨Try.underlying40, ⟨Try.t40, by kernel_rfl, by kernel_rfl, by kernel_rfl, by kernel_rfl⟩, rfl⟩

def i41 : TInfo := { kind := .struct [(24, 0), (3, 2)], size := 3, bytes := 40, zero := .agg #[.int .i64 0, .slice none 0 0, .int .i64 0] }
theorem row41 : TIOk Try.prog 41 i41 := ⟨⟨_, Try.underlying41, rfl⟩, ⟨Try.t41, by kernel_rfl, by kernel_rfl, by kernel_rfl, by kernel_rfl⟩, rfl⟩

def i42 : TInfo := { kind := .struct [(24, 0), (3, 2)], size := 3, bytes := 40, zero := .agg #[.int .i64 0, .slice none 0 0, .int .i64 0] }
theorem row42 : TIOk Try.prog 42 i42 := ⟨⟨_, Try.underlying42, rfl⟩, ⟨Try.t42, by kernel_rfl, by kernel_rfl, by kernel_rfl, by kernel_rfl⟩, rfl⟩

def i44 : TInfo := { kind := .slice 136, size := 1, bytes := 24, zero := .slice none 0 0 }
theorem row44 : TIOk Try.prog 44 i44 := ⟨Try.underlying44, ⟨Try.t44, by kernel_rfl, by kernel_rfl, by kernel_rfl, by kernel_rfl⟩, rfl⟩

def i55 : TInfo := { kind := .struct [(3, 0), (3, 1), (3, 2)], size := 3, bytes := 24, zero := .agg #[.int .i64 0, .int .i64 0, .int .i64 0] }
theorem row55 : TIOk Try.prog 55 i55 := ⟨⟨_, Try.underlying55, rfl⟩, ⟨Try.t55, by kernel_rfl, by kernel_rfl, by kernel_rfl, by kernel_rfl⟩, rfl⟩

def i79 : TInfo := { kind := .slice 40, size := 1, bytes := 24, zero := .slice none 0 0 }
theorem row79 : TIOk Try.prog 79 i79 := ⟨Try.underlying79, ⟨Try.t79, by kernel_rfl, by kernel_rfl, by kernel_rfl, by kernel_rfl⟩, rfl⟩

def i80 : TInfo := { kind := .slice 44, size := 1, bytes := 24, zero := .slice none 0 0 }
theorem row80 : TIOk Try.prog 80 i80 := ⟨Try.underlying80, ⟨Try.t80, by kernel_rfl, by kernel_rfl, by kernel_rfl, by kernel_rfl⟩, rfl⟩

def i81 : TInfo := { kind := .slice 112, size := 1, bytes := 24, zero := .slice none 0 0 }
theorem row81 : TIOk Try.prog 81 i81 := ⟨Try.underlying81, ⟨Try.t81, by kernel_rfl, by kernel_rfl, by kernel_rfl, by kernel_rfl⟩, rfl⟩

def i83 : TInfo := { kind := .struct [(3, 0), (81, 1)], size := 2, bytes := 32, zero := .agg #[.int .i64 0, .slice none 0 0] }
theorem row83 : TIOk Try.prog 83 i83 := ⟨⟨_, Try.underlying83, rfl⟩, ⟨Try.t83, by kernel_rfl, by kernel_rfl, by kernel_rfl, by kernel_rfl⟩, rfl⟩

def i84 : TInfo := { kind := .array 2 83, size := 4, bytes := 64, zero := .agg #[.int .i64 0, .slice none 0 0, .int .i64 0, .slice none 0 0] }
theorem row84 : TIOk Try.prog 84 i84 := ⟨Try.underlying84, ⟨Try.t84, by kernel_rfl, by kernel_rfl, by kernel_rfl, by kernel_rfl⟩, rfl⟩

def i112 : TInfo := { kind := .flt .f32, size := 1, bytes := 4, zero := .float .f32 0 }
theorem row112 : TIOk Try.prog 112 i112 := ⟨Try.underlying112, ⟨Try.t112, by kernel_rfl, by kernel_rfl, by kernel_rfl, by kernel_rfl⟩, rfl⟩

def i113 : TInfo := { kind := .array 2 112, size := 2, bytes := 8, zero := .agg #[.float .f32 0, .float .f32 0] }
theorem row113 : TIOk Try.prog 113 i113 := ⟨Try.underlying113, ⟨Try.t113, by kernel_rfl, by kernel_rfl, by kernel_rfl, by kernel_rfl⟩, rfl⟩

def i114 : TInfo := { kind := .slice 158, size := 1, bytes := 24, zero := .slice none 0 0 }
theorem row114 : TIOk Try.prog 114 i114 := ⟨Try.underlying114, ⟨Try.t114, by kernel_rfl, by kernel_rfl, by kernel_rfl, by kernel_rfl⟩, rfl⟩

def i122 : TInfo := { kind := .struct [(24, 0)], size := 2, bytes := 32, zero := .agg #[.int .i64 0, .slice none 0 0] }
theorem row122 : TIOk Try.prog 122 i122 := ⟨⟨_, Try.underlying122, rfl⟩, ⟨Try.t122, by kernel_rfl, by kernel_rfl, by kernel_rfl, by kernel_rfl⟩, rfl⟩

def i130 : TInfo := { kind := .slice 139, size := 1, bytes := 24, zero := .slice none 0 0 }
theorem row130 : TIOk Try.prog 130 i130 := ⟨Try.underlying130, ⟨Try.t130, by kernel_rfl, by kernel_rfl, by kernel_rfl, by kernel_rfl⟩, rfl⟩

def i131 : TInfo := { kind := .slice 139, size := 1, bytes := 24, zero := .slice none 0 0 }
theorem row131 : TIOk Try.prog 131 i131 := ⟨Try.underlying131, ⟨Try.t131, by kernel_rfl, by kernel_rfl, by kernel_rfl, by kernel_rfl⟩, rfl⟩

def i136 : TInfo := { kind := .cpx .f32, size := 1, bytes := 8, zero := .complex .f32 0 0 }
theorem row136 : TIOk Try.prog 136 i136 := ⟨Try.underlying136, ⟨Try.t136, by kernel_rfl, by kernel_rfl, by kernel_rfl, by kernel_rfl⟩, rfl⟩

def i139 : TInfo := { kind := .struct [(3, 0), (3, 1)], size := 2, bytes := 16, zero := .agg #[.int .i64 0, .int .i64 0] }
theorem row139 : TIOk Try.prog 139 i139 := ⟨⟨_, Try.underlying139, rfl⟩, ⟨Try.t139, by kernel_rfl, by kernel_rfl, by kernel_rfl, by kernel_rfl⟩, rfl⟩

def i146 : TInfo := { kind := .cpx .f64, size := 1, bytes := 16, zero := .complex .f64 0 0 }
theorem row146 : TIOk Try.prog 146 i146 := ⟨Try.underlying146, ⟨Try.t146, by kernel_rfl, by kernel_rfl, by kernel_rfl, by kernel_rfl⟩, rfl⟩

def i148 : TInfo := { kind := .struct [(55, 0)], size := 3, bytes := 24, zero := .agg #[.int .i64 0, .int .i64 0, .int .i64 0] }
theorem row148 : TIOk Try.prog 148 i148 := ⟨⟨_, Try.underlying148, rfl⟩, ⟨Try.t148, by kernel_rfl, by kernel_rfl, by kernel_rfl, by kernel_rfl⟩, rfl⟩

def i153 : TInfo := { kind := .other, size := 1, bytes := 8, zero := .nilFunc }
theorem row153 : TIOk Try.prog 153 i153 := ⟨⟨_, Try.underlying153, trivial⟩, ⟨Try.t153, by kernel_rfl, by kernel_rfl, by kernel_rfl, by kernel_rfl⟩, rfl⟩

def i158 : TInfo := { kind := .array 2 3, size := 2, bytes := 16, zero := .agg #[.int .i64 0, .int .i64 0] }
theorem row158 : TIOk Try.prog 158 i158 := ⟨Try.underlying158, ⟨Try.t158, by kernel_rfl, by kernel_rfl, by kernel_rfl, by kernel_rfl⟩, rfl⟩

def i168 : TInfo := { kind := .flt .f64, size := 1, bytes := 8, zero := .float .f64 0 }
theorem row168 : TIOk Try.prog 168 i168 := ⟨Try.underlying168, ⟨Try.t168, by kernel_rfl, by kernel_rfl, by kernel_rfl, by kernel_rfl⟩, rfl⟩

def i172 : TInfo := { kind := .slice 26, size := 1, bytes := 24, zero := .slice none 0 0 }
theorem row172 : TIOk Try.prog 172 i172 := ⟨Try.underlying172, ⟨Try.t172, by kernel_rfl, by kernel_rfl, by kernel_rfl, by kernel_rfl⟩, rfl⟩

def i173 : TInfo := { kind := .other, size := 1, bytes := 8, zero := .nilFunc }
theorem row173 : TIOk Try.prog 173 i173 := ⟨⟨_, Try.underlying173, trivial⟩, ⟨Try.t173, by kernel_rfl, by kernel_rfl, by kernel_rfl, by kernel_rfl⟩, rfl⟩

def i179 : TInfo := { kind := .int .u64, size := 1, bytes := 8, zero := .int .u64 0 }
theorem row179 : TIOk Try.prog 179 i179 := ⟨Try.underlying179, ⟨Try.t179, by kernel_rfl, by kernel_rfl, by kernel_rfl, by kernel_rfl⟩, rfl⟩

def i182 : TInfo := { kind := .int .u32, size := 1, bytes := 4, zero := .int .u32 0 }
theorem row182 : TIOk Try.prog 182 i182 := ⟨Try.underlying182, ⟨Try.t182, by kernel_rfl, by kernel_rfl, by kernel_rfl, by kernel_rfl⟩, rfl⟩

def i184 : TInfo := { kind := .array 4 158, size := 8, bytes := 64, zero := .agg #[.int .i64 0, .int .i64 0, .int .i64 0, .int .i64 0, .int .i64 0, .int .i64 0, .int .i64 0, .int .i64 0] }
theorem row184 : TIOk Try.prog 184 i184 := ⟨Try.underlying184, ⟨Try.t184, by kernel_rfl, by kernel_rfl, by kernel_rfl, by kernel_rfl⟩, rfl⟩

def i185 : TInfo := { kind := .int .u64, size := 1, bytes := 8, zero := .int .u64 0 }
theorem row185 : TIOk Try.prog 185 i185 := ⟨Try.underlying185, ⟨Try.t185, by kernel_rfl, by kernel_rfl, by kernel_rfl, by kernel_rfl⟩, rfl⟩

def tt : TT := [(3, i3), (4, i4), (22, i22), (24, i24), (26, i26), (39, i39), (40, i40), (41, i41), (42, i42), (44, i44), (55, i55), (79, i79), (80, i80), (81, i81), (83, i83), (84, i84), (112, i112), (113, i113), (114, i114), (122, i122), (130, i130), (131, i131), (136, i136), (139, i139), (146, i146), (148, i148), (153, i153), (158, i158), (168, i168), (172, i172), (173, i173), (179, i179), (182, i182), (184, i184), (185, i185)]
theorem rows : RowsOk Try.prog tt := ⟨row3, row4, row22, row24, row26, row39, row40, row41, row42, row44, row55, row79, row80, row81, row83, row84, row112, row113, row114, row122, row130, row131, row136, row139, row146, row148, row153, row158, row168, row172, row173, row179, row182, row184, row185, trivial⟩
theorem tbl : TblOk Try.prog tt := ⟨fun _ _ h => rowsOk_get rows h, by kernel_rfl⟩
end Go.Eng.Pu
