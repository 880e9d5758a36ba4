/- The table of the program's types for the executor, with its proof. Conditions: none. -/
import Derived.KernelRfl
import Derived.Test.YtimkbccpbjabiaaProg
import Derived.Test.YtimkbccpbjabiaaEC
namespace Go.Eng.Lp
open Go.Eng Go.Proofs

def RowsOk (P : Program) : TT → Prop
  | [] => True
  | (t, i) :: r => TIOk P t i ∧ RowsOk P r

theorem rowsOk_get {P : Program} : ∀ {tt : TT} {t : Nat} {i : TInfo}, RowsOk P tt → tt.get t = some i → TIOk P t i
  | [], _, _, _, h => by simp [TT.get] at h
  | (t', i') :: r, t, i, hr, h => by
    simp only [TT.get] at h
    cases hb : Nat.beq t' t with
    | true =>
      rw [hb] at h
      have := Nat.eq_of_beq_eq_true hb
      subst this
      simp only [cond_true, Option.some.injEq] at h
      subst h
      exact hr.1
    | false => rw [hb] at h; exact rowsOk_get hr.2 h

def i3 : TInfo := { kind := .int .i64, size := 1, bytes := 8, zero := .int .i64 0 }
theorem row3 : TIOk Try.prog 3 i3 := ⟨Try.underlying3, ⟨Try.t3, by kernel_rfl, by kernel_rfl, by kernel_rfl, by kernel_rfl⟩, rfl⟩

def i4 : TInfo := { kind := .bool, size := 1, bytes := 1, zero := .bool false }
theorem row4 : TIOk Try.prog 4 i4 := ⟨Try.underlying4, ⟨Try.t4, by kernel_rfl, by kernel_rfl, by kernel_rfl, by kernel_rfl⟩, rfl⟩

def i25 : TInfo := { kind := .struct [(3, 0), (3, 1), (3, 2)], size := 3, bytes := 24, zero := .agg #[.int .i64 0, .int .i64 0, .int .i64 0] }
theorem row25 : TIOk Try.prog 25 i25 := ⟨⟨_, Try.underlying25, rfl⟩, ⟨Try.t25, by kernel_rfl, by kernel_rfl, by kernel_rfl, by kernel_rfl⟩, rfl⟩

def i28 : TInfo := { kind := .slice 112, size := 1, bytes := 24, zero := .slice none 0 0 }
theorem row28 : TIOk Try.prog 28 i28 := ⟨Try.underlying28, ⟨Try.t28, by kernel_rfl, by kernel_rfl, by kernel_rfl, by kernel_rfl⟩, rfl⟩

def i31 : TInfo := { kind := .slice 3, size := 1, bytes := 24, zero := .slice none 0 0 }
theorem row31 : TIOk Try.prog 31 i31 := ⟨Try.underlying31, ⟨Try.t31, by kernel_rfl, by kernel_rfl, by kernel_rfl, by kernel_rfl⟩, rfl⟩

def i33 : TInfo := { kind := .struct [(31, 0), (3, 1)], size := 2, bytes := 32, zero := .agg #[.slice none 0 0, .int .i64 0] }
theorem row33 : TIOk Try.prog 33 i33 := ⟨⟨_, Try.underlying33, rfl⟩, ⟨Try.t33, by kernel_rfl, by kernel_rfl, by kernel_rfl, by kernel_rfl⟩, rfl⟩

def i35 : TInfo := { kind := .struct [(3, 0), (3, 1)], size := 2, bytes := 16, zero := .agg #[.int .i64 0, .int .i64 0] }
theorem row35 : TIOk Try.prog 35 i35 := ⟨⟨_, Try.underlying35, rfl⟩, ⟨Try.t35, by kernel_rfl, by kernel_rfl, by kernel_rfl, by kernel_rfl⟩, rfl⟩

def i36 : TInfo := { kind := .other, size := 1, bytes := 8, zero := .nilFunc }
theorem row36 : TIOk Try.prog 36 i36 := ⟨⟨_, Try.underlying36, trivial⟩, ⟨Try.t36, by kernel_rfl, by kernel_rfl, by kernel_rfl, by kernel_rfl⟩, rfl⟩

def i37 : TInfo := { kind := .int .i64, size := 1, bytes := 8, zero := .int .i64 0 }
theorem row37 : TIOk Try.prog 37 i37 := ⟨Try.underlying37, ⟨Try.t37, by kernel_rfl, by kernel_rfl, by kernel_rfl, by kernel_rfl⟩, rfl⟩

def i60 : TInfo := { kind := .slice 31, size := 1, bytes := 24, zero := .slice none 0 0 }
theorem row60 : TIOk Try.prog 60 i60 := ⟨Try.underlying60, ⟨Try.t60, by kernel_rfl, by kernel_rfl, by kernel_rfl, by kernel_rfl⟩, rfl⟩

def i62 : TInfo := { kind := .struct [(60, 0)], size := 1, bytes := 24, zero := .agg #[.slice none 0 0] }
theorem row62 : TIOk Try.prog 62 i62 := ⟨⟨_, Try.underlying62, rfl⟩, ⟨Try.t62, by kernel_rfl, by kernel_rfl, by kernel_rfl, by kernel_rfl⟩, rfl⟩

def i75 : TInfo := { kind := .slice 76, size := 1, bytes := 24, zero := .slice none 0 0 }
theorem row75 : TIOk Try.prog 75 i75 := ⟨Try.underlying75, ⟨Try.t75, by kernel_rfl, by kernel_rfl, by kernel_rfl, by kernel_rfl⟩, rfl⟩

def i76 : TInfo := { kind := .slice 33, size := 1, bytes := 24, zero := .slice none 0 0 }
theorem row76 : TIOk Try.prog 76 i76 := ⟨Try.underlying76, ⟨Try.t76, by kernel_rfl, by kernel_rfl, by kernel_rfl, by kernel_rfl⟩, rfl⟩

def i91 : TInfo := { kind := .slice 35, size := 1, bytes := 24, zero := .slice none 0 0 }
theorem row91 : TIOk Try.prog 91 i91 := ⟨Try.underlying91, ⟨Try.t91, by kernel_rfl, by kernel_rfl, by kernel_rfl, by kernel_rfl⟩, rfl⟩

def i99 : TInfo := { kind := .struct [(3, 0), (91, 1), (35, 2)], size := 4, bytes := 48, zero := .agg #[.int .i64 0, .slice none 0 0, .int .i64 0, .int .i64 0] }
theorem row99 : TIOk Try.prog 99 i99 := ⟨⟨_, Try.underlying99, rfl⟩, ⟨Try.t99, by kernel_rfl, by kernel_rfl, by kernel_rfl, by kernel_rfl⟩, rfl⟩

def i110 : TInfo := { kind := .struct [(3, 0), (3, 1)], size := 2, bytes := 16, zero := .agg #[.int .i64 0, .int .i64 0] }
theorem row110 : TIOk Try.prog 110 i110 := ⟨⟨_, Try.underlying110, rfl⟩, ⟨Try.t110, by kernel_rfl, by kernel_rfl, by kernel_rfl, by kernel_rfl⟩, rfl⟩

def i112 : TInfo := { kind := .array 2 3, size := 2, bytes := 16, zero := .agg #[.int .i64 0, .int .i64 0] }
theorem row112 : TIOk Try.prog 112 i112 := ⟨Try.underlying112, ⟨Try.t112, by kernel_rfl, by kernel_rfl, by kernel_rfl, by kernel_rfl⟩, rfl⟩

def i117 : TInfo := { kind := .ptr 121, size := 1, bytes := 8, zero := .pointer none }
theorem row117 : TIOk Try.prog 117 i117 := ⟨Try.underlying117, ⟨Try.t117, by kernel_rfl, by kernel_rfl, by kernel_rfl, by kernel_rfl⟩, rfl⟩

def i125 : TInfo := { kind := .slice 31, size := 1, bytes := 24, zero := .slice none 0 0 }
theorem row125 : TIOk Try.prog 125 i125 := ⟨Try.underlying125, ⟨Try.t125, by kernel_rfl, by kernel_rfl, by kernel_rfl, by kernel_rfl⟩, rfl⟩

def i138 : TInfo := { kind := .struct [(91, 0), (91, 1)], size := 2, bytes := 48, zero := .agg #[.slice none 0 0, .slice none 0 0] }
theorem row138 : TIOk Try.prog 138 i138 := ⟨⟨_, Try.underlying138, rfl⟩, ⟨Try.t138, by kernel_rfl, by kernel_rfl, by kernel_rfl, by kernel_rfl⟩, rfl⟩

def i146 : TInfo := { kind := .slice 37, size := 1, bytes := 24, zero := .slice none 0 0 }
theorem row146 : TIOk Try.prog 146 i146 := ⟨Try.underlying146, ⟨Try.t146, by kernel_rfl, by kernel_rfl, by kernel_rfl, by kernel_rfl⟩, rfl⟩

def i149 : TInfo := { kind := .ptr 151, size := 1, bytes := 8, zero := .pointer none }
theorem row149 : TIOk Try.prog 149 i149 := ⟨Try.underlying149, ⟨Try.t149, by kernel_rfl, by kernel_rfl, by kernel_rfl, by kernel_rfl⟩, rfl⟩

def i151 : TInfo := { kind := .struct [(33, 0), (117, 2), (91, 3), (91, 4)], size := 5, bytes := 88, zero := .agg #[.slice none 0 0, .int .i64 0, .pointer none, .slice none 0 0, .slice none 0 0] }
theorem row151 : TIOk Try.prog 151 i151 := ⟨⟨_, Try.underlying151, rfl⟩, ⟨Try.t151, by kernel_rfl, by kernel_rfl, by kernel_rfl, by kernel_rfl⟩, rfl⟩

def i155 : TInfo := { kind := .flt .f64, size := 1, bytes := 8, zero := .float .f64 0 }
theorem row155 : TIOk Try.prog 155 i155 := ⟨Try.underlying155, ⟨Try.t155, by kernel_rfl, by kernel_rfl, by kernel_rfl, by kernel_rfl⟩, rfl⟩

def tt : TT := [(3, i3), (4, i4), (25, i25), (28, i28), (31, i31), (33, i33), (35, i35), (36, i36), (37, i37), (60, i60), (62, i62), (75, i75), (76, i76), (91, i91), (99, i99), (110, i110), (112, i112), (117, i117), (125, i125), (138, i138), (146, i146), (149, i149), (151, i151), (155, i155)]
theorem rows : RowsOk Try.prog tt := ⟨row3, row4, row25, row28, row31, row33, row35, row36, row37, row60, row62, row75, row76, row91, row99, row110, row112, row117, row125, row138, row146, row149, row151, row155, trivial⟩
theorem tbl : TblOk Try.prog tt := ⟨fun _ _ h => rowsOk_get rows h, by kernel_rfl⟩
end Go.Eng.Lp
