/- The table of the program's types for the executor, with its proof. Conditions: none. -/
import Derived.KernelRfl
import Derived.Test.YtdphhjibkjlmcaaProg
import Derived.Test.YtdphhjibkjlmcaaEC
namespace Go.Eng.Lp
open Go.Eng Go.Proofs

def RowsOk (P : Program) : TT → Prop
  | [] => True
  | (t, i) :: r => TIOk P t i ∧ RowsOk P r

theorem rowsOk_get {P : Program} : ∀ {tt : TT} {t : Nat} {i : TInfo}, RowsOk P tt → tt.get t = some i → TIOk P t i
  | [], _, _, _, h => by simp [TT.get] at h
  | (t', i') :: r, t, i, hr, h => by
    simp only [TT.get] at h
    cases hb : Nat.beq t' t with
    | true =>
      rw [hb] at h
      have := Nat.eq_of_beq_eq_true hb
      subst this
      simp only [cond_true, Option.some.injEq] at h
      subst h
      exact hr.1
    | false => rw [hb] at h; exact rowsOk_get hr.2 h

def i3 : TInfo := { kind := .int .i64, size := 1, bytes := 8, zero := .int .i64 0 }
theorem row3 : TIOk Try.prog 3 i3 := ⟨Try.underlying3, ⟨Try.t3, by kernel_rfl, by kernel_rfl, by kernel_rfl, by kernel_rfl⟩, rfl⟩

def i4 : TInfo := { kind := .bool, size := 1, bytes := 1, zero := .bool false }
theorem row4 : TIOk Try.prog 4 i4 := ⟨Try.underlying4, ⟨Try.t4, by kernel_rfl, by kernel_rfl, by kernel_rfl, by kernel_rfl⟩, rfl⟩

def i22 : TInfo := { kind := .array 2 3, size := 2, bytes := 16, zero := .agg #[.int .i64 0, .int .i64 0] }
theorem row22 : TIOk Try.prog 22 i22 := ⟨Try.underlying22, ⟨Try.t22, by kernel_rfl, by kernel_rfl, by kernel_rfl, by kernel_rfl⟩, rfl⟩

def i25 : TInfo := { kind := .slice 3, size := 1, bytes := 24, zero := .slice none 0 0 }
theorem row25 : TIOk Try.prog 25 i25 := ⟨Try.underlying25, ⟨Try.t25, by kernel_rfl, by kernel_rfl, by kernel_rfl, by kernel_rfl⟩, rfl⟩

def i27 : TInfo := { kind := .struct [(25, 0), (3, 1)], size := 2, bytes := 32, zero := .agg #[.slice none 0 0, .int .i64 0] }
theorem row27 : TIOk Try.prog 27 i27 := ⟨⟨_, Try.underlying27, rfl⟩, ⟨Try.t27, by kernel_rfl, by kernel_rfl, by kernel_rfl, by kernel_rfl⟩, rfl⟩

def i28 : TInfo := { kind := .int .i64, size := 1, bytes := 8, zero := .int .i64 0 }
theorem row28 : TIOk Try.prog 28 i28 := ⟨Try.underlying28, ⟨Try.t28, by kernel_rfl, by kernel_rfl, by kernel_rfl, by kernel_rfl⟩, rfl⟩

def i33 : TInfo := { kind := .array 3 3, size := 3, bytes := 24, zero := .agg #[.int .i64 0, .int .i64 0, .int .i64 0] }
theorem row33 : TIOk Try.prog 33 i33 := ⟨Try.underlying33, ⟨Try.t33, by kernel_rfl, by kernel_rfl, by kernel_rfl, by kernel_rfl⟩, rfl⟩

def i35 : TInfo := { kind := .struct [(33, 0), (22, 3)], size := 5, bytes := 40, zero := .agg #[.int .i64 0, .int .i64 0, .int .i64 0, .int .i64 0, .int .i64 0] }
theorem row35 : TIOk Try.prog 35 i35 := ⟨⟨_, Try.underlying35, rfl⟩, ⟨Try.t35, by kernel_rfl, by kernel_rfl, by kernel_rfl, by kernel_rfl⟩, rfl⟩

def i36 : TInfo := { kind := .slice 35, size := 1, bytes := 24, zero := .slice none 0 0 }
theorem row36 : TIOk Try.prog 36 i36 := ⟨Try.underlying36, ⟨Try.t36, by kernel_rfl, by kernel_rfl, by kernel_rfl, by kernel_rfl⟩, rfl⟩

def i39 : TInfo := { kind := .slice 27, size := 1, bytes := 24, zero := .slice none 0 0 }
theorem row39 : TIOk Try.prog 39 i39 := ⟨Try.underlying39, ⟨Try.t39, by kernel_rfl, by kernel_rfl, by kernel_rfl, by kernel_rfl⟩, rfl⟩

def i41 : TInfo := { kind := .struct [(3, 0), (3, 1)], size := 2, bytes := 16, zero := .agg #[.int .i64 0, .int .i64 0] }
theorem row41 : TIOk Try.prog 41 i41 := ⟨⟨_, Try.underlying41, rfl⟩, ⟨Try.t41, by kernel_rfl, by kernel_rfl, by kernel_rfl, by kernel_rfl⟩, rfl⟩

def i43 : TInfo := { kind := .struct [(3, 0), (3, 1), (41, 2)], size := 4, bytes := 32, zero := .agg #[.int .i64 0, .int .i64 0, .int .i64 0, .int .i64 0] }
theorem row43 : TIOk Try.prog 43 i43 := ⟨⟨_, Try.underlying43, rfl⟩, ⟨Try.t43, by kernel_rfl, by kernel_rfl, by kernel_rfl, by kernel_rfl⟩, rfl⟩

def i50 : TInfo := { kind := .slice 41, size := 1, bytes := 24, zero := .slice none 0 0 }
theorem row50 : TIOk Try.prog 50 i50 := ⟨Try.underlying50, ⟨Try.t50, by kernel_rfl, by kernel_rfl, by kernel_rfl, by kernel_rfl⟩, rfl⟩

def i52 : TInfo := { kind := .struct [(3, 0), (50, 1), (41, 2)], size := 4, bytes := 48, zero := .agg #[.int .i64 0, .slice none 0 0, .int .i64 0, .int .i64 0] }
theorem row52 : TIOk Try.prog 52 i52 := ⟨⟨_, Try.underlying52, rfl⟩, ⟨Try.t52, by kernel_rfl, by kernel_rfl, by kernel_rfl, by kernel_rfl⟩, rfl⟩

def i59 : TInfo := { kind := .struct [(3, 0), (3, 1), (3, 2)], size := 3, bytes := 24, zero := .agg #[.int .i64 0, .int .i64 0, .int .i64 0] }
theorem row59 : TIOk Try.prog 59 i59 := ⟨⟨_, Try.underlying59, rfl⟩, ⟨Try.t59, by kernel_rfl, by kernel_rfl, by kernel_rfl, by kernel_rfl⟩, rfl⟩

def i68 : TInfo := { kind := .slice 94, size := 1, bytes := 24, zero := .slice none 0 0 }
theorem row68 : TIOk Try.prog 68 i68 := ⟨Try.underlying68, ⟨Try.t68, by kernel_rfl, by kernel_rfl, by kernel_rfl, by kernel_rfl⟩, rfl⟩

def i69 : TInfo := { kind := .slice 94, size := 1, bytes := 24, zero := .slice none 0 0 }
theorem row69 : TIOk Try.prog 69 i69 := ⟨Try.underlying69, ⟨Try.t69, by kernel_rfl, by kernel_rfl, by kernel_rfl, by kernel_rfl⟩, rfl⟩

def i71 : TInfo := { kind := .slice 92, size := 1, bytes := 24, zero := .slice none 0 0 }
theorem row71 : TIOk Try.prog 71 i71 := ⟨Try.underlying71, ⟨Try.t71, by kernel_rfl, by kernel_rfl, by kernel_rfl, by kernel_rfl⟩, rfl⟩

def i74 : TInfo := { kind := .ptr 78, size := 1, bytes := 8, zero := .pointer none }
theorem row74 : TIOk Try.prog 74 i74 := ⟨Try.underlying74, ⟨Try.t74, by kernel_rfl, by kernel_rfl, by kernel_rfl, by kernel_rfl⟩, rfl⟩

def i79 : TInfo := { kind := .other, size := 1, bytes := 8, zero := .nilFunc }
theorem row79 : TIOk Try.prog 79 i79 := ⟨⟨_, Try.underlying79, trivial⟩, ⟨Try.t79, by kernel_rfl, by kernel_rfl, by kernel_rfl, by kernel_rfl⟩, rfl⟩

def i87 : TInfo := { kind := .slice 28, size := 1, bytes := 24, zero := .slice none 0 0 }
theorem row87 : TIOk Try.prog 87 i87 := ⟨Try.underlying87, ⟨Try.t87, by kernel_rfl, by kernel_rfl, by kernel_rfl, by kernel_rfl⟩, rfl⟩

def i92 : TInfo := { kind := .struct [(22, 0), (22, 2)], size := 4, bytes := 32, zero := .agg #[.int .i64 0, .int .i64 0, .int .i64 0, .int .i64 0] }
theorem row92 : TIOk Try.prog 92 i92 := ⟨⟨_, Try.underlying92, rfl⟩, ⟨Try.t92, by kernel_rfl, by kernel_rfl, by kernel_rfl, by kernel_rfl⟩, rfl⟩

def i94 : TInfo := { kind := .struct [(35, 0), (92, 5), (3, 9)], size := 10, bytes := 80, zero := .agg #[.int .i64 0, .int .i64 0, .int .i64 0, .int .i64 0, .int .i64 0, .int .i64 0, .int .i64 0, .int .i64 0, .int .i64 0, .int .i64 0] }
theorem row94 : TIOk Try.prog 94 i94 := ⟨⟨_, Try.underlying94, rfl⟩, ⟨Try.t94, by kernel_rfl, by kernel_rfl, by kernel_rfl, by kernel_rfl⟩, rfl⟩

def i101 : TInfo := { kind := .ptr 103, size := 1, bytes := 8, zero := .pointer none }
theorem row101 : TIOk Try.prog 101 i101 := ⟨Try.underlying101, ⟨Try.t101, by kernel_rfl, by kernel_rfl, by kernel_rfl, by kernel_rfl⟩, rfl⟩

def i103 : TInfo := { kind := .struct [(27, 0), (74, 2), (50, 3), (50, 4)], size := 5, bytes := 88, zero := .agg #[.slice none 0 0, .int .i64 0, .pointer none, .slice none 0 0, .slice none 0 0] }
theorem row103 : TIOk Try.prog 103 i103 := ⟨⟨_, Try.underlying103, rfl⟩, ⟨Try.t103, by kernel_rfl, by kernel_rfl, by kernel_rfl, by kernel_rfl⟩, rfl⟩

def i109 : TInfo := { kind := .ptr 94, size := 1, bytes := 8, zero := .pointer none }
theorem row109 : TIOk Try.prog 109 i109 := ⟨Try.underlying109, ⟨Try.t109, by kernel_rfl, by kernel_rfl, by kernel_rfl, by kernel_rfl⟩, rfl⟩

def i114 : TInfo := { kind := .struct [(3, 0), (3, 1)], size := 2, bytes := 16, zero := .agg #[.int .i64 0, .int .i64 0] }
theorem row114 : TIOk Try.prog 114 i114 := ⟨⟨_, Try.underlying114, rfl⟩, ⟨Try.t114, by kernel_rfl, by kernel_rfl, by kernel_rfl, by kernel_rfl⟩, rfl⟩

def i117 : TInfo := { kind := .flt .f64, size := 1, bytes := 8, zero := .float .f64 0 }
theorem row117 : TIOk Try.prog 117 i117 := ⟨Try.underlying117, ⟨Try.t117, by kernel_rfl, by kernel_rfl, by kernel_rfl, by kernel_rfl⟩, rfl⟩

def tt : TT := [(3, i3), (4, i4), (22, i22), (25, i25), (27, i27), (28, i28), (33, i33), (35, i35), (36, i36), (39, i39), (41, i41), (43, i43), (50, i50), (52, i52), (59, i59), (68, i68), (69, i69), (71, i71), (74, i74), (79, i79), (87, i87), (92, i92), (94, i94), (101, i101), (103, i103), (109, i109), (114, i114), (117, i117)]
theorem rows : RowsOk Try.prog tt := ⟨row3, row4, row22, row25, row27, row28, row33, row35, row36, row39, row41, row43, row50, row52, row59, row68, row69, row71, row74, row79, row87, row92, row94, row101, row103, row109, row114, row117, trivial⟩
theorem tbl : TblOk Try.prog tt := ⟨fun _ _ h => rowsOk_get rows h, by kernel_rfl⟩
end Go.Eng.Lp
