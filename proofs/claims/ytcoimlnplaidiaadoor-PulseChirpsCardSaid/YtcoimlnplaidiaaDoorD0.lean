/- What the variable turns holds. Conditions: none. -/
import Derived.Test.YtcoimlnplaidiaaDoorQ1
namespace Go.Eng.Pu
open Go.Eng Go.Proofs
set_option linter.all false

/-- What the variable turns holds. -/
abbrev TurnT : Ty := .cons PairT (.cons PairT (.cons PairT (.cons PairT .nil)))
def turnsD : TurnT.Den := ((1, 0, ()), (0, 1, ()), (-1, 0, ()), (0, -1, ()), ())

end Go.Eng.Pu
