/- What the rows' listed variables give to a walk of show, and a world that holds them. Conditions: the listed tables of Go's library are as laid (the card ties them to the text). -/
import Derived.Test.YtpipcpjkfgdpcaaDoorRows
import Derived.Test.YtpipcpjkfgdpcaaDoorArgs
import Derived.Test.YtpipcpjkfgdpcaaDoorShDigits
import Derived.LaidHandle
namespace Go.Proofs.YtpipcpjkfgdpcaaDoor
open Go.ChangeShapes Go.WideShapes Go.RowKit

def lay : List (Nat × Array Value) := [(6, datCells Rows.laid_math_bits_deBruijn32tab), (7, datCells Rows.laid_math_bits_deBruijn64tab), (3, datCells Rows.laid_internal_strconv_uint64pow10)]

theorem int_in64 {z : Int} (h : (Lit.int .i64 z).wf = true) : In64 z := by
  have e1 : IntKind.i64.min = -9223372036854775808 := by decide
  have e2 : IntKind.i64.max = 9223372036854775807 := by decide
  simp only [Lit.wf, e1, e2, Bool.and_eq_true, decide_eq_true_eq] at h
  exact h
end Go.Proofs.YtpipcpjkfgdpcaaDoor
