/- What the rows' listed variables give to a walk of fault, and a world that holds them. Conditions: the listed tables of Go's library are as laid (the card ties them to the text). -/
import Derived.Test.YtcohinfpcafcpaaDoorRows
import Derived.Test.YtcohinfpcafcpaaDoorFaultMore
import Derived.Test.YtcohinfpcafcpaaDoorArgs
import Derived.LaidHandle
namespace Go.Proofs.YtcohinfpcafcpaaDoor
open Go.ChangeShapes Go.WideShapes Go.RowKit

theorem gErr : Tryd.prog.globalNamed "errors.errorType" = some 0 := by kernel_rfl
theorem rtRow : (Tryd.prog.cutTypes.find? (·.1 == "internal/reflectlite.rtype")).map (·.2) = some 84 := by kernel_rfl
theorem oneErrRow : ((List.range Tryd.prog.types.size).filter fun t => Tryd.prog.rowNamed t [101, 114, 114, 111, 114]) = [29] := by kernel_rfl
theorem errTy_of {L : List (String × DataW Unit)} {W : World} (h : laidMetH Tryd.prog L W)
    (hL : (L.filter fun x => x.2.handleName?.isSome) = [("errors.errorType", Rows.laid_errors_errorType)]) : ErrTy W := by
  have h' := (laidMetH_iff.1 h).2
  rw [hL] at h'
  obtain ⟨name, u, ty, e1, e2, e3, e4, e5⟩ := h' _ (List.mem_singleton.2 rfl)
  have en : name = [101, 114, 114, 111, 114] := (Option.some.inj e1).symm
  subst en
  obtain rfl := Option.some.inj (rtRow.symm.trans e2)
  have hm : ty ∈ (List.range Tryd.prog.types.size).filter fun t => Tryd.prog.rowNamed t [101, 114, 114, 111, 114] := List.mem_filter.2 ⟨List.mem_range.2 e3, e4⟩
  rw [oneErrRow] at hm
  obtain rfl := List.mem_singleton.1 hm
  have hh : typeHandle Tryd.prog 29 = .pointer (some ⟨4, 29, none⟩) := by kernel_rfl
  rw [hh] at e5
  have hc := by simpa using World.var?_cell gErr e5 0
  exact ⟨hc, (lt_of_cell hc).1⟩

def lay : List (Nat × Array Value) := [(2, datCells Rows.laid_math_bits_deBruijn32tab), (3, datCells Rows.laid_math_bits_deBruijn64tab), (1, datCells Rows.laid_internal_strconv_uint64pow10), (0, #[rty 29])]

theorem int_in64 {z : Int} (h : (Lit.int .i64 z).wf = true) : In64 z := by
  have e1 : IntKind.i64.min = -9223372036854775808 := by decide
  have e2 : IntKind.i64.max = 9223372036854775807 := by decide
  simp only [Lit.wf, e1, e2, Bool.and_eq_true, decide_eq_true_eq] at h
  exact h
end Go.Proofs.YtcohinfpcafcpaaDoor
