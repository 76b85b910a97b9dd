/- What ShowGrid is handed beyond an array: room enough behind its lengths; the library's listed variables. Conditions: those of the given row alone. -/
import Derived.Test.YtpipcpjkfgdpcaaDoorShArgs
import Derived.Test.YtpipcpjkfgdpcaaDoorShGr1
namespace Go.Proofs.YtpipcpjkfgdpcaaDoor
open Go.ChangeShapes Go.WideShapes Go.Deep Go.RowKit

section
variable {H : Type} {enc : TypeId × Value → H} {w : World} {base : Nat} {spare : Nat → Bool} {held : Bool}
set_option maxRecDepth 100000 in
theorem arr_cap {A : Option Addr} {n ca : Nat} {v1 : Value} {d : DataW H} {p : List MemPlace} (hd : DataW.Trod enc Tryd.prog w base spare held 36 (.agg #[.slice A n ca, v1]) d p) : n ≤ ca ∧ ca ≤ 9223372036854775807 := by
  obtain ⟨fuel, hf⟩ := hd
  obtain ⟨y0, y1, k, hx, _, t0, t1⟩ := trod_struct2 Tryd.underlying36 hf
  have c1 : Tryd.prog.cellsOf 25 = 1 := by kernel_rfl
  have t0' : DataW.trod enc Tryd.prog w base spare held k 25 [.slice A n ca] = some y0 := by
    have h := t0
    simp only [Value.cells, List.drop_zero] at h
    rw [c1] at h
    exact h
  rcases open_ints Tryd.underlying25 Tryd.underlying3 (by kernel_rfl) t0' with ⟨hcs, _⟩ | ⟨a, len, cap, zs, hcs, _, hl, hm, _⟩
  · simp only [List.cons.injEq, and_true, Value.slice.injEq] at hcs
    omega
  · simp only [List.cons.injEq, and_true, Value.slice.injEq] at hcs
    obtain ⟨_, rfl, rfl⟩ := hcs
    exact ⟨hl, hm⟩
end
theorem gAsc : Tryd.prog.globalNamed "strings.asciiSpace" = some 0 := by kernel_rfl
theorem asc_of {W : World} {L : List (String × DataW Unit)} (h : laidMetH Tryd.prog L W)
    (hL : (L.filter fun x => x.1 == "strings.asciiSpace") = [("strings.asciiSpace", Lib.tabData .u8 Lib.asciiSpaceTab)]) : AscTab W := by
  have h1 := h.filter fun x => x.1 == "strings.asciiSpace"
  rw [hL] at h1
  have h2 : laidMet Tryd.prog [("strings.asciiSpace", Lib.tabData .u8 Lib.asciiSpaceTab)] W := h1
  exact Lib.tabBelow_of_tabIs (Lib.tabIs_of_head (rest := []) gAsc (t := 109) (e := 5) (n := 256) (by kernel_rfl) Tryd.underlying109 Tryd.underlying5 (by kernel_rfl) (by kernel_rfl) h2)
theorem maxLen_of {W : World} (h : W.ShapedOpen Tryd.prog) : MaxLenAt W := by
  obtain ⟨m, hm⟩ := Tryd.laysM138.s1_3 W h
  exact ⟨Go.block_lt_of_cell hm, m, hm⟩

/-- a datum of structs of plain numbers as the cells that hold it -/
def flatCells : DataW Unit → Array Value
  | .agg parts => (parts.flatMap fun p => (datCells p).toList).toArray
  | d => datCells d
/-- the ranges of blanks -/
def blankCells : Array Value := ([9, 13, 1, 32, 133, 101, 160, 5760, 5600, 8192, 8202, 1, 8232, 8233, 1, 8239, 8287, 48, 12288, 12288, 1].map fun (z : Nat) => Value.int .u16 (z : Int)).toArray
/-- a world in which all that the row lists is as laid: the settled one with two blocks more -/
noncomputable def gridWorld (os : Os) : World :=
  let N := (World.settled Tryd.prog os).heap.size
  let w0 := World.holding Tryd.prog os ⟨#[.cells blankCells 158, .cells #[.slice (some ⟨N, 0, none⟩) 7 7, .slice none 0 0, .int .i64 2] 155], #[], []⟩
  { w0 with heap := (lay ++ [(0, datCells Rows.laid_strings_asciiSpace), (4, datCells Rows.laid_unicode_utf8_first), (5, flatCells Rows.laid_unicode_utf8_acceptRanges), (1, #[.pointer (some ⟨N + 1, 0, none⟩)])]).foldl (fun (h : Array Obj) (x : Nat × Array Value) => h.modify x.1 (putCells x.2)) w0.heap }
end Go.Proofs.YtpipcpjkfgdpcaaDoor
