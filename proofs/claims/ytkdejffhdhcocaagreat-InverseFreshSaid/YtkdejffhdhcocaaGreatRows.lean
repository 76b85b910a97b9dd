/-
  NARROWER THAN 'FOR EVERY INPUT', by the rows' own cells (each row's printed sentence says how): InverseFresh: loops · TacitFresh: loops · TermFresh: loops.
  DERIVED. THE GIVEN ROWS OF THIS SEAT. 3 by the template 'for every input the law returns true; each argument reads behind the call as it read before'; 0 by the template 'total and deterministic' (their statements: YtkdejffhdhcocaaGreatTotals.lean).
  GIVEN WITH THE SEED: the statements are not yours to turn. If you find one false, say at which input.
  Laid BY PROGRAM, IN A SANDBOX (cutbox-rows.mjs): the forced cells as the released guide's own fill.sh prints them over the translation 9d1908f5a8fd1cff… (all of the seat's roots in one cut). By AI agents, Wed Nov 11 2026. No macro, syntax, notation, axiom, sorry.
-/
import Derived.Test.YtkdejffhdhcocaaGreatChecked
import GoSem.Claim
import GoSem.ClaimJoined
import GoSem.ClaimMapViews
import Derived.JoinedTies
import Derived.KernelRfl
namespace Go.Proofs.YtkdejffhdhcocaaGreat
/- THE CELL 'sum', in the pinned program and in every row, IS THE sha256 OF THE DUMP (.gsa) THAT YtkdejffhdhcocaaGreatProg.lean LOADS. Nothing in Lean hashes anything: it is a label: what it is worth is what the hold of that sum in a sandbox is worth. -/
noncomputable def Tryz.pinned : Pinned := { name := "ytkdejffhdhcocaagreat", sum := "9d1908f5a8fd1cffd5cc028cf35d5558c7169e3433c757f0003da5a44c00bd66", checked := Tryz.checked }
namespace Rows
def none {H : Type} : Left H := { results := [], args := [] }

/-- 'abacuslaw17.InverseFresh': WHATEVER THE INPUT: true; the input reads as it did. -/
def inverseFreshSpec : ChangeSpec := { name := "inverseFresh", fn := fun _ => fun
  | [d] => { results := [.lit (.bool true)], args := [d] }
  | _ => none }
def inverseFreshRow : OpenClaim := { program := "ytkdejffhdhcocaagreat", sum := "9d1908f5a8fd1cffd5cc028cf35d5558c7169e3433c757f0003da5a44c00bd66", func := "abacus/abacuslaw17.InverseFresh", spec := "inverseFresh", unfollowed := true, recurses := true, named := ["math/bits.divideError", "math/bits.overflowError"], loops := true, apart := false }
def InverseFreshSaid : Prop := inverseFreshRow.holds Tryz.pinned (OpenSpec.ofChange inverseFreshSpec)

/-- ITS FALSE NEIGHBOUR: 'it returns false'. Refute it at one input. -/
def inverseFreshWrong : ChangeSpec := { name := "inverseFresh", fn := fun _ => fun
  | [d] => { results := [.lit (.bool false)], args := [d] }
  | _ => none }
def InverseFreshWrongFalsely : Prop := inverseFreshRow.holds Tryz.pinned (OpenSpec.ofChange inverseFreshWrong)

/-- 'abacuslaw24.TacitFresh': WHATEVER THE INPUT: true; the input reads as it did. -/
def tacitFreshSpec : ChangeSpec := { name := "tacitFresh", fn := fun _ => fun
  | [d] => { results := [.lit (.bool true)], args := [d] }
  | _ => none }
def tacitFreshRow : OpenClaim := { program := "ytkdejffhdhcocaagreat", sum := "9d1908f5a8fd1cffd5cc028cf35d5558c7169e3433c757f0003da5a44c00bd66", func := "abacus/abacuslaw24.TacitFresh", spec := "tacitFresh", unfollowed := true, recurses := true, named := ["math/bits.divideError", "math/bits.overflowError"], loops := true, apart := false }
def TacitFreshSaid : Prop := tacitFreshRow.holds Tryz.pinned (OpenSpec.ofChange tacitFreshSpec)

/-- ITS FALSE NEIGHBOUR: 'it returns false'. Refute it at one input. -/
def tacitFreshWrong : ChangeSpec := { name := "tacitFresh", fn := fun _ => fun
  | [d] => { results := [.lit (.bool false)], args := [d] }
  | _ => none }
def TacitFreshWrongFalsely : Prop := tacitFreshRow.holds Tryz.pinned (OpenSpec.ofChange tacitFreshWrong)

/-- 'abacuslaw13.TermFresh': WHATEVER THE INPUT: true; the input reads as it did. -/
def termFreshSpec : ChangeSpec := { name := "termFresh", fn := fun _ => fun
  | [d] => { results := [.lit (.bool true)], args := [d] }
  | _ => none }
def termFreshRow : OpenClaim := { program := "ytkdejffhdhcocaagreat", sum := "9d1908f5a8fd1cffd5cc028cf35d5558c7169e3433c757f0003da5a44c00bd66", func := "abacus/abacuslaw13.TermFresh", spec := "termFresh", unfollowed := true, recurses := true, named := ["math/bits.divideError", "math/bits.overflowError"], loops := true, apart := false }
def TermFreshSaid : Prop := termFreshRow.holds Tryz.pinned (OpenSpec.ofChange termFreshSpec)

/-- ITS FALSE NEIGHBOUR: 'it returns false'. Refute it at one input. -/
def termFreshWrong : ChangeSpec := { name := "termFresh", fn := fun _ => fun
  | [d] => { results := [.lit (.bool false)], args := [d] }
  | _ => none }
def TermFreshWrongFalsely : Prop := termFreshRow.holds Tryz.pinned (OpenSpec.ofChange termFreshWrong)

/- THE SECOND FORM. 'bulk': how many values and letters a reading holds, each counted each time it is reached (what is shared counts as often as it is met; a slice's spare places count too). A statement '..UptoSaid' is the law's where the arguments, and the package variables that the reading takes, are together of bulk at most 1048576: NARROWER than '..Said'. Prove '..Said' where nothing that the law and all that it calls make is longer than what came in: it says more and counts as full. Else prove '..UptoSaid'. A law counts once. -/
mutual
def uptoBulk {H : Type} : DataW H → Nat
  | .lit (.string bytes) => bytes.length + 1
  | .lit _ => 1
  | .nil => 1
  | .ptr d => uptoBulk d + 1
  | .slice elems spare => uptoBulkAll elems + uptoBulkAll spare + 1
  | .agg parts => uptoBulkAll parts + 1
  | .iface _ d => uptoBulk d + 1
  | .map entries => uptoBulkEntries entries + 1
  | .held _ => 1
def uptoBulkAll {H : Type} : List (DataW H) → Nat
  | [] => 0
  | d :: r => uptoBulk d + uptoBulkAll r
def uptoBulkEntries {H : Type} : List (Lit × DataW H) → Nat
  | [] => 0
  | x :: r => uptoBulkEntry x + uptoBulkEntries r
def uptoBulkEntry {H : Type} : Lit × DataW H → Nat
  | (.string bytes, d) => bytes.length + uptoBulk d + 1
  | (_, d) => uptoBulk d + 1
 end
def uptoSmall : (H : Type) → List (DataW H) → Bool := fun _ ds => decide (uptoBulkAll ds ≤ 1048576)
def OpenSpec.upto (s : _root_.Go.ChangeSpec) : _root_.Go.OpenSpec := { _root_.Go.OpenSpec.ofChange s with cond := some uptoSmall }

/-- 'abacuslaw17.InverseFresh', WHERE WHAT IT READS IS OF BULK AT MOST 1048576: true; the input reads as it did. -/
def inverseFreshUptoRow : OpenClaim := { program := "ytkdejffhdhcocaagreat", sum := "9d1908f5a8fd1cffd5cc028cf35d5558c7169e3433c757f0003da5a44c00bd66", func := "abacus/abacuslaw17.InverseFresh", spec := "inverseFresh", unfollowed := true, recurses := true, named := ["math/bits.divideError", "math/bits.overflowError"], loops := true, apart := false, narrowed := true }
def InverseFreshUptoSaid : Prop := inverseFreshUptoRow.holds Tryz.pinned (OpenSpec.upto inverseFreshSpec)

/-- 'abacuslaw24.TacitFresh', WHERE WHAT IT READS IS OF BULK AT MOST 1048576: true; the input reads as it did. -/
def tacitFreshUptoRow : OpenClaim := { program := "ytkdejffhdhcocaagreat", sum := "9d1908f5a8fd1cffd5cc028cf35d5558c7169e3433c757f0003da5a44c00bd66", func := "abacus/abacuslaw24.TacitFresh", spec := "tacitFresh", unfollowed := true, recurses := true, named := ["math/bits.divideError", "math/bits.overflowError"], loops := true, apart := false, narrowed := true }
def TacitFreshUptoSaid : Prop := tacitFreshUptoRow.holds Tryz.pinned (OpenSpec.upto tacitFreshSpec)

/-- 'abacuslaw13.TermFresh', WHERE WHAT IT READS IS OF BULK AT MOST 1048576: true; the input reads as it did. -/
def termFreshUptoRow : OpenClaim := { program := "ytkdejffhdhcocaagreat", sum := "9d1908f5a8fd1cffd5cc028cf35d5558c7169e3433c757f0003da5a44c00bd66", func := "abacus/abacuslaw13.TermFresh", spec := "termFresh", unfollowed := true, recurses := true, named := ["math/bits.divideError", "math/bits.overflowError"], loops := true, apart := false, narrowed := true }
def TermFreshUptoSaid : Prop := termFreshUptoRow.holds Tryz.pinned (OpenSpec.upto termFreshSpec)

end Rows
end Go.Proofs.YtkdejffhdhcocaaGreat
