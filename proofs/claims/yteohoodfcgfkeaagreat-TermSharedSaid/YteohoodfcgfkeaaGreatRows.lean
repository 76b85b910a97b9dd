/-
  NARROWER THAN 'FOR EVERY INPUT', by the rows' own cells (each row's printed sentence says how): TermParts: loops · TermTurned: loops · TermNamed: loops · TermAll: loops · TermShared: loops · TermFresh: loops · InverseAll: loops · InverseFresh: loops · InverseCloses: loops · InverseComposes: loops · TraitAll: loops · TraitMade: loops.
  DERIVED. THE GIVEN ROWS OF THIS SEAT. 12 by the template 'for every input the law returns true; each argument reads behind the call as it read before'; 0 by the template 'total and deterministic' (their statements: YteohoodfcgfkeaaGreatTotals.lean).
  GIVEN WITH THE SEED: the statements are not yours to turn. If you find one false, say at which input.
  Laid BY PROGRAM, IN A SANDBOX (cutbox-rows.mjs): the forced cells as the released guide's own fill.sh prints them over the translation d725c77c751969f6… (all of the seat's roots in one cut). By AI agents, Wed Nov 11 2026. No macro, syntax, notation, axiom, sorry.
-/
import Derived.Test.YteohoodfcgfkeaaGreatChecked
import GoSem.Claim
import GoSem.ClaimJoined
import GoSem.ClaimMapViews
import Derived.JoinedTies
import Derived.KernelRfl
namespace Go.Proofs.YteohoodfcgfkeaaGreat
/- THE CELL 'sum', in the pinned program and in every row, IS THE sha256 OF THE DUMP (.gsa) THAT YteohoodfcgfkeaaGreatProg.lean LOADS. Nothing in Lean hashes anything: it is a label: what it is worth is what the hold of that sum in a sandbox is worth. -/
noncomputable def Tryz.pinned : Pinned := { name := "yteohoodfcgfkeaagreat", sum := "d725c77c751969f6dfa8f78ab7d08a748cf49c81b26e1439c7cc991fe68c48f6", checked := Tryz.checked }
namespace Rows
def none {H : Type} : Left H := { results := [], args := [] }

/-- 'abacuslaw13.TermParts': WHATEVER THE INPUT: true; the input reads as it did. -/
def termPartsSpec : ChangeSpec := { name := "termParts", fn := fun _ => fun
  | [d] => { results := [.lit (.bool true)], args := [d] }
  | _ => none }
def termPartsRow : OpenClaim := { program := "yteohoodfcgfkeaagreat", sum := "d725c77c751969f6dfa8f78ab7d08a748cf49c81b26e1439c7cc991fe68c48f6", func := "abacus/abacuslaw13.TermParts", spec := "termParts", unfollowed := true, recurses := true, named := ["math/bits.divideError", "math/bits.overflowError"], loops := true, apart := false }
def TermPartsSaid : Prop := termPartsRow.holds Tryz.pinned (OpenSpec.ofChange termPartsSpec)

/-- ITS FALSE NEIGHBOUR: 'it returns false'. Refute it at one input. -/
def termPartsWrong : ChangeSpec := { name := "termParts", fn := fun _ => fun
  | [d] => { results := [.lit (.bool false)], args := [d] }
  | _ => none }
def TermPartsWrongFalsely : Prop := termPartsRow.holds Tryz.pinned (OpenSpec.ofChange termPartsWrong)

/-- 'abacuslaw13.TermTurned': WHATEVER THE INPUT: true; the input reads as it did. -/
def termTurnedSpec : ChangeSpec := { name := "termTurned", fn := fun _ => fun
  | [d1, d2, d3] => { results := [.lit (.bool true)], args := [d1, d2, d3] }
  | _ => none }
def termTurnedRow : OpenClaim := { program := "yteohoodfcgfkeaagreat", sum := "d725c77c751969f6dfa8f78ab7d08a748cf49c81b26e1439c7cc991fe68c48f6", func := "abacus/abacuslaw13.TermTurned", spec := "termTurned", unfollowed := true, recurses := true, named := ["math/bits.divideError", "math/bits.overflowError"], loops := true, apart := false }
def TermTurnedSaid : Prop := termTurnedRow.holds Tryz.pinned (OpenSpec.ofChange termTurnedSpec)

/-- ITS FALSE NEIGHBOUR: 'it returns false'. Refute it at one input. -/
def termTurnedWrong : ChangeSpec := { name := "termTurned", fn := fun _ => fun
  | [d1, d2, d3] => { results := [.lit (.bool false)], args := [d1, d2, d3] }
  | _ => none }
def TermTurnedWrongFalsely : Prop := termTurnedRow.holds Tryz.pinned (OpenSpec.ofChange termTurnedWrong)

/-- 'abacuslaw13.TermNamed': WHATEVER THE INPUT: true; the input reads as it did. -/
def termNamedSpec : ChangeSpec := { name := "termNamed", fn := fun _ => fun
  | [d1, d2] => { results := [.lit (.bool true)], args := [d1, d2] }
  | _ => none }
def termNamedRow : OpenClaim := { program := "yteohoodfcgfkeaagreat", sum := "d725c77c751969f6dfa8f78ab7d08a748cf49c81b26e1439c7cc991fe68c48f6", func := "abacus/abacuslaw13.TermNamed", spec := "termNamed", unfollowed := true, recurses := true, named := ["math/bits.divideError", "math/bits.overflowError"], loops := true, apart := false }
def TermNamedSaid : Prop := termNamedRow.holds Tryz.pinned (OpenSpec.ofChange termNamedSpec)

/-- ITS FALSE NEIGHBOUR: 'it returns false'. Refute it at one input. -/
def termNamedWrong : ChangeSpec := { name := "termNamed", fn := fun _ => fun
  | [d1, d2] => { results := [.lit (.bool false)], args := [d1, d2] }
  | _ => none }
def TermNamedWrongFalsely : Prop := termNamedRow.holds Tryz.pinned (OpenSpec.ofChange termNamedWrong)

/-- 'abacuslaw13.TermAll': WHATEVER THE INPUT: true; the input reads as it did. -/
def termAllSpec : ChangeSpec := { name := "termAll", fn := fun _ => fun
  | [d] => { results := [.lit (.bool true)], args := [d] }
  | _ => none }
def termAllRow : OpenClaim := { program := "yteohoodfcgfkeaagreat", sum := "d725c77c751969f6dfa8f78ab7d08a748cf49c81b26e1439c7cc991fe68c48f6", func := "abacus/abacuslaw13.TermAll", spec := "termAll", unfollowed := true, recurses := true, named := ["math/bits.divideError", "math/bits.overflowError"], loops := true, apart := false }
def TermAllSaid : Prop := termAllRow.holds Tryz.pinned (OpenSpec.ofChange termAllSpec)

/-- ITS FALSE NEIGHBOUR: 'it returns false'. Refute it at one input. -/
def termAllWrong : ChangeSpec := { name := "termAll", fn := fun _ => fun
  | [d] => { results := [.lit (.bool false)], args := [d] }
  | _ => none }
def TermAllWrongFalsely : Prop := termAllRow.holds Tryz.pinned (OpenSpec.ofChange termAllWrong)

/-- 'abacuslaw13.TermShared': WHATEVER THE INPUT: true; the input reads as it did. -/
def termSharedSpec : ChangeSpec := { name := "termShared", fn := fun _ => fun
  | [d1, d2, d3] => { results := [.lit (.bool true)], args := [d1, d2, d3] }
  | _ => none }
def termSharedRow : OpenClaim := { program := "yteohoodfcgfkeaagreat", sum := "d725c77c751969f6dfa8f78ab7d08a748cf49c81b26e1439c7cc991fe68c48f6", func := "abacus/abacuslaw13.TermShared", spec := "termShared", unfollowed := true, recurses := true, named := ["math/bits.divideError", "math/bits.overflowError"], loops := true, apart := false }
def TermSharedSaid : Prop := termSharedRow.holds Tryz.pinned (OpenSpec.ofChange termSharedSpec)

/-- ITS FALSE NEIGHBOUR: 'it returns false'. Refute it at one input. -/
def termSharedWrong : ChangeSpec := { name := "termShared", fn := fun _ => fun
  | [d1, d2, d3] => { results := [.lit (.bool false)], args := [d1, d2, d3] }
  | _ => none }
def TermSharedWrongFalsely : Prop := termSharedRow.holds Tryz.pinned (OpenSpec.ofChange termSharedWrong)

/-- 'abacuslaw13.TermFresh': WHATEVER THE INPUT: true; the input reads as it did. -/
def termFreshSpec : ChangeSpec := { name := "termFresh", fn := fun _ => fun
  | [d] => { results := [.lit (.bool true)], args := [d] }
  | _ => none }
def termFreshRow : OpenClaim := { program := "yteohoodfcgfkeaagreat", sum := "d725c77c751969f6dfa8f78ab7d08a748cf49c81b26e1439c7cc991fe68c48f6", func := "abacus/abacuslaw13.TermFresh", spec := "termFresh", unfollowed := true, recurses := true, named := ["math/bits.divideError", "math/bits.overflowError"], loops := true, apart := false }
def TermFreshSaid : Prop := termFreshRow.holds Tryz.pinned (OpenSpec.ofChange termFreshSpec)

/-- ITS FALSE NEIGHBOUR: 'it returns false'. Refute it at one input. -/
def termFreshWrong : ChangeSpec := { name := "termFresh", fn := fun _ => fun
  | [d] => { results := [.lit (.bool false)], args := [d] }
  | _ => none }
def TermFreshWrongFalsely : Prop := termFreshRow.holds Tryz.pinned (OpenSpec.ofChange termFreshWrong)

/-- 'abacuslaw17.InverseAll': WHATEVER THE INPUT: true; the input reads as it did. -/
def inverseAllSpec : ChangeSpec := { name := "inverseAll", fn := fun _ => fun
  | [d] => { results := [.lit (.bool true)], args := [d] }
  | _ => none }
def inverseAllRow : OpenClaim := { program := "yteohoodfcgfkeaagreat", sum := "d725c77c751969f6dfa8f78ab7d08a748cf49c81b26e1439c7cc991fe68c48f6", func := "abacus/abacuslaw17.InverseAll", spec := "inverseAll", unfollowed := true, recurses := true, named := ["math/bits.divideError", "math/bits.overflowError"], loops := true, apart := false }
def InverseAllSaid : Prop := inverseAllRow.holds Tryz.pinned (OpenSpec.ofChange inverseAllSpec)

/-- ITS FALSE NEIGHBOUR: 'it returns false'. Refute it at one input. -/
def inverseAllWrong : ChangeSpec := { name := "inverseAll", fn := fun _ => fun
  | [d] => { results := [.lit (.bool false)], args := [d] }
  | _ => none }
def InverseAllWrongFalsely : Prop := inverseAllRow.holds Tryz.pinned (OpenSpec.ofChange inverseAllWrong)

/-- 'abacuslaw17.InverseFresh': WHATEVER THE INPUT: true; the input reads as it did. -/
def inverseFreshSpec : ChangeSpec := { name := "inverseFresh", fn := fun _ => fun
  | [d] => { results := [.lit (.bool true)], args := [d] }
  | _ => none }
def inverseFreshRow : OpenClaim := { program := "yteohoodfcgfkeaagreat", sum := "d725c77c751969f6dfa8f78ab7d08a748cf49c81b26e1439c7cc991fe68c48f6", func := "abacus/abacuslaw17.InverseFresh", spec := "inverseFresh", unfollowed := true, recurses := true, named := ["math/bits.divideError", "math/bits.overflowError"], loops := true, apart := false }
def InverseFreshSaid : Prop := inverseFreshRow.holds Tryz.pinned (OpenSpec.ofChange inverseFreshSpec)

/-- ITS FALSE NEIGHBOUR: 'it returns false'. Refute it at one input. -/
def inverseFreshWrong : ChangeSpec := { name := "inverseFresh", fn := fun _ => fun
  | [d] => { results := [.lit (.bool false)], args := [d] }
  | _ => none }
def InverseFreshWrongFalsely : Prop := inverseFreshRow.holds Tryz.pinned (OpenSpec.ofChange inverseFreshWrong)

/-- 'abacuslaw17.InverseCloses': WHATEVER THE INPUT: true; the input reads as it did. -/
def inverseClosesSpec : ChangeSpec := { name := "inverseCloses", fn := fun _ => fun
  | [d] => { results := [.lit (.bool true)], args := [d] }
  | _ => none }
def inverseClosesRow : OpenClaim := { program := "yteohoodfcgfkeaagreat", sum := "d725c77c751969f6dfa8f78ab7d08a748cf49c81b26e1439c7cc991fe68c48f6", func := "abacus/abacuslaw17.InverseCloses", spec := "inverseCloses", unfollowed := true, recurses := true, named := ["math/bits.divideError", "math/bits.overflowError"], loops := true, apart := false }
def InverseClosesSaid : Prop := inverseClosesRow.holds Tryz.pinned (OpenSpec.ofChange inverseClosesSpec)

/-- ITS FALSE NEIGHBOUR: 'it returns false'. Refute it at one input. -/
def inverseClosesWrong : ChangeSpec := { name := "inverseCloses", fn := fun _ => fun
  | [d] => { results := [.lit (.bool false)], args := [d] }
  | _ => none }
def InverseClosesWrongFalsely : Prop := inverseClosesRow.holds Tryz.pinned (OpenSpec.ofChange inverseClosesWrong)

/-- 'abacuslaw17.InverseComposes': WHATEVER THE INPUT: true; the input reads as it did. -/
def inverseComposesSpec : ChangeSpec := { name := "inverseComposes", fn := fun _ => fun
  | [d1, d2, d3] => { results := [.lit (.bool true)], args := [d1, d2, d3] }
  | _ => none }
def inverseComposesRow : OpenClaim := { program := "yteohoodfcgfkeaagreat", sum := "d725c77c751969f6dfa8f78ab7d08a748cf49c81b26e1439c7cc991fe68c48f6", func := "abacus/abacuslaw17.InverseComposes", spec := "inverseComposes", unfollowed := true, recurses := true, named := ["math/bits.divideError", "math/bits.overflowError"], loops := true, apart := false }
def InverseComposesSaid : Prop := inverseComposesRow.holds Tryz.pinned (OpenSpec.ofChange inverseComposesSpec)

/-- ITS FALSE NEIGHBOUR: 'it returns false'. Refute it at one input. -/
def inverseComposesWrong : ChangeSpec := { name := "inverseComposes", fn := fun _ => fun
  | [d1, d2, d3] => { results := [.lit (.bool false)], args := [d1, d2, d3] }
  | _ => none }
def InverseComposesWrongFalsely : Prop := inverseComposesRow.holds Tryz.pinned (OpenSpec.ofChange inverseComposesWrong)

/-- 'abacuslaw16.TraitAll': WHATEVER THE INPUT: true; the input reads as it did. -/
def traitAllSpec : ChangeSpec := { name := "traitAll", fn := fun _ => fun
  | [d1, d2] => { results := [.lit (.bool true)], args := [d1, d2] }
  | _ => none }
def traitAllRow : OpenClaim := { program := "yteohoodfcgfkeaagreat", sum := "d725c77c751969f6dfa8f78ab7d08a748cf49c81b26e1439c7cc991fe68c48f6", func := "abacus/abacuslaw16.TraitAll", spec := "traitAll", unfollowed := true, recurses := true, named := ["math/bits.divideError", "math/bits.overflowError"], loops := true, apart := false }
def TraitAllSaid : Prop := traitAllRow.holds Tryz.pinned (OpenSpec.ofChange traitAllSpec)

/-- ITS FALSE NEIGHBOUR: 'it returns false'. Refute it at one input. -/
def traitAllWrong : ChangeSpec := { name := "traitAll", fn := fun _ => fun
  | [d1, d2] => { results := [.lit (.bool false)], args := [d1, d2] }
  | _ => none }
def TraitAllWrongFalsely : Prop := traitAllRow.holds Tryz.pinned (OpenSpec.ofChange traitAllWrong)

/-- 'abacuslaw16.TraitMade': WHATEVER THE INPUT: true; the input reads as it did. -/
def traitMadeSpec : ChangeSpec := { name := "traitMade", fn := fun _ => fun
  | [d1, d2] => { results := [.lit (.bool true)], args := [d1, d2] }
  | _ => none }
def traitMadeRow : OpenClaim := { program := "yteohoodfcgfkeaagreat", sum := "d725c77c751969f6dfa8f78ab7d08a748cf49c81b26e1439c7cc991fe68c48f6", func := "abacus/abacuslaw16.TraitMade", spec := "traitMade", unfollowed := true, recurses := true, named := ["math/bits.divideError", "math/bits.overflowError"], loops := true, apart := false }
def TraitMadeSaid : Prop := traitMadeRow.holds Tryz.pinned (OpenSpec.ofChange traitMadeSpec)

/-- ITS FALSE NEIGHBOUR: 'it returns false'. Refute it at one input. -/
def traitMadeWrong : ChangeSpec := { name := "traitMade", fn := fun _ => fun
  | [d1, d2] => { results := [.lit (.bool false)], args := [d1, d2] }
  | _ => none }
def TraitMadeWrongFalsely : Prop := traitMadeRow.holds Tryz.pinned (OpenSpec.ofChange traitMadeWrong)

/- THE SECOND FORM. 'bulk': how many values and letters a reading holds, each counted each time it is reached (what is shared counts as often as it is met; a slice's spare places count too). A statement '..UptoSaid' is the law's where the arguments, and the package variables that the reading takes, are together of bulk at most 1048576: NARROWER than '..Said'. Prove '..Said' where nothing that the law and all that it calls make is longer than what came in: it says more and counts as full. Else prove '..UptoSaid'. A law counts once. -/
mutual
def uptoBulk {H : Type} : DataW H → Nat
  | .lit (.string bytes) => bytes.length + 1
  | .lit _ => 1
  | .nil => 1
  | .ptr d => uptoBulk d + 1
  | .slice elems spare => uptoBulkAll elems + uptoBulkAll spare + 1
  | .agg parts => uptoBulkAll parts + 1
  | .iface _ d => uptoBulk d + 1
  | .map entries => uptoBulkEntries entries + 1
  | .held _ => 1
def uptoBulkAll {H : Type} : List (DataW H) → Nat
  | [] => 0
  | d :: r => uptoBulk d + uptoBulkAll r
def uptoBulkEntries {H : Type} : List (Lit × DataW H) → Nat
  | [] => 0
  | x :: r => uptoBulkEntry x + uptoBulkEntries r
def uptoBulkEntry {H : Type} : Lit × DataW H → Nat
  | (.string bytes, d) => bytes.length + uptoBulk d + 1
  | (_, d) => uptoBulk d + 1
 end
def uptoSmall : (H : Type) → List (DataW H) → Bool := fun _ ds => decide (uptoBulkAll ds ≤ 1048576)
def OpenSpec.upto (s : _root_.Go.ChangeSpec) : _root_.Go.OpenSpec := { _root_.Go.OpenSpec.ofChange s with cond := some uptoSmall }

/-- 'abacuslaw13.TermParts', WHERE WHAT IT READS IS OF BULK AT MOST 1048576: true; the input reads as it did. -/
def termPartsUptoRow : OpenClaim := { program := "yteohoodfcgfkeaagreat", sum := "d725c77c751969f6dfa8f78ab7d08a748cf49c81b26e1439c7cc991fe68c48f6", func := "abacus/abacuslaw13.TermParts", spec := "termParts", unfollowed := true, recurses := true, named := ["math/bits.divideError", "math/bits.overflowError"], loops := true, apart := false, narrowed := true }
def TermPartsUptoSaid : Prop := termPartsUptoRow.holds Tryz.pinned (OpenSpec.upto termPartsSpec)

/-- 'abacuslaw13.TermTurned', WHERE WHAT IT READS IS OF BULK AT MOST 1048576: true; the input reads as it did. -/
def termTurnedUptoRow : OpenClaim := { program := "yteohoodfcgfkeaagreat", sum := "d725c77c751969f6dfa8f78ab7d08a748cf49c81b26e1439c7cc991fe68c48f6", func := "abacus/abacuslaw13.TermTurned", spec := "termTurned", unfollowed := true, recurses := true, named := ["math/bits.divideError", "math/bits.overflowError"], loops := true, apart := false, narrowed := true }
def TermTurnedUptoSaid : Prop := termTurnedUptoRow.holds Tryz.pinned (OpenSpec.upto termTurnedSpec)

/-- 'abacuslaw13.TermNamed', WHERE WHAT IT READS IS OF BULK AT MOST 1048576: true; the input reads as it did. -/
def termNamedUptoRow : OpenClaim := { program := "yteohoodfcgfkeaagreat", sum := "d725c77c751969f6dfa8f78ab7d08a748cf49c81b26e1439c7cc991fe68c48f6", func := "abacus/abacuslaw13.TermNamed", spec := "termNamed", unfollowed := true, recurses := true, named := ["math/bits.divideError", "math/bits.overflowError"], loops := true, apart := false, narrowed := true }
def TermNamedUptoSaid : Prop := termNamedUptoRow.holds Tryz.pinned (OpenSpec.upto termNamedSpec)

/-- 'abacuslaw13.TermAll', WHERE WHAT IT READS IS OF BULK AT MOST 1048576: true; the input reads as it did. -/
def termAllUptoRow : OpenClaim := { program := "yteohoodfcgfkeaagreat", sum := "d725c77c751969f6dfa8f78ab7d08a748cf49c81b26e1439c7cc991fe68c48f6", func := "abacus/abacuslaw13.TermAll", spec := "termAll", unfollowed := true, recurses := true, named := ["math/bits.divideError", "math/bits.overflowError"], loops := true, apart := false, narrowed := true }
def TermAllUptoSaid : Prop := termAllUptoRow.holds Tryz.pinned (OpenSpec.upto termAllSpec)

/-- 'abacuslaw13.TermShared', WHERE WHAT IT READS IS OF BULK AT MOST 1048576: true; the input reads as it did. -/
def termSharedUptoRow : OpenClaim := { program := "yteohoodfcgfkeaagreat", sum := "d725c77c751969f6dfa8f78ab7d08a748cf49c81b26e1439c7cc991fe68c48f6", func := "abacus/abacuslaw13.TermShared", spec := "termShared", unfollowed := true, recurses := true, named := ["math/bits.divideError", "math/bits.overflowError"], loops := true, apart := false, narrowed := true }
def TermSharedUptoSaid : Prop := termSharedUptoRow.holds Tryz.pinned (OpenSpec.upto termSharedSpec)

/-- 'abacuslaw13.TermFresh', WHERE WHAT IT READS IS OF BULK AT MOST 1048576: true; the input reads as it did. -/
def termFreshUptoRow : OpenClaim := { program := "yteohoodfcgfkeaagreat", sum := "d725c77c751969f6dfa8f78ab7d08a748cf49c81b26e1439c7cc991fe68c48f6", func := "abacus/abacuslaw13.TermFresh", spec := "termFresh", unfollowed := true, recurses := true, named := ["math/bits.divideError", "math/bits.overflowError"], loops := true, apart := false, narrowed := true }
def TermFreshUptoSaid : Prop := termFreshUptoRow.holds Tryz.pinned (OpenSpec.upto termFreshSpec)

/-- 'abacuslaw17.InverseAll', WHERE WHAT IT READS IS OF BULK AT MOST 1048576: true; the input reads as it did. -/
def inverseAllUptoRow : OpenClaim := { program := "yteohoodfcgfkeaagreat", sum := "d725c77c751969f6dfa8f78ab7d08a748cf49c81b26e1439c7cc991fe68c48f6", func := "abacus/abacuslaw17.InverseAll", spec := "inverseAll", unfollowed := true, recurses := true, named := ["math/bits.divideError", "math/bits.overflowError"], loops := true, apart := false, narrowed := true }
def InverseAllUptoSaid : Prop := inverseAllUptoRow.holds Tryz.pinned (OpenSpec.upto inverseAllSpec)

/-- 'abacuslaw17.InverseFresh', WHERE WHAT IT READS IS OF BULK AT MOST 1048576: true; the input reads as it did. -/
def inverseFreshUptoRow : OpenClaim := { program := "yteohoodfcgfkeaagreat", sum := "d725c77c751969f6dfa8f78ab7d08a748cf49c81b26e1439c7cc991fe68c48f6", func := "abacus/abacuslaw17.InverseFresh", spec := "inverseFresh", unfollowed := true, recurses := true, named := ["math/bits.divideError", "math/bits.overflowError"], loops := true, apart := false, narrowed := true }
def InverseFreshUptoSaid : Prop := inverseFreshUptoRow.holds Tryz.pinned (OpenSpec.upto inverseFreshSpec)

/-- 'abacuslaw17.InverseCloses', WHERE WHAT IT READS IS OF BULK AT MOST 1048576: true; the input reads as it did. -/
def inverseClosesUptoRow : OpenClaim := { program := "yteohoodfcgfkeaagreat", sum := "d725c77c751969f6dfa8f78ab7d08a748cf49c81b26e1439c7cc991fe68c48f6", func := "abacus/abacuslaw17.InverseCloses", spec := "inverseCloses", unfollowed := true, recurses := true, named := ["math/bits.divideError", "math/bits.overflowError"], loops := true, apart := false, narrowed := true }
def InverseClosesUptoSaid : Prop := inverseClosesUptoRow.holds Tryz.pinned (OpenSpec.upto inverseClosesSpec)

/-- 'abacuslaw17.InverseComposes', WHERE WHAT IT READS IS OF BULK AT MOST 1048576: true; the input reads as it did. -/
def inverseComposesUptoRow : OpenClaim := { program := "yteohoodfcgfkeaagreat", sum := "d725c77c751969f6dfa8f78ab7d08a748cf49c81b26e1439c7cc991fe68c48f6", func := "abacus/abacuslaw17.InverseComposes", spec := "inverseComposes", unfollowed := true, recurses := true, named := ["math/bits.divideError", "math/bits.overflowError"], loops := true, apart := false, narrowed := true }
def InverseComposesUptoSaid : Prop := inverseComposesUptoRow.holds Tryz.pinned (OpenSpec.upto inverseComposesSpec)

/-- 'abacuslaw16.TraitAll', WHERE WHAT IT READS IS OF BULK AT MOST 1048576: true; the input reads as it did. -/
def traitAllUptoRow : OpenClaim := { program := "yteohoodfcgfkeaagreat", sum := "d725c77c751969f6dfa8f78ab7d08a748cf49c81b26e1439c7cc991fe68c48f6", func := "abacus/abacuslaw16.TraitAll", spec := "traitAll", unfollowed := true, recurses := true, named := ["math/bits.divideError", "math/bits.overflowError"], loops := true, apart := false, narrowed := true }
def TraitAllUptoSaid : Prop := traitAllUptoRow.holds Tryz.pinned (OpenSpec.upto traitAllSpec)

/-- 'abacuslaw16.TraitMade', WHERE WHAT IT READS IS OF BULK AT MOST 1048576: true; the input reads as it did. -/
def traitMadeUptoRow : OpenClaim := { program := "yteohoodfcgfkeaagreat", sum := "d725c77c751969f6dfa8f78ab7d08a748cf49c81b26e1439c7cc991fe68c48f6", func := "abacus/abacuslaw16.TraitMade", spec := "traitMade", unfollowed := true, recurses := true, named := ["math/bits.divideError", "math/bits.overflowError"], loops := true, apart := false, narrowed := true }
def TraitMadeUptoSaid : Prop := traitMadeUptoRow.holds Tryz.pinned (OpenSpec.upto traitMadeSpec)

end Rows
end Go.Proofs.YteohoodfcgfkeaaGreat
