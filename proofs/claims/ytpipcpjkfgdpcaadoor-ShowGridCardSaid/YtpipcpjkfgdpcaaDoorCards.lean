/-
  DERIVED. GIVEN WITH THE SEED: THE CARDS: each row of YtpipcpjkfgdpcaaDoorRows.lean that lists a variable, with what it lists TIED to the program's text (the seventh form; the later family's looks); each row that meets fmt, with fmt's text TOLD by the authors' own Lean function (tested against real Go, not proved from fmt's source: count such statements apart). THE CARD IS WHAT COUNTS. Prove the row's statement (the work); the ties are given (YtpipcpjkfgdpcaaDoorTie.lean); close each card by the builder's one call (the guide's Derived/Test/ToyasCard.lean, 'card_holds'). Laid BY PROGRAM, IN A SANDBOX (cutbox-door.mjs). By AI agents, Wed Nov 11 2026. No macro, syntax, notation, axiom, sorry.
-/
import Derived.Test.YtpipcpjkfgdpcaaDoorRows
import GoSem.ClaimSeven
namespace Go.Proofs.YtpipcpjkfgdpcaaDoor
namespace Rows

/-- THE TIED CARD OF 'abacuslaw10.ShowAll'. -/
def showAllCard : Claim7 := { stood := { row := showAllRow, standIns := [], harness := (true, "ec75b004db3852d01bfa217066e521e8b9259066658b0d3df5fb1a1f9bc74e60"), looks := false }, kinds := [], alts := [], laidByText := true, laidKinds := [.data, .data, .data], laidTests := true, laidLooks := .later }
def ShowAllCardSaid : Prop := Claim7.holds Tryd.pinned (.plain (OpenSpec.ofChange showAllSpec)) showAllCard

/-- THE TIED CARD OF 'abacuslaw10.ShowBack'. -/
def showBackCard : Claim7 := { stood := { row := showBackRow, standIns := [], harness := (true, "ec75b004db3852d01bfa217066e521e8b9259066658b0d3df5fb1a1f9bc74e60"), looks := false }, kinds := [], alts := [], laidByText := true, laidKinds := [.data, .data, .data], laidTests := true, laidLooks := .later }
def ShowBackCardSaid : Prop := Claim7.holds Tryd.pinned (.plain (OpenSpec.ofChange showBackSpec)) showBackCard

/-- THE TIED CARD OF 'abacuslaw10.ShowReads'. -/
def showReadsCard : Claim7 := { stood := { row := showReadsRow, standIns := [], harness := (true, "ec75b004db3852d01bfa217066e521e8b9259066658b0d3df5fb1a1f9bc74e60"), looks := false }, kinds := [], alts := [], laidByText := true, laidKinds := [.data, .data, .data], laidTests := true, laidLooks := .later }
def ShowReadsCardSaid : Prop := Claim7.holds Tryd.pinned (.plain (OpenSpec.ofChange showReadsSpec)) showReadsCard

/-- THE TIED CARD OF 'abacuslaw10.ShowFresh'. -/
def showFreshCard : Claim7 := { stood := { row := showFreshRow, standIns := [], harness := (true, "ec75b004db3852d01bfa217066e521e8b9259066658b0d3df5fb1a1f9bc74e60"), looks := false }, kinds := [], alts := [], laidByText := true, laidKinds := [.data, .data, .data], laidTests := true, laidLooks := .later }
def ShowFreshCardSaid : Prop := Claim7.holds Tryd.pinned (.plain (OpenSpec.ofChange showFreshSpec)) showFreshCard

/-- THE TIED CARD OF 'abacuslaw10.ShowGrid'. -/
def showGridCard : Claim7 := { stood := { row := showGridRow, standIns := [], harness := (true, "ec75b004db3852d01bfa217066e521e8b9259066658b0d3df5fb1a1f9bc74e60"), looks := false }, kinds := [], alts := [], laidByText := true, laidKinds := [.data, .data, .data, .data, .listed, .data, .pinned], laidTests := true, laidLooks := .later }
def ShowGridCardSaid : Prop := Claim7.holds Tryd.pinned (.plain (OpenSpec.ofChange showGridSpec)) showGridCard

/-- THE SECOND FORM's CARD OF 'abacuslaw10.ShowAll'. -/
def showAllUptoCard : Claim7 := { stood := { row := showAllUptoRow, standIns := [], harness := (true, "ec75b004db3852d01bfa217066e521e8b9259066658b0d3df5fb1a1f9bc74e60"), looks := false }, kinds := [], alts := [], laidByText := true, laidKinds := [.data, .data, .data], laidTests := true, laidLooks := .later }
def ShowAllUptoCardSaid : Prop := Claim7.holds Tryd.pinned (.plain (OpenSpec.upto showAllSpec)) showAllUptoCard

/-- THE SECOND FORM's CARD OF 'abacuslaw10.ShowBack'. -/
def showBackUptoCard : Claim7 := { stood := { row := showBackUptoRow, standIns := [], harness := (true, "ec75b004db3852d01bfa217066e521e8b9259066658b0d3df5fb1a1f9bc74e60"), looks := false }, kinds := [], alts := [], laidByText := true, laidKinds := [.data, .data, .data], laidTests := true, laidLooks := .later }
def ShowBackUptoCardSaid : Prop := Claim7.holds Tryd.pinned (.plain (OpenSpec.upto showBackSpec)) showBackUptoCard

/-- THE SECOND FORM's CARD OF 'abacuslaw10.ShowReads'. -/
def showReadsUptoCard : Claim7 := { stood := { row := showReadsUptoRow, standIns := [], harness := (true, "ec75b004db3852d01bfa217066e521e8b9259066658b0d3df5fb1a1f9bc74e60"), looks := false }, kinds := [], alts := [], laidByText := true, laidKinds := [.data, .data, .data], laidTests := true, laidLooks := .later }
def ShowReadsUptoCardSaid : Prop := Claim7.holds Tryd.pinned (.plain (OpenSpec.upto showReadsSpec)) showReadsUptoCard

/-- THE SECOND FORM's CARD OF 'abacuslaw10.ShowFresh'. -/
def showFreshUptoCard : Claim7 := { stood := { row := showFreshUptoRow, standIns := [], harness := (true, "ec75b004db3852d01bfa217066e521e8b9259066658b0d3df5fb1a1f9bc74e60"), looks := false }, kinds := [], alts := [], laidByText := true, laidKinds := [.data, .data, .data], laidTests := true, laidLooks := .later }
def ShowFreshUptoCardSaid : Prop := Claim7.holds Tryd.pinned (.plain (OpenSpec.upto showFreshSpec)) showFreshUptoCard

/-- THE SECOND FORM's CARD OF 'abacuslaw10.ShowGrid'. -/
def showGridUptoCard : Claim7 := { stood := { row := showGridUptoRow, standIns := [], harness := (true, "ec75b004db3852d01bfa217066e521e8b9259066658b0d3df5fb1a1f9bc74e60"), looks := false }, kinds := [], alts := [], laidByText := true, laidKinds := [.data, .data, .data, .data, .listed, .data, .pinned], laidTests := true, laidLooks := .later }
def ShowGridUptoCardSaid : Prop := Claim7.holds Tryd.pinned (.plain (OpenSpec.upto showGridSpec)) showGridUptoCard
end Rows
end Go.Proofs.YtpipcpjkfgdpcaaDoor
