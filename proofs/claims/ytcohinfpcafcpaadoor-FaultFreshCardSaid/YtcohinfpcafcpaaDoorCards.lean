/-
  DERIVED. GIVEN WITH THE SEED: THE CARDS: each row of YtcohinfpcafcpaaDoorRows.lean that lists a variable, with what it lists TIED to the program's text (the seventh form; the later family's looks); each row that meets fmt, with fmt's text TOLD by the authors' own Lean function (tested against real Go, not proved from fmt's source: count such statements apart). THE CARD IS WHAT COUNTS. Prove the row's statement (the work); the ties are given (YtcohinfpcafcpaaDoorTie.lean); close each card by the builder's one call (the guide's Derived/Test/ToyasCard.lean, 'card_holds'). Laid BY PROGRAM, IN A SANDBOX (cutbox-door.mjs). By AI agents, Wed Nov 11 2026. No macro, syntax, notation, axiom, sorry.
-/
import Derived.Test.YtcohinfpcafcpaaDoorRows
import GoSem.ClaimSeven
namespace Go.Proofs.YtcohinfpcafcpaaDoor
namespace Rows

/-- THE TIED CARD OF 'abacuslaw0.Names'. -/
def namesCard : Claim7 := { stood := { row := namesRow, standIns := [], harness := (true, "fe31f8cfa8bb8fdd6b1e9a79db69c49facc98accd7aaf34c528b6216d04177fa"), looks := true }, kinds := [], alts := [], laidByText := true, laidKinds := [.data, .data, .data], laidTests := true, laidLooks := .later }
def NamesCardSaid : Prop := Claim7.holds Tryd.pinned (.plain (OpenSpec.ofChange namesSpec)) namesCard

/-- THE TIED CARD OF 'abacuslaw11.FaultNumber'. -/
def faultNumberCard : Claim7 := { stood := { row := faultNumberRow, standIns := [], harness := (true, "fe31f8cfa8bb8fdd6b1e9a79db69c49facc98accd7aaf34c528b6216d04177fa"), looks := true }, kinds := [], alts := [], laidByText := true, laidKinds := [.data, .data, .data, .handle], laidTests := true, laidLooks := .later }
def FaultNumberCardSaid : Prop := Claim7.holds Tryd.pinned (.plain (OpenSpec.ofChange faultNumberSpec)) faultNumberCard

/-- THE TIED CARD OF 'abacuslaw11.FaultTold'. -/
def faultToldCard : Claim7 := { stood := { row := faultToldRow, standIns := [], harness := (true, "fe31f8cfa8bb8fdd6b1e9a79db69c49facc98accd7aaf34c528b6216d04177fa"), looks := true }, kinds := [], alts := [], laidByText := true, laidKinds := [.data, .data, .data, .handle], laidTests := true, laidLooks := .later }
def FaultToldCardSaid : Prop := Claim7.holds Tryd.pinned (.plain (OpenSpec.ofChange faultToldSpec)) faultToldCard

/-- THE TIED CARD OF 'abacuslaw11.FaultFresh'. -/
def faultFreshCard : Claim7 := { stood := { row := faultFreshRow, standIns := [], harness := (true, "fe31f8cfa8bb8fdd6b1e9a79db69c49facc98accd7aaf34c528b6216d04177fa"), looks := true }, kinds := [], alts := [], laidByText := true, laidKinds := [.data, .data, .data, .handle], laidTests := true, laidLooks := .later }
def FaultFreshCardSaid : Prop := Claim7.holds Tryd.pinned (.plain (OpenSpec.ofChange faultFreshSpec)) faultFreshCard

/-- THE TIED CARD OF 'abacuslaw11.FaultFinds'. -/
def faultFindsCard : Claim7 := { stood := { row := faultFindsRow, standIns := [], harness := (true, "fe31f8cfa8bb8fdd6b1e9a79db69c49facc98accd7aaf34c528b6216d04177fa"), looks := true }, kinds := [], alts := [], laidByText := true, laidKinds := [.data, .data, .data, .handle], laidTests := true, laidLooks := .later }
def FaultFindsCardSaid : Prop := Claim7.holds Tryd.pinned (.plain (OpenSpec.ofChange faultFindsSpec)) faultFindsCard

/-- THE TIED CARD OF 'abacuslaw11.FaultSelf'. -/
def faultSelfCard : Claim7 := { stood := { row := faultSelfRow, standIns := [], harness := (true, "fe31f8cfa8bb8fdd6b1e9a79db69c49facc98accd7aaf34c528b6216d04177fa"), looks := true }, kinds := [], alts := [], laidByText := true, laidKinds := [.data, .data, .data, .handle], laidTests := true, laidLooks := .later }
def FaultSelfCardSaid : Prop := Claim7.holds Tryd.pinned (.plain (OpenSpec.ofChange faultSelfSpec)) faultSelfCard

/-- THE SECOND FORM's CARD OF 'abacuslaw0.Names'. -/
def namesUptoCard : Claim7 := { stood := { row := namesUptoRow, standIns := [], harness := (true, "fe31f8cfa8bb8fdd6b1e9a79db69c49facc98accd7aaf34c528b6216d04177fa"), looks := true }, kinds := [], alts := [], laidByText := true, laidKinds := [.data, .data, .data], laidTests := true, laidLooks := .later }
def NamesUptoCardSaid : Prop := Claim7.holds Tryd.pinned (.plain (OpenSpec.upto namesSpec)) namesUptoCard

/-- THE SECOND FORM's CARD OF 'abacuslaw11.FaultNumber'. -/
def faultNumberUptoCard : Claim7 := { stood := { row := faultNumberUptoRow, standIns := [], harness := (true, "fe31f8cfa8bb8fdd6b1e9a79db69c49facc98accd7aaf34c528b6216d04177fa"), looks := true }, kinds := [], alts := [], laidByText := true, laidKinds := [.data, .data, .data, .handle], laidTests := true, laidLooks := .later }
def FaultNumberUptoCardSaid : Prop := Claim7.holds Tryd.pinned (.plain (OpenSpec.upto faultNumberSpec)) faultNumberUptoCard

/-- THE SECOND FORM's CARD OF 'abacuslaw11.FaultTold'. -/
def faultToldUptoCard : Claim7 := { stood := { row := faultToldUptoRow, standIns := [], harness := (true, "fe31f8cfa8bb8fdd6b1e9a79db69c49facc98accd7aaf34c528b6216d04177fa"), looks := true }, kinds := [], alts := [], laidByText := true, laidKinds := [.data, .data, .data, .handle], laidTests := true, laidLooks := .later }
def FaultToldUptoCardSaid : Prop := Claim7.holds Tryd.pinned (.plain (OpenSpec.upto faultToldSpec)) faultToldUptoCard

/-- THE SECOND FORM's CARD OF 'abacuslaw11.FaultFresh'. -/
def faultFreshUptoCard : Claim7 := { stood := { row := faultFreshUptoRow, standIns := [], harness := (true, "fe31f8cfa8bb8fdd6b1e9a79db69c49facc98accd7aaf34c528b6216d04177fa"), looks := true }, kinds := [], alts := [], laidByText := true, laidKinds := [.data, .data, .data, .handle], laidTests := true, laidLooks := .later }
def FaultFreshUptoCardSaid : Prop := Claim7.holds Tryd.pinned (.plain (OpenSpec.upto faultFreshSpec)) faultFreshUptoCard

/-- THE SECOND FORM's CARD OF 'abacuslaw11.FaultFinds'. -/
def faultFindsUptoCard : Claim7 := { stood := { row := faultFindsUptoRow, standIns := [], harness := (true, "fe31f8cfa8bb8fdd6b1e9a79db69c49facc98accd7aaf34c528b6216d04177fa"), looks := true }, kinds := [], alts := [], laidByText := true, laidKinds := [.data, .data, .data, .handle], laidTests := true, laidLooks := .later }
def FaultFindsUptoCardSaid : Prop := Claim7.holds Tryd.pinned (.plain (OpenSpec.upto faultFindsSpec)) faultFindsUptoCard

/-- THE SECOND FORM's CARD OF 'abacuslaw11.FaultSelf'. -/
def faultSelfUptoCard : Claim7 := { stood := { row := faultSelfUptoRow, standIns := [], harness := (true, "fe31f8cfa8bb8fdd6b1e9a79db69c49facc98accd7aaf34c528b6216d04177fa"), looks := true }, kinds := [], alts := [], laidByText := true, laidKinds := [.data, .data, .data, .handle], laidTests := true, laidLooks := .later }
def FaultSelfUptoCardSaid : Prop := Claim7.holds Tryd.pinned (.plain (OpenSpec.upto faultSelfSpec)) faultSelfUptoCard
end Rows
end Go.Proofs.YtcohinfpcafcpaaDoor
