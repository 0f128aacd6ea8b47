/-
  DERIVED. GIVEN WITH THE SEED: THE CARDS: each row of YtibglbjklefjdaaGreatDoorRows.lean that lists a variable, with what it lists TIED to the program's text (the seventh form; the later family's looks); each row that meets fmt, with fmt's text TOLD by the authors' own Lean function (tested against real Go, not proved from fmt's source: count such statements apart). THE CARD IS WHAT COUNTS. Prove the row's statement (the work); the ties are given (YtibglbjklefjdaaGreatDoorTie.lean); close each card by the builder's one call (the guide's Derived/Test/ToyasCard.lean, 'card_holds'). Laid BY PROGRAM, IN A SANDBOX (cutbox-door.mjs). By AI agents, Wed Nov 11 2026. No macro, syntax, notation, axiom, sorry.
-/
import Derived.Test.YtibglbjklefjdaaGreatDoorRows
import GoSem.ClaimSeven
namespace Go.Proofs.YtibglbjklefjdaaGreatDoor
namespace Rows

/-- THE TIED CARD OF 'mailcoachlaw21.StateTells'. -/
def stateTellsCard : Claim7 := { stood := { row := stateTellsRow, standIns := [], harness := (true, "f7d919a2b6a117aa4af3eda66514ae009d551fc92b79a179c0979ffc6c12fa51"), looks := true }, kinds := [], alts := [], laidByText := true, laidKinds := [.data, .data, .data, .data, .sentinel, .sentinel, .pinned], laidTests := true, laidLooks := .later }
def StateTellsCardSaid : Prop := Claim7.holds Tryz.pinned (.plain (OpenSpec.ofChange stateTellsSpec)) stateTellsCard

/-- THE TIED CARD OF 'mailcoachlaw21.StateGets'. -/
def stateGetsCard : Claim7 := { stood := { row := stateGetsRow, standIns := [], harness := (true, "f7d919a2b6a117aa4af3eda66514ae009d551fc92b79a179c0979ffc6c12fa51"), looks := true }, kinds := [], alts := [], laidByText := true, laidKinds := [.data, .data, .data, .data, .sentinel, .sentinel, .pinned], laidTests := true, laidLooks := .later }
def StateGetsCardSaid : Prop := Claim7.holds Tryz.pinned (.plain (OpenSpec.ofChange stateGetsSpec)) stateGetsCard

/-- THE TIED CARD OF 'mailcoachlaw21.StateBack'. -/
def stateBackCard : Claim7 := { stood := { row := stateBackRow, standIns := [], harness := (true, "f7d919a2b6a117aa4af3eda66514ae009d551fc92b79a179c0979ffc6c12fa51"), looks := true }, kinds := [], alts := [], laidByText := true, laidKinds := [.data, .data, .data, .data, .sentinel, .sentinel, .pinned], laidTests := true, laidLooks := .later }
def StateBackCardSaid : Prop := Claim7.holds Tryz.pinned (.plain (OpenSpec.ofChange stateBackSpec)) stateBackCard

/-- THE TIED CARD OF 'mailcoachlaw21.StateParts'. -/
def statePartsCard : Claim7 := { stood := { row := statePartsRow, standIns := [], harness := (true, "f7d919a2b6a117aa4af3eda66514ae009d551fc92b79a179c0979ffc6c12fa51"), looks := true }, kinds := [], alts := [], laidByText := true, laidKinds := [.data, .data, .data, .data, .sentinel, .sentinel, .pinned], laidTests := true, laidLooks := .later }
def StatePartsCardSaid : Prop := Claim7.holds Tryz.pinned (.plain (OpenSpec.ofChange statePartsSpec)) statePartsCard

/-- THE TIED CARD OF 'mailcoachlaw21.StateLess'. -/
def stateLessCard : Claim7 := { stood := { row := stateLessRow, standIns := [], harness := (true, "f7d919a2b6a117aa4af3eda66514ae009d551fc92b79a179c0979ffc6c12fa51"), looks := true }, kinds := [], alts := [], laidByText := true, laidKinds := [.data, .data, .data, .data, .sentinel, .sentinel, .pinned], laidTests := true, laidLooks := .later }
def StateLessCardSaid : Prop := Claim7.holds Tryz.pinned (.plain (OpenSpec.ofChange stateLessSpec)) stateLessCard

/-- THE TIED CARD OF 'mailcoachlaw21.StateLater'. -/
def stateLaterCard : Claim7 := { stood := { row := stateLaterRow, standIns := [], harness := (true, "f7d919a2b6a117aa4af3eda66514ae009d551fc92b79a179c0979ffc6c12fa51"), looks := true }, kinds := [], alts := [], laidByText := true, laidKinds := [.data, .data, .data, .data, .sentinel, .sentinel, .pinned], laidTests := true, laidLooks := .later }
def StateLaterCardSaid : Prop := Claim7.holds Tryz.pinned (.plain (OpenSpec.ofChange stateLaterSpec)) stateLaterCard

/-- THE SECOND FORM's CARD OF 'mailcoachlaw21.StateTells'. -/
def stateTellsUptoCard : Claim7 := { stood := { row := stateTellsUptoRow, standIns := [], harness := (true, "f7d919a2b6a117aa4af3eda66514ae009d551fc92b79a179c0979ffc6c12fa51"), looks := true }, kinds := [], alts := [], laidByText := true, laidKinds := [.data, .data, .data, .data, .sentinel, .sentinel, .pinned], laidTests := true, laidLooks := .later }
def StateTellsUptoCardSaid : Prop := Claim7.holds Tryz.pinned (.plain (OpenSpec.upto stateTellsSpec)) stateTellsUptoCard

/-- THE SECOND FORM's CARD OF 'mailcoachlaw21.StateGets'. -/
def stateGetsUptoCard : Claim7 := { stood := { row := stateGetsUptoRow, standIns := [], harness := (true, "f7d919a2b6a117aa4af3eda66514ae009d551fc92b79a179c0979ffc6c12fa51"), looks := true }, kinds := [], alts := [], laidByText := true, laidKinds := [.data, .data, .data, .data, .sentinel, .sentinel, .pinned], laidTests := true, laidLooks := .later }
def StateGetsUptoCardSaid : Prop := Claim7.holds Tryz.pinned (.plain (OpenSpec.upto stateGetsSpec)) stateGetsUptoCard

/-- THE SECOND FORM's CARD OF 'mailcoachlaw21.StateBack'. -/
def stateBackUptoCard : Claim7 := { stood := { row := stateBackUptoRow, standIns := [], harness := (true, "f7d919a2b6a117aa4af3eda66514ae009d551fc92b79a179c0979ffc6c12fa51"), looks := true }, kinds := [], alts := [], laidByText := true, laidKinds := [.data, .data, .data, .data, .sentinel, .sentinel, .pinned], laidTests := true, laidLooks := .later }
def StateBackUptoCardSaid : Prop := Claim7.holds Tryz.pinned (.plain (OpenSpec.upto stateBackSpec)) stateBackUptoCard

/-- THE SECOND FORM's CARD OF 'mailcoachlaw21.StateParts'. -/
def statePartsUptoCard : Claim7 := { stood := { row := statePartsUptoRow, standIns := [], harness := (true, "f7d919a2b6a117aa4af3eda66514ae009d551fc92b79a179c0979ffc6c12fa51"), looks := true }, kinds := [], alts := [], laidByText := true, laidKinds := [.data, .data, .data, .data, .sentinel, .sentinel, .pinned], laidTests := true, laidLooks := .later }
def StatePartsUptoCardSaid : Prop := Claim7.holds Tryz.pinned (.plain (OpenSpec.upto statePartsSpec)) statePartsUptoCard

/-- THE SECOND FORM's CARD OF 'mailcoachlaw21.StateLess'. -/
def stateLessUptoCard : Claim7 := { stood := { row := stateLessUptoRow, standIns := [], harness := (true, "f7d919a2b6a117aa4af3eda66514ae009d551fc92b79a179c0979ffc6c12fa51"), looks := true }, kinds := [], alts := [], laidByText := true, laidKinds := [.data, .data, .data, .data, .sentinel, .sentinel, .pinned], laidTests := true, laidLooks := .later }
def StateLessUptoCardSaid : Prop := Claim7.holds Tryz.pinned (.plain (OpenSpec.upto stateLessSpec)) stateLessUptoCard

/-- THE SECOND FORM's CARD OF 'mailcoachlaw21.StateLater'. -/
def stateLaterUptoCard : Claim7 := { stood := { row := stateLaterUptoRow, standIns := [], harness := (true, "f7d919a2b6a117aa4af3eda66514ae009d551fc92b79a179c0979ffc6c12fa51"), looks := true }, kinds := [], alts := [], laidByText := true, laidKinds := [.data, .data, .data, .data, .sentinel, .sentinel, .pinned], laidTests := true, laidLooks := .later }
def StateLaterUptoCardSaid : Prop := Claim7.holds Tryz.pinned (.plain (OpenSpec.upto stateLaterSpec)) stateLaterUptoCard
end Rows
end Go.Proofs.YtibglbjklefjdaaGreatDoor
