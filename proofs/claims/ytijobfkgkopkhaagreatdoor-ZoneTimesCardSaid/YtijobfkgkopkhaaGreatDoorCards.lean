/-
  DERIVED. GIVEN WITH THE SEED: THE CARDS: each row of YtijobfkgkopkhaaGreatDoorRows.lean that lists a variable, with what it lists TIED to the program's text (the seventh form; the later family's looks); each row that meets fmt, with fmt's text TOLD by the authors' own Lean function (tested against real Go, not proved from fmt's source: count such statements apart). THE CARD IS WHAT COUNTS. Prove the row's statement (the work); the ties are given (YtijobfkgkopkhaaGreatDoorTie.lean); close each card by the builder's one call (the guide's Derived/Test/ToyasCard.lean, 'card_holds'). Laid BY PROGRAM, IN A SANDBOX (cutbox-door.mjs). By AI agents, Wed Nov 11 2026. No macro, syntax, notation, axiom, sorry.
-/
import Derived.Test.YtijobfkgkopkhaaGreatDoorRows
import GoSem.ClaimSeven
namespace Go.Proofs.YtijobfkgkopkhaaGreatDoor
namespace Rows

/-- THE TIED CARD OF 'mailcoachlaw03.ZoneTells'. -/
def zoneTellsCard : Claim7 := { stood := { row := zoneTellsRow, standIns := [], harness := (true, "28688541d2d962046bf8e80ac863fa83e6abbb72c11d504551f7f40d0b9ae2ca"), looks := true }, kinds := [], alts := [], laidByText := true, laidKinds := [.data, .data, .data, .data, .sentinel, .sentinel, .pinned], laidTests := true, laidLooks := .later }
def ZoneTellsCardSaid : Prop := Claim7.holds Tryz.pinned (.plain (OpenSpec.ofChange zoneTellsSpec)) zoneTellsCard

/-- THE TIED CARD OF 'mailcoachlaw03.ZoneParses'. -/
def zoneParsesCard : Claim7 := { stood := { row := zoneParsesRow, standIns := [], harness := (true, "28688541d2d962046bf8e80ac863fa83e6abbb72c11d504551f7f40d0b9ae2ca"), looks := true }, kinds := [], alts := [], laidByText := true, laidKinds := [.data, .data, .data, .data, .sentinel, .sentinel, .pinned], laidTests := true, laidLooks := .later }
def ZoneParsesCardSaid : Prop := Claim7.holds Tryz.pinned (.plain (OpenSpec.ofChange zoneParsesSpec)) zoneParsesCard

/-- THE TIED CARD OF 'mailcoachlaw03.ZoneBack'. -/
def zoneBackCard : Claim7 := { stood := { row := zoneBackRow, standIns := [], harness := (true, "28688541d2d962046bf8e80ac863fa83e6abbb72c11d504551f7f40d0b9ae2ca"), looks := true }, kinds := [], alts := [], laidByText := true, laidKinds := [.data, .data, .data, .data, .sentinel, .sentinel, .pinned], laidTests := true, laidLooks := .later }
def ZoneBackCardSaid : Prop := Claim7.holds Tryz.pinned (.plain (OpenSpec.ofChange zoneBackSpec)) zoneBackCard

/-- THE TIED CARD OF 'mailcoachlaw03.ZoneTimes'. -/
def zoneTimesCard : Claim7 := { stood := { row := zoneTimesRow, standIns := [], harness := (true, "28688541d2d962046bf8e80ac863fa83e6abbb72c11d504551f7f40d0b9ae2ca"), looks := true }, kinds := [], alts := [], laidByText := true, laidKinds := [.data, .data, .data, .data, .sentinel, .sentinel, .pinned], laidTests := true, laidLooks := .later }
def ZoneTimesCardSaid : Prop := Claim7.holds Tryz.pinned (.plain (OpenSpec.ofChange zoneTimesSpec)) zoneTimesCard

/-- THE TIED CARD OF 'mailcoachlaw03.ZoneNames'. -/
def zoneNamesCard : Claim7 := { stood := { row := zoneNamesRow, standIns := [], harness := (true, "28688541d2d962046bf8e80ac863fa83e6abbb72c11d504551f7f40d0b9ae2ca"), looks := true }, kinds := [], alts := [], laidByText := true, laidKinds := [.data, .data, .data, .data, .sentinel, .sentinel, .pinned], laidTests := true, laidLooks := .later }
def ZoneNamesCardSaid : Prop := Claim7.holds Tryz.pinned (.plain (OpenSpec.ofChange zoneNamesSpec)) zoneNamesCard

/-- THE TIED CARD OF 'mailcoachlaw03.ZoneRules'. -/
def zoneRulesCard : Claim7 := { stood := { row := zoneRulesRow, standIns := [], harness := (true, "28688541d2d962046bf8e80ac863fa83e6abbb72c11d504551f7f40d0b9ae2ca"), looks := true }, kinds := [], alts := [], laidByText := true, laidKinds := [.data, .data, .data, .data, .sentinel, .sentinel, .pinned], laidTests := true, laidLooks := .later }
def ZoneRulesCardSaid : Prop := Claim7.holds Tryz.pinned (.plain (OpenSpec.ofChange zoneRulesSpec)) zoneRulesCard

/-- THE SECOND FORM's CARD OF 'mailcoachlaw03.ZoneTells'. -/
def zoneTellsUptoCard : Claim7 := { stood := { row := zoneTellsUptoRow, standIns := [], harness := (true, "28688541d2d962046bf8e80ac863fa83e6abbb72c11d504551f7f40d0b9ae2ca"), looks := true }, kinds := [], alts := [], laidByText := true, laidKinds := [.data, .data, .data, .data, .sentinel, .sentinel, .pinned], laidTests := true, laidLooks := .later }
def ZoneTellsUptoCardSaid : Prop := Claim7.holds Tryz.pinned (.plain (OpenSpec.upto zoneTellsSpec)) zoneTellsUptoCard

/-- THE SECOND FORM's CARD OF 'mailcoachlaw03.ZoneParses'. -/
def zoneParsesUptoCard : Claim7 := { stood := { row := zoneParsesUptoRow, standIns := [], harness := (true, "28688541d2d962046bf8e80ac863fa83e6abbb72c11d504551f7f40d0b9ae2ca"), looks := true }, kinds := [], alts := [], laidByText := true, laidKinds := [.data, .data, .data, .data, .sentinel, .sentinel, .pinned], laidTests := true, laidLooks := .later }
def ZoneParsesUptoCardSaid : Prop := Claim7.holds Tryz.pinned (.plain (OpenSpec.upto zoneParsesSpec)) zoneParsesUptoCard

/-- THE SECOND FORM's CARD OF 'mailcoachlaw03.ZoneBack'. -/
def zoneBackUptoCard : Claim7 := { stood := { row := zoneBackUptoRow, standIns := [], harness := (true, "28688541d2d962046bf8e80ac863fa83e6abbb72c11d504551f7f40d0b9ae2ca"), looks := true }, kinds := [], alts := [], laidByText := true, laidKinds := [.data, .data, .data, .data, .sentinel, .sentinel, .pinned], laidTests := true, laidLooks := .later }
def ZoneBackUptoCardSaid : Prop := Claim7.holds Tryz.pinned (.plain (OpenSpec.upto zoneBackSpec)) zoneBackUptoCard

/-- THE SECOND FORM's CARD OF 'mailcoachlaw03.ZoneTimes'. -/
def zoneTimesUptoCard : Claim7 := { stood := { row := zoneTimesUptoRow, standIns := [], harness := (true, "28688541d2d962046bf8e80ac863fa83e6abbb72c11d504551f7f40d0b9ae2ca"), looks := true }, kinds := [], alts := [], laidByText := true, laidKinds := [.data, .data, .data, .data, .sentinel, .sentinel, .pinned], laidTests := true, laidLooks := .later }
def ZoneTimesUptoCardSaid : Prop := Claim7.holds Tryz.pinned (.plain (OpenSpec.upto zoneTimesSpec)) zoneTimesUptoCard

/-- THE SECOND FORM's CARD OF 'mailcoachlaw03.ZoneNames'. -/
def zoneNamesUptoCard : Claim7 := { stood := { row := zoneNamesUptoRow, standIns := [], harness := (true, "28688541d2d962046bf8e80ac863fa83e6abbb72c11d504551f7f40d0b9ae2ca"), looks := true }, kinds := [], alts := [], laidByText := true, laidKinds := [.data, .data, .data, .data, .sentinel, .sentinel, .pinned], laidTests := true, laidLooks := .later }
def ZoneNamesUptoCardSaid : Prop := Claim7.holds Tryz.pinned (.plain (OpenSpec.upto zoneNamesSpec)) zoneNamesUptoCard

/-- THE SECOND FORM's CARD OF 'mailcoachlaw03.ZoneRules'. -/
def zoneRulesUptoCard : Claim7 := { stood := { row := zoneRulesUptoRow, standIns := [], harness := (true, "28688541d2d962046bf8e80ac863fa83e6abbb72c11d504551f7f40d0b9ae2ca"), looks := true }, kinds := [], alts := [], laidByText := true, laidKinds := [.data, .data, .data, .data, .sentinel, .sentinel, .pinned], laidTests := true, laidLooks := .later }
def ZoneRulesUptoCardSaid : Prop := Claim7.holds Tryz.pinned (.plain (OpenSpec.upto zoneRulesSpec)) zoneRulesUptoCard
end Rows
end Go.Proofs.YtijobfkgkopkhaaGreatDoor
