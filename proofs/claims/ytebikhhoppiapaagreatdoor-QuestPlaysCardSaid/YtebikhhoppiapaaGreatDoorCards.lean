/-
  DERIVED. GIVEN WITH THE SEED: THE CARDS: each row of YtebikhhoppiapaaGreatDoorRows.lean that lists a variable, with what it lists TIED to the program's text (the seventh form; the later family's looks); each row that meets fmt, with fmt's text TOLD by the authors' own Lean function (tested against real Go, not proved from fmt's source: count such statements apart). THE CARD IS WHAT COUNTS. Prove the row's statement (the work); the ties are given (YtebikhhoppiapaaGreatDoorTie.lean); close each card by the builder's one call (the guide's Derived/Test/ToyasCard.lean, 'card_holds'). Laid BY PROGRAM, IN A SANDBOX (cutbox-door.mjs). By AI agents, Wed Nov 11 2026. No macro, syntax, notation, axiom, sorry.
-/
import Derived.Test.YtebikhhoppiapaaGreatDoorRows
import GoSem.ClaimSeven
namespace Go.Proofs.YtebikhhoppiapaaGreatDoor
namespace Rows

/-- THE TIED CARD OF 'ostiarylaw21.QuestBinds'. -/
def questBindsCard : Claim7 := { stood := { row := questBindsRow, standIns := [], harness := (true, "d15b7c37d2b6dedfe3effe56bf0284d03e09bf01eb031c39d89e78c376878cd9"), looks := false }, kinds := [], alts := [], laidByText := true, laidKinds := [.data, .data, .data, .widerDeep, .widerDeep, .widerDeep, .data], laidTests := true, laidLooks := .later }
def QuestBindsCardSaid : Prop := Claim7.holds Tryz.pinned (.plain (OpenSpec.ofChange questBindsSpec)) questBindsCard

/-- THE TIED CARD OF 'ostiarylaw21.QuestNil'. -/
def questNilCard : Claim7 := { stood := { row := questNilRow, standIns := [], harness := (true, "d15b7c37d2b6dedfe3effe56bf0284d03e09bf01eb031c39d89e78c376878cd9"), looks := false }, kinds := [], alts := [], laidByText := true, laidKinds := [.data, .data, .data, .widerDeep, .widerDeep, .widerDeep, .data], laidTests := true, laidLooks := .later }
def QuestNilCardSaid : Prop := Claim7.holds Tryz.pinned (.plain (OpenSpec.ofChange questNilSpec)) questNilCard

/-- THE TIED CARD OF 'ostiarylaw21.QuestPlays'. -/
def questPlaysCard : Claim7 := { stood := { row := questPlaysRow, standIns := [], harness := (true, "d15b7c37d2b6dedfe3effe56bf0284d03e09bf01eb031c39d89e78c376878cd9"), looks := false }, kinds := [], alts := [], laidByText := true, laidKinds := [.data, .data, .data, .widerDeep, .widerDeep, .widerDeep, .data], laidTests := true, laidLooks := .later }
def QuestPlaysCardSaid : Prop := Claim7.holds Tryz.pinned (.plain (OpenSpec.ofChange questPlaysSpec)) questPlaysCard

/-- THE SECOND FORM's CARD OF 'ostiarylaw21.QuestBinds'. -/
def questBindsUptoCard : Claim7 := { stood := { row := questBindsUptoRow, standIns := [], harness := (true, "d15b7c37d2b6dedfe3effe56bf0284d03e09bf01eb031c39d89e78c376878cd9"), looks := false }, kinds := [], alts := [], laidByText := true, laidKinds := [.data, .data, .data, .widerDeep, .widerDeep, .widerDeep, .data], laidTests := true, laidLooks := .later }
def QuestBindsUptoCardSaid : Prop := Claim7.holds Tryz.pinned (.plain (OpenSpec.upto questBindsSpec)) questBindsUptoCard

/-- THE SECOND FORM's CARD OF 'ostiarylaw21.QuestNil'. -/
def questNilUptoCard : Claim7 := { stood := { row := questNilUptoRow, standIns := [], harness := (true, "d15b7c37d2b6dedfe3effe56bf0284d03e09bf01eb031c39d89e78c376878cd9"), looks := false }, kinds := [], alts := [], laidByText := true, laidKinds := [.data, .data, .data, .widerDeep, .widerDeep, .widerDeep, .data], laidTests := true, laidLooks := .later }
def QuestNilUptoCardSaid : Prop := Claim7.holds Tryz.pinned (.plain (OpenSpec.upto questNilSpec)) questNilUptoCard

/-- THE SECOND FORM's CARD OF 'ostiarylaw21.QuestPlays'. -/
def questPlaysUptoCard : Claim7 := { stood := { row := questPlaysUptoRow, standIns := [], harness := (true, "d15b7c37d2b6dedfe3effe56bf0284d03e09bf01eb031c39d89e78c376878cd9"), looks := false }, kinds := [], alts := [], laidByText := true, laidKinds := [.data, .data, .data, .widerDeep, .widerDeep, .widerDeep, .data], laidTests := true, laidLooks := .later }
def QuestPlaysUptoCardSaid : Prop := Claim7.holds Tryz.pinned (.plain (OpenSpec.upto questPlaysSpec)) questPlaysUptoCard
end Rows
end Go.Proofs.YtebikhhoppiapaaGreatDoor
