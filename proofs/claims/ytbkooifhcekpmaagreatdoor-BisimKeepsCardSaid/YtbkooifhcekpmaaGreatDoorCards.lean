/-
  DERIVED. GIVEN WITH THE SEED: THE CARDS: each row of YtbkooifhcekpmaaGreatDoorRows.lean that lists a variable, with what it lists TIED to the program's text (the seventh form; the later family's looks); each row that meets fmt, with fmt's text TOLD by the authors' own Lean function (tested against real Go, not proved from fmt's source: count such statements apart). THE CARD IS WHAT COUNTS. Prove the row's statement (the work); the ties are given (YtbkooifhcekpmaaGreatDoorTie.lean); close each card by the builder's one call (the guide's Derived/Test/ToyasCard.lean, 'card_holds'). Laid BY PROGRAM, IN A SANDBOX (cutbox-door.mjs). By AI agents, Wed Nov 11 2026. No macro, syntax, notation, axiom, sorry.
-/
import Derived.Test.YtbkooifhcekpmaaGreatDoorRows
import GoSem.ClaimSeven
namespace Go.Proofs.YtbkooifhcekpmaaGreatDoor
namespace Rows

/-- THE TIED CARD OF 'bailifflaw18.BisimClasses'. -/
def bisimClassesCard : Claim7 := { stood := { row := bisimClassesRow, standIns := [], harness := (true, "f01f462d331c61cbdcae418cc0b94d40bb44ac99eb2f9debfafd1861d8e71bd4"), looks := true }, kinds := [], alts := [], laidByText := true, laidKinds := [.data], laidTests := true, laidLooks := .later }
def BisimClassesCardSaid : Prop := Claim7.holds Tryz.pinned (.plain (OpenSpec.ofChange bisimClassesSpec)) bisimClassesCard

/-- THE TIED CARD OF 'bailifflaw18.BisimOnce'. -/
def bisimOnceCard : Claim7 := { stood := { row := bisimOnceRow, standIns := [], harness := (true, "f01f462d331c61cbdcae418cc0b94d40bb44ac99eb2f9debfafd1861d8e71bd4"), looks := true }, kinds := [], alts := [], laidByText := true, laidKinds := [.data], laidTests := true, laidLooks := .later }
def BisimOnceCardSaid : Prop := Claim7.holds Tryz.pinned (.plain (OpenSpec.ofChange bisimOnceSpec)) bisimOnceCard

/-- THE TIED CARD OF 'bailifflaw18.BisimAlike'. -/
def bisimAlikeCard : Claim7 := { stood := { row := bisimAlikeRow, standIns := [], harness := (true, "f01f462d331c61cbdcae418cc0b94d40bb44ac99eb2f9debfafd1861d8e71bd4"), looks := true }, kinds := [], alts := [], laidByText := true, laidKinds := [.data], laidTests := true, laidLooks := .later }
def BisimAlikeCardSaid : Prop := Claim7.holds Tryz.pinned (.plain (OpenSpec.ofChange bisimAlikeSpec)) bisimAlikeCard

/-- THE TIED CARD OF 'bailifflaw18.BisimTwin'. -/
def bisimTwinCard : Claim7 := { stood := { row := bisimTwinRow, standIns := [], harness := (true, "f01f462d331c61cbdcae418cc0b94d40bb44ac99eb2f9debfafd1861d8e71bd4"), looks := true }, kinds := [], alts := [], laidByText := true, laidKinds := [.data], laidTests := true, laidLooks := .later }
def BisimTwinCardSaid : Prop := Claim7.holds Tryz.pinned (.plain (OpenSpec.ofChange bisimTwinSpec)) bisimTwinCard

/-- THE TIED CARD OF 'bailifflaw18.BisimTurned'. -/
def bisimTurnedCard : Claim7 := { stood := { row := bisimTurnedRow, standIns := [], harness := (true, "f01f462d331c61cbdcae418cc0b94d40bb44ac99eb2f9debfafd1861d8e71bd4"), looks := true }, kinds := [], alts := [], laidByText := true, laidKinds := [.data], laidTests := true, laidLooks := .later }
def BisimTurnedCardSaid : Prop := Claim7.holds Tryz.pinned (.plain (OpenSpec.ofChange bisimTurnedSpec)) bisimTurnedCard

/-- THE TIED CARD OF 'bailifflaw03.LtsPrints'. -/
def ltsPrintsCard : Claim7 := { stood := { row := ltsPrintsRow, standIns := [], harness := (true, "f01f462d331c61cbdcae418cc0b94d40bb44ac99eb2f9debfafd1861d8e71bd4"), looks := true }, kinds := [], alts := [], laidByText := true, laidKinds := [.data, .data, .data], laidTests := true, laidLooks := .later }
def LtsPrintsCardSaid : Prop := Claim7.holds Tryz.pinned (.plain (OpenSpec.ofChange ltsPrintsSpec)) ltsPrintsCard

/-- THE TIED CARD OF 'bailifflaw03.LtsLines'. -/
def ltsLinesCard : Claim7 := { stood := { row := ltsLinesRow, standIns := [], harness := (true, "f01f462d331c61cbdcae418cc0b94d40bb44ac99eb2f9debfafd1861d8e71bd4"), looks := true }, kinds := [], alts := [], laidByText := true, laidKinds := [.data, .data, .data], laidTests := true, laidLooks := .later }
def LtsLinesCardSaid : Prop := Claim7.holds Tryz.pinned (.plain (OpenSpec.ofChange ltsLinesSpec)) ltsLinesCard

/-- THE TIED CARD OF 'bailifflaw03.LtsBack'. -/
def ltsBackCard : Claim7 := { stood := { row := ltsBackRow, standIns := [], harness := (true, "f01f462d331c61cbdcae418cc0b94d40bb44ac99eb2f9debfafd1861d8e71bd4"), looks := true }, kinds := [], alts := [], laidByText := true, laidKinds := [.data, .data, .data, .handle], laidTests := true, laidLooks := .later }
def LtsBackCardSaid : Prop := Claim7.holds Tryz.pinned (.plain (OpenSpec.ofChange ltsBackSpec)) ltsBackCard

/-- THE TIED CARD OF 'bailifflaw18.BisimKeeps'. -/
def bisimKeepsCard : Claim7 := { stood := { row := bisimKeepsRow, standIns := [], harness := (true, "f01f462d331c61cbdcae418cc0b94d40bb44ac99eb2f9debfafd1861d8e71bd4"), looks := true }, kinds := [], alts := [], laidByText := true, laidKinds := [.data], laidTests := true, laidLooks := .later }
def BisimKeepsCardSaid : Prop := Claim7.holds Tryz.pinned (.plain (OpenSpec.ofChange bisimKeepsSpec)) bisimKeepsCard

/-- THE SECOND FORM's CARD OF 'bailifflaw18.BisimClasses'. -/
def bisimClassesUptoCard : Claim7 := { stood := { row := bisimClassesUptoRow, standIns := [], harness := (true, "f01f462d331c61cbdcae418cc0b94d40bb44ac99eb2f9debfafd1861d8e71bd4"), looks := true }, kinds := [], alts := [], laidByText := true, laidKinds := [.data], laidTests := true, laidLooks := .later }
def BisimClassesUptoCardSaid : Prop := Claim7.holds Tryz.pinned (.plain (OpenSpec.upto bisimClassesSpec)) bisimClassesUptoCard

/-- THE SECOND FORM's CARD OF 'bailifflaw18.BisimOnce'. -/
def bisimOnceUptoCard : Claim7 := { stood := { row := bisimOnceUptoRow, standIns := [], harness := (true, "f01f462d331c61cbdcae418cc0b94d40bb44ac99eb2f9debfafd1861d8e71bd4"), looks := true }, kinds := [], alts := [], laidByText := true, laidKinds := [.data], laidTests := true, laidLooks := .later }
def BisimOnceUptoCardSaid : Prop := Claim7.holds Tryz.pinned (.plain (OpenSpec.upto bisimOnceSpec)) bisimOnceUptoCard

/-- THE SECOND FORM's CARD OF 'bailifflaw18.BisimAlike'. -/
def bisimAlikeUptoCard : Claim7 := { stood := { row := bisimAlikeUptoRow, standIns := [], harness := (true, "f01f462d331c61cbdcae418cc0b94d40bb44ac99eb2f9debfafd1861d8e71bd4"), looks := true }, kinds := [], alts := [], laidByText := true, laidKinds := [.data], laidTests := true, laidLooks := .later }
def BisimAlikeUptoCardSaid : Prop := Claim7.holds Tryz.pinned (.plain (OpenSpec.upto bisimAlikeSpec)) bisimAlikeUptoCard

/-- THE SECOND FORM's CARD OF 'bailifflaw18.BisimTwin'. -/
def bisimTwinUptoCard : Claim7 := { stood := { row := bisimTwinUptoRow, standIns := [], harness := (true, "f01f462d331c61cbdcae418cc0b94d40bb44ac99eb2f9debfafd1861d8e71bd4"), looks := true }, kinds := [], alts := [], laidByText := true, laidKinds := [.data], laidTests := true, laidLooks := .later }
def BisimTwinUptoCardSaid : Prop := Claim7.holds Tryz.pinned (.plain (OpenSpec.upto bisimTwinSpec)) bisimTwinUptoCard

/-- THE SECOND FORM's CARD OF 'bailifflaw18.BisimTurned'. -/
def bisimTurnedUptoCard : Claim7 := { stood := { row := bisimTurnedUptoRow, standIns := [], harness := (true, "f01f462d331c61cbdcae418cc0b94d40bb44ac99eb2f9debfafd1861d8e71bd4"), looks := true }, kinds := [], alts := [], laidByText := true, laidKinds := [.data], laidTests := true, laidLooks := .later }
def BisimTurnedUptoCardSaid : Prop := Claim7.holds Tryz.pinned (.plain (OpenSpec.upto bisimTurnedSpec)) bisimTurnedUptoCard

/-- THE SECOND FORM's CARD OF 'bailifflaw03.LtsPrints'. -/
def ltsPrintsUptoCard : Claim7 := { stood := { row := ltsPrintsUptoRow, standIns := [], harness := (true, "f01f462d331c61cbdcae418cc0b94d40bb44ac99eb2f9debfafd1861d8e71bd4"), looks := true }, kinds := [], alts := [], laidByText := true, laidKinds := [.data, .data, .data], laidTests := true, laidLooks := .later }
def LtsPrintsUptoCardSaid : Prop := Claim7.holds Tryz.pinned (.plain (OpenSpec.upto ltsPrintsSpec)) ltsPrintsUptoCard

/-- THE SECOND FORM's CARD OF 'bailifflaw03.LtsLines'. -/
def ltsLinesUptoCard : Claim7 := { stood := { row := ltsLinesUptoRow, standIns := [], harness := (true, "f01f462d331c61cbdcae418cc0b94d40bb44ac99eb2f9debfafd1861d8e71bd4"), looks := true }, kinds := [], alts := [], laidByText := true, laidKinds := [.data, .data, .data], laidTests := true, laidLooks := .later }
def LtsLinesUptoCardSaid : Prop := Claim7.holds Tryz.pinned (.plain (OpenSpec.upto ltsLinesSpec)) ltsLinesUptoCard

/-- THE SECOND FORM's CARD OF 'bailifflaw03.LtsBack'. -/
def ltsBackUptoCard : Claim7 := { stood := { row := ltsBackUptoRow, standIns := [], harness := (true, "f01f462d331c61cbdcae418cc0b94d40bb44ac99eb2f9debfafd1861d8e71bd4"), looks := true }, kinds := [], alts := [], laidByText := true, laidKinds := [.data, .data, .data, .handle], laidTests := true, laidLooks := .later }
def LtsBackUptoCardSaid : Prop := Claim7.holds Tryz.pinned (.plain (OpenSpec.upto ltsBackSpec)) ltsBackUptoCard

/-- THE SECOND FORM's CARD OF 'bailifflaw18.BisimKeeps'. -/
def bisimKeepsUptoCard : Claim7 := { stood := { row := bisimKeepsUptoRow, standIns := [], harness := (true, "f01f462d331c61cbdcae418cc0b94d40bb44ac99eb2f9debfafd1861d8e71bd4"), looks := true }, kinds := [], alts := [], laidByText := true, laidKinds := [.data], laidTests := true, laidLooks := .later }
def BisimKeepsUptoCardSaid : Prop := Claim7.holds Tryz.pinned (.plain (OpenSpec.upto bisimKeepsSpec)) bisimKeepsUptoCard
end Rows
end Go.Proofs.YtbkooifhcekpmaaGreatDoor
