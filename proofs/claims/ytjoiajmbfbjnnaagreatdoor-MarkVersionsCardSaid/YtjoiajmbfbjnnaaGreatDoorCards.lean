/-
  DERIVED. GIVEN WITH THE SEED: THE CARDS: each row of YtjoiajmbfbjnnaaGreatDoorRows.lean that lists a variable, with what it lists TIED to the program's text (the seventh form; the later family's looks); each row that meets fmt, with fmt's text TOLD by the authors' own Lean function (tested against real Go, not proved from fmt's source: count such statements apart). THE CARD IS WHAT COUNTS. Prove the row's statement (the work); the ties are given (YtjoiajmbfbjnnaaGreatDoorTie.lean); close each card by the builder's one call (the guide's Derived/Test/ToyasCard.lean, 'card_holds'). Laid BY PROGRAM, IN A SANDBOX (cutbox-door.mjs). By AI agents, Wed Nov 11 2026. No macro, syntax, notation, axiom, sorry.
-/
import Derived.Test.YtjoiajmbfbjnnaaGreatDoorRows
import GoSem.ClaimSeven
namespace Go.Proofs.YtjoiajmbfbjnnaaGreatDoor
namespace Rows

/-- THE TIED CARD OF 'rootstocklaw13.TreeRaw'. -/
def treeRawCard : Claim7 := { stood := { row := treeRawRow, standIns := [], harness := (true, "c305d38885dc5a26b0b0a4a6fcf8c405a92e57758528fcfc05ba4c44b91b3f38"), looks := false }, kinds := [], alts := [], laidByText := true, laidKinds := [.data, .data, .pinned], laidTests := true, laidLooks := .later }
def TreeRawCardSaid : Prop := Claim7.holds Tryz.pinned (.plain (OpenSpec.ofChange treeRawSpec)) treeRawCard

/-- THE TIED CARD OF 'rootstocklaw21.MarkTrees'. -/
def markTreesCard : Claim7 := { stood := { row := markTreesRow, standIns := [], harness := (true, "c305d38885dc5a26b0b0a4a6fcf8c405a92e57758528fcfc05ba4c44b91b3f38"), looks := false }, kinds := [], alts := [], laidByText := true, laidKinds := [.data, .data, .pinned], laidTests := true, laidLooks := .later }
def MarkTreesCardSaid : Prop := Claim7.holds Tryz.pinned (.plain (OpenSpec.ofChange markTreesSpec)) markTreesCard

/-- THE TIED CARD OF 'rootstocklaw21.MarkHarm'. -/
def markHarmCard : Claim7 := { stood := { row := markHarmRow, standIns := [], harness := (true, "c305d38885dc5a26b0b0a4a6fcf8c405a92e57758528fcfc05ba4c44b91b3f38"), looks := false }, kinds := [], alts := [], laidByText := true, laidKinds := [.data, .data, .pinned], laidTests := true, laidLooks := .later }
def MarkHarmCardSaid : Prop := Claim7.holds Tryz.pinned (.plain (OpenSpec.ofChange markHarmSpec)) markHarmCard

/-- THE TIED CARD OF 'rootstocklaw21.MarkSums'. -/
def markSumsCard : Claim7 := { stood := { row := markSumsRow, standIns := [], harness := (true, "c305d38885dc5a26b0b0a4a6fcf8c405a92e57758528fcfc05ba4c44b91b3f38"), looks := false }, kinds := [], alts := [], laidByText := true, laidKinds := [.data, .data, .pinned], laidTests := true, laidLooks := .later }
def MarkSumsCardSaid : Prop := Claim7.holds Tryz.pinned (.plain (OpenSpec.ofChange markSumsSpec)) markSumsCard

/-- THE TIED CARD OF 'rootstocklaw14.DiffHarm'. -/
def diffHarmCard : Claim7 := { stood := { row := diffHarmRow, standIns := [], harness := (true, "c305d38885dc5a26b0b0a4a6fcf8c405a92e57758528fcfc05ba4c44b91b3f38"), looks := false }, kinds := [], alts := [], laidByText := true, laidKinds := [.data, .data, .pinned], laidTests := true, laidLooks := .later }
def DiffHarmCardSaid : Prop := Claim7.holds Tryz.pinned (.plain (OpenSpec.ofChange diffHarmSpec)) diffHarmCard

/-- THE TIED CARD OF 'rootstocklaw14.DiffSteps'. -/
def diffStepsCard : Claim7 := { stood := { row := diffStepsRow, standIns := [], harness := (true, "c305d38885dc5a26b0b0a4a6fcf8c405a92e57758528fcfc05ba4c44b91b3f38"), looks := false }, kinds := [], alts := [], laidByText := true, laidKinds := [.data, .data, .pinned], laidTests := true, laidLooks := .later }
def DiffStepsCardSaid : Prop := Claim7.holds Tryz.pinned (.plain (OpenSpec.ofChange diffStepsSpec)) diffStepsCard

/-- THE TIED CARD OF 'rootstocklaw14.DiffTrees'. -/
def diffTreesCard : Claim7 := { stood := { row := diffTreesRow, standIns := [], harness := (true, "c305d38885dc5a26b0b0a4a6fcf8c405a92e57758528fcfc05ba4c44b91b3f38"), looks := false }, kinds := [], alts := [], laidByText := true, laidKinds := [.data, .data, .pinned], laidTests := true, laidLooks := .later }
def DiffTreesCardSaid : Prop := Claim7.holds Tryz.pinned (.plain (OpenSpec.ofChange diffTreesSpec)) diffTreesCard

/-- THE TIED CARD OF 'rootstocklaw14.DiffParts'. -/
def diffPartsCard : Claim7 := { stood := { row := diffPartsRow, standIns := [], harness := (true, "c305d38885dc5a26b0b0a4a6fcf8c405a92e57758528fcfc05ba4c44b91b3f38"), looks := false }, kinds := [], alts := [], laidByText := true, laidKinds := [.data, .data, .pinned], laidTests := true, laidLooks := .later }
def DiffPartsCardSaid : Prop := Claim7.holds Tryz.pinned (.plain (OpenSpec.ofChange diffPartsSpec)) diffPartsCard

/-- THE TIED CARD OF 'rootstocklaw14.DiffFew'. -/
def diffFewCard : Claim7 := { stood := { row := diffFewRow, standIns := [], harness := (true, "c305d38885dc5a26b0b0a4a6fcf8c405a92e57758528fcfc05ba4c44b91b3f38"), looks := false }, kinds := [], alts := [], laidByText := true, laidKinds := [.data, .data, .pinned], laidTests := true, laidLooks := .later }
def DiffFewCardSaid : Prop := Claim7.holds Tryz.pinned (.plain (OpenSpec.ofChange diffFewSpec)) diffFewCard

/-- THE TIED CARD OF 'rootstocklaw21.MarkVersions'. -/
def markVersionsCard : Claim7 := { stood := { row := markVersionsRow, standIns := [], harness := (true, "c305d38885dc5a26b0b0a4a6fcf8c405a92e57758528fcfc05ba4c44b91b3f38"), looks := false }, kinds := [], alts := [], laidByText := true, laidKinds := [.data, .data, .pinned], laidTests := true, laidLooks := .later }
def MarkVersionsCardSaid : Prop := Claim7.holds Tryz.pinned (.plain (OpenSpec.ofChange markVersionsSpec)) markVersionsCard

/-- THE TIED CARD OF 'rootstocklaw21.MarkLive'. -/
def markLiveCard : Claim7 := { stood := { row := markLiveRow, standIns := [], harness := (true, "c305d38885dc5a26b0b0a4a6fcf8c405a92e57758528fcfc05ba4c44b91b3f38"), looks := false }, kinds := [], alts := [], laidByText := true, laidKinds := [.data, .data, .pinned], laidTests := true, laidLooks := .later }
def MarkLiveCardSaid : Prop := Claim7.holds Tryz.pinned (.plain (OpenSpec.ofChange markLiveSpec)) markLiveCard

/-- THE SECOND FORM's CARD OF 'rootstocklaw13.TreeRaw'. -/
def treeRawUptoCard : Claim7 := { stood := { row := treeRawUptoRow, standIns := [], harness := (true, "c305d38885dc5a26b0b0a4a6fcf8c405a92e57758528fcfc05ba4c44b91b3f38"), looks := false }, kinds := [], alts := [], laidByText := true, laidKinds := [.data, .data, .pinned], laidTests := true, laidLooks := .later }
def TreeRawUptoCardSaid : Prop := Claim7.holds Tryz.pinned (.plain (OpenSpec.upto treeRawSpec)) treeRawUptoCard

/-- THE SECOND FORM's CARD OF 'rootstocklaw21.MarkTrees'. -/
def markTreesUptoCard : Claim7 := { stood := { row := markTreesUptoRow, standIns := [], harness := (true, "c305d38885dc5a26b0b0a4a6fcf8c405a92e57758528fcfc05ba4c44b91b3f38"), looks := false }, kinds := [], alts := [], laidByText := true, laidKinds := [.data, .data, .pinned], laidTests := true, laidLooks := .later }
def MarkTreesUptoCardSaid : Prop := Claim7.holds Tryz.pinned (.plain (OpenSpec.upto markTreesSpec)) markTreesUptoCard

/-- THE SECOND FORM's CARD OF 'rootstocklaw21.MarkHarm'. -/
def markHarmUptoCard : Claim7 := { stood := { row := markHarmUptoRow, standIns := [], harness := (true, "c305d38885dc5a26b0b0a4a6fcf8c405a92e57758528fcfc05ba4c44b91b3f38"), looks := false }, kinds := [], alts := [], laidByText := true, laidKinds := [.data, .data, .pinned], laidTests := true, laidLooks := .later }
def MarkHarmUptoCardSaid : Prop := Claim7.holds Tryz.pinned (.plain (OpenSpec.upto markHarmSpec)) markHarmUptoCard

/-- THE SECOND FORM's CARD OF 'rootstocklaw21.MarkSums'. -/
def markSumsUptoCard : Claim7 := { stood := { row := markSumsUptoRow, standIns := [], harness := (true, "c305d38885dc5a26b0b0a4a6fcf8c405a92e57758528fcfc05ba4c44b91b3f38"), looks := false }, kinds := [], alts := [], laidByText := true, laidKinds := [.data, .data, .pinned], laidTests := true, laidLooks := .later }
def MarkSumsUptoCardSaid : Prop := Claim7.holds Tryz.pinned (.plain (OpenSpec.upto markSumsSpec)) markSumsUptoCard

/-- THE SECOND FORM's CARD OF 'rootstocklaw14.DiffHarm'. -/
def diffHarmUptoCard : Claim7 := { stood := { row := diffHarmUptoRow, standIns := [], harness := (true, "c305d38885dc5a26b0b0a4a6fcf8c405a92e57758528fcfc05ba4c44b91b3f38"), looks := false }, kinds := [], alts := [], laidByText := true, laidKinds := [.data, .data, .pinned], laidTests := true, laidLooks := .later }
def DiffHarmUptoCardSaid : Prop := Claim7.holds Tryz.pinned (.plain (OpenSpec.upto diffHarmSpec)) diffHarmUptoCard

/-- THE SECOND FORM's CARD OF 'rootstocklaw14.DiffSteps'. -/
def diffStepsUptoCard : Claim7 := { stood := { row := diffStepsUptoRow, standIns := [], harness := (true, "c305d38885dc5a26b0b0a4a6fcf8c405a92e57758528fcfc05ba4c44b91b3f38"), looks := false }, kinds := [], alts := [], laidByText := true, laidKinds := [.data, .data, .pinned], laidTests := true, laidLooks := .later }
def DiffStepsUptoCardSaid : Prop := Claim7.holds Tryz.pinned (.plain (OpenSpec.upto diffStepsSpec)) diffStepsUptoCard

/-- THE SECOND FORM's CARD OF 'rootstocklaw14.DiffTrees'. -/
def diffTreesUptoCard : Claim7 := { stood := { row := diffTreesUptoRow, standIns := [], harness := (true, "c305d38885dc5a26b0b0a4a6fcf8c405a92e57758528fcfc05ba4c44b91b3f38"), looks := false }, kinds := [], alts := [], laidByText := true, laidKinds := [.data, .data, .pinned], laidTests := true, laidLooks := .later }
def DiffTreesUptoCardSaid : Prop := Claim7.holds Tryz.pinned (.plain (OpenSpec.upto diffTreesSpec)) diffTreesUptoCard

/-- THE SECOND FORM's CARD OF 'rootstocklaw14.DiffParts'. -/
def diffPartsUptoCard : Claim7 := { stood := { row := diffPartsUptoRow, standIns := [], harness := (true, "c305d38885dc5a26b0b0a4a6fcf8c405a92e57758528fcfc05ba4c44b91b3f38"), looks := false }, kinds := [], alts := [], laidByText := true, laidKinds := [.data, .data, .pinned], laidTests := true, laidLooks := .later }
def DiffPartsUptoCardSaid : Prop := Claim7.holds Tryz.pinned (.plain (OpenSpec.upto diffPartsSpec)) diffPartsUptoCard

/-- THE SECOND FORM's CARD OF 'rootstocklaw14.DiffFew'. -/
def diffFewUptoCard : Claim7 := { stood := { row := diffFewUptoRow, standIns := [], harness := (true, "c305d38885dc5a26b0b0a4a6fcf8c405a92e57758528fcfc05ba4c44b91b3f38"), looks := false }, kinds := [], alts := [], laidByText := true, laidKinds := [.data, .data, .pinned], laidTests := true, laidLooks := .later }
def DiffFewUptoCardSaid : Prop := Claim7.holds Tryz.pinned (.plain (OpenSpec.upto diffFewSpec)) diffFewUptoCard

/-- THE SECOND FORM's CARD OF 'rootstocklaw21.MarkVersions'. -/
def markVersionsUptoCard : Claim7 := { stood := { row := markVersionsUptoRow, standIns := [], harness := (true, "c305d38885dc5a26b0b0a4a6fcf8c405a92e57758528fcfc05ba4c44b91b3f38"), looks := false }, kinds := [], alts := [], laidByText := true, laidKinds := [.data, .data, .pinned], laidTests := true, laidLooks := .later }
def MarkVersionsUptoCardSaid : Prop := Claim7.holds Tryz.pinned (.plain (OpenSpec.upto markVersionsSpec)) markVersionsUptoCard

/-- THE SECOND FORM's CARD OF 'rootstocklaw21.MarkLive'. -/
def markLiveUptoCard : Claim7 := { stood := { row := markLiveUptoRow, standIns := [], harness := (true, "c305d38885dc5a26b0b0a4a6fcf8c405a92e57758528fcfc05ba4c44b91b3f38"), looks := false }, kinds := [], alts := [], laidByText := true, laidKinds := [.data, .data, .pinned], laidTests := true, laidLooks := .later }
def MarkLiveUptoCardSaid : Prop := Claim7.holds Tryz.pinned (.plain (OpenSpec.upto markLiveSpec)) markLiveUptoCard
end Rows
end Go.Proofs.YtjoiajmbfbjnnaaGreatDoor
