/-
  DERIVED. GIVEN WITH THE SEED: THE CARDS: each row of YtknlcfiphkbbaaaDoorRows.lean that lists a variable, with what it lists TIED to the program's text (the seventh form; the later family's looks); each row that meets fmt, with fmt's text TOLD by the authors' own Lean function (tested against real Go, not proved from fmt's source: count such statements apart). THE CARD IS WHAT COUNTS. Prove the row's statement (the work); the ties are given (YtknlcfiphkbbaaaDoorTie.lean); close each card by the builder's one call (the guide's Derived/Test/ToyasCard.lean, 'card_holds'). Laid BY PROGRAM, IN A SANDBOX (cutbox-door.mjs). By AI agents, Wed Nov 11 2026. No macro, syntax, notation, axiom, sorry.
-/
import Derived.Test.YtknlcfiphkbbaaaDoorRows
import GoSem.ClaimSeven
namespace Go.Proofs.YtknlcfiphkbbaaaDoor
namespace Rows

/-- THE TIED CARD OF 'rootstocklaw14.DiffLists'. -/
def diffListsCard : Claim7 := { stood := { row := diffListsRow, standIns := [], harness := (true, "0a035ca75ed94d028c6e9d3e58e9a5a5f55056d3c00cd87cca699cc8a36a7707"), looks := false }, kinds := [], alts := [], laidByText := true, laidKinds := [.data, .data, .pinned], laidTests := true, laidLooks := .later }
def DiffListsCardSaid : Prop := Claim7.holds Tryd.pinned (.plain (OpenSpec.ofChange diffListsSpec)) diffListsCard

/-- THE TIED CARD OF 'rootstocklaw14.DiffBack'. -/
def diffBackCard : Claim7 := { stood := { row := diffBackRow, standIns := [], harness := (true, "0a035ca75ed94d028c6e9d3e58e9a5a5f55056d3c00cd87cca699cc8a36a7707"), looks := false }, kinds := [], alts := [], laidByText := true, laidKinds := [.data, .data, .pinned], laidTests := true, laidLooks := .later }
def DiffBackCardSaid : Prop := Claim7.holds Tryd.pinned (.plain (OpenSpec.ofChange diffBackSpec)) diffBackCard

/-- THE SECOND FORM's CARD OF 'rootstocklaw14.DiffLists'. -/
def diffListsUptoCard : Claim7 := { stood := { row := diffListsUptoRow, standIns := [], harness := (true, "0a035ca75ed94d028c6e9d3e58e9a5a5f55056d3c00cd87cca699cc8a36a7707"), looks := false }, kinds := [], alts := [], laidByText := true, laidKinds := [.data, .data, .pinned], laidTests := true, laidLooks := .later }
def DiffListsUptoCardSaid : Prop := Claim7.holds Tryd.pinned (.plain (OpenSpec.upto diffListsSpec)) diffListsUptoCard

/-- THE SECOND FORM's CARD OF 'rootstocklaw14.DiffBack'. -/
def diffBackUptoCard : Claim7 := { stood := { row := diffBackUptoRow, standIns := [], harness := (true, "0a035ca75ed94d028c6e9d3e58e9a5a5f55056d3c00cd87cca699cc8a36a7707"), looks := false }, kinds := [], alts := [], laidByText := true, laidKinds := [.data, .data, .pinned], laidTests := true, laidLooks := .later }
def DiffBackUptoCardSaid : Prop := Claim7.holds Tryd.pinned (.plain (OpenSpec.upto diffBackSpec)) diffBackUptoCard
end Rows
end Go.Proofs.YtknlcfiphkbbaaaDoor
