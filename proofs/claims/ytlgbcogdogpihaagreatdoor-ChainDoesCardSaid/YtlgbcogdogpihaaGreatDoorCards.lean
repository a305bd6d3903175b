/-
  DERIVED. GIVEN WITH THE SEED: THE CARDS: each row of YtlgbcogdogpihaaGreatDoorRows.lean that lists a variable, with what it lists TIED to the program's text (the seventh form; the later family's looks); each row that meets fmt, with fmt's text TOLD by the authors' own Lean function (tested against real Go, not proved from fmt's source: count such statements apart). THE CARD IS WHAT COUNTS. Prove the row's statement (the work); the ties are given (YtlgbcogdogpihaaGreatDoorTie.lean); close each card by the builder's one call (the guide's Derived/Test/ToyasCard.lean, 'card_holds'). Laid BY PROGRAM, IN A SANDBOX (cutbox-door.mjs). By AI agents, Wed Nov 11 2026. No macro, syntax, notation, axiom, sorry.
-/
import Derived.Test.YtlgbcogdogpihaaGreatDoorRows
import GoSem.ClaimSeven
namespace Go.Proofs.YtlgbcogdogpihaaGreatDoor
namespace Rows

/-- THE TIED CARD OF 'rootstocklaw09.ChainOver'. -/
def chainOverCard : Claim7 := { stood := { row := chainOverRow, standIns := [], harness := (true, "c20ab08ce001db770e6953cd3ff9740412769457fd73e33fe5e7fcaeb462509e"), looks := false }, kinds := [], alts := [], laidByText := true, laidKinds := [.data, .data, .pinned], laidTests := true, laidLooks := .later }
def ChainOverCardSaid : Prop := Claim7.holds Tryz.pinned (.plain (OpenSpec.ofChange chainOverSpec)) chainOverCard

/-- THE TIED CARD OF 'rootstocklaw09.ChainDoes'. -/
def chainDoesCard : Claim7 := { stood := { row := chainDoesRow, standIns := [], harness := (true, "c20ab08ce001db770e6953cd3ff9740412769457fd73e33fe5e7fcaeb462509e"), looks := false }, kinds := [], alts := [], laidByText := true, laidKinds := [.data, .data, .pinned], laidTests := true, laidLooks := .later }
def ChainDoesCardSaid : Prop := Claim7.holds Tryz.pinned (.plain (OpenSpec.ofChange chainDoesSpec)) chainDoesCard

/-- THE TIED CARD OF 'rootstocklaw09.ChainKeeps'. -/
def chainKeepsCard : Claim7 := { stood := { row := chainKeepsRow, standIns := [], harness := (true, "c20ab08ce001db770e6953cd3ff9740412769457fd73e33fe5e7fcaeb462509e"), looks := false }, kinds := [], alts := [], laidByText := true, laidKinds := [.data, .data, .pinned], laidTests := true, laidLooks := .later }
def ChainKeepsCardSaid : Prop := Claim7.holds Tryz.pinned (.plain (OpenSpec.ofChange chainKeepsSpec)) chainKeepsCard

/-- THE TIED CARD OF 'rootstocklaw10.AllocKeeps'. -/
def allocKeepsCard : Claim7 := { stood := { row := allocKeepsRow, standIns := [], harness := (true, "c20ab08ce001db770e6953cd3ff9740412769457fd73e33fe5e7fcaeb462509e"), looks := false }, kinds := [], alts := [], laidByText := true, laidKinds := [.data, .data, .pinned], laidTests := true, laidLooks := .later }
def AllocKeepsCardSaid : Prop := Claim7.holds Tryz.pinned (.plain (OpenSpec.ofChange allocKeepsSpec)) allocKeepsCard

/-- THE SECOND FORM's CARD OF 'rootstocklaw09.ChainOver'. -/
def chainOverUptoCard : Claim7 := { stood := { row := chainOverUptoRow, standIns := [], harness := (true, "c20ab08ce001db770e6953cd3ff9740412769457fd73e33fe5e7fcaeb462509e"), looks := false }, kinds := [], alts := [], laidByText := true, laidKinds := [.data, .data, .pinned], laidTests := true, laidLooks := .later }
def ChainOverUptoCardSaid : Prop := Claim7.holds Tryz.pinned (.plain (OpenSpec.upto chainOverSpec)) chainOverUptoCard

/-- THE SECOND FORM's CARD OF 'rootstocklaw09.ChainDoes'. -/
def chainDoesUptoCard : Claim7 := { stood := { row := chainDoesUptoRow, standIns := [], harness := (true, "c20ab08ce001db770e6953cd3ff9740412769457fd73e33fe5e7fcaeb462509e"), looks := false }, kinds := [], alts := [], laidByText := true, laidKinds := [.data, .data, .pinned], laidTests := true, laidLooks := .later }
def ChainDoesUptoCardSaid : Prop := Claim7.holds Tryz.pinned (.plain (OpenSpec.upto chainDoesSpec)) chainDoesUptoCard

/-- THE SECOND FORM's CARD OF 'rootstocklaw09.ChainKeeps'. -/
def chainKeepsUptoCard : Claim7 := { stood := { row := chainKeepsUptoRow, standIns := [], harness := (true, "c20ab08ce001db770e6953cd3ff9740412769457fd73e33fe5e7fcaeb462509e"), looks := false }, kinds := [], alts := [], laidByText := true, laidKinds := [.data, .data, .pinned], laidTests := true, laidLooks := .later }
def ChainKeepsUptoCardSaid : Prop := Claim7.holds Tryz.pinned (.plain (OpenSpec.upto chainKeepsSpec)) chainKeepsUptoCard

/-- THE SECOND FORM's CARD OF 'rootstocklaw10.AllocKeeps'. -/
def allocKeepsUptoCard : Claim7 := { stood := { row := allocKeepsUptoRow, standIns := [], harness := (true, "c20ab08ce001db770e6953cd3ff9740412769457fd73e33fe5e7fcaeb462509e"), looks := false }, kinds := [], alts := [], laidByText := true, laidKinds := [.data, .data, .pinned], laidTests := true, laidLooks := .later }
def AllocKeepsUptoCardSaid : Prop := Claim7.holds Tryz.pinned (.plain (OpenSpec.upto allocKeepsSpec)) allocKeepsUptoCard
end Rows
end Go.Proofs.YtlgbcogdogpihaaGreatDoor
