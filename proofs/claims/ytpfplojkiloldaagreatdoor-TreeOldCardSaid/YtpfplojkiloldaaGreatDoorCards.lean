/-
  DERIVED. GIVEN WITH THE SEED: THE CARDS: each row of YtpfplojkiloldaaGreatDoorRows.lean that lists a variable, with what it lists TIED to the program's text (the seventh form; the later family's looks); each row that meets fmt, with fmt's text TOLD by the authors' own Lean function (tested against real Go, not proved from fmt's source: count such statements apart). THE CARD IS WHAT COUNTS. Prove the row's statement (the work); the ties are given (YtpfplojkiloldaaGreatDoorTie.lean); close each card by the builder's one call (the guide's Derived/Test/ToyasCard.lean, 'card_holds'). Laid BY PROGRAM, IN A SANDBOX (cutbox-door.mjs). By AI agents, Wed Nov 11 2026. No macro, syntax, notation, axiom, sorry.
-/
import Derived.Test.YtpfplojkiloldaaGreatDoorRows
import GoSem.ClaimSeven
namespace Go.Proofs.YtpfplojkiloldaaGreatDoor
namespace Rows

/-- THE TIED CARD OF 'rootstocklaw13.TreeScans'. -/
def treeScansCard : Claim7 := { stood := { row := treeScansRow, standIns := [], harness := (true, "afb28edbfee05ddff902ba14789febc773461a0dd963e79611d16919f31fa3ba"), looks := false }, kinds := [], alts := [], laidByText := true, laidKinds := [.data, .data, .pinned], laidTests := true, laidLooks := .later }
def TreeScansCardSaid : Prop := Claim7.holds Tryz.pinned (.plain (OpenSpec.ofChange treeScansSpec)) treeScansCard

/-- THE TIED CARD OF 'rootstocklaw13.TreeDoes'. -/
def treeDoesCard : Claim7 := { stood := { row := treeDoesRow, standIns := [], harness := (true, "afb28edbfee05ddff902ba14789febc773461a0dd963e79611d16919f31fa3ba"), looks := false }, kinds := [], alts := [], laidByText := true, laidKinds := [.data, .data, .pinned], laidTests := true, laidLooks := .later }
def TreeDoesCardSaid : Prop := Claim7.holds Tryz.pinned (.plain (OpenSpec.ofChange treeDoesSpec)) treeDoesCard

/-- THE TIED CARD OF 'rootstocklaw13.TreeOrder'. -/
def treeOrderCard : Claim7 := { stood := { row := treeOrderRow, standIns := [], harness := (true, "afb28edbfee05ddff902ba14789febc773461a0dd963e79611d16919f31fa3ba"), looks := false }, kinds := [], alts := [], laidByText := true, laidKinds := [.data, .data, .pinned], laidTests := true, laidLooks := .later }
def TreeOrderCardSaid : Prop := Claim7.holds Tryz.pinned (.plain (OpenSpec.ofChange treeOrderSpec)) treeOrderCard

/-- THE TIED CARD OF 'rootstocklaw13.TreeLow'. -/
def treeLowCard : Claim7 := { stood := { row := treeLowRow, standIns := [], harness := (true, "afb28edbfee05ddff902ba14789febc773461a0dd963e79611d16919f31fa3ba"), looks := false }, kinds := [], alts := [], laidByText := true, laidKinds := [.data, .data, .pinned], laidTests := true, laidLooks := .later }
def TreeLowCardSaid : Prop := Claim7.holds Tryz.pinned (.plain (OpenSpec.ofChange treeLowSpec)) treeLowCard

/-- THE TIED CARD OF 'rootstocklaw13.TreeRaw'. -/
def treeRawCard : Claim7 := { stood := { row := treeRawRow, standIns := [], harness := (true, "afb28edbfee05ddff902ba14789febc773461a0dd963e79611d16919f31fa3ba"), looks := false }, kinds := [], alts := [], laidByText := true, laidKinds := [.data, .data, .pinned], laidTests := true, laidLooks := .later }
def TreeRawCardSaid : Prop := Claim7.holds Tryz.pinned (.plain (OpenSpec.ofChange treeRawSpec)) treeRawCard

/-- THE TIED CARD OF 'rootstocklaw13.TreeTight'. -/
def treeTightCard : Claim7 := { stood := { row := treeTightRow, standIns := [], harness := (true, "afb28edbfee05ddff902ba14789febc773461a0dd963e79611d16919f31fa3ba"), looks := false }, kinds := [], alts := [], laidByText := true, laidKinds := [.data, .data, .pinned], laidTests := true, laidLooks := .later }
def TreeTightCardSaid : Prop := Claim7.holds Tryz.pinned (.plain (OpenSpec.ofChange treeTightSpec)) treeTightCard

/-- THE TIED CARD OF 'rootstocklaw13.TreeOld'. -/
def treeOldCard : Claim7 := { stood := { row := treeOldRow, standIns := [], harness := (true, "afb28edbfee05ddff902ba14789febc773461a0dd963e79611d16919f31fa3ba"), looks := false }, kinds := [], alts := [], laidByText := true, laidKinds := [.data, .data, .pinned], laidTests := true, laidLooks := .later }
def TreeOldCardSaid : Prop := Claim7.holds Tryz.pinned (.plain (OpenSpec.ofChange treeOldSpec)) treeOldCard

/-- THE TIED CARD OF 'rootstocklaw13.TreeErrs'. -/
def treeErrsCard : Claim7 := { stood := { row := treeErrsRow, standIns := [], harness := (true, "afb28edbfee05ddff902ba14789febc773461a0dd963e79611d16919f31fa3ba"), looks := false }, kinds := [], alts := [], laidByText := true, laidKinds := [.data, .data, .pinned], laidTests := true, laidLooks := .later }
def TreeErrsCardSaid : Prop := Claim7.holds Tryz.pinned (.plain (OpenSpec.ofChange treeErrsSpec)) treeErrsCard

/-- THE SECOND FORM's CARD OF 'rootstocklaw13.TreeScans'. -/
def treeScansUptoCard : Claim7 := { stood := { row := treeScansUptoRow, standIns := [], harness := (true, "afb28edbfee05ddff902ba14789febc773461a0dd963e79611d16919f31fa3ba"), looks := false }, kinds := [], alts := [], laidByText := true, laidKinds := [.data, .data, .pinned], laidTests := true, laidLooks := .later }
def TreeScansUptoCardSaid : Prop := Claim7.holds Tryz.pinned (.plain (OpenSpec.upto treeScansSpec)) treeScansUptoCard

/-- THE SECOND FORM's CARD OF 'rootstocklaw13.TreeDoes'. -/
def treeDoesUptoCard : Claim7 := { stood := { row := treeDoesUptoRow, standIns := [], harness := (true, "afb28edbfee05ddff902ba14789febc773461a0dd963e79611d16919f31fa3ba"), looks := false }, kinds := [], alts := [], laidByText := true, laidKinds := [.data, .data, .pinned], laidTests := true, laidLooks := .later }
def TreeDoesUptoCardSaid : Prop := Claim7.holds Tryz.pinned (.plain (OpenSpec.upto treeDoesSpec)) treeDoesUptoCard

/-- THE SECOND FORM's CARD OF 'rootstocklaw13.TreeOrder'. -/
def treeOrderUptoCard : Claim7 := { stood := { row := treeOrderUptoRow, standIns := [], harness := (true, "afb28edbfee05ddff902ba14789febc773461a0dd963e79611d16919f31fa3ba"), looks := false }, kinds := [], alts := [], laidByText := true, laidKinds := [.data, .data, .pinned], laidTests := true, laidLooks := .later }
def TreeOrderUptoCardSaid : Prop := Claim7.holds Tryz.pinned (.plain (OpenSpec.upto treeOrderSpec)) treeOrderUptoCard

/-- THE SECOND FORM's CARD OF 'rootstocklaw13.TreeLow'. -/
def treeLowUptoCard : Claim7 := { stood := { row := treeLowUptoRow, standIns := [], harness := (true, "afb28edbfee05ddff902ba14789febc773461a0dd963e79611d16919f31fa3ba"), looks := false }, kinds := [], alts := [], laidByText := true, laidKinds := [.data, .data, .pinned], laidTests := true, laidLooks := .later }
def TreeLowUptoCardSaid : Prop := Claim7.holds Tryz.pinned (.plain (OpenSpec.upto treeLowSpec)) treeLowUptoCard

/-- THE SECOND FORM's CARD OF 'rootstocklaw13.TreeRaw'. -/
def treeRawUptoCard : Claim7 := { stood := { row := treeRawUptoRow, standIns := [], harness := (true, "afb28edbfee05ddff902ba14789febc773461a0dd963e79611d16919f31fa3ba"), looks := false }, kinds := [], alts := [], laidByText := true, laidKinds := [.data, .data, .pinned], laidTests := true, laidLooks := .later }
def TreeRawUptoCardSaid : Prop := Claim7.holds Tryz.pinned (.plain (OpenSpec.upto treeRawSpec)) treeRawUptoCard

/-- THE SECOND FORM's CARD OF 'rootstocklaw13.TreeTight'. -/
def treeTightUptoCard : Claim7 := { stood := { row := treeTightUptoRow, standIns := [], harness := (true, "afb28edbfee05ddff902ba14789febc773461a0dd963e79611d16919f31fa3ba"), looks := false }, kinds := [], alts := [], laidByText := true, laidKinds := [.data, .data, .pinned], laidTests := true, laidLooks := .later }
def TreeTightUptoCardSaid : Prop := Claim7.holds Tryz.pinned (.plain (OpenSpec.upto treeTightSpec)) treeTightUptoCard

/-- THE SECOND FORM's CARD OF 'rootstocklaw13.TreeOld'. -/
def treeOldUptoCard : Claim7 := { stood := { row := treeOldUptoRow, standIns := [], harness := (true, "afb28edbfee05ddff902ba14789febc773461a0dd963e79611d16919f31fa3ba"), looks := false }, kinds := [], alts := [], laidByText := true, laidKinds := [.data, .data, .pinned], laidTests := true, laidLooks := .later }
def TreeOldUptoCardSaid : Prop := Claim7.holds Tryz.pinned (.plain (OpenSpec.upto treeOldSpec)) treeOldUptoCard

/-- THE SECOND FORM's CARD OF 'rootstocklaw13.TreeErrs'. -/
def treeErrsUptoCard : Claim7 := { stood := { row := treeErrsUptoRow, standIns := [], harness := (true, "afb28edbfee05ddff902ba14789febc773461a0dd963e79611d16919f31fa3ba"), looks := false }, kinds := [], alts := [], laidByText := true, laidKinds := [.data, .data, .pinned], laidTests := true, laidLooks := .later }
def TreeErrsUptoCardSaid : Prop := Claim7.holds Tryz.pinned (.plain (OpenSpec.upto treeErrsSpec)) treeErrsUptoCard
end Rows
end Go.Proofs.YtpfplojkiloldaaGreatDoor
