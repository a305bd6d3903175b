/-
  DERIVED. GIVEN WITH THE SEED: THE CARDS: each row of YtadnmegdbllaoaaGreatDoorRows.lean that lists a variable, with what it lists TIED to the program's text (the seventh form; the later family's looks); each row that meets fmt, with fmt's text TOLD by the authors' own Lean function (tested against real Go, not proved from fmt's source: count such statements apart). THE CARD IS WHAT COUNTS. Prove the row's statement (the work); the ties are given (YtadnmegdbllaoaaGreatDoorTie.lean); close each card by the builder's one call (the guide's Derived/Test/ToyasCard.lean, 'card_holds'). Laid BY PROGRAM, IN A SANDBOX (cutbox-door.mjs). By AI agents, Wed Nov 11 2026. No macro, syntax, notation, axiom, sorry.
-/
import Derived.Test.YtadnmegdbllaoaaGreatDoorRows
import GoSem.ClaimSeven
namespace Go.Proofs.YtadnmegdbllaoaaGreatDoor
namespace Rows

/-- THE TIED CARD OF 'rootstocklaw16.TourSums'. -/
def tourSumsCard : Claim7 := { stood := { row := tourSumsRow, standIns := [], harness := (true, "0b748a52db249b57d0cc9f6f6ec405936736e2092d7ee1c2abc590482ab300ec"), looks := false }, kinds := [], alts := [], laidByText := true, laidKinds := [.data, .data, .pinned], laidTests := true, laidLooks := .later }
def TourSumsCardSaid : Prop := Claim7.holds Tryz.pinned (.plain (OpenSpec.ofChange tourSumsSpec)) tourSumsCard

/-- THE TIED CARD OF 'rootstocklaw16.TourWays'. -/
def tourWaysCard : Claim7 := { stood := { row := tourWaysRow, standIns := [], harness := (true, "0b748a52db249b57d0cc9f6f6ec405936736e2092d7ee1c2abc590482ab300ec"), looks := false }, kinds := [], alts := [], laidByText := true, laidKinds := [.data, .data, .pinned], laidTests := true, laidLooks := .later }
def TourWaysCardSaid : Prop := Claim7.holds Tryz.pinned (.plain (OpenSpec.ofChange tourWaysSpec)) tourWaysCard

/-- THE TIED CARD OF 'rootstocklaw16.TourDoes'. -/
def tourDoesCard : Claim7 := { stood := { row := tourDoesRow, standIns := [], harness := (true, "0b748a52db249b57d0cc9f6f6ec405936736e2092d7ee1c2abc590482ab300ec"), looks := false }, kinds := [], alts := [], laidByText := true, laidKinds := [.data, .data, .pinned], laidTests := true, laidLooks := .later }
def TourDoesCardSaid : Prop := Claim7.holds Tryz.pinned (.plain (OpenSpec.ofChange tourDoesSpec)) tourDoesCard

/-- THE TIED CARD OF 'rootstocklaw16.TourErrs'. -/
def tourErrsCard : Claim7 := { stood := { row := tourErrsRow, standIns := [], harness := (true, "0b748a52db249b57d0cc9f6f6ec405936736e2092d7ee1c2abc590482ab300ec"), looks := false }, kinds := [], alts := [], laidByText := true, laidKinds := [.data, .data, .pinned], laidTests := true, laidLooks := .later }
def TourErrsCardSaid : Prop := Claim7.holds Tryz.pinned (.plain (OpenSpec.ofChange tourErrsSpec)) tourErrsCard

/-- THE TIED CARD OF 'rootstocklaw16.TourBack'. -/
def tourBackCard : Claim7 := { stood := { row := tourBackRow, standIns := [], harness := (true, "0b748a52db249b57d0cc9f6f6ec405936736e2092d7ee1c2abc590482ab300ec"), looks := false }, kinds := [], alts := [], laidByText := true, laidKinds := [.data, .data, .pinned], laidTests := true, laidLooks := .later }
def TourBackCardSaid : Prop := Claim7.holds Tryz.pinned (.plain (OpenSpec.ofChange tourBackSpec)) tourBackCard

/-- THE SECOND FORM's CARD OF 'rootstocklaw16.TourSums'. -/
def tourSumsUptoCard : Claim7 := { stood := { row := tourSumsUptoRow, standIns := [], harness := (true, "0b748a52db249b57d0cc9f6f6ec405936736e2092d7ee1c2abc590482ab300ec"), looks := false }, kinds := [], alts := [], laidByText := true, laidKinds := [.data, .data, .pinned], laidTests := true, laidLooks := .later }
def TourSumsUptoCardSaid : Prop := Claim7.holds Tryz.pinned (.plain (OpenSpec.upto tourSumsSpec)) tourSumsUptoCard

/-- THE SECOND FORM's CARD OF 'rootstocklaw16.TourWays'. -/
def tourWaysUptoCard : Claim7 := { stood := { row := tourWaysUptoRow, standIns := [], harness := (true, "0b748a52db249b57d0cc9f6f6ec405936736e2092d7ee1c2abc590482ab300ec"), looks := false }, kinds := [], alts := [], laidByText := true, laidKinds := [.data, .data, .pinned], laidTests := true, laidLooks := .later }
def TourWaysUptoCardSaid : Prop := Claim7.holds Tryz.pinned (.plain (OpenSpec.upto tourWaysSpec)) tourWaysUptoCard

/-- THE SECOND FORM's CARD OF 'rootstocklaw16.TourDoes'. -/
def tourDoesUptoCard : Claim7 := { stood := { row := tourDoesUptoRow, standIns := [], harness := (true, "0b748a52db249b57d0cc9f6f6ec405936736e2092d7ee1c2abc590482ab300ec"), looks := false }, kinds := [], alts := [], laidByText := true, laidKinds := [.data, .data, .pinned], laidTests := true, laidLooks := .later }
def TourDoesUptoCardSaid : Prop := Claim7.holds Tryz.pinned (.plain (OpenSpec.upto tourDoesSpec)) tourDoesUptoCard

/-- THE SECOND FORM's CARD OF 'rootstocklaw16.TourErrs'. -/
def tourErrsUptoCard : Claim7 := { stood := { row := tourErrsUptoRow, standIns := [], harness := (true, "0b748a52db249b57d0cc9f6f6ec405936736e2092d7ee1c2abc590482ab300ec"), looks := false }, kinds := [], alts := [], laidByText := true, laidKinds := [.data, .data, .pinned], laidTests := true, laidLooks := .later }
def TourErrsUptoCardSaid : Prop := Claim7.holds Tryz.pinned (.plain (OpenSpec.upto tourErrsSpec)) tourErrsUptoCard

/-- THE SECOND FORM's CARD OF 'rootstocklaw16.TourBack'. -/
def tourBackUptoCard : Claim7 := { stood := { row := tourBackUptoRow, standIns := [], harness := (true, "0b748a52db249b57d0cc9f6f6ec405936736e2092d7ee1c2abc590482ab300ec"), looks := false }, kinds := [], alts := [], laidByText := true, laidKinds := [.data, .data, .pinned], laidTests := true, laidLooks := .later }
def TourBackUptoCardSaid : Prop := Claim7.holds Tryz.pinned (.plain (OpenSpec.upto tourBackSpec)) tourBackUptoCard
end Rows
end Go.Proofs.YtadnmegdbllaoaaGreatDoor
