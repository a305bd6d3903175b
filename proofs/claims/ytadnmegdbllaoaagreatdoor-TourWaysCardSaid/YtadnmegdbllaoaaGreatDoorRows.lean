/-
  NARROWER THAN 'FOR EVERY INPUT', by the rows' own cells (each row's printed sentence says how): TourSums: laid · TourWays: laid · TourDoes: laid · TourErrs: laid · TourBack: laid.
  DERIVED. THE GIVEN ROWS OF THIS SEAT. 5 by the template 'for every input the law returns true; each argument reads behind the call as it read before'; 0 by the template 'total and deterministic' (their statements: YtadnmegdbllaoaaGreatDoorTotals.lean).
  GIVEN WITH THE SEED: the statements are not yours to turn. If you find one false, say at which input.
  Laid BY PROGRAM, IN A SANDBOX (cutbox-rows.mjs): the forced cells as the released guide's own fill.sh prints them over the translation fa1760b3a087172d… (all of the seat's roots in one cut). By AI agents, Wed Nov 11 2026. No macro, syntax, notation, axiom, sorry.
-/
import Derived.Test.YtadnmegdbllaoaaGreatDoorChecked
import GoSem.PinnedTables
import GoSem.Claim
import GoSem.ClaimJoined
import GoSem.ClaimMapViews
import Derived.JoinedTies
import Derived.KernelRfl
namespace Go.Proofs.YtadnmegdbllaoaaGreatDoor
/- THE CELL 'sum', in the pinned program and in every row, IS THE sha256 OF THE DUMP (.gsa) THAT YtadnmegdbllaoaaGreatDoorProg.lean LOADS. Nothing in Lean hashes anything: it is a label: what it is worth is what the hold of that sum in a sandbox is worth. -/
noncomputable def Tryz.pinned : Pinned := { name := "ytadnmegdbllaoaagreatdoor", sum := "fa1760b3a087172d66ddcf82d336fd7fe771a513cd84889d30991643196292e8", checked := Tryz.checked }
namespace Rows
def none {H : Type} : Left H := { results := [], args := [] }

/- WHAT THE LISTED PACKAGE-LEVEL VARIABLES READ AS WHEN THE CALL BEGINS. Each datum BY PROGRAM (the guide's laid-datum.mjs) off the statement by which the dump's own 'gosem.cut.vars' lays the variable. In a bare row this is a premise. The card (YtadnmegdbllaoaaGreatDoorCards.lean) ties it to the program's text. -/
def laid_rootstock_crc_halves {H : Type} : DataW H := .agg [.lit (.int .u32 0), .lit (.int .u32 498536548), .lit (.int .u32 997073096), .lit (.int .u32 651767980), .lit (.int .u32 1994146192), .lit (.int .u32 1802195444), .lit (.int .u32 1303535960), .lit (.int .u32 1342533948), .lit (.int .u32 3988292384), .lit (.int .u32 4027552580), .lit (.int .u32 3604390888), .lit (.int .u32 3412177804), .lit (.int .u32 2607071920), .lit (.int .u32 2262029012), .lit (.int .u32 2685067896), .lit (.int .u32 3183342108)]
def laid_unicode_utf8_acceptRanges {H : Type} : DataW H := .agg [.agg [.lit (.int .u8 128), .lit (.int .u8 191)], .agg [.lit (.int .u8 160), .lit (.int .u8 191)], .agg [.lit (.int .u8 128), .lit (.int .u8 159)], .agg [.lit (.int .u8 144), .lit (.int .u8 191)], .agg [.lit (.int .u8 128), .lit (.int .u8 143)], .agg [.lit (.int .u8 0), .lit (.int .u8 0)], .agg [.lit (.int .u8 0), .lit (.int .u8 0)], .agg [.lit (.int .u8 0), .lit (.int .u8 0)], .agg [.lit (.int .u8 0), .lit (.int .u8 0)], .agg [.lit (.int .u8 0), .lit (.int .u8 0)], .agg [.lit (.int .u8 0), .lit (.int .u8 0)], .agg [.lit (.int .u8 0), .lit (.int .u8 0)], .agg [.lit (.int .u8 0), .lit (.int .u8 0)], .agg [.lit (.int .u8 0), .lit (.int .u8 0)], .agg [.lit (.int .u8 0), .lit (.int .u8 0)], .agg [.lit (.int .u8 0), .lit (.int .u8 0)]]
/-- One of Go's own tables, pinned by name: the form's constant. -/
def laid_unicode_utf8_first : DataW Unit := Go.Pinned.utf8First

/-- 'rootstocklaw16.TourSums': WHATEVER THE INPUT: true; the input reads as it did. -/
def tourSumsSpec : ChangeSpec := { name := "tourSums", fn := fun _ => fun
  | [d] => { results := [.lit (.bool true)], args := [d] }
  | _ => none }
def tourSumsRow : OpenClaim := { program := "ytadnmegdbllaoaagreatdoor", sum := "fa1760b3a087172d66ddcf82d336fd7fe771a513cd84889d30991643196292e8", func := "rootstock/rootstocklaw16.TourSums", spec := "tourSums", inPlace := ["internal/abi.NoEscape", "internal/bytealg.MakeNoZero", "sync/atomic.AddInt64", "internal/bytealg.IndexByteString", "internal/bytealg.IndexString", "internal/bytealg.abigen_runtime_cmpstring"], unfollowed := true, recurses := true, named := ["rootstock/crc.halves", "unicode/utf8.first", "unicode/utf8.acceptRanges", "internal/bytealg.MaxLen"], apart := false, laid := [("rootstock/crc.halves", laid_rootstock_crc_halves), ("unicode/utf8.acceptRanges", laid_unicode_utf8_acceptRanges), ("unicode/utf8.first", laid_unicode_utf8_first)] }
def TourSumsSaid : Prop := tourSumsRow.holds Tryz.pinned (OpenSpec.ofChange tourSumsSpec)

/-- ITS FALSE NEIGHBOUR: 'it returns false'. Refute it at one input. -/
def tourSumsWrong : ChangeSpec := { name := "tourSums", fn := fun _ => fun
  | [d] => { results := [.lit (.bool false)], args := [d] }
  | _ => none }
def TourSumsWrongFalsely : Prop := tourSumsRow.holds Tryz.pinned (OpenSpec.ofChange tourSumsWrong)

/-- 'rootstocklaw16.TourWays': WHATEVER THE INPUT: true; the input reads as it did. -/
def tourWaysSpec : ChangeSpec := { name := "tourWays", fn := fun _ => fun
  | [d1, d2] => { results := [.lit (.bool true)], args := [d1, d2] }
  | _ => none }
def tourWaysRow : OpenClaim := { program := "ytadnmegdbllaoaagreatdoor", sum := "fa1760b3a087172d66ddcf82d336fd7fe771a513cd84889d30991643196292e8", func := "rootstock/rootstocklaw16.TourWays", spec := "tourWays", inPlace := ["internal/abi.NoEscape", "internal/bytealg.MakeNoZero", "sync/atomic.AddInt64", "internal/bytealg.IndexByteString", "internal/bytealg.IndexString", "internal/bytealg.abigen_runtime_cmpstring"], unfollowed := true, recurses := true, named := ["rootstock/crc.halves", "unicode/utf8.first", "unicode/utf8.acceptRanges", "internal/bytealg.MaxLen"], apart := false, laid := [("rootstock/crc.halves", laid_rootstock_crc_halves), ("unicode/utf8.acceptRanges", laid_unicode_utf8_acceptRanges), ("unicode/utf8.first", laid_unicode_utf8_first)] }
def TourWaysSaid : Prop := tourWaysRow.holds Tryz.pinned (OpenSpec.ofChange tourWaysSpec)

/-- ITS FALSE NEIGHBOUR: 'it returns false'. Refute it at one input. -/
def tourWaysWrong : ChangeSpec := { name := "tourWays", fn := fun _ => fun
  | [d1, d2] => { results := [.lit (.bool false)], args := [d1, d2] }
  | _ => none }
def TourWaysWrongFalsely : Prop := tourWaysRow.holds Tryz.pinned (OpenSpec.ofChange tourWaysWrong)

/-- 'rootstocklaw16.TourDoes': WHATEVER THE INPUT: true; the input reads as it did. -/
def tourDoesSpec : ChangeSpec := { name := "tourDoes", fn := fun _ => fun
  | [d] => { results := [.lit (.bool true)], args := [d] }
  | _ => none }
def tourDoesRow : OpenClaim := { program := "ytadnmegdbllaoaagreatdoor", sum := "fa1760b3a087172d66ddcf82d336fd7fe771a513cd84889d30991643196292e8", func := "rootstock/rootstocklaw16.TourDoes", spec := "tourDoes", inPlace := ["internal/abi.NoEscape", "internal/bytealg.MakeNoZero", "sync/atomic.AddInt64", "internal/bytealg.IndexByteString", "internal/bytealg.IndexString", "internal/bytealg.abigen_runtime_cmpstring"], unfollowed := true, recurses := true, named := ["rootstock/crc.halves", "unicode/utf8.first", "unicode/utf8.acceptRanges", "internal/bytealg.MaxLen"], apart := false, laid := [("rootstock/crc.halves", laid_rootstock_crc_halves), ("unicode/utf8.acceptRanges", laid_unicode_utf8_acceptRanges), ("unicode/utf8.first", laid_unicode_utf8_first)] }
def TourDoesSaid : Prop := tourDoesRow.holds Tryz.pinned (OpenSpec.ofChange tourDoesSpec)

/-- ITS FALSE NEIGHBOUR: 'it returns false'. Refute it at one input. -/
def tourDoesWrong : ChangeSpec := { name := "tourDoes", fn := fun _ => fun
  | [d] => { results := [.lit (.bool false)], args := [d] }
  | _ => none }
def TourDoesWrongFalsely : Prop := tourDoesRow.holds Tryz.pinned (OpenSpec.ofChange tourDoesWrong)

/-- 'rootstocklaw16.TourErrs': WHATEVER THE INPUT: true; the input reads as it did. -/
def tourErrsSpec : ChangeSpec := { name := "tourErrs", fn := fun _ => fun
  | [d1, d2] => { results := [.lit (.bool true)], args := [d1, d2] }
  | _ => none }
def tourErrsRow : OpenClaim := { program := "ytadnmegdbllaoaagreatdoor", sum := "fa1760b3a087172d66ddcf82d336fd7fe771a513cd84889d30991643196292e8", func := "rootstock/rootstocklaw16.TourErrs", spec := "tourErrs", inPlace := ["internal/abi.NoEscape", "internal/bytealg.MakeNoZero", "sync/atomic.AddInt64", "internal/bytealg.IndexByteString", "internal/bytealg.IndexString", "internal/bytealg.abigen_runtime_cmpstring"], unfollowed := true, recurses := true, named := ["rootstock/crc.halves", "unicode/utf8.first", "unicode/utf8.acceptRanges", "internal/bytealg.MaxLen"], apart := false, laid := [("rootstock/crc.halves", laid_rootstock_crc_halves), ("unicode/utf8.acceptRanges", laid_unicode_utf8_acceptRanges), ("unicode/utf8.first", laid_unicode_utf8_first)] }
def TourErrsSaid : Prop := tourErrsRow.holds Tryz.pinned (OpenSpec.ofChange tourErrsSpec)

/-- ITS FALSE NEIGHBOUR: 'it returns false'. Refute it at one input. -/
def tourErrsWrong : ChangeSpec := { name := "tourErrs", fn := fun _ => fun
  | [d1, d2] => { results := [.lit (.bool false)], args := [d1, d2] }
  | _ => none }
def TourErrsWrongFalsely : Prop := tourErrsRow.holds Tryz.pinned (OpenSpec.ofChange tourErrsWrong)

/-- 'rootstocklaw16.TourBack': WHATEVER THE INPUT: true; the input reads as it did. -/
def tourBackSpec : ChangeSpec := { name := "tourBack", fn := fun _ => fun
  | [d1, d2, d3] => { results := [.lit (.bool true)], args := [d1, d2, d3] }
  | _ => none }
def tourBackRow : OpenClaim := { program := "ytadnmegdbllaoaagreatdoor", sum := "fa1760b3a087172d66ddcf82d336fd7fe771a513cd84889d30991643196292e8", func := "rootstock/rootstocklaw16.TourBack", spec := "tourBack", inPlace := ["internal/abi.NoEscape", "internal/bytealg.MakeNoZero", "sync/atomic.AddInt64", "internal/bytealg.IndexByteString", "internal/bytealg.IndexString", "internal/bytealg.abigen_runtime_cmpstring"], unfollowed := true, recurses := true, named := ["rootstock/crc.halves", "unicode/utf8.first", "unicode/utf8.acceptRanges", "internal/bytealg.MaxLen"], apart := false, laid := [("rootstock/crc.halves", laid_rootstock_crc_halves), ("unicode/utf8.acceptRanges", laid_unicode_utf8_acceptRanges), ("unicode/utf8.first", laid_unicode_utf8_first)] }
def TourBackSaid : Prop := tourBackRow.holds Tryz.pinned (OpenSpec.ofChange tourBackSpec)

/-- ITS FALSE NEIGHBOUR: 'it returns false'. Refute it at one input. -/
def tourBackWrong : ChangeSpec := { name := "tourBack", fn := fun _ => fun
  | [d1, d2, d3] => { results := [.lit (.bool false)], args := [d1, d2, d3] }
  | _ => none }
def TourBackWrongFalsely : Prop := tourBackRow.holds Tryz.pinned (OpenSpec.ofChange tourBackWrong)

/- THE SECOND FORM. 'bulk': how many values and letters a reading holds, each counted each time it is reached (what is shared counts as often as it is met; a slice's spare places count too). A statement '..UptoSaid' is the law's where the arguments, and the package variables that the reading takes, are together of bulk at most 1048576: NARROWER than '..Said'. Prove '..Said' where nothing that the law and all that it calls make is longer than what came in: it says more and counts as full. Else prove '..UptoSaid'. A law counts once. -/
mutual
def uptoBulk {H : Type} : DataW H → Nat
  | .lit (.string bytes) => bytes.length + 1
  | .lit _ => 1
  | .nil => 1
  | .ptr d => uptoBulk d + 1
  | .slice elems spare => uptoBulkAll elems + uptoBulkAll spare + 1
  | .agg parts => uptoBulkAll parts + 1
  | .iface _ d => uptoBulk d + 1
  | .map entries => uptoBulkEntries entries + 1
  | .held _ => 1
def uptoBulkAll {H : Type} : List (DataW H) → Nat
  | [] => 0
  | d :: r => uptoBulk d + uptoBulkAll r
def uptoBulkEntries {H : Type} : List (Lit × DataW H) → Nat
  | [] => 0
  | x :: r => uptoBulkEntry x + uptoBulkEntries r
def uptoBulkEntry {H : Type} : Lit × DataW H → Nat
  | (.string bytes, d) => bytes.length + uptoBulk d + 1
  | (_, d) => uptoBulk d + 1
 end
def uptoSmall : (H : Type) → List (DataW H) → Bool := fun _ ds => decide (uptoBulkAll ds ≤ 1048576)
def OpenSpec.upto (s : _root_.Go.ChangeSpec) : _root_.Go.OpenSpec := { _root_.Go.OpenSpec.ofChange s with cond := some uptoSmall }

/-- 'rootstocklaw16.TourSums', WHERE WHAT IT READS IS OF BULK AT MOST 1048576: true; the input reads as it did. -/
def tourSumsUptoRow : OpenClaim := { program := "ytadnmegdbllaoaagreatdoor", sum := "fa1760b3a087172d66ddcf82d336fd7fe771a513cd84889d30991643196292e8", func := "rootstock/rootstocklaw16.TourSums", spec := "tourSums", inPlace := ["internal/abi.NoEscape", "internal/bytealg.MakeNoZero", "sync/atomic.AddInt64", "internal/bytealg.IndexByteString", "internal/bytealg.IndexString", "internal/bytealg.abigen_runtime_cmpstring"], unfollowed := true, recurses := true, named := ["rootstock/crc.halves", "unicode/utf8.first", "unicode/utf8.acceptRanges", "internal/bytealg.MaxLen"], apart := false, laid := [("rootstock/crc.halves", laid_rootstock_crc_halves), ("unicode/utf8.acceptRanges", laid_unicode_utf8_acceptRanges), ("unicode/utf8.first", laid_unicode_utf8_first)], narrowed := true }
def TourSumsUptoSaid : Prop := tourSumsUptoRow.holds Tryz.pinned (OpenSpec.upto tourSumsSpec)

/-- 'rootstocklaw16.TourWays', WHERE WHAT IT READS IS OF BULK AT MOST 1048576: true; the input reads as it did. -/
def tourWaysUptoRow : OpenClaim := { program := "ytadnmegdbllaoaagreatdoor", sum := "fa1760b3a087172d66ddcf82d336fd7fe771a513cd84889d30991643196292e8", func := "rootstock/rootstocklaw16.TourWays", spec := "tourWays", inPlace := ["internal/abi.NoEscape", "internal/bytealg.MakeNoZero", "sync/atomic.AddInt64", "internal/bytealg.IndexByteString", "internal/bytealg.IndexString", "internal/bytealg.abigen_runtime_cmpstring"], unfollowed := true, recurses := true, named := ["rootstock/crc.halves", "unicode/utf8.first", "unicode/utf8.acceptRanges", "internal/bytealg.MaxLen"], apart := false, laid := [("rootstock/crc.halves", laid_rootstock_crc_halves), ("unicode/utf8.acceptRanges", laid_unicode_utf8_acceptRanges), ("unicode/utf8.first", laid_unicode_utf8_first)], narrowed := true }
def TourWaysUptoSaid : Prop := tourWaysUptoRow.holds Tryz.pinned (OpenSpec.upto tourWaysSpec)

/-- 'rootstocklaw16.TourDoes', WHERE WHAT IT READS IS OF BULK AT MOST 1048576: true; the input reads as it did. -/
def tourDoesUptoRow : OpenClaim := { program := "ytadnmegdbllaoaagreatdoor", sum := "fa1760b3a087172d66ddcf82d336fd7fe771a513cd84889d30991643196292e8", func := "rootstock/rootstocklaw16.TourDoes", spec := "tourDoes", inPlace := ["internal/abi.NoEscape", "internal/bytealg.MakeNoZero", "sync/atomic.AddInt64", "internal/bytealg.IndexByteString", "internal/bytealg.IndexString", "internal/bytealg.abigen_runtime_cmpstring"], unfollowed := true, recurses := true, named := ["rootstock/crc.halves", "unicode/utf8.first", "unicode/utf8.acceptRanges", "internal/bytealg.MaxLen"], apart := false, laid := [("rootstock/crc.halves", laid_rootstock_crc_halves), ("unicode/utf8.acceptRanges", laid_unicode_utf8_acceptRanges), ("unicode/utf8.first", laid_unicode_utf8_first)], narrowed := true }
def TourDoesUptoSaid : Prop := tourDoesUptoRow.holds Tryz.pinned (OpenSpec.upto tourDoesSpec)

/-- 'rootstocklaw16.TourErrs', WHERE WHAT IT READS IS OF BULK AT MOST 1048576: true; the input reads as it did. -/
def tourErrsUptoRow : OpenClaim := { program := "ytadnmegdbllaoaagreatdoor", sum := "fa1760b3a087172d66ddcf82d336fd7fe771a513cd84889d30991643196292e8", func := "rootstock/rootstocklaw16.TourErrs", spec := "tourErrs", inPlace := ["internal/abi.NoEscape", "internal/bytealg.MakeNoZero", "sync/atomic.AddInt64", "internal/bytealg.IndexByteString", "internal/bytealg.IndexString", "internal/bytealg.abigen_runtime_cmpstring"], unfollowed := true, recurses := true, named := ["rootstock/crc.halves", "unicode/utf8.first", "unicode/utf8.acceptRanges", "internal/bytealg.MaxLen"], apart := false, laid := [("rootstock/crc.halves", laid_rootstock_crc_halves), ("unicode/utf8.acceptRanges", laid_unicode_utf8_acceptRanges), ("unicode/utf8.first", laid_unicode_utf8_first)], narrowed := true }
def TourErrsUptoSaid : Prop := tourErrsUptoRow.holds Tryz.pinned (OpenSpec.upto tourErrsSpec)

/-- 'rootstocklaw16.TourBack', WHERE WHAT IT READS IS OF BULK AT MOST 1048576: true; the input reads as it did. -/
def tourBackUptoRow : OpenClaim := { program := "ytadnmegdbllaoaagreatdoor", sum := "fa1760b3a087172d66ddcf82d336fd7fe771a513cd84889d30991643196292e8", func := "rootstock/rootstocklaw16.TourBack", spec := "tourBack", inPlace := ["internal/abi.NoEscape", "internal/bytealg.MakeNoZero", "sync/atomic.AddInt64", "internal/bytealg.IndexByteString", "internal/bytealg.IndexString", "internal/bytealg.abigen_runtime_cmpstring"], unfollowed := true, recurses := true, named := ["rootstock/crc.halves", "unicode/utf8.first", "unicode/utf8.acceptRanges", "internal/bytealg.MaxLen"], apart := false, laid := [("rootstock/crc.halves", laid_rootstock_crc_halves), ("unicode/utf8.acceptRanges", laid_unicode_utf8_acceptRanges), ("unicode/utf8.first", laid_unicode_utf8_first)], narrowed := true }
def TourBackUptoSaid : Prop := tourBackUptoRow.holds Tryz.pinned (OpenSpec.upto tourBackSpec)

end Rows
end Go.Proofs.YtadnmegdbllaoaaGreatDoor
