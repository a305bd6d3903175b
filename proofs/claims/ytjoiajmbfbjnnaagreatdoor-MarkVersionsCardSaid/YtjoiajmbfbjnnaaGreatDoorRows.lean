/-
  NARROWER THAN 'FOR EVERY INPUT', by the rows' own cells (each row's printed sentence says how): TreeRaw: laid · MarkTrees: laid · MarkHarm: laid · MarkSums: laid · DiffHarm: laid · DiffSteps: laid · DiffTrees: laid · DiffParts: laid · DiffFew: laid · MarkVersions: laid · MarkLive: laid.
  DERIVED. THE GIVEN ROWS OF THIS SEAT. 11 by the template 'for every input the law returns true; each argument reads behind the call as it read before'; 0 by the template 'total and deterministic' (their statements: YtjoiajmbfbjnnaaGreatDoorTotals.lean).
  GIVEN WITH THE SEED: the statements are not yours to turn. If you find one false, say at which input.
  Laid BY PROGRAM, IN A SANDBOX (cutbox-rows.mjs): the forced cells as the released guide's own fill.sh prints them over the translation 48c37eef144ce0f0… (all of the seat's roots in one cut). By AI agents, Wed Nov 11 2026. No macro, syntax, notation, axiom, sorry.
-/
import Derived.Test.YtjoiajmbfbjnnaaGreatDoorChecked
import GoSem.PinnedTables
import GoSem.Claim
import GoSem.ClaimJoined
import GoSem.ClaimMapViews
import Derived.JoinedTies
import Derived.KernelRfl
namespace Go.Proofs.YtjoiajmbfbjnnaaGreatDoor
/- THE CELL 'sum', in the pinned program and in every row, IS THE sha256 OF THE DUMP (.gsa) THAT YtjoiajmbfbjnnaaGreatDoorProg.lean LOADS. Nothing in Lean hashes anything: it is a label: what it is worth is what the hold of that sum in a sandbox is worth. -/
noncomputable def Tryz.pinned : Pinned := { name := "ytjoiajmbfbjnnaagreatdoor", sum := "48c37eef144ce0f0a62ad317b0a225d7f6a6de30ed503a98ac805e818f2dc82d", checked := Tryz.checked }
namespace Rows
def none {H : Type} : Left H := { results := [], args := [] }

/- WHAT THE LISTED PACKAGE-LEVEL VARIABLES READ AS WHEN THE CALL BEGINS. Each datum BY PROGRAM (the guide's laid-datum.mjs) off the statement by which the dump's own 'gosem.cut.vars' lays the variable. In a bare row this is a premise. The card (YtjoiajmbfbjnnaaGreatDoorCards.lean) ties it to the program's text. -/
def laid_rootstock_crc_halves {H : Type} : DataW H := .agg [.lit (.int .u32 0), .lit (.int .u32 498536548), .lit (.int .u32 997073096), .lit (.int .u32 651767980), .lit (.int .u32 1994146192), .lit (.int .u32 1802195444), .lit (.int .u32 1303535960), .lit (.int .u32 1342533948), .lit (.int .u32 3988292384), .lit (.int .u32 4027552580), .lit (.int .u32 3604390888), .lit (.int .u32 3412177804), .lit (.int .u32 2607071920), .lit (.int .u32 2262029012), .lit (.int .u32 2685067896), .lit (.int .u32 3183342108)]
def laid_unicode_utf8_acceptRanges {H : Type} : DataW H := .agg [.agg [.lit (.int .u8 128), .lit (.int .u8 191)], .agg [.lit (.int .u8 160), .lit (.int .u8 191)], .agg [.lit (.int .u8 128), .lit (.int .u8 159)], .agg [.lit (.int .u8 144), .lit (.int .u8 191)], .agg [.lit (.int .u8 128), .lit (.int .u8 143)], .agg [.lit (.int .u8 0), .lit (.int .u8 0)], .agg [.lit (.int .u8 0), .lit (.int .u8 0)], .agg [.lit (.int .u8 0), .lit (.int .u8 0)], .agg [.lit (.int .u8 0), .lit (.int .u8 0)], .agg [.lit (.int .u8 0), .lit (.int .u8 0)], .agg [.lit (.int .u8 0), .lit (.int .u8 0)], .agg [.lit (.int .u8 0), .lit (.int .u8 0)], .agg [.lit (.int .u8 0), .lit (.int .u8 0)], .agg [.lit (.int .u8 0), .lit (.int .u8 0)], .agg [.lit (.int .u8 0), .lit (.int .u8 0)], .agg [.lit (.int .u8 0), .lit (.int .u8 0)]]
/-- One of Go's own tables, pinned by name: the form's constant. -/
def laid_unicode_utf8_first : DataW Unit := Go.Pinned.utf8First

/-- 'rootstocklaw13.TreeRaw': WHATEVER THE INPUT: true; the input reads as it did. -/
def treeRawSpec : ChangeSpec := { name := "treeRaw", fn := fun _ => fun
  | [d1, d2, d3] => { results := [.lit (.bool true)], args := [d1, d2, d3] }
  | _ => none }
def treeRawRow : OpenClaim := { program := "ytjoiajmbfbjnnaagreatdoor", sum := "48c37eef144ce0f0a62ad317b0a225d7f6a6de30ed503a98ac805e818f2dc82d", func := "rootstock/rootstocklaw13.TreeRaw", spec := "treeRaw", inPlace := ["internal/abi.NoEscape", "internal/bytealg.MakeNoZero", "internal/bytealg.abigen_runtime_cmpstring", "sync/atomic.AddInt64", "internal/bytealg.IndexByteString", "internal/bytealg.IndexString"], unfollowed := true, recurses := true, named := ["rootstock/crc.halves", "unicode/utf8.first", "unicode/utf8.acceptRanges", "internal/bytealg.MaxLen"], apart := false, laid := [("rootstock/crc.halves", laid_rootstock_crc_halves), ("unicode/utf8.acceptRanges", laid_unicode_utf8_acceptRanges), ("unicode/utf8.first", laid_unicode_utf8_first)] }
def TreeRawSaid : Prop := treeRawRow.holds Tryz.pinned (OpenSpec.ofChange treeRawSpec)

/-- ITS FALSE NEIGHBOUR: 'it returns false'. Refute it at one input. -/
def treeRawWrong : ChangeSpec := { name := "treeRaw", fn := fun _ => fun
  | [d1, d2, d3] => { results := [.lit (.bool false)], args := [d1, d2, d3] }
  | _ => none }
def TreeRawWrongFalsely : Prop := treeRawRow.holds Tryz.pinned (OpenSpec.ofChange treeRawWrong)

/-- 'rootstocklaw21.MarkTrees': WHATEVER THE INPUT: true; the input reads as it did. -/
def markTreesSpec : ChangeSpec := { name := "markTrees", fn := fun _ => fun
  | [d1, d2] => { results := [.lit (.bool true)], args := [d1, d2] }
  | _ => none }
def markTreesRow : OpenClaim := { program := "ytjoiajmbfbjnnaagreatdoor", sum := "48c37eef144ce0f0a62ad317b0a225d7f6a6de30ed503a98ac805e818f2dc82d", func := "rootstock/rootstocklaw21.MarkTrees", spec := "markTrees", inPlace := ["internal/abi.NoEscape", "internal/bytealg.MakeNoZero", "internal/bytealg.abigen_runtime_cmpstring", "sync/atomic.AddInt64", "internal/bytealg.IndexByteString", "internal/bytealg.IndexString", "sync/atomic.LoadInt64"], unfollowed := true, recurses := true, named := ["rootstock/crc.halves", "unicode/utf8.first", "unicode/utf8.acceptRanges", "internal/bytealg.MaxLen"], apart := false, laid := [("rootstock/crc.halves", laid_rootstock_crc_halves), ("unicode/utf8.acceptRanges", laid_unicode_utf8_acceptRanges), ("unicode/utf8.first", laid_unicode_utf8_first)] }
def MarkTreesSaid : Prop := markTreesRow.holds Tryz.pinned (OpenSpec.ofChange markTreesSpec)

/-- ITS FALSE NEIGHBOUR: 'it returns false'. Refute it at one input. -/
def markTreesWrong : ChangeSpec := { name := "markTrees", fn := fun _ => fun
  | [d1, d2] => { results := [.lit (.bool false)], args := [d1, d2] }
  | _ => none }
def MarkTreesWrongFalsely : Prop := markTreesRow.holds Tryz.pinned (OpenSpec.ofChange markTreesWrong)

/-- 'rootstocklaw21.MarkHarm': WHATEVER THE INPUT: true; the input reads as it did. -/
def markHarmSpec : ChangeSpec := { name := "markHarm", fn := fun _ => fun
  | [d1, d2] => { results := [.lit (.bool true)], args := [d1, d2] }
  | _ => none }
def markHarmRow : OpenClaim := { program := "ytjoiajmbfbjnnaagreatdoor", sum := "48c37eef144ce0f0a62ad317b0a225d7f6a6de30ed503a98ac805e818f2dc82d", func := "rootstock/rootstocklaw21.MarkHarm", spec := "markHarm", inPlace := ["internal/abi.NoEscape", "internal/bytealg.MakeNoZero", "internal/bytealg.abigen_runtime_cmpstring", "sync/atomic.AddInt64", "internal/bytealg.IndexByteString", "internal/bytealg.IndexString"], unfollowed := true, recurses := true, named := ["rootstock/crc.halves", "unicode/utf8.first", "unicode/utf8.acceptRanges", "internal/bytealg.MaxLen"], apart := false, laid := [("rootstock/crc.halves", laid_rootstock_crc_halves), ("unicode/utf8.acceptRanges", laid_unicode_utf8_acceptRanges), ("unicode/utf8.first", laid_unicode_utf8_first)] }
def MarkHarmSaid : Prop := markHarmRow.holds Tryz.pinned (OpenSpec.ofChange markHarmSpec)

/-- ITS FALSE NEIGHBOUR: 'it returns false'. Refute it at one input. -/
def markHarmWrong : ChangeSpec := { name := "markHarm", fn := fun _ => fun
  | [d1, d2] => { results := [.lit (.bool false)], args := [d1, d2] }
  | _ => none }
def MarkHarmWrongFalsely : Prop := markHarmRow.holds Tryz.pinned (OpenSpec.ofChange markHarmWrong)

/-- 'rootstocklaw21.MarkSums': WHATEVER THE INPUT: true; the input reads as it did. -/
def markSumsSpec : ChangeSpec := { name := "markSums", fn := fun _ => fun
  | [d1, d2] => { results := [.lit (.bool true)], args := [d1, d2] }
  | _ => none }
def markSumsRow : OpenClaim := { program := "ytjoiajmbfbjnnaagreatdoor", sum := "48c37eef144ce0f0a62ad317b0a225d7f6a6de30ed503a98ac805e818f2dc82d", func := "rootstock/rootstocklaw21.MarkSums", spec := "markSums", inPlace := ["internal/abi.NoEscape", "internal/bytealg.MakeNoZero", "internal/bytealg.abigen_runtime_cmpstring", "sync/atomic.AddInt64", "internal/bytealg.IndexByteString", "internal/bytealg.IndexString"], unfollowed := true, recurses := true, named := ["rootstock/crc.halves", "unicode/utf8.first", "unicode/utf8.acceptRanges", "internal/bytealg.MaxLen"], apart := false, laid := [("rootstock/crc.halves", laid_rootstock_crc_halves), ("unicode/utf8.acceptRanges", laid_unicode_utf8_acceptRanges), ("unicode/utf8.first", laid_unicode_utf8_first)] }
def MarkSumsSaid : Prop := markSumsRow.holds Tryz.pinned (OpenSpec.ofChange markSumsSpec)

/-- ITS FALSE NEIGHBOUR: 'it returns false'. Refute it at one input. -/
def markSumsWrong : ChangeSpec := { name := "markSums", fn := fun _ => fun
  | [d1, d2] => { results := [.lit (.bool false)], args := [d1, d2] }
  | _ => none }
def MarkSumsWrongFalsely : Prop := markSumsRow.holds Tryz.pinned (OpenSpec.ofChange markSumsWrong)

/-- 'rootstocklaw14.DiffHarm': WHATEVER THE INPUT: true; the input reads as it did. -/
def diffHarmSpec : ChangeSpec := { name := "diffHarm", fn := fun _ => fun
  | [d1, d2, d3] => { results := [.lit (.bool true)], args := [d1, d2, d3] }
  | _ => none }
def diffHarmRow : OpenClaim := { program := "ytjoiajmbfbjnnaagreatdoor", sum := "48c37eef144ce0f0a62ad317b0a225d7f6a6de30ed503a98ac805e818f2dc82d", func := "rootstock/rootstocklaw14.DiffHarm", spec := "diffHarm", inPlace := ["sync/atomic.AddInt64", "internal/bytealg.IndexByteString", "internal/bytealg.IndexString", "internal/bytealg.abigen_runtime_cmpstring", "internal/abi.NoEscape", "internal/bytealg.MakeNoZero"], unfollowed := true, recurses := true, named := ["rootstock/crc.halves", "unicode/utf8.first", "unicode/utf8.acceptRanges", "internal/bytealg.MaxLen"], apart := false, laid := [("rootstock/crc.halves", laid_rootstock_crc_halves), ("unicode/utf8.acceptRanges", laid_unicode_utf8_acceptRanges), ("unicode/utf8.first", laid_unicode_utf8_first)] }
def DiffHarmSaid : Prop := diffHarmRow.holds Tryz.pinned (OpenSpec.ofChange diffHarmSpec)

/-- ITS FALSE NEIGHBOUR: 'it returns false'. Refute it at one input. -/
def diffHarmWrong : ChangeSpec := { name := "diffHarm", fn := fun _ => fun
  | [d1, d2, d3] => { results := [.lit (.bool false)], args := [d1, d2, d3] }
  | _ => none }
def DiffHarmWrongFalsely : Prop := diffHarmRow.holds Tryz.pinned (OpenSpec.ofChange diffHarmWrong)

/-- 'rootstocklaw14.DiffSteps': WHATEVER THE INPUT: true; the input reads as it did. -/
def diffStepsSpec : ChangeSpec := { name := "diffSteps", fn := fun _ => fun
  | [d1, d2, d3] => { results := [.lit (.bool true)], args := [d1, d2, d3] }
  | _ => none }
def diffStepsRow : OpenClaim := { program := "ytjoiajmbfbjnnaagreatdoor", sum := "48c37eef144ce0f0a62ad317b0a225d7f6a6de30ed503a98ac805e818f2dc82d", func := "rootstock/rootstocklaw14.DiffSteps", spec := "diffSteps", inPlace := ["sync/atomic.AddInt64", "internal/bytealg.IndexByteString", "internal/bytealg.IndexString", "internal/bytealg.abigen_runtime_cmpstring", "internal/abi.NoEscape", "internal/bytealg.MakeNoZero"], unfollowed := true, recurses := true, named := ["rootstock/crc.halves", "unicode/utf8.first", "unicode/utf8.acceptRanges", "internal/bytealg.MaxLen"], apart := false, laid := [("rootstock/crc.halves", laid_rootstock_crc_halves), ("unicode/utf8.acceptRanges", laid_unicode_utf8_acceptRanges), ("unicode/utf8.first", laid_unicode_utf8_first)] }
def DiffStepsSaid : Prop := diffStepsRow.holds Tryz.pinned (OpenSpec.ofChange diffStepsSpec)

/-- ITS FALSE NEIGHBOUR: 'it returns false'. Refute it at one input. -/
def diffStepsWrong : ChangeSpec := { name := "diffSteps", fn := fun _ => fun
  | [d1, d2, d3] => { results := [.lit (.bool false)], args := [d1, d2, d3] }
  | _ => none }
def DiffStepsWrongFalsely : Prop := diffStepsRow.holds Tryz.pinned (OpenSpec.ofChange diffStepsWrong)

/-- 'rootstocklaw14.DiffTrees': WHATEVER THE INPUT: true; the input reads as it did. -/
def diffTreesSpec : ChangeSpec := { name := "diffTrees", fn := fun _ => fun
  | [d1, d2, d3, d4, d5, d6] => { results := [.lit (.bool true)], args := [d1, d2, d3, d4, d5, d6] }
  | _ => none }
def diffTreesRow : OpenClaim := { program := "ytjoiajmbfbjnnaagreatdoor", sum := "48c37eef144ce0f0a62ad317b0a225d7f6a6de30ed503a98ac805e818f2dc82d", func := "rootstock/rootstocklaw14.DiffTrees", spec := "diffTrees", inPlace := ["sync/atomic.AddInt64", "internal/bytealg.IndexByteString", "internal/bytealg.IndexString", "internal/bytealg.abigen_runtime_cmpstring", "internal/abi.NoEscape", "internal/bytealg.MakeNoZero"], unfollowed := true, recurses := true, named := ["rootstock/crc.halves", "unicode/utf8.first", "unicode/utf8.acceptRanges", "internal/bytealg.MaxLen"], apart := false, laid := [("rootstock/crc.halves", laid_rootstock_crc_halves), ("unicode/utf8.acceptRanges", laid_unicode_utf8_acceptRanges), ("unicode/utf8.first", laid_unicode_utf8_first)] }
def DiffTreesSaid : Prop := diffTreesRow.holds Tryz.pinned (OpenSpec.ofChange diffTreesSpec)

/-- ITS FALSE NEIGHBOUR: 'it returns false'. Refute it at one input. -/
def diffTreesWrong : ChangeSpec := { name := "diffTrees", fn := fun _ => fun
  | [d1, d2, d3, d4, d5, d6] => { results := [.lit (.bool false)], args := [d1, d2, d3, d4, d5, d6] }
  | _ => none }
def DiffTreesWrongFalsely : Prop := diffTreesRow.holds Tryz.pinned (OpenSpec.ofChange diffTreesWrong)

/-- 'rootstocklaw14.DiffParts': WHATEVER THE INPUT: true; the input reads as it did. -/
def diffPartsSpec : ChangeSpec := { name := "diffParts", fn := fun _ => fun
  | [d1, d2, d3] => { results := [.lit (.bool true)], args := [d1, d2, d3] }
  | _ => none }
def diffPartsRow : OpenClaim := { program := "ytjoiajmbfbjnnaagreatdoor", sum := "48c37eef144ce0f0a62ad317b0a225d7f6a6de30ed503a98ac805e818f2dc82d", func := "rootstock/rootstocklaw14.DiffParts", spec := "diffParts", inPlace := ["sync/atomic.AddInt64", "internal/bytealg.IndexByteString", "internal/bytealg.IndexString", "internal/bytealg.abigen_runtime_cmpstring", "internal/abi.NoEscape", "internal/bytealg.MakeNoZero"], unfollowed := true, recurses := true, named := ["rootstock/crc.halves", "unicode/utf8.first", "unicode/utf8.acceptRanges", "internal/bytealg.MaxLen"], apart := false, laid := [("rootstock/crc.halves", laid_rootstock_crc_halves), ("unicode/utf8.acceptRanges", laid_unicode_utf8_acceptRanges), ("unicode/utf8.first", laid_unicode_utf8_first)] }
def DiffPartsSaid : Prop := diffPartsRow.holds Tryz.pinned (OpenSpec.ofChange diffPartsSpec)

/-- ITS FALSE NEIGHBOUR: 'it returns false'. Refute it at one input. -/
def diffPartsWrong : ChangeSpec := { name := "diffParts", fn := fun _ => fun
  | [d1, d2, d3] => { results := [.lit (.bool false)], args := [d1, d2, d3] }
  | _ => none }
def DiffPartsWrongFalsely : Prop := diffPartsRow.holds Tryz.pinned (OpenSpec.ofChange diffPartsWrong)

/-- 'rootstocklaw14.DiffFew': WHATEVER THE INPUT: true; the input reads as it did. -/
def diffFewSpec : ChangeSpec := { name := "diffFew", fn := fun _ => fun
  | [d1, d2] => { results := [.lit (.bool true)], args := [d1, d2] }
  | _ => none }
def diffFewRow : OpenClaim := { program := "ytjoiajmbfbjnnaagreatdoor", sum := "48c37eef144ce0f0a62ad317b0a225d7f6a6de30ed503a98ac805e818f2dc82d", func := "rootstock/rootstocklaw14.DiffFew", spec := "diffFew", inPlace := ["sync/atomic.AddInt64", "internal/bytealg.IndexByteString", "internal/bytealg.IndexString", "internal/bytealg.abigen_runtime_cmpstring", "internal/abi.NoEscape", "internal/bytealg.MakeNoZero", "sync/atomic.LoadInt64"], unfollowed := true, recurses := true, named := ["rootstock/crc.halves", "unicode/utf8.first", "unicode/utf8.acceptRanges", "internal/bytealg.MaxLen"], apart := false, laid := [("rootstock/crc.halves", laid_rootstock_crc_halves), ("unicode/utf8.acceptRanges", laid_unicode_utf8_acceptRanges), ("unicode/utf8.first", laid_unicode_utf8_first)] }
def DiffFewSaid : Prop := diffFewRow.holds Tryz.pinned (OpenSpec.ofChange diffFewSpec)

/-- ITS FALSE NEIGHBOUR: 'it returns false'. Refute it at one input. -/
def diffFewWrong : ChangeSpec := { name := "diffFew", fn := fun _ => fun
  | [d1, d2] => { results := [.lit (.bool false)], args := [d1, d2] }
  | _ => none }
def DiffFewWrongFalsely : Prop := diffFewRow.holds Tryz.pinned (OpenSpec.ofChange diffFewWrong)

/-- 'rootstocklaw21.MarkVersions': WHATEVER THE INPUT: true; the input reads as it did. -/
def markVersionsSpec : ChangeSpec := { name := "markVersions", fn := fun _ => fun
  | [d1, d2] => { results := [.lit (.bool true)], args := [d1, d2] }
  | _ => none }
def markVersionsRow : OpenClaim := { program := "ytjoiajmbfbjnnaagreatdoor", sum := "48c37eef144ce0f0a62ad317b0a225d7f6a6de30ed503a98ac805e818f2dc82d", func := "rootstock/rootstocklaw21.MarkVersions", spec := "markVersions", inPlace := ["internal/abi.NoEscape", "internal/bytealg.MakeNoZero", "internal/bytealg.abigen_runtime_cmpstring", "sync/atomic.AddInt64", "internal/bytealg.IndexByteString", "internal/bytealg.IndexString"], unfollowed := true, recurses := true, named := ["rootstock/crc.halves", "unicode/utf8.first", "unicode/utf8.acceptRanges", "internal/bytealg.MaxLen"], apart := false, laid := [("rootstock/crc.halves", laid_rootstock_crc_halves), ("unicode/utf8.acceptRanges", laid_unicode_utf8_acceptRanges), ("unicode/utf8.first", laid_unicode_utf8_first)] }
def MarkVersionsSaid : Prop := markVersionsRow.holds Tryz.pinned (OpenSpec.ofChange markVersionsSpec)

/-- ITS FALSE NEIGHBOUR: 'it returns false'. Refute it at one input. -/
def markVersionsWrong : ChangeSpec := { name := "markVersions", fn := fun _ => fun
  | [d1, d2] => { results := [.lit (.bool false)], args := [d1, d2] }
  | _ => none }
def MarkVersionsWrongFalsely : Prop := markVersionsRow.holds Tryz.pinned (OpenSpec.ofChange markVersionsWrong)

/-- 'rootstocklaw21.MarkLive': WHATEVER THE INPUT: true; the input reads as it did. -/
def markLiveSpec : ChangeSpec := { name := "markLive", fn := fun _ => fun
  | [d1, d2, d3] => { results := [.lit (.bool true)], args := [d1, d2, d3] }
  | _ => none }
def markLiveRow : OpenClaim := { program := "ytjoiajmbfbjnnaagreatdoor", sum := "48c37eef144ce0f0a62ad317b0a225d7f6a6de30ed503a98ac805e818f2dc82d", func := "rootstock/rootstocklaw21.MarkLive", spec := "markLive", inPlace := ["internal/abi.NoEscape", "internal/bytealg.MakeNoZero", "internal/bytealg.abigen_runtime_cmpstring", "sync/atomic.AddInt64", "internal/bytealg.IndexByteString", "internal/bytealg.IndexString"], unfollowed := true, recurses := true, named := ["rootstock/crc.halves", "unicode/utf8.first", "unicode/utf8.acceptRanges", "internal/bytealg.MaxLen"], apart := false, laid := [("rootstock/crc.halves", laid_rootstock_crc_halves), ("unicode/utf8.acceptRanges", laid_unicode_utf8_acceptRanges), ("unicode/utf8.first", laid_unicode_utf8_first)] }
def MarkLiveSaid : Prop := markLiveRow.holds Tryz.pinned (OpenSpec.ofChange markLiveSpec)

/-- ITS FALSE NEIGHBOUR: 'it returns false'. Refute it at one input. -/
def markLiveWrong : ChangeSpec := { name := "markLive", fn := fun _ => fun
  | [d1, d2, d3] => { results := [.lit (.bool false)], args := [d1, d2, d3] }
  | _ => none }
def MarkLiveWrongFalsely : Prop := markLiveRow.holds Tryz.pinned (OpenSpec.ofChange markLiveWrong)

/- THE SECOND FORM. 'bulk': how many values and letters a reading holds, each counted each time it is reached (what is shared counts as often as it is met; a slice's spare places count too). A statement '..UptoSaid' is the law's where the arguments, and the package variables that the reading takes, are together of bulk at most 1048576: NARROWER than '..Said'. Prove '..Said' where nothing that the law and all that it calls make is longer than what came in: it says more and counts as full. Else prove '..UptoSaid'. A law counts once. -/
mutual
def uptoBulk {H : Type} : DataW H → Nat
  | .lit (.string bytes) => bytes.length + 1
  | .lit _ => 1
  | .nil => 1
  | .ptr d => uptoBulk d + 1
  | .slice elems spare => uptoBulkAll elems + uptoBulkAll spare + 1
  | .agg parts => uptoBulkAll parts + 1
  | .iface _ d => uptoBulk d + 1
  | .map entries => uptoBulkEntries entries + 1
  | .held _ => 1
def uptoBulkAll {H : Type} : List (DataW H) → Nat
  | [] => 0
  | d :: r => uptoBulk d + uptoBulkAll r
def uptoBulkEntries {H : Type} : List (Lit × DataW H) → Nat
  | [] => 0
  | x :: r => uptoBulkEntry x + uptoBulkEntries r
def uptoBulkEntry {H : Type} : Lit × DataW H → Nat
  | (.string bytes, d) => bytes.length + uptoBulk d + 1
  | (_, d) => uptoBulk d + 1
 end
def uptoSmall : (H : Type) → List (DataW H) → Bool := fun _ ds => decide (uptoBulkAll ds ≤ 1048576)
def OpenSpec.upto (s : _root_.Go.ChangeSpec) : _root_.Go.OpenSpec := { _root_.Go.OpenSpec.ofChange s with cond := some uptoSmall }

/-- 'rootstocklaw13.TreeRaw', WHERE WHAT IT READS IS OF BULK AT MOST 1048576: true; the input reads as it did. -/
def treeRawUptoRow : OpenClaim := { program := "ytjoiajmbfbjnnaagreatdoor", sum := "48c37eef144ce0f0a62ad317b0a225d7f6a6de30ed503a98ac805e818f2dc82d", func := "rootstock/rootstocklaw13.TreeRaw", spec := "treeRaw", inPlace := ["internal/abi.NoEscape", "internal/bytealg.MakeNoZero", "internal/bytealg.abigen_runtime_cmpstring", "sync/atomic.AddInt64", "internal/bytealg.IndexByteString", "internal/bytealg.IndexString"], unfollowed := true, recurses := true, named := ["rootstock/crc.halves", "unicode/utf8.first", "unicode/utf8.acceptRanges", "internal/bytealg.MaxLen"], apart := false, laid := [("rootstock/crc.halves", laid_rootstock_crc_halves), ("unicode/utf8.acceptRanges", laid_unicode_utf8_acceptRanges), ("unicode/utf8.first", laid_unicode_utf8_first)], narrowed := true }
def TreeRawUptoSaid : Prop := treeRawUptoRow.holds Tryz.pinned (OpenSpec.upto treeRawSpec)

/-- 'rootstocklaw21.MarkTrees', WHERE WHAT IT READS IS OF BULK AT MOST 1048576: true; the input reads as it did. -/
def markTreesUptoRow : OpenClaim := { program := "ytjoiajmbfbjnnaagreatdoor", sum := "48c37eef144ce0f0a62ad317b0a225d7f6a6de30ed503a98ac805e818f2dc82d", func := "rootstock/rootstocklaw21.MarkTrees", spec := "markTrees", inPlace := ["internal/abi.NoEscape", "internal/bytealg.MakeNoZero", "internal/bytealg.abigen_runtime_cmpstring", "sync/atomic.AddInt64", "internal/bytealg.IndexByteString", "internal/bytealg.IndexString", "sync/atomic.LoadInt64"], unfollowed := true, recurses := true, named := ["rootstock/crc.halves", "unicode/utf8.first", "unicode/utf8.acceptRanges", "internal/bytealg.MaxLen"], apart := false, laid := [("rootstock/crc.halves", laid_rootstock_crc_halves), ("unicode/utf8.acceptRanges", laid_unicode_utf8_acceptRanges), ("unicode/utf8.first", laid_unicode_utf8_first)], narrowed := true }
def MarkTreesUptoSaid : Prop := markTreesUptoRow.holds Tryz.pinned (OpenSpec.upto markTreesSpec)

/-- 'rootstocklaw21.MarkHarm', WHERE WHAT IT READS IS OF BULK AT MOST 1048576: true; the input reads as it did. -/
def markHarmUptoRow : OpenClaim := { program := "ytjoiajmbfbjnnaagreatdoor", sum := "48c37eef144ce0f0a62ad317b0a225d7f6a6de30ed503a98ac805e818f2dc82d", func := "rootstock/rootstocklaw21.MarkHarm", spec := "markHarm", inPlace := ["internal/abi.NoEscape", "internal/bytealg.MakeNoZero", "internal/bytealg.abigen_runtime_cmpstring", "sync/atomic.AddInt64", "internal/bytealg.IndexByteString", "internal/bytealg.IndexString"], unfollowed := true, recurses := true, named := ["rootstock/crc.halves", "unicode/utf8.first", "unicode/utf8.acceptRanges", "internal/bytealg.MaxLen"], apart := false, laid := [("rootstock/crc.halves", laid_rootstock_crc_halves), ("unicode/utf8.acceptRanges", laid_unicode_utf8_acceptRanges), ("unicode/utf8.first", laid_unicode_utf8_first)], narrowed := true }
def MarkHarmUptoSaid : Prop := markHarmUptoRow.holds Tryz.pinned (OpenSpec.upto markHarmSpec)

/-- 'rootstocklaw21.MarkSums', WHERE WHAT IT READS IS OF BULK AT MOST 1048576: true; the input reads as it did. -/
def markSumsUptoRow : OpenClaim := { program := "ytjoiajmbfbjnnaagreatdoor", sum := "48c37eef144ce0f0a62ad317b0a225d7f6a6de30ed503a98ac805e818f2dc82d", func := "rootstock/rootstocklaw21.MarkSums", spec := "markSums", inPlace := ["internal/abi.NoEscape", "internal/bytealg.MakeNoZero", "internal/bytealg.abigen_runtime_cmpstring", "sync/atomic.AddInt64", "internal/bytealg.IndexByteString", "internal/bytealg.IndexString"], unfollowed := true, recurses := true, named := ["rootstock/crc.halves", "unicode/utf8.first", "unicode/utf8.acceptRanges", "internal/bytealg.MaxLen"], apart := false, laid := [("rootstock/crc.halves", laid_rootstock_crc_halves), ("unicode/utf8.acceptRanges", laid_unicode_utf8_acceptRanges), ("unicode/utf8.first", laid_unicode_utf8_first)], narrowed := true }
def MarkSumsUptoSaid : Prop := markSumsUptoRow.holds Tryz.pinned (OpenSpec.upto markSumsSpec)

/-- 'rootstocklaw14.DiffHarm', WHERE WHAT IT READS IS OF BULK AT MOST 1048576: true; the input reads as it did. -/
def diffHarmUptoRow : OpenClaim := { program := "ytjoiajmbfbjnnaagreatdoor", sum := "48c37eef144ce0f0a62ad317b0a225d7f6a6de30ed503a98ac805e818f2dc82d", func := "rootstock/rootstocklaw14.DiffHarm", spec := "diffHarm", inPlace := ["sync/atomic.AddInt64", "internal/bytealg.IndexByteString", "internal/bytealg.IndexString", "internal/bytealg.abigen_runtime_cmpstring", "internal/abi.NoEscape", "internal/bytealg.MakeNoZero"], unfollowed := true, recurses := true, named := ["rootstock/crc.halves", "unicode/utf8.first", "unicode/utf8.acceptRanges", "internal/bytealg.MaxLen"], apart := false, laid := [("rootstock/crc.halves", laid_rootstock_crc_halves), ("unicode/utf8.acceptRanges", laid_unicode_utf8_acceptRanges), ("unicode/utf8.first", laid_unicode_utf8_first)], narrowed := true }
def DiffHarmUptoSaid : Prop := diffHarmUptoRow.holds Tryz.pinned (OpenSpec.upto diffHarmSpec)

/-- 'rootstocklaw14.DiffSteps', WHERE WHAT IT READS IS OF BULK AT MOST 1048576: true; the input reads as it did. -/
def diffStepsUptoRow : OpenClaim := { program := "ytjoiajmbfbjnnaagreatdoor", sum := "48c37eef144ce0f0a62ad317b0a225d7f6a6de30ed503a98ac805e818f2dc82d", func := "rootstock/rootstocklaw14.DiffSteps", spec := "diffSteps", inPlace := ["sync/atomic.AddInt64", "internal/bytealg.IndexByteString", "internal/bytealg.IndexString", "internal/bytealg.abigen_runtime_cmpstring", "internal/abi.NoEscape", "internal/bytealg.MakeNoZero"], unfollowed := true, recurses := true, named := ["rootstock/crc.halves", "unicode/utf8.first", "unicode/utf8.acceptRanges", "internal/bytealg.MaxLen"], apart := false, laid := [("rootstock/crc.halves", laid_rootstock_crc_halves), ("unicode/utf8.acceptRanges", laid_unicode_utf8_acceptRanges), ("unicode/utf8.first", laid_unicode_utf8_first)], narrowed := true }
def DiffStepsUptoSaid : Prop := diffStepsUptoRow.holds Tryz.pinned (OpenSpec.upto diffStepsSpec)

/-- 'rootstocklaw14.DiffTrees', WHERE WHAT IT READS IS OF BULK AT MOST 1048576: true; the input reads as it did. -/
def diffTreesUptoRow : OpenClaim := { program := "ytjoiajmbfbjnnaagreatdoor", sum := "48c37eef144ce0f0a62ad317b0a225d7f6a6de30ed503a98ac805e818f2dc82d", func := "rootstock/rootstocklaw14.DiffTrees", spec := "diffTrees", inPlace := ["sync/atomic.AddInt64", "internal/bytealg.IndexByteString", "internal/bytealg.IndexString", "internal/bytealg.abigen_runtime_cmpstring", "internal/abi.NoEscape", "internal/bytealg.MakeNoZero"], unfollowed := true, recurses := true, named := ["rootstock/crc.halves", "unicode/utf8.first", "unicode/utf8.acceptRanges", "internal/bytealg.MaxLen"], apart := false, laid := [("rootstock/crc.halves", laid_rootstock_crc_halves), ("unicode/utf8.acceptRanges", laid_unicode_utf8_acceptRanges), ("unicode/utf8.first", laid_unicode_utf8_first)], narrowed := true }
def DiffTreesUptoSaid : Prop := diffTreesUptoRow.holds Tryz.pinned (OpenSpec.upto diffTreesSpec)

/-- 'rootstocklaw14.DiffParts', WHERE WHAT IT READS IS OF BULK AT MOST 1048576: true; the input reads as it did. -/
def diffPartsUptoRow : OpenClaim := { program := "ytjoiajmbfbjnnaagreatdoor", sum := "48c37eef144ce0f0a62ad317b0a225d7f6a6de30ed503a98ac805e818f2dc82d", func := "rootstock/rootstocklaw14.DiffParts", spec := "diffParts", inPlace := ["sync/atomic.AddInt64", "internal/bytealg.IndexByteString", "internal/bytealg.IndexString", "internal/bytealg.abigen_runtime_cmpstring", "internal/abi.NoEscape", "internal/bytealg.MakeNoZero"], unfollowed := true, recurses := true, named := ["rootstock/crc.halves", "unicode/utf8.first", "unicode/utf8.acceptRanges", "internal/bytealg.MaxLen"], apart := false, laid := [("rootstock/crc.halves", laid_rootstock_crc_halves), ("unicode/utf8.acceptRanges", laid_unicode_utf8_acceptRanges), ("unicode/utf8.first", laid_unicode_utf8_first)], narrowed := true }
def DiffPartsUptoSaid : Prop := diffPartsUptoRow.holds Tryz.pinned (OpenSpec.upto diffPartsSpec)

/-- 'rootstocklaw14.DiffFew', WHERE WHAT IT READS IS OF BULK AT MOST 1048576: true; the input reads as it did. -/
def diffFewUptoRow : OpenClaim := { program := "ytjoiajmbfbjnnaagreatdoor", sum := "48c37eef144ce0f0a62ad317b0a225d7f6a6de30ed503a98ac805e818f2dc82d", func := "rootstock/rootstocklaw14.DiffFew", spec := "diffFew", inPlace := ["sync/atomic.AddInt64", "internal/bytealg.IndexByteString", "internal/bytealg.IndexString", "internal/bytealg.abigen_runtime_cmpstring", "internal/abi.NoEscape", "internal/bytealg.MakeNoZero", "sync/atomic.LoadInt64"], unfollowed := true, recurses := true, named := ["rootstock/crc.halves", "unicode/utf8.first", "unicode/utf8.acceptRanges", "internal/bytealg.MaxLen"], apart := false, laid := [("rootstock/crc.halves", laid_rootstock_crc_halves), ("unicode/utf8.acceptRanges", laid_unicode_utf8_acceptRanges), ("unicode/utf8.first", laid_unicode_utf8_first)], narrowed := true }
def DiffFewUptoSaid : Prop := diffFewUptoRow.holds Tryz.pinned (OpenSpec.upto diffFewSpec)

/-- 'rootstocklaw21.MarkVersions', WHERE WHAT IT READS IS OF BULK AT MOST 1048576: true; the input reads as it did. -/
def markVersionsUptoRow : OpenClaim := { program := "ytjoiajmbfbjnnaagreatdoor", sum := "48c37eef144ce0f0a62ad317b0a225d7f6a6de30ed503a98ac805e818f2dc82d", func := "rootstock/rootstocklaw21.MarkVersions", spec := "markVersions", inPlace := ["internal/abi.NoEscape", "internal/bytealg.MakeNoZero", "internal/bytealg.abigen_runtime_cmpstring", "sync/atomic.AddInt64", "internal/bytealg.IndexByteString", "internal/bytealg.IndexString"], unfollowed := true, recurses := true, named := ["rootstock/crc.halves", "unicode/utf8.first", "unicode/utf8.acceptRanges", "internal/bytealg.MaxLen"], apart := false, laid := [("rootstock/crc.halves", laid_rootstock_crc_halves), ("unicode/utf8.acceptRanges", laid_unicode_utf8_acceptRanges), ("unicode/utf8.first", laid_unicode_utf8_first)], narrowed := true }
def MarkVersionsUptoSaid : Prop := markVersionsUptoRow.holds Tryz.pinned (OpenSpec.upto markVersionsSpec)

/-- 'rootstocklaw21.MarkLive', WHERE WHAT IT READS IS OF BULK AT MOST 1048576: true; the input reads as it did. -/
def markLiveUptoRow : OpenClaim := { program := "ytjoiajmbfbjnnaagreatdoor", sum := "48c37eef144ce0f0a62ad317b0a225d7f6a6de30ed503a98ac805e818f2dc82d", func := "rootstock/rootstocklaw21.MarkLive", spec := "markLive", inPlace := ["internal/abi.NoEscape", "internal/bytealg.MakeNoZero", "internal/bytealg.abigen_runtime_cmpstring", "sync/atomic.AddInt64", "internal/bytealg.IndexByteString", "internal/bytealg.IndexString"], unfollowed := true, recurses := true, named := ["rootstock/crc.halves", "unicode/utf8.first", "unicode/utf8.acceptRanges", "internal/bytealg.MaxLen"], apart := false, laid := [("rootstock/crc.halves", laid_rootstock_crc_halves), ("unicode/utf8.acceptRanges", laid_unicode_utf8_acceptRanges), ("unicode/utf8.first", laid_unicode_utf8_first)], narrowed := true }
def MarkLiveUptoSaid : Prop := markLiveUptoRow.holds Tryz.pinned (OpenSpec.upto markLiveSpec)

end Rows
end Go.Proofs.YtjoiajmbfbjnnaaGreatDoor
