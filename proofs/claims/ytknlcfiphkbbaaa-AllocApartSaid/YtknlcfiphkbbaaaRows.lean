/-
  No cell of these rows narrows 'for every input' (looked for: loops, veiled, ifaces, maps, wideKeys, modest, calm, conditions, laid).
  DERIVED. THE GIVEN ROWS OF THIS SEAT. 3 by the template 'for every input the law returns true; each argument reads behind the call as it read before'; 0 by the template 'total and deterministic' (their statements: YtknlcfiphkbbaaaTotals.lean).
  GIVEN WITH THE SEED: the statements are not yours to turn. If you find one false, say at which input.
  Laid BY PROGRAM, IN A SANDBOX (cutbox-rows.mjs): the forced cells as the released guide's own fill.sh prints them over the translation 880ee7685a6828e6… (all of the seat's roots in one cut). By AI agents, Wed Nov 11 2026. No macro, syntax, notation, axiom, sorry.
-/
import Derived.Test.YtknlcfiphkbbaaaChecked
import GoSem.Claim
import GoSem.ClaimJoined
import GoSem.ClaimMapViews
import Derived.JoinedTies
import Derived.KernelRfl
namespace Go.Proofs.Ytknlcfiphkbbaaa
/- THE CELL 'sum', in the pinned program and in every row, IS THE sha256 OF THE DUMP (.gsa) THAT YtknlcfiphkbbaaaProg.lean LOADS. Nothing in Lean hashes anything: it is a label: what it is worth is what the hold of that sum in a sandbox is worth. -/
noncomputable def Try.pinned : Pinned := { name := "ytknlcfiphkbbaaa", sum := "880ee7685a6828e6a930774ded9c32f2c137ae9226aca72c8c3da6d50b13c0af", checked := Try.checked }
namespace Rows
def none {H : Type} : Left H := { results := [], args := [] }

/-- 'rootstocklaw09.ChainBodies': WHATEVER THE INPUT: true; the input reads as it did. -/
def chainBodiesSpec : ChangeSpec := { name := "chainBodies", fn := fun _ => fun
  | [d1, d2, d3] => { results := [.lit (.bool true)], args := [d1, d2, d3] }
  | _ => none }
def chainBodiesRow : OpenClaim := { program := "ytknlcfiphkbbaaa", sum := "880ee7685a6828e6a930774ded9c32f2c137ae9226aca72c8c3da6d50b13c0af", func := "rootstock/rootstocklaw09.ChainBodies", spec := "chainBodies", unfollowed := true, recurses := true, apart := false }
def ChainBodiesSaid : Prop := chainBodiesRow.holds Try.pinned (OpenSpec.ofChange chainBodiesSpec)

/-- ITS FALSE NEIGHBOUR: 'it returns false'. Refute it at one input. -/
def chainBodiesWrong : ChangeSpec := { name := "chainBodies", fn := fun _ => fun
  | [d1, d2, d3] => { results := [.lit (.bool false)], args := [d1, d2, d3] }
  | _ => none }
def ChainBodiesWrongFalsely : Prop := chainBodiesRow.holds Try.pinned (OpenSpec.ofChange chainBodiesWrong)

/-- 'rootstocklaw10.AllocLeast': WHATEVER THE INPUT: true; the input reads as it did. -/
def allocLeastSpec : ChangeSpec := { name := "allocLeast", fn := fun _ => fun
  | [d1, d2, d3, d4] => { results := [.lit (.bool true)], args := [d1, d2, d3, d4] }
  | _ => none }
def allocLeastRow : OpenClaim := { program := "ytknlcfiphkbbaaa", sum := "880ee7685a6828e6a930774ded9c32f2c137ae9226aca72c8c3da6d50b13c0af", func := "rootstock/rootstocklaw10.AllocLeast", spec := "allocLeast", inPlace := ["internal/abi.NoEscape", "internal/bytealg.MakeNoZero"], unfollowed := true, recurses := true, apart := false }
def AllocLeastSaid : Prop := allocLeastRow.holds Try.pinned (OpenSpec.ofChange allocLeastSpec)

/-- ITS FALSE NEIGHBOUR: 'it returns false'. Refute it at one input. -/
def allocLeastWrong : ChangeSpec := { name := "allocLeast", fn := fun _ => fun
  | [d1, d2, d3, d4] => { results := [.lit (.bool false)], args := [d1, d2, d3, d4] }
  | _ => none }
def AllocLeastWrongFalsely : Prop := allocLeastRow.holds Try.pinned (OpenSpec.ofChange allocLeastWrong)

/-- 'rootstocklaw10.AllocApart': WHATEVER THE INPUT: true; the input reads as it did. -/
def allocApartSpec : ChangeSpec := { name := "allocApart", fn := fun _ => fun
  | [d1, d2, d3, d4] => { results := [.lit (.bool true)], args := [d1, d2, d3, d4] }
  | _ => none }
def allocApartRow : OpenClaim := { program := "ytknlcfiphkbbaaa", sum := "880ee7685a6828e6a930774ded9c32f2c137ae9226aca72c8c3da6d50b13c0af", func := "rootstock/rootstocklaw10.AllocApart", spec := "allocApart", inPlace := ["internal/abi.NoEscape", "internal/bytealg.MakeNoZero"], unfollowed := true, recurses := true, apart := false }
def AllocApartSaid : Prop := allocApartRow.holds Try.pinned (OpenSpec.ofChange allocApartSpec)

/-- ITS FALSE NEIGHBOUR: 'it returns false'. Refute it at one input. -/
def allocApartWrong : ChangeSpec := { name := "allocApart", fn := fun _ => fun
  | [d1, d2, d3, d4] => { results := [.lit (.bool false)], args := [d1, d2, d3, d4] }
  | _ => none }
def AllocApartWrongFalsely : Prop := allocApartRow.holds Try.pinned (OpenSpec.ofChange allocApartWrong)

/- THE SECOND FORM. 'bulk': how many values and letters a reading holds, each counted each time it is reached (what is shared counts as often as it is met; a slice's spare places count too). A statement '..UptoSaid' is the law's where the arguments, and the package variables that the reading takes, are together of bulk at most 1048576: NARROWER than '..Said'. Prove '..Said' where nothing that the law and all that it calls make is longer than what came in: it says more and counts as full. Else prove '..UptoSaid'. A law counts once. -/
mutual
def uptoBulk {H : Type} : DataW H → Nat
  | .lit (.string bytes) => bytes.length + 1
  | .lit _ => 1
  | .nil => 1
  | .ptr d => uptoBulk d + 1
  | .slice elems spare => uptoBulkAll elems + uptoBulkAll spare + 1
  | .agg parts => uptoBulkAll parts + 1
  | .iface _ d => uptoBulk d + 1
  | .map entries => uptoBulkEntries entries + 1
  | .held _ => 1
def uptoBulkAll {H : Type} : List (DataW H) → Nat
  | [] => 0
  | d :: r => uptoBulk d + uptoBulkAll r
def uptoBulkEntries {H : Type} : List (Lit × DataW H) → Nat
  | [] => 0
  | x :: r => uptoBulkEntry x + uptoBulkEntries r
def uptoBulkEntry {H : Type} : Lit × DataW H → Nat
  | (.string bytes, d) => bytes.length + uptoBulk d + 1
  | (_, d) => uptoBulk d + 1
 end
def uptoSmall : (H : Type) → List (DataW H) → Bool := fun _ ds => decide (uptoBulkAll ds ≤ 1048576)
def OpenSpec.upto (s : _root_.Go.ChangeSpec) : _root_.Go.OpenSpec := { _root_.Go.OpenSpec.ofChange s with cond := some uptoSmall }

/-- 'rootstocklaw09.ChainBodies', WHERE WHAT IT READS IS OF BULK AT MOST 1048576: true; the input reads as it did. -/
def chainBodiesUptoRow : OpenClaim := { program := "ytknlcfiphkbbaaa", sum := "880ee7685a6828e6a930774ded9c32f2c137ae9226aca72c8c3da6d50b13c0af", func := "rootstock/rootstocklaw09.ChainBodies", spec := "chainBodies", unfollowed := true, recurses := true, apart := false, narrowed := true }
def ChainBodiesUptoSaid : Prop := chainBodiesUptoRow.holds Try.pinned (OpenSpec.upto chainBodiesSpec)

/-- 'rootstocklaw10.AllocLeast', WHERE WHAT IT READS IS OF BULK AT MOST 1048576: true; the input reads as it did. -/
def allocLeastUptoRow : OpenClaim := { program := "ytknlcfiphkbbaaa", sum := "880ee7685a6828e6a930774ded9c32f2c137ae9226aca72c8c3da6d50b13c0af", func := "rootstock/rootstocklaw10.AllocLeast", spec := "allocLeast", inPlace := ["internal/abi.NoEscape", "internal/bytealg.MakeNoZero"], unfollowed := true, recurses := true, apart := false, narrowed := true }
def AllocLeastUptoSaid : Prop := allocLeastUptoRow.holds Try.pinned (OpenSpec.upto allocLeastSpec)

/-- 'rootstocklaw10.AllocApart', WHERE WHAT IT READS IS OF BULK AT MOST 1048576: true; the input reads as it did. -/
def allocApartUptoRow : OpenClaim := { program := "ytknlcfiphkbbaaa", sum := "880ee7685a6828e6a930774ded9c32f2c137ae9226aca72c8c3da6d50b13c0af", func := "rootstock/rootstocklaw10.AllocApart", spec := "allocApart", inPlace := ["internal/abi.NoEscape", "internal/bytealg.MakeNoZero"], unfollowed := true, recurses := true, apart := false, narrowed := true }
def AllocApartUptoSaid : Prop := allocApartUptoRow.holds Try.pinned (OpenSpec.upto allocApartSpec)

end Rows
end Go.Proofs.Ytknlcfiphkbbaaa
