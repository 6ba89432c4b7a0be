/-
  No cell of these rows narrows 'for every input' (looked for: loops, veiled, ifaces, maps, wideKeys, modest, calm, conditions, laid).
  DERIVED. THE GIVEN ROWS OF THIS SEAT. 5 by the template 'for every input the law returns true; each argument reads behind the call as it read before'; 0 by the template 'total and deterministic' (their statements: YtfhpgmgmofganaaTotals.lean).
  GIVEN WITH THE SEED: the statements are not yours to turn. If you find one false, say at which input.
  Laid BY PROGRAM, IN A SANDBOX (cutbox-rows.mjs): the forced cells as the released guide's own fill.sh prints them over the translation 8f5f1354b769cbe9… (all of the seat's roots in one cut). By AI agents, Wed Nov 11 2026. No macro, syntax, notation, axiom, sorry.
-/
import Derived.Test.YtfhpgmgmofganaaChecked
import GoSem.Claim
import GoSem.ClaimJoined
import GoSem.ClaimMapViews
import Derived.JoinedTies
import Derived.KernelRfl
namespace Go.Proofs.Ytfhpgmgmofganaa
/- THE CELL 'sum', in the pinned program and in every row, IS THE sha256 OF THE DUMP (.gsa) THAT YtfhpgmgmofganaaProg.lean LOADS. Nothing in Lean hashes anything: it is a label: what it is worth is what the hold of that sum in a sandbox is worth. -/
noncomputable def Try.pinned : Pinned := { name := "ytfhpgmgmofganaa", sum := "8f5f1354b769cbe9c79cc0f2b2c79a9fe4e039384acd5d717ef3f1a1fbd7c055", checked := Try.checked }
namespace Rows
def none {H : Type} : Left H := { results := [], args := [] }

/-- 'dockmasterlaw07.NodeSplits': WHATEVER THE INPUT: true; the input reads as it did. -/
def nodeSplitsSpec : ChangeSpec := { name := "nodeSplits", fn := fun _ => fun
  | [d1, d2] => { results := [.lit (.bool true)], args := [d1, d2] }
  | _ => none }
def nodeSplitsRow : OpenClaim := { program := "ytfhpgmgmofganaa", sum := "8f5f1354b769cbe9c79cc0f2b2c79a9fe4e039384acd5d717ef3f1a1fbd7c055", func := "dockmaster/dockmasterlaw07.NodeSplits", spec := "nodeSplits", apart := false }
def NodeSplitsSaid : Prop := nodeSplitsRow.holds Try.pinned (OpenSpec.ofChange nodeSplitsSpec)

/-- ITS FALSE NEIGHBOUR: 'it returns false'. Refute it at one input. -/
def nodeSplitsWrong : ChangeSpec := { name := "nodeSplits", fn := fun _ => fun
  | [d1, d2] => { results := [.lit (.bool false)], args := [d1, d2] }
  | _ => none }
def NodeSplitsWrongFalsely : Prop := nodeSplitsRow.holds Try.pinned (OpenSpec.ofChange nodeSplitsWrong)

/-- 'dockmasterlaw07.NodeParts': WHATEVER THE INPUT: true; the input reads as it did. -/
def nodePartsSpec : ChangeSpec := { name := "nodeParts", fn := fun _ => fun
  | [d1, d2, d3] => { results := [.lit (.bool true)], args := [d1, d2, d3] }
  | _ => none }
def nodePartsRow : OpenClaim := { program := "ytfhpgmgmofganaa", sum := "8f5f1354b769cbe9c79cc0f2b2c79a9fe4e039384acd5d717ef3f1a1fbd7c055", func := "dockmaster/dockmasterlaw07.NodeParts", spec := "nodeParts", apart := false }
def NodePartsSaid : Prop := nodePartsRow.holds Try.pinned (OpenSpec.ofChange nodePartsSpec)

/-- ITS FALSE NEIGHBOUR: 'it returns false'. Refute it at one input. -/
def nodePartsWrong : ChangeSpec := { name := "nodeParts", fn := fun _ => fun
  | [d1, d2, d3] => { results := [.lit (.bool false)], args := [d1, d2, d3] }
  | _ => none }
def NodePartsWrongFalsely : Prop := nodePartsRow.holds Try.pinned (OpenSpec.ofChange nodePartsWrong)

/-- 'dockmasterlaw07.NodeWays': WHATEVER THE INPUT: true; the input reads as it did. -/
def nodeWaysSpec : ChangeSpec := { name := "nodeWays", fn := fun _ => fun
  | [d1, d2] => { results := [.lit (.bool true)], args := [d1, d2] }
  | _ => none }
def nodeWaysRow : OpenClaim := { program := "ytfhpgmgmofganaa", sum := "8f5f1354b769cbe9c79cc0f2b2c79a9fe4e039384acd5d717ef3f1a1fbd7c055", func := "dockmaster/dockmasterlaw07.NodeWays", spec := "nodeWays", apart := false }
def NodeWaysSaid : Prop := nodeWaysRow.holds Try.pinned (OpenSpec.ofChange nodeWaysSpec)

/-- ITS FALSE NEIGHBOUR: 'it returns false'. Refute it at one input. -/
def nodeWaysWrong : ChangeSpec := { name := "nodeWays", fn := fun _ => fun
  | [d1, d2] => { results := [.lit (.bool false)], args := [d1, d2] }
  | _ => none }
def NodeWaysWrongFalsely : Prop := nodeWaysRow.holds Try.pinned (OpenSpec.ofChange nodeWaysWrong)

/-- 'dockmasterlaw07.NodeOrder': WHATEVER THE INPUT: true; the input reads as it did. -/
def nodeOrderSpec : ChangeSpec := { name := "nodeOrder", fn := fun _ => fun
  | [d1, d2] => { results := [.lit (.bool true)], args := [d1, d2] }
  | _ => none }
def nodeOrderRow : OpenClaim := { program := "ytfhpgmgmofganaa", sum := "8f5f1354b769cbe9c79cc0f2b2c79a9fe4e039384acd5d717ef3f1a1fbd7c055", func := "dockmaster/dockmasterlaw07.NodeOrder", spec := "nodeOrder", inPlace := ["slices.overlaps[string]"], apart := false }
def NodeOrderSaid : Prop := nodeOrderRow.holds Try.pinned (OpenSpec.ofChange nodeOrderSpec)

/-- ITS FALSE NEIGHBOUR: 'it returns false'. Refute it at one input. -/
def nodeOrderWrong : ChangeSpec := { name := "nodeOrder", fn := fun _ => fun
  | [d1, d2] => { results := [.lit (.bool false)], args := [d1, d2] }
  | _ => none }
def NodeOrderWrongFalsely : Prop := nodeOrderRow.holds Try.pinned (OpenSpec.ofChange nodeOrderWrong)

/-- 'dockmasterlaw07.NodeLeaves': WHATEVER THE INPUT: true; the input reads as it did. -/
def nodeLeavesSpec : ChangeSpec := { name := "nodeLeaves", fn := fun _ => fun
  | [d1, d2, d3] => { results := [.lit (.bool true)], args := [d1, d2, d3] }
  | _ => none }
def nodeLeavesRow : OpenClaim := { program := "ytfhpgmgmofganaa", sum := "8f5f1354b769cbe9c79cc0f2b2c79a9fe4e039384acd5d717ef3f1a1fbd7c055", func := "dockmaster/dockmasterlaw07.NodeLeaves", spec := "nodeLeaves", inPlace := ["slices.overlaps[string]"], apart := false }
def NodeLeavesSaid : Prop := nodeLeavesRow.holds Try.pinned (OpenSpec.ofChange nodeLeavesSpec)

/-- ITS FALSE NEIGHBOUR: 'it returns false'. Refute it at one input. -/
def nodeLeavesWrong : ChangeSpec := { name := "nodeLeaves", fn := fun _ => fun
  | [d1, d2, d3] => { results := [.lit (.bool false)], args := [d1, d2, d3] }
  | _ => none }
def NodeLeavesWrongFalsely : Prop := nodeLeavesRow.holds Try.pinned (OpenSpec.ofChange nodeLeavesWrong)

/- THE SECOND FORM. 'bulk': how many values and letters a reading holds, each counted each time it is reached (what is shared counts as often as it is met; a slice's spare places count too). A statement '..UptoSaid' is the law's where the arguments, and the package variables that the reading takes, are together of bulk at most 1048576: NARROWER than '..Said'. Prove '..Said' where nothing that the law and all that it calls make is longer than what came in: it says more and counts as full. Else prove '..UptoSaid'. A law counts once. -/
mutual
def uptoBulk {H : Type} : DataW H → Nat
  | .lit (.string bytes) => bytes.length + 1
  | .lit _ => 1
  | .nil => 1
  | .ptr d => uptoBulk d + 1
  | .slice elems spare => uptoBulkAll elems + uptoBulkAll spare + 1
  | .agg parts => uptoBulkAll parts + 1
  | .iface _ d => uptoBulk d + 1
  | .map entries => uptoBulkEntries entries + 1
  | .held _ => 1
def uptoBulkAll {H : Type} : List (DataW H) → Nat
  | [] => 0
  | d :: r => uptoBulk d + uptoBulkAll r
def uptoBulkEntries {H : Type} : List (Lit × DataW H) → Nat
  | [] => 0
  | x :: r => uptoBulkEntry x + uptoBulkEntries r
def uptoBulkEntry {H : Type} : Lit × DataW H → Nat
  | (.string bytes, d) => bytes.length + uptoBulk d + 1
  | (_, d) => uptoBulk d + 1
 end
def uptoSmall : (H : Type) → List (DataW H) → Bool := fun _ ds => decide (uptoBulkAll ds ≤ 1048576)
def OpenSpec.upto (s : _root_.Go.ChangeSpec) : _root_.Go.OpenSpec := { _root_.Go.OpenSpec.ofChange s with cond := some uptoSmall }

/-- 'dockmasterlaw07.NodeSplits', WHERE WHAT IT READS IS OF BULK AT MOST 1048576: true; the input reads as it did. -/
def nodeSplitsUptoRow : OpenClaim := { program := "ytfhpgmgmofganaa", sum := "8f5f1354b769cbe9c79cc0f2b2c79a9fe4e039384acd5d717ef3f1a1fbd7c055", func := "dockmaster/dockmasterlaw07.NodeSplits", spec := "nodeSplits", apart := false, narrowed := true }
def NodeSplitsUptoSaid : Prop := nodeSplitsUptoRow.holds Try.pinned (OpenSpec.upto nodeSplitsSpec)

/-- 'dockmasterlaw07.NodeParts', WHERE WHAT IT READS IS OF BULK AT MOST 1048576: true; the input reads as it did. -/
def nodePartsUptoRow : OpenClaim := { program := "ytfhpgmgmofganaa", sum := "8f5f1354b769cbe9c79cc0f2b2c79a9fe4e039384acd5d717ef3f1a1fbd7c055", func := "dockmaster/dockmasterlaw07.NodeParts", spec := "nodeParts", apart := false, narrowed := true }
def NodePartsUptoSaid : Prop := nodePartsUptoRow.holds Try.pinned (OpenSpec.upto nodePartsSpec)

/-- 'dockmasterlaw07.NodeWays', WHERE WHAT IT READS IS OF BULK AT MOST 1048576: true; the input reads as it did. -/
def nodeWaysUptoRow : OpenClaim := { program := "ytfhpgmgmofganaa", sum := "8f5f1354b769cbe9c79cc0f2b2c79a9fe4e039384acd5d717ef3f1a1fbd7c055", func := "dockmaster/dockmasterlaw07.NodeWays", spec := "nodeWays", apart := false, narrowed := true }
def NodeWaysUptoSaid : Prop := nodeWaysUptoRow.holds Try.pinned (OpenSpec.upto nodeWaysSpec)

/-- 'dockmasterlaw07.NodeOrder', WHERE WHAT IT READS IS OF BULK AT MOST 1048576: true; the input reads as it did. -/
def nodeOrderUptoRow : OpenClaim := { program := "ytfhpgmgmofganaa", sum := "8f5f1354b769cbe9c79cc0f2b2c79a9fe4e039384acd5d717ef3f1a1fbd7c055", func := "dockmaster/dockmasterlaw07.NodeOrder", spec := "nodeOrder", inPlace := ["slices.overlaps[string]"], apart := false, narrowed := true }
def NodeOrderUptoSaid : Prop := nodeOrderUptoRow.holds Try.pinned (OpenSpec.upto nodeOrderSpec)

/-- 'dockmasterlaw07.NodeLeaves', WHERE WHAT IT READS IS OF BULK AT MOST 1048576: true; the input reads as it did. -/
def nodeLeavesUptoRow : OpenClaim := { program := "ytfhpgmgmofganaa", sum := "8f5f1354b769cbe9c79cc0f2b2c79a9fe4e039384acd5d717ef3f1a1fbd7c055", func := "dockmaster/dockmasterlaw07.NodeLeaves", spec := "nodeLeaves", inPlace := ["slices.overlaps[string]"], apart := false, narrowed := true }
def NodeLeavesUptoSaid : Prop := nodeLeavesUptoRow.holds Try.pinned (OpenSpec.upto nodeLeavesSpec)

end Rows
end Go.Proofs.Ytfhpgmgmofganaa
