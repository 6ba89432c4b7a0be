/-
  No cell of these rows narrows 'for every input' (looked for: loops, veiled, ifaces, maps, wideKeys, modest, calm, conditions, laid).
  DERIVED. THE GIVEN ROWS OF THIS SEAT. 5 by the template 'for every input the law returns true; each argument reads behind the call as it read before'; 0 by the template 'total and deterministic' (their statements: YthkacajlbenflaaTotals.lean).
  GIVEN WITH THE SEED: the statements are not yours to turn. If you find one false, say at which input.
  Laid BY PROGRAM, IN A SANDBOX (cutbox-rows.mjs): the forced cells as the released guide's own fill.sh prints them over the translation cdc6fbdb4ca0ba5a… (all of the seat's roots in one cut). By AI agents, Wed Nov 11 2026. No macro, syntax, notation, axiom, sorry.
-/
import Derived.Test.YthkacajlbenflaaChecked
import GoSem.Claim
import GoSem.ClaimJoined
import GoSem.ClaimMapViews
import Derived.JoinedTies
import Derived.KernelRfl
namespace Go.Proofs.Ythkacajlbenflaa
/- THE CELL 'sum', in the pinned program and in every row, IS THE sha256 OF THE DUMP (.gsa) THAT YthkacajlbenflaaProg.lean LOADS. Nothing in Lean hashes anything: it is a label: what it is worth is what the hold of that sum in a sandbox is worth. -/
noncomputable def Try.pinned : Pinned := { name := "ythkacajlbenflaa", sum := "cdc6fbdb4ca0ba5a1bb3230bffdadb04b43782e72ce8d0d2b1dbc9a35248827c", checked := Try.checked }
namespace Rows
def none {H : Type} : Left H := { results := [], args := [] }

/-- 'dockmasterlaw22.HistParts': WHATEVER THE INPUT: true; the input reads as it did. -/
def histPartsSpec : ChangeSpec := { name := "histParts", fn := fun _ => fun
  | [d1, d2] => { results := [.lit (.bool true)], args := [d1, d2] }
  | _ => none }
def histPartsRow : OpenClaim := { program := "ythkacajlbenflaa", sum := "cdc6fbdb4ca0ba5a1bb3230bffdadb04b43782e72ce8d0d2b1dbc9a35248827c", func := "dockmaster/dockmasterlaw22.HistParts", spec := "histParts", plainKeys := false, apart := false }
def HistPartsSaid : Prop := histPartsRow.holds Try.pinned (OpenSpec.ofChange histPartsSpec)

/-- ITS FALSE NEIGHBOUR: 'it returns false'. Refute it at one input. -/
def histPartsWrong : ChangeSpec := { name := "histParts", fn := fun _ => fun
  | [d1, d2] => { results := [.lit (.bool false)], args := [d1, d2] }
  | _ => none }
def HistPartsWrongFalsely : Prop := histPartsRow.holds Try.pinned (OpenSpec.ofChange histPartsWrong)

/-- 'dockmasterlaw22.HistOrders': WHATEVER THE INPUT: true; the input reads as it did. -/
def histOrdersSpec : ChangeSpec := { name := "histOrders", fn := fun _ => fun
  | [d1, d2] => { results := [.lit (.bool true)], args := [d1, d2] }
  | _ => none }
def histOrdersRow : OpenClaim := { program := "ythkacajlbenflaa", sum := "cdc6fbdb4ca0ba5a1bb3230bffdadb04b43782e72ce8d0d2b1dbc9a35248827c", func := "dockmaster/dockmasterlaw22.HistOrders", spec := "histOrders", unfollowed := true, recurses := true, plainKeys := false, apart := false }
def HistOrdersSaid : Prop := histOrdersRow.holds Try.pinned (OpenSpec.ofChange histOrdersSpec)

/-- ITS FALSE NEIGHBOUR: 'it returns false'. Refute it at one input. -/
def histOrdersWrong : ChangeSpec := { name := "histOrders", fn := fun _ => fun
  | [d1, d2] => { results := [.lit (.bool false)], args := [d1, d2] }
  | _ => none }
def HistOrdersWrongFalsely : Prop := histOrdersRow.holds Try.pinned (OpenSpec.ofChange histOrdersWrong)

/-- 'dockmasterlaw22.HistPlays': WHATEVER THE INPUT: true; the input reads as it did. -/
def histPlaysSpec : ChangeSpec := { name := "histPlays", fn := fun _ => fun
  | [d1, d2] => { results := [.lit (.bool true)], args := [d1, d2] }
  | _ => none }
def histPlaysRow : OpenClaim := { program := "ythkacajlbenflaa", sum := "cdc6fbdb4ca0ba5a1bb3230bffdadb04b43782e72ce8d0d2b1dbc9a35248827c", func := "dockmaster/dockmasterlaw22.HistPlays", spec := "histPlays", inPlace := ["internal/bytealg.abigen_runtime_cmpstring", "slices.overlaps[dockmaster/api.Pair]"], unfollowed := true, recurses := true, plainKeys := false, apart := false }
def HistPlaysSaid : Prop := histPlaysRow.holds Try.pinned (OpenSpec.ofChange histPlaysSpec)

/-- ITS FALSE NEIGHBOUR: 'it returns false'. Refute it at one input. -/
def histPlaysWrong : ChangeSpec := { name := "histPlays", fn := fun _ => fun
  | [d1, d2] => { results := [.lit (.bool false)], args := [d1, d2] }
  | _ => none }
def HistPlaysWrongFalsely : Prop := histPlaysRow.holds Try.pinned (OpenSpec.ofChange histPlaysWrong)

/-- 'dockmasterlaw22.HistOne': WHATEVER THE INPUT: true; the input reads as it did. -/
def histOneSpec : ChangeSpec := { name := "histOne", fn := fun _ => fun
  | [d1, d2, d3] => { results := [.lit (.bool true)], args := [d1, d2, d3] }
  | _ => none }
def histOneRow : OpenClaim := { program := "ythkacajlbenflaa", sum := "cdc6fbdb4ca0ba5a1bb3230bffdadb04b43782e72ce8d0d2b1dbc9a35248827c", func := "dockmaster/dockmasterlaw22.HistOne", spec := "histOne", inPlace := ["internal/bytealg.abigen_runtime_cmpstring", "slices.overlaps[dockmaster/api.Pair]"], unfollowed := true, recurses := true, plainKeys := false, apart := false }
def HistOneSaid : Prop := histOneRow.holds Try.pinned (OpenSpec.ofChange histOneSpec)

/-- ITS FALSE NEIGHBOUR: 'it returns false'. Refute it at one input. -/
def histOneWrong : ChangeSpec := { name := "histOne", fn := fun _ => fun
  | [d1, d2, d3] => { results := [.lit (.bool false)], args := [d1, d2, d3] }
  | _ => none }
def HistOneWrongFalsely : Prop := histOneRow.holds Try.pinned (OpenSpec.ofChange histOneWrong)

/-- 'dockmasterlaw22.HistFolds': WHATEVER THE INPUT: true; the input reads as it did. -/
def histFoldsSpec : ChangeSpec := { name := "histFolds", fn := fun _ => fun
  | [d1, d2] => { results := [.lit (.bool true)], args := [d1, d2] }
  | _ => none }
def histFoldsRow : OpenClaim := { program := "ythkacajlbenflaa", sum := "cdc6fbdb4ca0ba5a1bb3230bffdadb04b43782e72ce8d0d2b1dbc9a35248827c", func := "dockmaster/dockmasterlaw22.HistFolds", spec := "histFolds", inPlace := ["internal/bytealg.abigen_runtime_cmpstring", "slices.overlaps[dockmaster/api.Pair]"], unfollowed := true, recurses := true, plainKeys := false, apart := false }
def HistFoldsSaid : Prop := histFoldsRow.holds Try.pinned (OpenSpec.ofChange histFoldsSpec)

/-- ITS FALSE NEIGHBOUR: 'it returns false'. Refute it at one input. -/
def histFoldsWrong : ChangeSpec := { name := "histFolds", fn := fun _ => fun
  | [d1, d2] => { results := [.lit (.bool false)], args := [d1, d2] }
  | _ => none }
def HistFoldsWrongFalsely : Prop := histFoldsRow.holds Try.pinned (OpenSpec.ofChange histFoldsWrong)

/- THE SECOND FORM. 'bulk': how many values and letters a reading holds, each counted each time it is reached (what is shared counts as often as it is met; a slice's spare places count too). A statement '..UptoSaid' is the law's where the arguments, and the package variables that the reading takes, are together of bulk at most 1048576: NARROWER than '..Said'. Prove '..Said' where nothing that the law and all that it calls make is longer than what came in: it says more and counts as full. Else prove '..UptoSaid'. A law counts once. -/
mutual
def uptoBulk {H : Type} : DataW H → Nat
  | .lit (.string bytes) => bytes.length + 1
  | .lit _ => 1
  | .nil => 1
  | .ptr d => uptoBulk d + 1
  | .slice elems spare => uptoBulkAll elems + uptoBulkAll spare + 1
  | .agg parts => uptoBulkAll parts + 1
  | .iface _ d => uptoBulk d + 1
  | .map entries => uptoBulkEntries entries + 1
  | .held _ => 1
def uptoBulkAll {H : Type} : List (DataW H) → Nat
  | [] => 0
  | d :: r => uptoBulk d + uptoBulkAll r
def uptoBulkEntries {H : Type} : List (Lit × DataW H) → Nat
  | [] => 0
  | x :: r => uptoBulkEntry x + uptoBulkEntries r
def uptoBulkEntry {H : Type} : Lit × DataW H → Nat
  | (.string bytes, d) => bytes.length + uptoBulk d + 1
  | (_, d) => uptoBulk d + 1
 end
def uptoSmall : (H : Type) → List (DataW H) → Bool := fun _ ds => decide (uptoBulkAll ds ≤ 1048576)
def OpenSpec.upto (s : _root_.Go.ChangeSpec) : _root_.Go.OpenSpec := { _root_.Go.OpenSpec.ofChange s with cond := some uptoSmall }

/-- 'dockmasterlaw22.HistParts', WHERE WHAT IT READS IS OF BULK AT MOST 1048576: true; the input reads as it did. -/
def histPartsUptoRow : OpenClaim := { program := "ythkacajlbenflaa", sum := "cdc6fbdb4ca0ba5a1bb3230bffdadb04b43782e72ce8d0d2b1dbc9a35248827c", func := "dockmaster/dockmasterlaw22.HistParts", spec := "histParts", plainKeys := false, apart := false, narrowed := true }
def HistPartsUptoSaid : Prop := histPartsUptoRow.holds Try.pinned (OpenSpec.upto histPartsSpec)

/-- 'dockmasterlaw22.HistOrders', WHERE WHAT IT READS IS OF BULK AT MOST 1048576: true; the input reads as it did. -/
def histOrdersUptoRow : OpenClaim := { program := "ythkacajlbenflaa", sum := "cdc6fbdb4ca0ba5a1bb3230bffdadb04b43782e72ce8d0d2b1dbc9a35248827c", func := "dockmaster/dockmasterlaw22.HistOrders", spec := "histOrders", unfollowed := true, recurses := true, plainKeys := false, apart := false, narrowed := true }
def HistOrdersUptoSaid : Prop := histOrdersUptoRow.holds Try.pinned (OpenSpec.upto histOrdersSpec)

/-- 'dockmasterlaw22.HistPlays', WHERE WHAT IT READS IS OF BULK AT MOST 1048576: true; the input reads as it did. -/
def histPlaysUptoRow : OpenClaim := { program := "ythkacajlbenflaa", sum := "cdc6fbdb4ca0ba5a1bb3230bffdadb04b43782e72ce8d0d2b1dbc9a35248827c", func := "dockmaster/dockmasterlaw22.HistPlays", spec := "histPlays", inPlace := ["internal/bytealg.abigen_runtime_cmpstring", "slices.overlaps[dockmaster/api.Pair]"], unfollowed := true, recurses := true, plainKeys := false, apart := false, narrowed := true }
def HistPlaysUptoSaid : Prop := histPlaysUptoRow.holds Try.pinned (OpenSpec.upto histPlaysSpec)

/-- 'dockmasterlaw22.HistOne', WHERE WHAT IT READS IS OF BULK AT MOST 1048576: true; the input reads as it did. -/
def histOneUptoRow : OpenClaim := { program := "ythkacajlbenflaa", sum := "cdc6fbdb4ca0ba5a1bb3230bffdadb04b43782e72ce8d0d2b1dbc9a35248827c", func := "dockmaster/dockmasterlaw22.HistOne", spec := "histOne", inPlace := ["internal/bytealg.abigen_runtime_cmpstring", "slices.overlaps[dockmaster/api.Pair]"], unfollowed := true, recurses := true, plainKeys := false, apart := false, narrowed := true }
def HistOneUptoSaid : Prop := histOneUptoRow.holds Try.pinned (OpenSpec.upto histOneSpec)

/-- 'dockmasterlaw22.HistFolds', WHERE WHAT IT READS IS OF BULK AT MOST 1048576: true; the input reads as it did. -/
def histFoldsUptoRow : OpenClaim := { program := "ythkacajlbenflaa", sum := "cdc6fbdb4ca0ba5a1bb3230bffdadb04b43782e72ce8d0d2b1dbc9a35248827c", func := "dockmaster/dockmasterlaw22.HistFolds", spec := "histFolds", inPlace := ["internal/bytealg.abigen_runtime_cmpstring", "slices.overlaps[dockmaster/api.Pair]"], unfollowed := true, recurses := true, plainKeys := false, apart := false, narrowed := true }
def HistFoldsUptoSaid : Prop := histFoldsUptoRow.holds Try.pinned (OpenSpec.upto histFoldsSpec)

end Rows
end Go.Proofs.Ythkacajlbenflaa
