/-
  No cell of these rows narrows 'for every input' (looked for: loops, veiled, ifaces, maps, wideKeys, modest, calm, conditions, laid).
  DERIVED. THE GIVEN ROWS OF THIS SEAT. 4 by the template 'for every input the law returns true; each argument reads behind the call as it read before'; 0 by the template 'total and deterministic' (their statements: YtpgcoopkileclaaTotals.lean).
  GIVEN WITH THE SEED: the statements are not yours to turn. If you find one false, say at which input.
  Laid BY PROGRAM, IN A SANDBOX (cutbox-rows.mjs): the forced cells as the released guide's own fill.sh prints them over the translation 34e4b2ab235a15bb… (all of the seat's roots in one cut). By AI agents, Wed Nov 11 2026. No macro, syntax, notation, axiom, sorry.
-/
import Derived.Test.YtpgcoopkileclaaChecked
import GoSem.Claim
import GoSem.ClaimJoined
import GoSem.ClaimMapViews
import Derived.JoinedTies
import Derived.KernelRfl
namespace Go.Proofs.Ytpgcoopkileclaa
/- THE CELL 'sum', in the pinned program and in every row, IS THE sha256 OF THE DUMP (.gsa) THAT YtpgcoopkileclaaProg.lean LOADS. Nothing in Lean hashes anything: it is a label: what it is worth is what the hold of that sum in a sandbox is worth. -/
noncomputable def Try.pinned : Pinned := { name := "ytpgcoopkileclaa", sum := "34e4b2ab235a15bb101442c25580827e308e91f7de8ed454a0b5c3cfa6e78efe", checked := Try.checked }
namespace Rows
def none {H : Type} : Left H := { results := [], args := [] }

/-- 'dockmasterlaw16.NetOrder': WHATEVER THE INPUT: true; the input reads as it did. -/
def netOrderSpec : ChangeSpec := { name := "netOrder", fn := fun _ => fun
  | [d1, d2] => { results := [.lit (.bool true)], args := [d1, d2] }
  | _ => none }
def netOrderRow : OpenClaim := { program := "ytpgcoopkileclaa", sum := "34e4b2ab235a15bb101442c25580827e308e91f7de8ed454a0b5c3cfa6e78efe", func := "dockmaster/dockmasterlaw16.NetOrder", spec := "netOrder", apart := false }
def NetOrderSaid : Prop := netOrderRow.holds Try.pinned (OpenSpec.ofChange netOrderSpec)

/-- ITS FALSE NEIGHBOUR: 'it returns false'. Refute it at one input. -/
def netOrderWrong : ChangeSpec := { name := "netOrder", fn := fun _ => fun
  | [d1, d2] => { results := [.lit (.bool false)], args := [d1, d2] }
  | _ => none }
def NetOrderWrongFalsely : Prop := netOrderRow.holds Try.pinned (OpenSpec.ofChange netOrderWrong)

/-- 'dockmasterlaw16.NetRuns': WHATEVER THE INPUT: true; the input reads as it did. -/
def netRunsSpec : ChangeSpec := { name := "netRuns", fn := fun _ => fun
  | [d] => { results := [.lit (.bool true)], args := [d] }
  | _ => none }
def netRunsRow : OpenClaim := { program := "ytpgcoopkileclaa", sum := "34e4b2ab235a15bb101442c25580827e308e91f7de8ed454a0b5c3cfa6e78efe", func := "dockmaster/dockmasterlaw16.NetRuns", spec := "netRuns", apart := false }
def NetRunsSaid : Prop := netRunsRow.holds Try.pinned (OpenSpec.ofChange netRunsSpec)

/-- ITS FALSE NEIGHBOUR: 'it returns false'. Refute it at one input. -/
def netRunsWrong : ChangeSpec := { name := "netRuns", fn := fun _ => fun
  | [d] => { results := [.lit (.bool false)], args := [d] }
  | _ => none }
def NetRunsWrongFalsely : Prop := netRunsRow.holds Try.pinned (OpenSpec.ofChange netRunsWrong)

/-- 'dockmasterlaw16.NetMany': WHATEVER THE INPUT: true; the input reads as it did. -/
def netManySpec : ChangeSpec := { name := "netMany", fn := fun _ => fun
  | [d1, d2] => { results := [.lit (.bool true)], args := [d1, d2] }
  | _ => none }
def netManyRow : OpenClaim := { program := "ytpgcoopkileclaa", sum := "34e4b2ab235a15bb101442c25580827e308e91f7de8ed454a0b5c3cfa6e78efe", func := "dockmaster/dockmasterlaw16.NetMany", spec := "netMany", apart := false }
def NetManySaid : Prop := netManyRow.holds Try.pinned (OpenSpec.ofChange netManySpec)

/-- ITS FALSE NEIGHBOUR: 'it returns false'. Refute it at one input. -/
def netManyWrong : ChangeSpec := { name := "netMany", fn := fun _ => fun
  | [d1, d2] => { results := [.lit (.bool false)], args := [d1, d2] }
  | _ => none }
def NetManyWrongFalsely : Prop := netManyRow.holds Try.pinned (OpenSpec.ofChange netManyWrong)

/-- 'dockmasterlaw16.NetTwice': WHATEVER THE INPUT: true; the input reads as it did. -/
def netTwiceSpec : ChangeSpec := { name := "netTwice", fn := fun _ => fun
  | [d1, d2, d3, d4] => { results := [.lit (.bool true)], args := [d1, d2, d3, d4] }
  | _ => none }
def netTwiceRow : OpenClaim := { program := "ytpgcoopkileclaa", sum := "34e4b2ab235a15bb101442c25580827e308e91f7de8ed454a0b5c3cfa6e78efe", func := "dockmaster/dockmasterlaw16.NetTwice", spec := "netTwice", apart := false }
def NetTwiceSaid : Prop := netTwiceRow.holds Try.pinned (OpenSpec.ofChange netTwiceSpec)

/-- ITS FALSE NEIGHBOUR: 'it returns false'. Refute it at one input. -/
def netTwiceWrong : ChangeSpec := { name := "netTwice", fn := fun _ => fun
  | [d1, d2, d3, d4] => { results := [.lit (.bool false)], args := [d1, d2, d3, d4] }
  | _ => none }
def NetTwiceWrongFalsely : Prop := netTwiceRow.holds Try.pinned (OpenSpec.ofChange netTwiceWrong)

/- THE SECOND FORM. 'bulk': how many values and letters a reading holds, each counted each time it is reached (what is shared counts as often as it is met; a slice's spare places count too). A statement '..UptoSaid' is the law's where the arguments, and the package variables that the reading takes, are together of bulk at most 1048576: NARROWER than '..Said'. Prove '..Said' where nothing that the law and all that it calls make is longer than what came in: it says more and counts as full. Else prove '..UptoSaid'. A law counts once. -/
mutual
def uptoBulk {H : Type} : DataW H → Nat
  | .lit (.string bytes) => bytes.length + 1
  | .lit _ => 1
  | .nil => 1
  | .ptr d => uptoBulk d + 1
  | .slice elems spare => uptoBulkAll elems + uptoBulkAll spare + 1
  | .agg parts => uptoBulkAll parts + 1
  | .iface _ d => uptoBulk d + 1
  | .map entries => uptoBulkEntries entries + 1
  | .held _ => 1
def uptoBulkAll {H : Type} : List (DataW H) → Nat
  | [] => 0
  | d :: r => uptoBulk d + uptoBulkAll r
def uptoBulkEntries {H : Type} : List (Lit × DataW H) → Nat
  | [] => 0
  | x :: r => uptoBulkEntry x + uptoBulkEntries r
def uptoBulkEntry {H : Type} : Lit × DataW H → Nat
  | (.string bytes, d) => bytes.length + uptoBulk d + 1
  | (_, d) => uptoBulk d + 1
 end
def uptoSmall : (H : Type) → List (DataW H) → Bool := fun _ ds => decide (uptoBulkAll ds ≤ 1048576)
def OpenSpec.upto (s : _root_.Go.ChangeSpec) : _root_.Go.OpenSpec := { _root_.Go.OpenSpec.ofChange s with cond := some uptoSmall }

/-- 'dockmasterlaw16.NetOrder', WHERE WHAT IT READS IS OF BULK AT MOST 1048576: true; the input reads as it did. -/
def netOrderUptoRow : OpenClaim := { program := "ytpgcoopkileclaa", sum := "34e4b2ab235a15bb101442c25580827e308e91f7de8ed454a0b5c3cfa6e78efe", func := "dockmaster/dockmasterlaw16.NetOrder", spec := "netOrder", apart := false, narrowed := true }
def NetOrderUptoSaid : Prop := netOrderUptoRow.holds Try.pinned (OpenSpec.upto netOrderSpec)

/-- 'dockmasterlaw16.NetRuns', WHERE WHAT IT READS IS OF BULK AT MOST 1048576: true; the input reads as it did. -/
def netRunsUptoRow : OpenClaim := { program := "ytpgcoopkileclaa", sum := "34e4b2ab235a15bb101442c25580827e308e91f7de8ed454a0b5c3cfa6e78efe", func := "dockmaster/dockmasterlaw16.NetRuns", spec := "netRuns", apart := false, narrowed := true }
def NetRunsUptoSaid : Prop := netRunsUptoRow.holds Try.pinned (OpenSpec.upto netRunsSpec)

/-- 'dockmasterlaw16.NetMany', WHERE WHAT IT READS IS OF BULK AT MOST 1048576: true; the input reads as it did. -/
def netManyUptoRow : OpenClaim := { program := "ytpgcoopkileclaa", sum := "34e4b2ab235a15bb101442c25580827e308e91f7de8ed454a0b5c3cfa6e78efe", func := "dockmaster/dockmasterlaw16.NetMany", spec := "netMany", apart := false, narrowed := true }
def NetManyUptoSaid : Prop := netManyUptoRow.holds Try.pinned (OpenSpec.upto netManySpec)

/-- 'dockmasterlaw16.NetTwice', WHERE WHAT IT READS IS OF BULK AT MOST 1048576: true; the input reads as it did. -/
def netTwiceUptoRow : OpenClaim := { program := "ytpgcoopkileclaa", sum := "34e4b2ab235a15bb101442c25580827e308e91f7de8ed454a0b5c3cfa6e78efe", func := "dockmaster/dockmasterlaw16.NetTwice", spec := "netTwice", apart := false, narrowed := true }
def NetTwiceUptoSaid : Prop := netTwiceUptoRow.holds Try.pinned (OpenSpec.upto netTwiceSpec)

end Rows
end Go.Proofs.Ytpgcoopkileclaa
