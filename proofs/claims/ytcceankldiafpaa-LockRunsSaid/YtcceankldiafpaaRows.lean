/-
  No cell of these rows narrows 'for every input' (looked for: loops, veiled, ifaces, maps, wideKeys, modest, calm, conditions, laid).
  DERIVED. THE GIVEN ROWS OF THIS SEAT. 7 by the template 'for every input the law returns true; each argument reads behind the call as it read before'; 0 by the template 'total and deterministic' (their statements: YtcceankldiafpaaTotals.lean).
  GIVEN WITH THE SEED: the statements are not yours to turn. If you find one false, say at which input.
  Laid BY PROGRAM, IN A SANDBOX (cutbox-rows.mjs): the forced cells as the released guide's own fill.sh prints them over the translation 4a43a331a5afa7bd… (all of the seat's roots in one cut). By AI agents, Wed Nov 11 2026. No macro, syntax, notation, axiom, sorry.
-/
import Derived.Test.YtcceankldiafpaaChecked
import GoSem.Claim
import GoSem.ClaimJoined
import GoSem.ClaimMapViews
import Derived.JoinedTies
import Derived.KernelRfl
namespace Go.Proofs.Ytcceankldiafpaa
/- THE CELL 'sum', in the pinned program and in every row, IS THE sha256 OF THE DUMP (.gsa) THAT YtcceankldiafpaaProg.lean LOADS. Nothing in Lean hashes anything: it is a label: what it is worth is what the hold of that sum in a sandbox is worth. -/
noncomputable def Try.pinned : Pinned := { name := "ytcceankldiafpaa", sum := "4a43a331a5afa7bdc4542aa1c6cdd79a98ca03fb1f5c17fd38c14f9c427974b4", checked := Try.checked }
namespace Rows
def none {H : Type} : Left H := { results := [], args := [] }

/-- 'dockmasterlaw12.LockUps': WHATEVER THE INPUT: true; the input reads as it did. -/
def lockUpsSpec : ChangeSpec := { name := "lockUps", fn := fun _ => fun
  | [d1, d2, d3] => { results := [.lit (.bool true)], args := [d1, d2, d3] }
  | _ => none }
def lockUpsRow : OpenClaim := { program := "ytcceankldiafpaa", sum := "4a43a331a5afa7bdc4542aa1c6cdd79a98ca03fb1f5c17fd38c14f9c427974b4", func := "dockmaster/dockmasterlaw12.LockUps", spec := "lockUps", inPlace := ["slices.overlaps[dockmaster/lock.Want]", "internal/bytealg.abigen_runtime_cmpstring"], unfollowed := true, recurses := true, apart := false }
def LockUpsSaid : Prop := lockUpsRow.holds Try.pinned (OpenSpec.ofChange lockUpsSpec)

/-- ITS FALSE NEIGHBOUR: 'it returns false'. Refute it at one input. -/
def lockUpsWrong : ChangeSpec := { name := "lockUps", fn := fun _ => fun
  | [d1, d2, d3] => { results := [.lit (.bool false)], args := [d1, d2, d3] }
  | _ => none }
def LockUpsWrongFalsely : Prop := lockUpsRow.holds Try.pinned (OpenSpec.ofChange lockUpsWrong)

/-- 'dockmasterlaw12.LockRound': WHATEVER THE INPUT: true; the input reads as it did. -/
def lockRoundSpec : ChangeSpec := { name := "lockRound", fn := fun _ => fun
  | [d] => { results := [.lit (.bool true)], args := [d] }
  | _ => none }
def lockRoundRow : OpenClaim := { program := "ytcceankldiafpaa", sum := "4a43a331a5afa7bdc4542aa1c6cdd79a98ca03fb1f5c17fd38c14f9c427974b4", func := "dockmaster/dockmasterlaw12.LockRound", spec := "lockRound", inPlace := ["slices.overlaps[dockmaster/lock.Want]", "internal/bytealg.abigen_runtime_cmpstring"], unfollowed := true, recurses := true, apart := false }
def LockRoundSaid : Prop := lockRoundRow.holds Try.pinned (OpenSpec.ofChange lockRoundSpec)

/-- ITS FALSE NEIGHBOUR: 'it returns false'. Refute it at one input. -/
def lockRoundWrong : ChangeSpec := { name := "lockRound", fn := fun _ => fun
  | [d] => { results := [.lit (.bool false)], args := [d] }
  | _ => none }
def LockRoundWrongFalsely : Prop := lockRoundRow.holds Try.pinned (OpenSpec.ofChange lockRoundWrong)

/-- 'dockmasterlaw12.LockReads': WHATEVER THE INPUT: true; the input reads as it did. -/
def lockReadsSpec : ChangeSpec := { name := "lockReads", fn := fun _ => fun
  | [d1, d2, d3] => { results := [.lit (.bool true)], args := [d1, d2, d3] }
  | _ => none }
def lockReadsRow : OpenClaim := { program := "ytcceankldiafpaa", sum := "4a43a331a5afa7bdc4542aa1c6cdd79a98ca03fb1f5c17fd38c14f9c427974b4", func := "dockmaster/dockmasterlaw12.LockReads", spec := "lockReads", inPlace := ["slices.overlaps[dockmaster/lock.Want]", "internal/bytealg.abigen_runtime_cmpstring"], unfollowed := true, recurses := true, apart := false }
def LockReadsSaid : Prop := lockReadsRow.holds Try.pinned (OpenSpec.ofChange lockReadsSpec)

/-- ITS FALSE NEIGHBOUR: 'it returns false'. Refute it at one input. -/
def lockReadsWrong : ChangeSpec := { name := "lockReads", fn := fun _ => fun
  | [d1, d2, d3] => { results := [.lit (.bool false)], args := [d1, d2, d3] }
  | _ => none }
def LockReadsWrongFalsely : Prop := lockReadsRow.holds Try.pinned (OpenSpec.ofChange lockReadsWrong)

/-- 'dockmasterlaw12.LockAgain': WHATEVER THE INPUT: true; the input reads as it did. -/
def lockAgainSpec : ChangeSpec := { name := "lockAgain", fn := fun _ => fun
  | [d1, d2] => { results := [.lit (.bool true)], args := [d1, d2] }
  | _ => none }
def lockAgainRow : OpenClaim := { program := "ytcceankldiafpaa", sum := "4a43a331a5afa7bdc4542aa1c6cdd79a98ca03fb1f5c17fd38c14f9c427974b4", func := "dockmaster/dockmasterlaw12.LockAgain", spec := "lockAgain", inPlace := ["slices.overlaps[dockmaster/lock.Want]", "internal/bytealg.abigen_runtime_cmpstring"], unfollowed := true, recurses := true, apart := false }
def LockAgainSaid : Prop := lockAgainRow.holds Try.pinned (OpenSpec.ofChange lockAgainSpec)

/-- ITS FALSE NEIGHBOUR: 'it returns false'. Refute it at one input. -/
def lockAgainWrong : ChangeSpec := { name := "lockAgain", fn := fun _ => fun
  | [d1, d2] => { results := [.lit (.bool false)], args := [d1, d2] }
  | _ => none }
def LockAgainWrongFalsely : Prop := lockAgainRow.holds Try.pinned (OpenSpec.ofChange lockAgainWrong)

/-- 'dockmasterlaw12.LockRuns': WHATEVER THE INPUT: true; the input reads as it did. -/
def lockRunsSpec : ChangeSpec := { name := "lockRuns", fn := fun _ => fun
  | [d] => { results := [.lit (.bool true)], args := [d] }
  | _ => none }
def lockRunsRow : OpenClaim := { program := "ytcceankldiafpaa", sum := "4a43a331a5afa7bdc4542aa1c6cdd79a98ca03fb1f5c17fd38c14f9c427974b4", func := "dockmaster/dockmasterlaw12.LockRuns", spec := "lockRuns", inPlace := ["slices.overlaps[dockmaster/lock.Want]", "internal/bytealg.abigen_runtime_cmpstring"], unfollowed := true, recurses := true, apart := false }
def LockRunsSaid : Prop := lockRunsRow.holds Try.pinned (OpenSpec.ofChange lockRunsSpec)

/-- ITS FALSE NEIGHBOUR: 'it returns false'. Refute it at one input. -/
def lockRunsWrong : ChangeSpec := { name := "lockRuns", fn := fun _ => fun
  | [d] => { results := [.lit (.bool false)], args := [d] }
  | _ => none }
def LockRunsWrongFalsely : Prop := lockRunsRow.holds Try.pinned (OpenSpec.ofChange lockRunsWrong)

/-- 'dockmasterlaw12.LockEnds': WHATEVER THE INPUT: true; the input reads as it did. -/
def lockEndsSpec : ChangeSpec := { name := "lockEnds", fn := fun _ => fun
  | [d1, d2] => { results := [.lit (.bool true)], args := [d1, d2] }
  | _ => none }
def lockEndsRow : OpenClaim := { program := "ytcceankldiafpaa", sum := "4a43a331a5afa7bdc4542aa1c6cdd79a98ca03fb1f5c17fd38c14f9c427974b4", func := "dockmaster/dockmasterlaw12.LockEnds", spec := "lockEnds", inPlace := ["slices.overlaps[dockmaster/lock.Want]", "internal/bytealg.abigen_runtime_cmpstring"], unfollowed := true, recurses := true, apart := false }
def LockEndsSaid : Prop := lockEndsRow.holds Try.pinned (OpenSpec.ofChange lockEndsSpec)

/-- ITS FALSE NEIGHBOUR: 'it returns false'. Refute it at one input. -/
def lockEndsWrong : ChangeSpec := { name := "lockEnds", fn := fun _ => fun
  | [d1, d2] => { results := [.lit (.bool false)], args := [d1, d2] }
  | _ => none }
def LockEndsWrongFalsely : Prop := lockEndsRow.holds Try.pinned (OpenSpec.ofChange lockEndsWrong)

/-- 'dockmasterlaw12.LockNil': WHATEVER THE INPUT: true; the input reads as it did. -/
def lockNilSpec : ChangeSpec := { name := "lockNil", fn := fun _ => fun
  | [d1, d2, d3] => { results := [.lit (.bool true)], args := [d1, d2, d3] }
  | _ => none }
def lockNilRow : OpenClaim := { program := "ytcceankldiafpaa", sum := "4a43a331a5afa7bdc4542aa1c6cdd79a98ca03fb1f5c17fd38c14f9c427974b4", func := "dockmaster/dockmasterlaw12.LockNil", spec := "lockNil", inPlace := ["slices.overlaps[dockmaster/lock.Want]", "internal/bytealg.abigen_runtime_cmpstring"], unfollowed := true, recurses := true, apart := false }
def LockNilSaid : Prop := lockNilRow.holds Try.pinned (OpenSpec.ofChange lockNilSpec)

/-- ITS FALSE NEIGHBOUR: 'it returns false'. Refute it at one input. -/
def lockNilWrong : ChangeSpec := { name := "lockNil", fn := fun _ => fun
  | [d1, d2, d3] => { results := [.lit (.bool false)], args := [d1, d2, d3] }
  | _ => none }
def LockNilWrongFalsely : Prop := lockNilRow.holds Try.pinned (OpenSpec.ofChange lockNilWrong)

/- THE SECOND FORM. 'bulk': how many values and letters a reading holds, each counted each time it is reached (what is shared counts as often as it is met; a slice's spare places count too). A statement '..UptoSaid' is the law's where the arguments, and the package variables that the reading takes, are together of bulk at most 1048576: NARROWER than '..Said'. Prove '..Said' where nothing that the law and all that it calls make is longer than what came in: it says more and counts as full. Else prove '..UptoSaid'. A law counts once. -/
mutual
def uptoBulk {H : Type} : DataW H → Nat
  | .lit (.string bytes) => bytes.length + 1
  | .lit _ => 1
  | .nil => 1
  | .ptr d => uptoBulk d + 1
  | .slice elems spare => uptoBulkAll elems + uptoBulkAll spare + 1
  | .agg parts => uptoBulkAll parts + 1
  | .iface _ d => uptoBulk d + 1
  | .map entries => uptoBulkEntries entries + 1
  | .held _ => 1
def uptoBulkAll {H : Type} : List (DataW H) → Nat
  | [] => 0
  | d :: r => uptoBulk d + uptoBulkAll r
def uptoBulkEntries {H : Type} : List (Lit × DataW H) → Nat
  | [] => 0
  | x :: r => uptoBulkEntry x + uptoBulkEntries r
def uptoBulkEntry {H : Type} : Lit × DataW H → Nat
  | (.string bytes, d) => bytes.length + uptoBulk d + 1
  | (_, d) => uptoBulk d + 1
 end
def uptoSmall : (H : Type) → List (DataW H) → Bool := fun _ ds => decide (uptoBulkAll ds ≤ 1048576)
def OpenSpec.upto (s : _root_.Go.ChangeSpec) : _root_.Go.OpenSpec := { _root_.Go.OpenSpec.ofChange s with cond := some uptoSmall }

/-- 'dockmasterlaw12.LockUps', WHERE WHAT IT READS IS OF BULK AT MOST 1048576: true; the input reads as it did. -/
def lockUpsUptoRow : OpenClaim := { program := "ytcceankldiafpaa", sum := "4a43a331a5afa7bdc4542aa1c6cdd79a98ca03fb1f5c17fd38c14f9c427974b4", func := "dockmaster/dockmasterlaw12.LockUps", spec := "lockUps", inPlace := ["slices.overlaps[dockmaster/lock.Want]", "internal/bytealg.abigen_runtime_cmpstring"], unfollowed := true, recurses := true, apart := false, narrowed := true }
def LockUpsUptoSaid : Prop := lockUpsUptoRow.holds Try.pinned (OpenSpec.upto lockUpsSpec)

/-- 'dockmasterlaw12.LockRound', WHERE WHAT IT READS IS OF BULK AT MOST 1048576: true; the input reads as it did. -/
def lockRoundUptoRow : OpenClaim := { program := "ytcceankldiafpaa", sum := "4a43a331a5afa7bdc4542aa1c6cdd79a98ca03fb1f5c17fd38c14f9c427974b4", func := "dockmaster/dockmasterlaw12.LockRound", spec := "lockRound", inPlace := ["slices.overlaps[dockmaster/lock.Want]", "internal/bytealg.abigen_runtime_cmpstring"], unfollowed := true, recurses := true, apart := false, narrowed := true }
def LockRoundUptoSaid : Prop := lockRoundUptoRow.holds Try.pinned (OpenSpec.upto lockRoundSpec)

/-- 'dockmasterlaw12.LockReads', WHERE WHAT IT READS IS OF BULK AT MOST 1048576: true; the input reads as it did. -/
def lockReadsUptoRow : OpenClaim := { program := "ytcceankldiafpaa", sum := "4a43a331a5afa7bdc4542aa1c6cdd79a98ca03fb1f5c17fd38c14f9c427974b4", func := "dockmaster/dockmasterlaw12.LockReads", spec := "lockReads", inPlace := ["slices.overlaps[dockmaster/lock.Want]", "internal/bytealg.abigen_runtime_cmpstring"], unfollowed := true, recurses := true, apart := false, narrowed := true }
def LockReadsUptoSaid : Prop := lockReadsUptoRow.holds Try.pinned (OpenSpec.upto lockReadsSpec)

/-- 'dockmasterlaw12.LockAgain', WHERE WHAT IT READS IS OF BULK AT MOST 1048576: true; the input reads as it did. -/
def lockAgainUptoRow : OpenClaim := { program := "ytcceankldiafpaa", sum := "4a43a331a5afa7bdc4542aa1c6cdd79a98ca03fb1f5c17fd38c14f9c427974b4", func := "dockmaster/dockmasterlaw12.LockAgain", spec := "lockAgain", inPlace := ["slices.overlaps[dockmaster/lock.Want]", "internal/bytealg.abigen_runtime_cmpstring"], unfollowed := true, recurses := true, apart := false, narrowed := true }
def LockAgainUptoSaid : Prop := lockAgainUptoRow.holds Try.pinned (OpenSpec.upto lockAgainSpec)

/-- 'dockmasterlaw12.LockRuns', WHERE WHAT IT READS IS OF BULK AT MOST 1048576: true; the input reads as it did. -/
def lockRunsUptoRow : OpenClaim := { program := "ytcceankldiafpaa", sum := "4a43a331a5afa7bdc4542aa1c6cdd79a98ca03fb1f5c17fd38c14f9c427974b4", func := "dockmaster/dockmasterlaw12.LockRuns", spec := "lockRuns", inPlace := ["slices.overlaps[dockmaster/lock.Want]", "internal/bytealg.abigen_runtime_cmpstring"], unfollowed := true, recurses := true, apart := false, narrowed := true }
def LockRunsUptoSaid : Prop := lockRunsUptoRow.holds Try.pinned (OpenSpec.upto lockRunsSpec)

/-- 'dockmasterlaw12.LockEnds', WHERE WHAT IT READS IS OF BULK AT MOST 1048576: true; the input reads as it did. -/
def lockEndsUptoRow : OpenClaim := { program := "ytcceankldiafpaa", sum := "4a43a331a5afa7bdc4542aa1c6cdd79a98ca03fb1f5c17fd38c14f9c427974b4", func := "dockmaster/dockmasterlaw12.LockEnds", spec := "lockEnds", inPlace := ["slices.overlaps[dockmaster/lock.Want]", "internal/bytealg.abigen_runtime_cmpstring"], unfollowed := true, recurses := true, apart := false, narrowed := true }
def LockEndsUptoSaid : Prop := lockEndsUptoRow.holds Try.pinned (OpenSpec.upto lockEndsSpec)

/-- 'dockmasterlaw12.LockNil', WHERE WHAT IT READS IS OF BULK AT MOST 1048576: true; the input reads as it did. -/
def lockNilUptoRow : OpenClaim := { program := "ytcceankldiafpaa", sum := "4a43a331a5afa7bdc4542aa1c6cdd79a98ca03fb1f5c17fd38c14f9c427974b4", func := "dockmaster/dockmasterlaw12.LockNil", spec := "lockNil", inPlace := ["slices.overlaps[dockmaster/lock.Want]", "internal/bytealg.abigen_runtime_cmpstring"], unfollowed := true, recurses := true, apart := false, narrowed := true }
def LockNilUptoSaid : Prop := lockNilUptoRow.holds Try.pinned (OpenSpec.upto lockNilSpec)

end Rows
end Go.Proofs.Ytcceankldiafpaa
