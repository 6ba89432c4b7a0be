/-
  No cell of these rows narrows 'for every input' (looked for: loops, veiled, ifaces, maps, wideKeys, modest, calm, conditions, laid).
  DERIVED. THE GIVEN ROWS OF THIS SEAT. 6 by the template 'for every input the law returns true; each argument reads behind the call as it read before'; 0 by the template 'total and deterministic' (their statements: YtllmaoimngeofaaTotals.lean).
  GIVEN WITH THE SEED: the statements are not yours to turn. If you find one false, say at which input.
  Laid BY PROGRAM, IN A SANDBOX (cutbox-rows.mjs): the forced cells as the released guide's own fill.sh prints them over the translation c68ba4f92b114c4b… (all of the seat's roots in one cut). By AI agents, Wed Nov 11 2026. No macro, syntax, notation, axiom, sorry.
-/
import Derived.Test.YtllmaoimngeofaaChecked
import GoSem.Claim
import GoSem.ClaimJoined
import GoSem.ClaimMapViews
import Derived.JoinedTies
import Derived.KernelRfl
namespace Go.Proofs.Ytllmaoimngeofaa
/- THE CELL 'sum', in the pinned program and in every row, IS THE sha256 OF THE DUMP (.gsa) THAT YtllmaoimngeofaaProg.lean LOADS. Nothing in Lean hashes anything: it is a label: what it is worth is what the hold of that sum in a sandbox is worth. -/
noncomputable def Try.pinned : Pinned := { name := "ytllmaoimngeofaa", sum := "c68ba4f92b114c4bfa48cf1135dd38b408f7eb4c2d71346aef98caea87c7a893", checked := Try.checked }
namespace Rows
def none {H : Type} : Left H := { results := [], args := [] }

/-- 'dockmasterlaw02.KeyHomes': WHATEVER THE INPUT: true; the input reads as it did. -/
def keyHomesSpec : ChangeSpec := { name := "keyHomes", fn := fun _ => fun
  | [d1, d2] => { results := [.lit (.bool true)], args := [d1, d2] }
  | _ => none }
def keyHomesRow : OpenClaim := { program := "ytllmaoimngeofaa", sum := "c68ba4f92b114c4bfa48cf1135dd38b408f7eb4c2d71346aef98caea87c7a893", func := "dockmaster/dockmasterlaw02.KeyHomes", spec := "keyHomes", apart := false }
def KeyHomesSaid : Prop := keyHomesRow.holds Try.pinned (OpenSpec.ofChange keyHomesSpec)

/-- ITS FALSE NEIGHBOUR: 'it returns false'. Refute it at one input. -/
def keyHomesWrong : ChangeSpec := { name := "keyHomes", fn := fun _ => fun
  | [d1, d2] => { results := [.lit (.bool false)], args := [d1, d2] }
  | _ => none }
def KeyHomesWrongFalsely : Prop := keyHomesRow.holds Try.pinned (OpenSpec.ofChange keyHomesWrong)

/-- 'dockmasterlaw02.KeyOnes': WHATEVER THE INPUT: true; the input reads as it did. -/
def keyOnesSpec : ChangeSpec := { name := "keyOnes", fn := fun _ => fun
  | [d1, d2] => { results := [.lit (.bool true)], args := [d1, d2] }
  | _ => none }
def keyOnesRow : OpenClaim := { program := "ytllmaoimngeofaa", sum := "c68ba4f92b114c4bfa48cf1135dd38b408f7eb4c2d71346aef98caea87c7a893", func := "dockmaster/dockmasterlaw02.KeyOnes", spec := "keyOnes", apart := false }
def KeyOnesSaid : Prop := keyOnesRow.holds Try.pinned (OpenSpec.ofChange keyOnesSpec)

/-- ITS FALSE NEIGHBOUR: 'it returns false'. Refute it at one input. -/
def keyOnesWrong : ChangeSpec := { name := "keyOnes", fn := fun _ => fun
  | [d1, d2] => { results := [.lit (.bool false)], args := [d1, d2] }
  | _ => none }
def KeyOnesWrongFalsely : Prop := keyOnesRow.holds Try.pinned (OpenSpec.ofChange keyOnesWrong)

/-- 'dockmasterlaw02.KeyRights': WHATEVER THE INPUT: true; the input reads as it did. -/
def keyRightsSpec : ChangeSpec := { name := "keyRights", fn := fun _ => fun
  | [d1, d2] => { results := [.lit (.bool true)], args := [d1, d2] }
  | _ => none }
def keyRightsRow : OpenClaim := { program := "ytllmaoimngeofaa", sum := "c68ba4f92b114c4bfa48cf1135dd38b408f7eb4c2d71346aef98caea87c7a893", func := "dockmaster/dockmasterlaw02.KeyRights", spec := "keyRights", apart := false }
def KeyRightsSaid : Prop := keyRightsRow.holds Try.pinned (OpenSpec.ofChange keyRightsSpec)

/-- ITS FALSE NEIGHBOUR: 'it returns false'. Refute it at one input. -/
def keyRightsWrong : ChangeSpec := { name := "keyRights", fn := fun _ => fun
  | [d1, d2] => { results := [.lit (.bool false)], args := [d1, d2] }
  | _ => none }
def KeyRightsWrongFalsely : Prop := keyRightsRow.holds Try.pinned (OpenSpec.ofChange keyRightsWrong)

/-- 'dockmasterlaw02.KeyTurns': WHATEVER THE INPUT: true; the input reads as it did. -/
def keyTurnsSpec : ChangeSpec := { name := "keyTurns", fn := fun _ => fun
  | [d1, d2, d3] => { results := [.lit (.bool true)], args := [d1, d2, d3] }
  | _ => none }
def keyTurnsRow : OpenClaim := { program := "ytllmaoimngeofaa", sum := "c68ba4f92b114c4bfa48cf1135dd38b408f7eb4c2d71346aef98caea87c7a893", func := "dockmaster/dockmasterlaw02.KeyTurns", spec := "keyTurns", inPlace := ["internal/bytealg.abigen_runtime_cmpstring", "slices.overlaps[dockmaster/api.Pair]"], unfollowed := true, recurses := true, apart := false }
def KeyTurnsSaid : Prop := keyTurnsRow.holds Try.pinned (OpenSpec.ofChange keyTurnsSpec)

/-- ITS FALSE NEIGHBOUR: 'it returns false'. Refute it at one input. -/
def keyTurnsWrong : ChangeSpec := { name := "keyTurns", fn := fun _ => fun
  | [d1, d2, d3] => { results := [.lit (.bool false)], args := [d1, d2, d3] }
  | _ => none }
def KeyTurnsWrongFalsely : Prop := keyTurnsRow.holds Try.pinned (OpenSpec.ofChange keyTurnsWrong)

/-- 'dockmasterlaw02.KeyMaps': WHATEVER THE INPUT: true; the input reads as it did. -/
def keyMapsSpec : ChangeSpec := { name := "keyMaps", fn := fun _ => fun
  | [d] => { results := [.lit (.bool true)], args := [d] }
  | _ => none }
def keyMapsRow : OpenClaim := { program := "ytllmaoimngeofaa", sum := "c68ba4f92b114c4bfa48cf1135dd38b408f7eb4c2d71346aef98caea87c7a893", func := "dockmaster/dockmasterlaw02.KeyMaps", spec := "keyMaps", inPlace := ["internal/bytealg.abigen_runtime_cmpstring", "slices.overlaps[dockmaster/api.Pair]"], unfollowed := true, recurses := true, apart := false }
def KeyMapsSaid : Prop := keyMapsRow.holds Try.pinned (OpenSpec.ofChange keyMapsSpec)

/-- ITS FALSE NEIGHBOUR: 'it returns false'. Refute it at one input. -/
def keyMapsWrong : ChangeSpec := { name := "keyMaps", fn := fun _ => fun
  | [d] => { results := [.lit (.bool false)], args := [d] }
  | _ => none }
def KeyMapsWrongFalsely : Prop := keyMapsRow.holds Try.pinned (OpenSpec.ofChange keyMapsWrong)

/-- 'dockmasterlaw02.KeySame': WHATEVER THE INPUT: true; the input reads as it did. -/
def keySameSpec : ChangeSpec := { name := "keySame", fn := fun _ => fun
  | [d1, d2, d3] => { results := [.lit (.bool true)], args := [d1, d2, d3] }
  | _ => none }
def keySameRow : OpenClaim := { program := "ytllmaoimngeofaa", sum := "c68ba4f92b114c4bfa48cf1135dd38b408f7eb4c2d71346aef98caea87c7a893", func := "dockmaster/dockmasterlaw02.KeySame", spec := "keySame", inPlace := ["internal/bytealg.abigen_runtime_cmpstring", "slices.overlaps[dockmaster/api.Pair]"], unfollowed := true, recurses := true, apart := false }
def KeySameSaid : Prop := keySameRow.holds Try.pinned (OpenSpec.ofChange keySameSpec)

/-- ITS FALSE NEIGHBOUR: 'it returns false'. Refute it at one input. -/
def keySameWrong : ChangeSpec := { name := "keySame", fn := fun _ => fun
  | [d1, d2, d3] => { results := [.lit (.bool false)], args := [d1, d2, d3] }
  | _ => none }
def KeySameWrongFalsely : Prop := keySameRow.holds Try.pinned (OpenSpec.ofChange keySameWrong)

/- THE SECOND FORM. 'bulk': how many values and letters a reading holds, each counted each time it is reached (what is shared counts as often as it is met; a slice's spare places count too). A statement '..UptoSaid' is the law's where the arguments, and the package variables that the reading takes, are together of bulk at most 1048576: NARROWER than '..Said'. Prove '..Said' where nothing that the law and all that it calls make is longer than what came in: it says more and counts as full. Else prove '..UptoSaid'. A law counts once. -/
mutual
def uptoBulk {H : Type} : DataW H → Nat
  | .lit (.string bytes) => bytes.length + 1
  | .lit _ => 1
  | .nil => 1
  | .ptr d => uptoBulk d + 1
  | .slice elems spare => uptoBulkAll elems + uptoBulkAll spare + 1
  | .agg parts => uptoBulkAll parts + 1
  | .iface _ d => uptoBulk d + 1
  | .map entries => uptoBulkEntries entries + 1
  | .held _ => 1
def uptoBulkAll {H : Type} : List (DataW H) → Nat
  | [] => 0
  | d :: r => uptoBulk d + uptoBulkAll r
def uptoBulkEntries {H : Type} : List (Lit × DataW H) → Nat
  | [] => 0
  | x :: r => uptoBulkEntry x + uptoBulkEntries r
def uptoBulkEntry {H : Type} : Lit × DataW H → Nat
  | (.string bytes, d) => bytes.length + uptoBulk d + 1
  | (_, d) => uptoBulk d + 1
 end
def uptoSmall : (H : Type) → List (DataW H) → Bool := fun _ ds => decide (uptoBulkAll ds ≤ 1048576)
def OpenSpec.upto (s : _root_.Go.ChangeSpec) : _root_.Go.OpenSpec := { _root_.Go.OpenSpec.ofChange s with cond := some uptoSmall }

/-- 'dockmasterlaw02.KeyHomes', WHERE WHAT IT READS IS OF BULK AT MOST 1048576: true; the input reads as it did. -/
def keyHomesUptoRow : OpenClaim := { program := "ytllmaoimngeofaa", sum := "c68ba4f92b114c4bfa48cf1135dd38b408f7eb4c2d71346aef98caea87c7a893", func := "dockmaster/dockmasterlaw02.KeyHomes", spec := "keyHomes", apart := false, narrowed := true }
def KeyHomesUptoSaid : Prop := keyHomesUptoRow.holds Try.pinned (OpenSpec.upto keyHomesSpec)

/-- 'dockmasterlaw02.KeyOnes', WHERE WHAT IT READS IS OF BULK AT MOST 1048576: true; the input reads as it did. -/
def keyOnesUptoRow : OpenClaim := { program := "ytllmaoimngeofaa", sum := "c68ba4f92b114c4bfa48cf1135dd38b408f7eb4c2d71346aef98caea87c7a893", func := "dockmaster/dockmasterlaw02.KeyOnes", spec := "keyOnes", apart := false, narrowed := true }
def KeyOnesUptoSaid : Prop := keyOnesUptoRow.holds Try.pinned (OpenSpec.upto keyOnesSpec)

/-- 'dockmasterlaw02.KeyRights', WHERE WHAT IT READS IS OF BULK AT MOST 1048576: true; the input reads as it did. -/
def keyRightsUptoRow : OpenClaim := { program := "ytllmaoimngeofaa", sum := "c68ba4f92b114c4bfa48cf1135dd38b408f7eb4c2d71346aef98caea87c7a893", func := "dockmaster/dockmasterlaw02.KeyRights", spec := "keyRights", apart := false, narrowed := true }
def KeyRightsUptoSaid : Prop := keyRightsUptoRow.holds Try.pinned (OpenSpec.upto keyRightsSpec)

/-- 'dockmasterlaw02.KeyTurns', WHERE WHAT IT READS IS OF BULK AT MOST 1048576: true; the input reads as it did. -/
def keyTurnsUptoRow : OpenClaim := { program := "ytllmaoimngeofaa", sum := "c68ba4f92b114c4bfa48cf1135dd38b408f7eb4c2d71346aef98caea87c7a893", func := "dockmaster/dockmasterlaw02.KeyTurns", spec := "keyTurns", inPlace := ["internal/bytealg.abigen_runtime_cmpstring", "slices.overlaps[dockmaster/api.Pair]"], unfollowed := true, recurses := true, apart := false, narrowed := true }
def KeyTurnsUptoSaid : Prop := keyTurnsUptoRow.holds Try.pinned (OpenSpec.upto keyTurnsSpec)

/-- 'dockmasterlaw02.KeyMaps', WHERE WHAT IT READS IS OF BULK AT MOST 1048576: true; the input reads as it did. -/
def keyMapsUptoRow : OpenClaim := { program := "ytllmaoimngeofaa", sum := "c68ba4f92b114c4bfa48cf1135dd38b408f7eb4c2d71346aef98caea87c7a893", func := "dockmaster/dockmasterlaw02.KeyMaps", spec := "keyMaps", inPlace := ["internal/bytealg.abigen_runtime_cmpstring", "slices.overlaps[dockmaster/api.Pair]"], unfollowed := true, recurses := true, apart := false, narrowed := true }
def KeyMapsUptoSaid : Prop := keyMapsUptoRow.holds Try.pinned (OpenSpec.upto keyMapsSpec)

/-- 'dockmasterlaw02.KeySame', WHERE WHAT IT READS IS OF BULK AT MOST 1048576: true; the input reads as it did. -/
def keySameUptoRow : OpenClaim := { program := "ytllmaoimngeofaa", sum := "c68ba4f92b114c4bfa48cf1135dd38b408f7eb4c2d71346aef98caea87c7a893", func := "dockmaster/dockmasterlaw02.KeySame", spec := "keySame", inPlace := ["internal/bytealg.abigen_runtime_cmpstring", "slices.overlaps[dockmaster/api.Pair]"], unfollowed := true, recurses := true, apart := false, narrowed := true }
def KeySameUptoSaid : Prop := keySameUptoRow.holds Try.pinned (OpenSpec.upto keySameSpec)

end Rows
end Go.Proofs.Ytllmaoimngeofaa
