/-
  No cell of these rows narrows 'for every input' (looked for: loops, veiled, ifaces, maps, wideKeys, modest, calm, conditions, laid).
  DERIVED. THE GIVEN ROWS OF THIS SEAT. 4 by the template 'for every input the law returns true; each argument reads behind the call as it read before'; 0 by the template 'total and deterministic' (their statements: YtffjkdeggkppnaaTotals.lean).
  GIVEN WITH THE SEED: the statements are not yours to turn. If you find one false, say at which input.
  Laid BY PROGRAM, IN A SANDBOX (cutbox-rows.mjs): the forced cells as the released guide's own fill.sh prints them over the translation 2d15ba4e6c0f09ac… (all of the seat's roots in one cut). By AI agents, Wed Nov 11 2026. No macro, syntax, notation, axiom, sorry.
-/
import Derived.Test.YtffjkdeggkppnaaChecked
import GoSem.Claim
import GoSem.ClaimJoined
import GoSem.ClaimMapViews
import Derived.JoinedTies
import Derived.KernelRfl
namespace Go.Proofs.Ytffjkdeggkppnaa
/- THE CELL 'sum', in the pinned program and in every row, IS THE sha256 OF THE DUMP (.gsa) THAT YtffjkdeggkppnaaProg.lean LOADS. Nothing in Lean hashes anything: it is a label: what it is worth is what the hold of that sum in a sandbox is worth. -/
noncomputable def Try.pinned : Pinned := { name := "ytffjkdeggkppnaa", sum := "2d15ba4e6c0f09ac506b53bc30718329080953800403c2b74965eeba7ae06385", checked := Try.checked }
namespace Rows
def none {H : Type} : Left H := { results := [], args := [] }

/-- 'dockmasterlaw19.SessApart': WHATEVER THE INPUT: true; the input reads as it did. -/
def sessApartSpec : ChangeSpec := { name := "sessApart", fn := fun _ => fun
  | [d1, d2, d3] => { results := [.lit (.bool true)], args := [d1, d2, d3] }
  | _ => none }
def sessApartRow : OpenClaim := { program := "ytffjkdeggkppnaa", sum := "2d15ba4e6c0f09ac506b53bc30718329080953800403c2b74965eeba7ae06385", func := "dockmaster/dockmasterlaw19.SessApart", spec := "sessApart", plainKeys := false, apart := false }
def SessApartSaid : Prop := sessApartRow.holds Try.pinned (OpenSpec.ofChange sessApartSpec)

/-- ITS FALSE NEIGHBOUR: 'it returns false'. Refute it at one input. -/
def sessApartWrong : ChangeSpec := { name := "sessApart", fn := fun _ => fun
  | [d1, d2, d3] => { results := [.lit (.bool false)], args := [d1, d2, d3] }
  | _ => none }
def SessApartWrongFalsely : Prop := sessApartRow.holds Try.pinned (OpenSpec.ofChange sessApartWrong)

/-- 'dockmasterlaw19.SessErrors': WHATEVER THE INPUT: true; the input reads as it did. -/
def sessErrorsSpec : ChangeSpec := { name := "sessErrors", fn := fun _ => fun
  | [d1, d2, d3, d4, d5] => { results := [.lit (.bool true)], args := [d1, d2, d3, d4, d5] }
  | _ => none }
def sessErrorsRow : OpenClaim := { program := "ytffjkdeggkppnaa", sum := "2d15ba4e6c0f09ac506b53bc30718329080953800403c2b74965eeba7ae06385", func := "dockmaster/dockmasterlaw19.SessErrors", spec := "sessErrors", unfollowed := true, recurses := true, plainKeys := false, apart := false }
def SessErrorsSaid : Prop := sessErrorsRow.holds Try.pinned (OpenSpec.ofChange sessErrorsSpec)

/-- ITS FALSE NEIGHBOUR: 'it returns false'. Refute it at one input. -/
def sessErrorsWrong : ChangeSpec := { name := "sessErrors", fn := fun _ => fun
  | [d1, d2, d3, d4, d5] => { results := [.lit (.bool false)], args := [d1, d2, d3, d4, d5] }
  | _ => none }
def SessErrorsWrongFalsely : Prop := sessErrorsRow.holds Try.pinned (OpenSpec.ofChange sessErrorsWrong)

/-- 'dockmasterlaw19.SessOnce': WHATEVER THE INPUT: true; the input reads as it did. -/
def sessOnceSpec : ChangeSpec := { name := "sessOnce", fn := fun _ => fun
  | [d1, d2, d3, d4, d5] => { results := [.lit (.bool true)], args := [d1, d2, d3, d4, d5] }
  | _ => none }
def sessOnceRow : OpenClaim := { program := "ytffjkdeggkppnaa", sum := "2d15ba4e6c0f09ac506b53bc30718329080953800403c2b74965eeba7ae06385", func := "dockmaster/dockmasterlaw19.SessOnce", spec := "sessOnce", unfollowed := true, recurses := true, plainKeys := false, apart := false }
def SessOnceSaid : Prop := sessOnceRow.holds Try.pinned (OpenSpec.ofChange sessOnceSpec)

/-- ITS FALSE NEIGHBOUR: 'it returns false'. Refute it at one input. -/
def sessOnceWrong : ChangeSpec := { name := "sessOnce", fn := fun _ => fun
  | [d1, d2, d3, d4, d5] => { results := [.lit (.bool false)], args := [d1, d2, d3, d4, d5] }
  | _ => none }
def SessOnceWrongFalsely : Prop := sessOnceRow.holds Try.pinned (OpenSpec.ofChange sessOnceWrong)

/-- 'dockmasterlaw19.SessMany': WHATEVER THE INPUT: true; the input reads as it did. -/
def sessManySpec : ChangeSpec := { name := "sessMany", fn := fun _ => fun
  | [d1, d2] => { results := [.lit (.bool true)], args := [d1, d2] }
  | _ => none }
def sessManyRow : OpenClaim := { program := "ytffjkdeggkppnaa", sum := "2d15ba4e6c0f09ac506b53bc30718329080953800403c2b74965eeba7ae06385", func := "dockmaster/dockmasterlaw19.SessMany", spec := "sessMany", unfollowed := true, recurses := true, plainKeys := false, apart := false }
def SessManySaid : Prop := sessManyRow.holds Try.pinned (OpenSpec.ofChange sessManySpec)

/-- ITS FALSE NEIGHBOUR: 'it returns false'. Refute it at one input. -/
def sessManyWrong : ChangeSpec := { name := "sessMany", fn := fun _ => fun
  | [d1, d2] => { results := [.lit (.bool false)], args := [d1, d2] }
  | _ => none }
def SessManyWrongFalsely : Prop := sessManyRow.holds Try.pinned (OpenSpec.ofChange sessManyWrong)

/- THE SECOND FORM. 'bulk': how many values and letters a reading holds, each counted each time it is reached (what is shared counts as often as it is met; a slice's spare places count too). A statement '..UptoSaid' is the law's where the arguments, and the package variables that the reading takes, are together of bulk at most 1048576: NARROWER than '..Said'. Prove '..Said' where nothing that the law and all that it calls make is longer than what came in: it says more and counts as full. Else prove '..UptoSaid'. A law counts once. -/
mutual
def uptoBulk {H : Type} : DataW H → Nat
  | .lit (.string bytes) => bytes.length + 1
  | .lit _ => 1
  | .nil => 1
  | .ptr d => uptoBulk d + 1
  | .slice elems spare => uptoBulkAll elems + uptoBulkAll spare + 1
  | .agg parts => uptoBulkAll parts + 1
  | .iface _ d => uptoBulk d + 1
  | .map entries => uptoBulkEntries entries + 1
  | .held _ => 1
def uptoBulkAll {H : Type} : List (DataW H) → Nat
  | [] => 0
  | d :: r => uptoBulk d + uptoBulkAll r
def uptoBulkEntries {H : Type} : List (Lit × DataW H) → Nat
  | [] => 0
  | x :: r => uptoBulkEntry x + uptoBulkEntries r
def uptoBulkEntry {H : Type} : Lit × DataW H → Nat
  | (.string bytes, d) => bytes.length + uptoBulk d + 1
  | (_, d) => uptoBulk d + 1
 end
def uptoSmall : (H : Type) → List (DataW H) → Bool := fun _ ds => decide (uptoBulkAll ds ≤ 1048576)
def OpenSpec.upto (s : _root_.Go.ChangeSpec) : _root_.Go.OpenSpec := { _root_.Go.OpenSpec.ofChange s with cond := some uptoSmall }

/-- 'dockmasterlaw19.SessApart', WHERE WHAT IT READS IS OF BULK AT MOST 1048576: true; the input reads as it did. -/
def sessApartUptoRow : OpenClaim := { program := "ytffjkdeggkppnaa", sum := "2d15ba4e6c0f09ac506b53bc30718329080953800403c2b74965eeba7ae06385", func := "dockmaster/dockmasterlaw19.SessApart", spec := "sessApart", plainKeys := false, apart := false, narrowed := true }
def SessApartUptoSaid : Prop := sessApartUptoRow.holds Try.pinned (OpenSpec.upto sessApartSpec)

/-- 'dockmasterlaw19.SessErrors', WHERE WHAT IT READS IS OF BULK AT MOST 1048576: true; the input reads as it did. -/
def sessErrorsUptoRow : OpenClaim := { program := "ytffjkdeggkppnaa", sum := "2d15ba4e6c0f09ac506b53bc30718329080953800403c2b74965eeba7ae06385", func := "dockmaster/dockmasterlaw19.SessErrors", spec := "sessErrors", unfollowed := true, recurses := true, plainKeys := false, apart := false, narrowed := true }
def SessErrorsUptoSaid : Prop := sessErrorsUptoRow.holds Try.pinned (OpenSpec.upto sessErrorsSpec)

/-- 'dockmasterlaw19.SessOnce', WHERE WHAT IT READS IS OF BULK AT MOST 1048576: true; the input reads as it did. -/
def sessOnceUptoRow : OpenClaim := { program := "ytffjkdeggkppnaa", sum := "2d15ba4e6c0f09ac506b53bc30718329080953800403c2b74965eeba7ae06385", func := "dockmaster/dockmasterlaw19.SessOnce", spec := "sessOnce", unfollowed := true, recurses := true, plainKeys := false, apart := false, narrowed := true }
def SessOnceUptoSaid : Prop := sessOnceUptoRow.holds Try.pinned (OpenSpec.upto sessOnceSpec)

/-- 'dockmasterlaw19.SessMany', WHERE WHAT IT READS IS OF BULK AT MOST 1048576: true; the input reads as it did. -/
def sessManyUptoRow : OpenClaim := { program := "ytffjkdeggkppnaa", sum := "2d15ba4e6c0f09ac506b53bc30718329080953800403c2b74965eeba7ae06385", func := "dockmaster/dockmasterlaw19.SessMany", spec := "sessMany", unfollowed := true, recurses := true, plainKeys := false, apart := false, narrowed := true }
def SessManyUptoSaid : Prop := sessManyUptoRow.holds Try.pinned (OpenSpec.upto sessManySpec)

end Rows
end Go.Proofs.Ytffjkdeggkppnaa
