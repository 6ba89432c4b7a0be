/- NetRuns: the walk, its arguments opened. -/
import Derived.Test.YtpgcoopkileclaaNetG
set_option linter.unusedVariables false
set_option linter.unusedSectionVars false
namespace Go.Proofs.Ytpgcoopkileclaa.NetA
open Go.RowKit Go.WideShapes Go.Deep Go.Proofs.Ytpgcoopkileclaa.Mem Go.Proofs.Ytpgcoopkileclaa.Open Go.Proofs.Ytpgcoopkileclaa.Bits
theorem runs_row {H : Type} {enc : TypeId × Value → H} {w : World} {base : Nat} {spare : Nat → Bool} {held : Bool}
    (v0 : Value) (ok0 : Value.okWide Try.prog w .any base 38 v0) (h0 : Reads1 enc Try.prog w 0 spare held 38 v0.cells.toList) :
    Calls Try.prog 4 #[v0] w fun e w' => e = .returned (.bool true) ∧ Below w.heap.size w w' := by
  obtain ⟨os, hos⟩ := opns_val ok0 h0
  exact runs_any v0 os w hos
#print axioms runs_row
end Go.Proofs.Ytpgcoopkileclaa.NetA
