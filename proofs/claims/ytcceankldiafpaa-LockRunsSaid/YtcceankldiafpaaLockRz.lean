/- LockRuns at an argument as it is given. -/
import Derived.Test.YtcceankldiafpaaLockRk
import Derived.Test.YtcceankldiafpaaLockQ
set_option maxRecDepth 100000
namespace Go.Proofs.Ytcceankldiafpaa.Lock
open Go.RowKit Go.WideShapes Go.Deep Go.Proofs.Ytcceankldiafpaa.Mem Go.Proofs.Ytcceankldiafpaa.Open Go.Proofs.Ytcceankldiafpaa.Maps
theorem runs_row {H : Type} {enc : TypeId × Value → H} {w : World} {base : Nat} {spare : Nat → Bool} {held : Bool}
    (v0 : Value) (ok0 : Value.okWide Try.prog w .any base 39 v0) (h0 : Reads1 enc Try.prog w 0 spare held 39 v0.cells.toList) :
    Calls Try.prog 7 #[v0] w fun e w' => e = .returned (.bool true) ∧ Below w.heap.size w w' := by
  obtain ⟨os, hos⟩ := ops_val ok0 h0
  exact runs_any w v0 os hos
#print axioms runs_row
end Go.Proofs.Ytcceankldiafpaa.Lock
