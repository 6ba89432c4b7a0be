/- NodeLeaves: both walks. -/
import Derived.Test.YtfhpgmgmofganaaNodeI
import Derived.Test.YtfhpgmgmofganaaNodeJ
set_option linter.unusedVariables false
set_option linter.unusedSimpArgs false
set_option linter.unusedSectionVars false
namespace Go.Proofs.Ytfhpgmgmofganaa.NodeA
open Go.RowKit Go.WideShapes Go.Deep Go.Proofs.Ytfhpgmgmofganaa.Mem Go.Proofs.Ytfhpgmgmofganaa.Open Go.Proofs.Ytfhpgmgmofganaa.Kv
set_option maxRecDepth 100000 in
theorem leaves_row {H : Type} {enc : TypeId × Value → H} {w : World} {base : Nat} {spare : Nat → Bool} {held : Bool}
    (v0 : Value) (ok0 : Value.okWide Try.prog w .any base 22 v0) (h0 : Reads1 enc Try.prog w 0 spare held 22 v0.cells.toList) (k : S) (hk : k.size ≤ 140737488351232) (v : S) (_ : v.size ≤ 140737488351232) :
    Calls Try.prog 7 #[v0, .string k, .string v] w fun e w' => e = .returned (.bool true) ∧ Below w.heap.size w w' := by
  obtain ⟨a, l, c, e⟩ := okWide_slice Try.underlying22 ok0
  obtain ⟨keys, hks, hsz⟩ := strings_of h0 (by rw [e]; rfl)
  by_cases hn : keys.length ≤ 20
  · cases hh : here (kp (leafK keys)) k with
    | true => exact leaves_true w hks hn hsz k v (by omega) hh
    | false => exact leaves_false w hks hn hsz k v (by omega) hh
  · obtain ⟨_, A, c, rfl, _, _, _⟩ := hks
    have hn2 : ¬ ((keys.length : Int) ≤ 20) := by omega
    have hn3 : (20 : Int) < (keys.length : Int) := by omega
    go_enter Try.func7, Try.ntmps7
    go_wp2_with fail
    refine (head_any w).mono ?_
    rintro e w0 ⟨rfl, hb0⟩
    have HB0 := Lib.hid hb0
    clear hb0
    go_wp2_with fail
    go_ret
    exact ⟨rfl, HB0.out⟩
#print axioms leaves_row
end Go.Proofs.Ytfhpgmgmofganaa.NodeA
