/- Results of which one is a struct's variable. -/
import Derived.Test.YtcceankldiafpaaMem
import Derived.Laws.ResultCell
set_option linter.unusedVariables false
namespace Go.Proofs.Ytcceankldiafpaa.Res
open Go.RowKit
variable {P : Program}
/-- A struct's variable, and a temporary. -/
theorem results_row_tmp {fn : Func} {p u : Tmp} {ty : TypeId} (h : fn.results = #[.cell p ty, .tmp u]) (tmps : Array Value) (w : World) {g : Nat} {t : TypeId} {cs : Array Value} {fr : Nat × Nat} {d : TypeDesc}
    (hg : w.heap[g]? = some (.cells cs t fr)) (hp : tmps.getD p undef = .pointer (some ⟨g, 0, none⟩))
    (hu : P.underlying ty = some d) (hd : (match d with | .struct _ | .array _ _ => true | _ => false) = true) (hi : (P.info? ty).map (·.size) = some cs.size) :
    (results fn tmps).run P w = .ok (.tuple #[.agg cs, tmps.getD u undef]) w := by
  rw [results_cell_tmp h, hp]
  simp [asAddr, run_loadVar_row w g t ty cs fr d hg hu hd hi, Result.andThen]
/-- The cells of a block of two, laid anew. -/
theorem row2_set {w : World} {g : Nat} {a b c d : Value} {t : TypeId} (h : w.heap[g]? = some (.cells #[a, b] t (0, 0))) :
    ((w.setCell ⟨g, 0, none⟩ c).setCell ⟨g, 1, none⟩ d).heap[g]? = some (.cells #[c, d] t (0, 0)) := by
  have := heap_setCell_same _ g 1 _ t d (heap_setCell_same w g 0 _ t c h)
  simpa using this
theorem row2_facts {w : World} {g : Nat} {a b : Value} {t : TypeId} (h : w.heap[g]? = some (.cells #[a, b] t (0, 0))) :
    w.cell? ⟨g, 0, none⟩ = some a ∧ w.cell? ⟨g, 1, none⟩ = some b ∧ w.frozen? ⟨g, 0, none⟩ = false ∧ w.frozen? ⟨g, 1, none⟩ = false :=
  ⟨by rw [cell_of_row _ _ _ _ _ _ h]; rfl, by rw [cell_of_row _ _ _ _ _ _ h]; rfl, by unfold World.frozen?; rw [h]; rfl, by unfold World.frozen?; rw [h]; rfl⟩
#print axioms results_row_tmp
end Go.Proofs.Ytcceankldiafpaa.Res
