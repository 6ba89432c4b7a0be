/- Names of transactions as a map's keys: any two numbers that fit. -/
import Derived.Test.YthkacajlbenflaaMapS
import Derived.Test.YthkacajlbenflaaMem
import Derived.Test.YthkacajlbenflaaProg
import Derived.DeepKeys4
set_option linter.unusedVariables false
set_option linter.unusedSimpArgs false
namespace Go.Proofs.Ythkacajlbenflaa.Tid
open Go.RowKit Go.WideShapes Go.Proofs.Ythkacajlbenflaa.Mem Go.Proofs.Ythkacajlbenflaa.Maps
theorem laidOut : laidOutB Try.prog = true := by kernel_rfl
def encT (p : Int × Int) : Value := .agg #[.int .u64 p.1, .int .i64 p.2]
def IdOk (p : Int × Int) : Prop := (Lit.int .u64 p.1).wf = true ∧ (Lit.int .i64 p.2).wf = true
theorem key_tid (p : Int × Int) (h : IdOk p) : ∃ l, keyOf Try.prog 30 (encT p) = some l := by
  obtain ⟨a, b⟩ := p
  obtain ⟨h1, h2⟩ := h
  unfold keyOf
  rw [Try.underlying30]
  have k1 : Try.prog.keyType 30 = true := by kernel_rfl
  have k2 : (encT (a, b)).formed Try.prog 30 = true := by
    simp [Value.formed, encT, Try.underlying30]
    kernel_rfl
  simp only [k1, k2, Bool.and_true, if_true, Option.map_eq_some_iff]
  have h3 : ∃ d, Try.prog.types.size + 1 = d + 2 := ⟨Try.prog.types.size - 1, by kernel_rfl⟩
  obtain ⟨d, hd⟩ := h3
  rw [hd]
  have h4 : Try.prog.cellsOf 30 = 2 := by kernel_rfl
  have h5 : Try.prog.cellsOf 28 = 1 := by kernel_rfl
  have h6 : Try.prog.cellsOf 3 = 1 := by kernel_rfl
  refine ⟨_, [.int .u64 a, .int .i64 b], ?_, rfl⟩
  simp [Program.keyLits, Try.underlying30, Try.underlying28, Try.underlying3, encT, Value.cells, h1, h2, h4, h5, h6]
theorem km_tid : Km Try.prog 30 encT IdOk :=
  ⟨Maps.Keyed.of_law (deep_law_laid laidOut (m := 2) (by omega) (of_decide_eq_true (by kernel_rfl)) (by kernel_rfl) (by kernel_rfl)), fun x hx => key_tid x hx, fun x y e => by
    obtain ⟨a, b⟩ := x
    obtain ⟨c, d⟩ := y
    simp [encT] at e
    obtain ⟨rfl, rfl⟩ := e
    rfl⟩
#print axioms km_tid
end Go.Proofs.Ythkacajlbenflaa.Tid
