/- fate, of any error. -/
import Derived.Test.YthkacajlbenflaaHistN
set_option linter.unusedVariables false
set_option linter.unusedSimpArgs false
namespace Go.Proofs.Ythkacajlbenflaa.HistG
open Go.RowKit Go.WideShapes Go.Deep Go.Proofs.Ythkacajlbenflaa.Mem Go.Proofs.Ythkacajlbenflaa.Maps Go.Proofs.Ythkacajlbenflaa.Kv Go.Proofs.Ythkacajlbenflaa.Open Go.Proofs.Ythkacajlbenflaa.HistA
set_option maxHeartbeats 2000000 in
theorem fate_b (c : Int) (w : World) (b0 b1 b7 b5 : Bool) (h0 : (c != 0) = b0) (h1 : (c != 1) = b1) (h7 : (c != 7) = b7) (h5 : (c != 5) = b5) :
    Calls Try.prog 32 #[.int .i64 c] w fun e w' => e = .returned (.bool (b0 && b1 && b7 && b5)) ∧ w' = w := by
  cases b0 <;> cases b1 <;> cases b7 <;> cases b5
  all_goals
    go_enter Try.func32, Try.ntmps32
    go_wp2_with fail
    go_ret
    exact ⟨rfl, rfl⟩
theorem fate_g (c : Int) (w : World) : Calls Try.prog 32 #[.int .i64 c] w fun e w' => e = .returned (.bool (fateB c)) ∧ w' = w := by
  have e : fateB c = ((c != 0) && (c != 1) && (c != 7) && (c != 5)) := by
    unfold fateB
    have hd : ∀ k : Int, decide (c ≠ k) = (c != k) := fun k => by
      by_cases h : c = k <;> simp [h]
    rw [hd, hd, hd, hd]
  rw [e]
  exact fate_b c w _ _ _ _ rfl rfl rfl rfl
#print axioms fate_g
end Go.Proofs.Ythkacajlbenflaa.HistG
