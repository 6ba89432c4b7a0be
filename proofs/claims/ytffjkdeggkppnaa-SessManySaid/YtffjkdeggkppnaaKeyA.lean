/- The contracts of key.Hash, key.Home, key.Right, key.Value and of the law's head. -/
import Derived.Test.YtffjkdeggkppnaaProg
import Derived.WalkKit
import Derived.WalkSpells
import Derived.Deep.LoopGhost
import Derived.Deep.Draws
import Derived.KernelRfl
import Derived.Lib.Hide
set_option linter.unusedVariables false
set_option linter.unusedSimpArgs false
namespace Go.Proofs.Ytffjkdeggkppnaa.KeyA
open Go.RowKit
def rightZ (n : Nat) : Int := if n = 0 then 1 else if 24 < n then 7 else 0
def valueZ (n : Nat) : Int := if 48 < n then 7 else 0
theorem size_toList (s : ByteArray) : s.toList.length = s.size := by rw [ByteArray.toList_eq]; simp
theorem toList_nil (s : ByteArray) : s.toList = [] ↔ s.size = 0 := by
  rw [← List.length_eq_zero_iff, size_toList]
theorem right_any (s : ByteArray) (w : World) (hs : s.size ≤ 9223372036854775807) :
    Calls Try.prog 13 #[.string s] w fun e w' => e = .returned (.int .i64 (rightZ s.size)) ∧ w = w' := by
  unfold rightZ
  by_cases c1 : s.size = 0
  · rw [if_pos c1]
    have e1 : s.toList = [] := (toList_nil s).2 c1
    have e2 : (!s.toList.isEmpty) = false := by rw [e1]; rfl
    clear c1
    go_enter Try.func13, Try.ntmps13
    go_wp2
    go_ret
    exact ⟨rfl, rfl⟩
  · rw [if_neg c1]
    have e1 : s.toList.isEmpty = false := by
      cases h : s.toList with
      | nil => exact absurd ((toList_nil s).1 h) c1
      | cons a l => rfl
    by_cases c2 : 24 < s.size
    · rw [if_pos c2]
      go_enter Try.func13, Try.ntmps13
      go_wp2
      go_ret
      exact ⟨rfl, rfl⟩
    · rw [if_neg c2]
      go_enter Try.func13, Try.ntmps13
      go_wp2
      go_ret
      exact ⟨rfl, rfl⟩
theorem value_any (s : ByteArray) (w : World) (hs : s.size ≤ 9223372036854775807) :
    Calls Try.prog 14 #[.string s] w fun e w' => e = .returned (.int .i64 (valueZ s.size)) ∧ w = w' := by
  unfold valueZ
  by_cases c2 : 48 < s.size
  · rw [if_pos c2]
    go_enter Try.func14, Try.ntmps14
    go_wp2
    go_ret
    exact ⟨rfl, rfl⟩
  · rw [if_neg c2]
    go_enter Try.func14, Try.ntmps14
    go_wp2
    go_ret
    exact ⟨rfl, rfl⟩
end Go.Proofs.Ytffjkdeggkppnaa.KeyA
