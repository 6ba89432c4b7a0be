/- The laws KeyRights and KeyOnes, walked. -/
import Derived.Test.YtllmaoimngeofaaKeyA
set_option linter.unusedVariables false
namespace Go.Proofs.Ytllmaoimngeofaa.KeyB
open Go.RowKit Go.Proofs.Ytllmaoimngeofaa.KeyA

set_option maxHeartbeats 1000000 in
theorem rights_any (k v : ByteArray) (w : World) (hk : k.size ≤ 140737488351232) (hv : v.size ≤ 140737488351232) :
    Calls Try.prog 5 #[.string k, .string v] w fun e w' => e = .returned (.bool true) ∧ Below w.heap.size w w' := by
  by_cases c0 : k.size = 0
  · have r0 : (((k.size : Nat) : Int) == 0) = true := by rw [c0]; rfl
    have r1 : (rightZ k.size == 1) = true := by unfold rightZ; rw [if_pos c0]; rfl
    clear c0
    by_cases c2 : 48 < v.size
    · have v0 : (valueZ v.size == 0) = false := by unfold valueZ; rw [if_pos c2]; rfl
      have v1 : (valueZ v.size == 7) = true := by unfold valueZ; rw [if_pos c2]; rfl
      have v2 : decide ((v.size : Int) ≤ 48) = false := decide_eq_false (by omega)
      go_enter Try.func5, Try.ntmps5
      go_wp2_with (first | (go_at_call 9; refine (head_any _).mono ?_; rintro e w' ⟨rfl, rfl⟩) | (go_at_call 12; refine (right_any _ _ (by omega)).mono ?_; rintro e w' ⟨rfl, rfl⟩) | (go_at_call 13; refine (value_any _ _ (by omega)).mono ?_; rintro e w' ⟨rfl, rfl⟩))
      go_ret
      exact ⟨rfl, Below.refl _ _⟩
    · have v0 : (valueZ v.size == 0) = true := by unfold valueZ; rw [if_neg c2]; rfl
      have v2 : decide ((v.size : Int) ≤ 48) = true := decide_eq_true (by omega)
      go_enter Try.func5, Try.ntmps5
      go_wp2_with (first | (go_at_call 9; refine (head_any _).mono ?_; rintro e w' ⟨rfl, rfl⟩) | (go_at_call 12; refine (right_any _ _ (by omega)).mono ?_; rintro e w' ⟨rfl, rfl⟩) | (go_at_call 13; refine (value_any _ _ (by omega)).mono ?_; rintro e w' ⟨rfl, rfl⟩))
      go_ret
      exact ⟨rfl, Below.refl _ _⟩
  · have r0 : (((k.size : Nat) : Int) == 0) = false := by rw [beq_eq_false_iff_ne]; omega
    by_cases c1 : 24 < k.size
    · have r1 : (rightZ k.size == 7) = true := by unfold rightZ; rw [if_neg c0, if_pos c1]; rfl
      clear c0
      by_cases c2 : 48 < v.size
      · have v0 : (valueZ v.size == 0) = false := by unfold valueZ; rw [if_pos c2]; rfl
        have v1 : (valueZ v.size == 7) = true := by unfold valueZ; rw [if_pos c2]; rfl
        have v2 : decide ((v.size : Int) ≤ 48) = false := decide_eq_false (by omega)
        go_enter Try.func5, Try.ntmps5
        go_wp2_with (first | (go_at_call 9; refine (head_any _).mono ?_; rintro e w' ⟨rfl, rfl⟩) | (go_at_call 12; refine (right_any _ _ (by omega)).mono ?_; rintro e w' ⟨rfl, rfl⟩) | (go_at_call 13; refine (value_any _ _ (by omega)).mono ?_; rintro e w' ⟨rfl, rfl⟩))
        go_ret
        exact ⟨rfl, Below.refl _ _⟩
      · have v0 : (valueZ v.size == 0) = true := by unfold valueZ; rw [if_neg c2]; rfl
        have v2 : decide ((v.size : Int) ≤ 48) = true := decide_eq_true (by omega)
        go_enter Try.func5, Try.ntmps5
        go_wp2_with (first | (go_at_call 9; refine (head_any _).mono ?_; rintro e w' ⟨rfl, rfl⟩) | (go_at_call 12; refine (right_any _ _ (by omega)).mono ?_; rintro e w' ⟨rfl, rfl⟩) | (go_at_call 13; refine (value_any _ _ (by omega)).mono ?_; rintro e w' ⟨rfl, rfl⟩))
        go_ret
        exact ⟨rfl, Below.refl _ _⟩
    · have r1 : (rightZ k.size == 0) = true := by unfold rightZ; rw [if_neg c0, if_neg c1]; rfl
      clear c0
      by_cases c2 : 48 < v.size
      · have v0 : (valueZ v.size == 0) = false := by unfold valueZ; rw [if_pos c2]; rfl
        have v1 : (valueZ v.size == 7) = true := by unfold valueZ; rw [if_pos c2]; rfl
        have v2 : decide ((v.size : Int) ≤ 48) = false := decide_eq_false (by omega)
        go_enter Try.func5, Try.ntmps5
        go_wp2_with (first | (go_at_call 9; refine (head_any _).mono ?_; rintro e w' ⟨rfl, rfl⟩) | (go_at_call 12; refine (right_any _ _ (by omega)).mono ?_; rintro e w' ⟨rfl, rfl⟩) | (go_at_call 13; refine (value_any _ _ (by omega)).mono ?_; rintro e w' ⟨rfl, rfl⟩))
        go_ret
        exact ⟨rfl, Below.refl _ _⟩
      · have v0 : (valueZ v.size == 0) = true := by unfold valueZ; rw [if_neg c2]; rfl
        have v2 : decide ((v.size : Int) ≤ 48) = true := decide_eq_true (by omega)
        go_enter Try.func5, Try.ntmps5
        go_wp2_with (first | (go_at_call 9; refine (head_any _).mono ?_; rintro e w' ⟨rfl, rfl⟩) | (go_at_call 12; refine (right_any _ _ (by omega)).mono ?_; rintro e w' ⟨rfl, rfl⟩) | (go_at_call 13; refine (value_any _ _ (by omega)).mono ?_; rintro e w' ⟨rfl, rfl⟩))
        go_ret
        exact ⟨rfl, Below.refl _ _⟩

theorem and_mod (h : Int) (k : Nat) (hk : k < 64) (h0 : 0 ≤ h) (h1 : h < 18446744073709551616) : bits .and .u64 h (((2 ^ k - 1 : Nat)) : Int) = h % (2 ^ k : Nat) := by
  obtain ⟨a, rfl⟩ := Int.eq_ofNat_of_zero_le h0
  have hp : (2 : Nat) ^ k ≤ 2 ^ 63 := Nat.pow_le_pow_right (by omega) (by omega)
  have hp0 : 0 < (2 : Nat) ^ k := Nat.pow_pos (by omega)
  rw [bits_and_u64_nat a (2 ^ k - 1) (by omega) (by omega), Nat.and_two_pow_sub_one_eq_mod]
  simp
theorem clamp1 : clampZ 1 = 1 := by decide
theorem clamp0 : clampZ 0 = 1 := by decide
theorem clampm : clampZ (-5) = 1 := by decide
theorem clamp2 : clampZ 2 = 2 := by decide
theorem clamp64 : clampZ 64 = 64 := by decide
theorem clampk : clampZ 1000 = 64 := by decide
theorem homeZ_bd (l : List UInt8) (n : Int) : 0 ≤ homeZ l n ∧ homeZ l n < 64 := by
  have h := clampZ_bd n
  unfold homeZ
  exact ⟨Int.emod_nonneg _ (by omega), by have := Int.emod_lt_of_pos (hashZ l / 1048576) (b := clampZ n) (by omega); omega⟩
theorem w64 (x : Int) (h0 : 0 ≤ x) (h1 : x < 64) : wrap64 x = x := by unfold wrap64; omega
set_option maxHeartbeats 1000000 in
theorem ones_any (k : ByteArray) (n : Int) (w : World) (hk : k.size ≤ 140737488351232) :
    Calls Try.prog 4 #[.string k, .int .i64 n] w fun e w' => e = .returned (.bool true) ∧ Below w.heap.size w w' := by
  by_cases c0 : 100 < k.size
  · go_enter Try.func4, Try.ntmps4
    go_wp2_with (go_at_call 9; refine (head_any _).mono ?_; rintro e w' ⟨rfl, rfl⟩)
    go_ret
    exact ⟨rfl, Below.refl _ _⟩
  · obtain ⟨b0, b1⟩ := hashZ_bd k.data.toList
    obtain ⟨n0, n1⟩ := homeZ_bd k.data.toList n
    have m1 : bits .and .u64 (hashZ k.data.toList / 1048576) 1 = hashZ k.data.toList / 1048576 % 2 := and_mod _ 1 (by decide) (by omega) (by omega)
    have m2 : bits .and .u64 (hashZ k.data.toList / 1048576) 63 = hashZ k.data.toList / 1048576 % 64 := and_mod _ 6 (by decide) (by omega) (by omega)
    have e1 : (homeZ k.data.toList 1 == 0) = true := by unfold homeZ; rw [clamp1, beq_iff_eq]; omega
    have e2 : (homeZ k.data.toList 0 == 0) = true := by unfold homeZ; rw [clamp0, beq_iff_eq]; omega
    have e3 : (homeZ k.data.toList (-5) == 0) = true := by unfold homeZ; rw [clampm, beq_iff_eq]; omega
    have e4 : (homeZ k.data.toList 2 == wrap64 (bits .and .u64 (hashZ k.data.toList / 1048576) 1)) = true := by
      unfold homeZ; rw [clamp2, beq_iff_eq, m1, w64 _ (by omega) (by omega)]
    have e5 : (homeZ k.data.toList 64 == wrap64 (bits .and .u64 (hashZ k.data.toList / 1048576) 63)) = true := by
      unfold homeZ; rw [clamp64, beq_iff_eq, m2, w64 _ (by omega) (by omega)]
    have e6 : (homeZ k.data.toList 1000 == homeZ k.data.toList 64) = true := by
      unfold homeZ; rw [clampk, clamp64, beq_iff_eq]
    clear m1 m2 b0 b1
    have e7 : decide (homeZ k.data.toList n < 64) = true := decide_eq_true n1
    go_enter Try.func4, Try.ntmps4
    go_wp2_with (first | (go_at_call 9; refine (head_any _).mono ?_; rintro e w' ⟨rfl, rfl⟩) | (go_at_call 10; refine (home_any _ _ _ (by omega)).mono ?_; rintro e w' ⟨rfl, rfl⟩) | (go_at_call 11; refine (hash_any _ _ (by omega)).mono ?_; rintro e w' ⟨rfl, rfl⟩))
    go_ret
    exact ⟨rfl, Below.refl _ _⟩
end Go.Proofs.Ytllmaoimngeofaa.KeyB
