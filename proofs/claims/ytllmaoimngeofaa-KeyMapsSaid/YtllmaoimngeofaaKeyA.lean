/- The contracts of key.Hash, key.Home, key.Right, key.Value and of the law's head. -/
import Derived.Test.YtllmaoimngeofaaProg
import Derived.WalkKit
import Derived.WalkSpells
import Derived.Deep.LoopGhost
import Derived.Deep.Draws
import Derived.KernelRfl
import Derived.Lib.Hide
set_option linter.unusedVariables false
set_option linter.unusedSimpArgs false
namespace Go.Proofs.Ytllmaoimngeofaa.KeyA
open Go.RowKit

/-- One step of the hash, as the walk spells it. -/
def stepZ (h : Int) (c : UInt8) : Int := IntKind.u64.wrap ((bits .xor .u64 h (IntKind.u64.wrap (c.toNat : Int))) * 1099511628211)
def hashZ (l : List UInt8) : Int := l.foldl stepZ 14695981039346656037
theorem take_snoc (s : ByteArray) (k : Nat) (h : k < s.size) : s.data.toList.take (k + 1) = s.data.toList.take k ++ [s[k]] := by
  rw [List.take_succ_eq_append_getElem (by simpa using h)]; rfl
theorem hashZ_snoc (l : List UInt8) (c : UInt8) : hashZ (l ++ [c]) = stepZ (hashZ l) c := by simp [hashZ]
theorem ret_int {k : IntKind} {a b : Int} (h : a = b) : Ending.returned (.int k a) = .returned (.int k b) := by rw [h]

set_option maxHeartbeats 400000 in
theorem hash_any (s : ByteArray) (w : World) (hs : s.size ≤ 9223372036854775807) :
    Calls Try.prog 11 #[.string s] w fun e w' => e = .returned (.int .u64 (hashZ s.data.toList)) ∧ w = w' := by
  go_enter Try.func11, Try.ntmps11
  go_wp2
  go_loop [3, 4, 7] (fun h _ i => ∃ k : Nat, k ≤ s.size ∧ i = .int .i64 k ∧ h = .int .u64 (hashZ (s.data.toList.take k))) (fun _ _ i => s.size - (intOf i).toNat)
  case atStart => exact ⟨0, Nat.zero_le _, rfl, rfl⟩
  case round =>
    obtain ⟨k, hk, rfl, rfl⟩ := hrel
    by_cases hlt : k < s.size
    · have hts := take_snoc s k hlt
      have HS : Hid (hashZ (s.data.toList.take (k + 1)) = stepZ (hashZ (s.data.toList.take k)) s[k]) := by rw [hts]; exact hashZ_snoc _ _
      clear hts
      go_wp2
      go_round
      case rel => exact ⟨k + 1, by omega, by go_num, by rw [HS.out]; rfl⟩
      case measure => simp [intOf]; omega
    · go_wp2
      go_ret
      exact ⟨ret_int (by rw [List.take_of_length_le (by simp; omega)]), rfl⟩

theorem stepZ_bd (h : Int) (c : UInt8) : 0 ≤ stepZ h c ∧ stepZ h c ≤ 18446744073709551615 := by
  unfold stepZ
  rw [IntKind.wrap_u64]
  omega
theorem hashZ_bd (l : List UInt8) : 0 ≤ hashZ l ∧ hashZ l ≤ 18446744073709551615 := by
  unfold hashZ
  rcases List.eq_nil_or_concat l with rfl | ⟨l', c, rfl⟩
  · simp
  · rw [List.concat_eq_append, List.foldl_append]; exact stepZ_bd _ _

/-- The number of nodes that counts. -/
def clampZ (n : Int) : Int := if n < 1 then 1 else if 64 < n then 64 else n
theorem clampZ_bd (n : Int) : 1 ≤ clampZ n ∧ clampZ n ≤ 64 := by unfold clampZ; split <;> (try split) <;> omega
def homeZ (l : List UInt8) (n : Int) : Int := hashZ l / 1048576 % clampZ n

set_option maxHeartbeats 400000 in
theorem home_any (s : ByteArray) (n : Int) (w : World) (hs : s.size ≤ 9223372036854775807) :
    Calls Try.prog 10 #[.string s, .int .i64 n] w fun e w' => e = .returned (.int .i64 (homeZ s.data.toList n)) ∧ w = w' := by
  have hb := hashZ_bd s.data.toList
  obtain ⟨h0, h1⟩ := hb
  unfold homeZ clampZ
  by_cases c1 : n < 1
  · rw [if_pos c1]
    go_enter Try.func10, Try.ntmps10
    go_wp2_with (go_at_call 11; refine (hash_any _ _ hs).mono ?_; rintro e w' ⟨rfl, rfl⟩)
    go_ret
    exact ⟨ret_int (by show (0 : Int) = _; omega), rfl⟩
  · rw [if_neg c1]
    by_cases c2 : 64 < n
    · rw [if_pos c2]
      go_enter Try.func10, Try.ntmps10
      go_wp2_with (go_at_call 11; refine (hash_any _ _ hs).mono ?_; rintro e w' ⟨rfl, rfl⟩)
      go_ret
      exact ⟨rfl, rfl⟩
    · rw [if_neg c2]
      have e0 : 0 ≤ hashZ s.data.toList / 1048576 % n := Int.emod_nonneg _ (by omega)
      have e1 : hashZ s.data.toList / 1048576 % n < n := Int.emod_lt_of_pos _ (by omega)
      by_cases c3 : 1 < n
      · go_enter Try.func10, Try.ntmps10
        go_wp2_with (go_at_call 11; refine (hash_any _ _ hs).mono ?_; rintro e w' ⟨rfl, rfl⟩)
        go_ret
        exact ⟨rfl, rfl⟩
      · obtain rfl : n = 1 := by omega
        go_enter Try.func10, Try.ntmps10
        go_wp2_with (go_at_call 11; refine (hash_any _ _ hs).mono ?_; rintro e w' ⟨rfl, rfl⟩)
        go_ret
        exact ⟨ret_int (by show (0 : Int) = _; omega), rfl⟩

/-- key.Right: 0, 1 (ErrArg) or 7 (ErrKey). -/
def rightZ (n : Nat) : Int := if n = 0 then 1 else if 24 < n then 7 else 0
def valueZ (n : Nat) : Int := if 48 < n then 7 else 0
theorem size_toList (s : ByteArray) : s.toList.length = s.size := by rw [ByteArray.toList_eq]; simp
theorem toList_nil (s : ByteArray) : s.toList = [] ↔ s.size = 0 := by
  rw [← List.length_eq_zero_iff, size_toList]
theorem right_any (s : ByteArray) (w : World) (hs : s.size ≤ 9223372036854775807) :
    Calls Try.prog 12 #[.string s] w fun e w' => e = .returned (.int .i64 (rightZ s.size)) ∧ w = w' := by
  unfold rightZ
  by_cases c1 : s.size = 0
  · rw [if_pos c1]
    have e1 : s.toList = [] := (toList_nil s).2 c1
    have e2 : (!s.toList.isEmpty) = false := by rw [e1]; rfl
    clear c1
    go_enter Try.func12, Try.ntmps12
    go_wp2
    go_ret
    exact ⟨rfl, rfl⟩
  · rw [if_neg c1]
    have e1 : s.toList.isEmpty = false := by
      cases h : s.toList with
      | nil => exact absurd ((toList_nil s).1 h) c1
      | cons a l => rfl
    by_cases c2 : 24 < s.size
    · rw [if_pos c2]
      go_enter Try.func12, Try.ntmps12
      go_wp2
      go_ret
      exact ⟨rfl, rfl⟩
    · rw [if_neg c2]
      go_enter Try.func12, Try.ntmps12
      go_wp2
      go_ret
      exact ⟨rfl, rfl⟩
theorem value_any (s : ByteArray) (w : World) (hs : s.size ≤ 9223372036854775807) :
    Calls Try.prog 13 #[.string s] w fun e w' => e = .returned (.int .i64 (valueZ s.size)) ∧ w = w' := by
  unfold valueZ
  by_cases c2 : 48 < s.size
  · rw [if_pos c2]
    go_enter Try.func13, Try.ntmps13
    go_wp2
    go_ret
    exact ⟨rfl, rfl⟩
  · rw [if_neg c2]
    go_enter Try.func13, Try.ntmps13
    go_wp2
    go_ret
    exact ⟨rfl, rfl⟩
theorem hash_a : hashZ [97] = 12638187200555641996 := by decide +kernel
theorem hash_e : hashZ [] = 14695981039346656037 := rfl
/-- The law's head is true. -/
theorem head_any (w : World) : Calls Try.prog 9 #[] w fun e w' => e = .returned (.bool true) ∧ w = w' := by
  have ha : (hashZ [97] == 12638187200555641996) = true := by rw [hash_a]; decide
  have he : (hashZ [] == 14695981039346656037) = true := by rw [hash_e]; decide
  have h1 := hash_any ⟨#[97]⟩
  have h2 := hash_any ⟨#[]⟩
  have H1 := Lib.hid h1
  have H2 := Lib.hid h2
  clear h1 h2
  go_enter Try.func9, Try.ntmps9
  go_wp2_with fail
  refine (H1.out _ (by decide)).mono ?_
  rintro e w' ⟨rfl, rfl⟩
  go_wp2_with fail
  refine (H2.out _ (by decide)).mono ?_
  rintro e w' ⟨rfl, rfl⟩
  go_wp2_with fail
  go_ret
  exact ⟨rfl, rfl⟩
end Go.Proofs.Ytllmaoimngeofaa.KeyA
