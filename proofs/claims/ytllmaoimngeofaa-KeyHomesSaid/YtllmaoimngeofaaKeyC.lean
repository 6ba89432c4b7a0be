/- The law KeyHomes, walked. -/
import Derived.Test.YtllmaoimngeofaaKeyB
set_option linter.unusedVariables false
namespace Go.Proofs.Ytllmaoimngeofaa.KeyC
open Go.RowKit Go.Proofs.Ytllmaoimngeofaa.KeyA Go.Proofs.Ytllmaoimngeofaa.KeyB

/-- What the inner loop has gathered behind b rounds. -/
def gath (h : Int) : Nat → Int
  | 0 => 0
  | b + 1 => if (bits .and .u64 ((1099511628211 : Int) / 2 ^ b) 1 == 1) = true then IntKind.u64.wrap (gath h b + IntKind.u64.wrap (h * 2 ^ b)) else gath h b

theorem gath_bd (h : Int) (b : Nat) : 0 ≤ gath h b ∧ gath h b ≤ 18446744073709551615 := by
  induction b with
  | zero => simp [gath]
  | succ b ih =>
    unfold gath
    split
    · rw [IntKind.wrap_u64]; omega
    · exact ih
theorem gath_step (P : Nat) (hP : P < 18446744073709551616) (h G : Int) (b : Nat) (hG : G = (h * ((P % 2 ^ b : Nat) : Int)) % 18446744073709551616) :
    (if (bits .and .u64 ((P : Int) / 2 ^ b) 1 == 1) = true then IntKind.u64.wrap (G + IntKind.u64.wrap (h * 2 ^ b)) else G) = (h * ((P % 2 ^ (b + 1) : Nat) : Int)) % 18446744073709551616 := by
  have ht : bits .and .u64 ((P : Int) / 2 ^ b) 1 = ((P / 2 ^ b % 2 : Nat) : Int) := by
    have e : (P : Int) / 2 ^ b = ((P / 2 ^ b : Nat) : Int) := by push_cast; rfl
    have hle : P / 2 ^ b ≤ P := Nat.div_le_self _ _
    rw [e]
    generalize P / 2 ^ b = Q at hle ⊢
    have := and_mod (Q : Int) 1 (by decide) (by omega) (by omega)
    rw [show ((2 ^ 1 - 1 : Nat) : Int) = 1 by rfl] at this
    rw [this]
    push_cast
    rfl
  have hp : (P % 2 ^ (b + 1) : Nat) = P % 2 ^ b + 2 ^ b * (P / 2 ^ b % 2) := by
    rw [Nat.pow_succ, Nat.mod_mul]
  rw [ht, hp]
  rcases Nat.mod_two_eq_zero_or_one (P / 2 ^ b) with e | e
  · rw [e, if_neg (by decide), Nat.mul_zero, Nat.add_zero]; exact hG
  · rw [e, if_pos (by decide), hG, IntKind.wrap_u64, IntKind.wrap_u64, Nat.mul_one]
    rw [← Int.add_emod, show ((P % 2 ^ b + 2 ^ b : Nat) : Int) = ((P % 2 ^ b : Nat) : Int) + 2 ^ b by push_cast; rfl, Int.mul_add]
theorem gath_eq (h : Int) (b : Nat) : gath h b = (h * ((1099511628211 % 2 ^ b : Nat) : Int)) % 18446744073709551616 := by
  induction b with
  | zero => simp [gath, Nat.mod_one]
  | succ b ih => exact gath_step 1099511628211 (by decide) h (gath h b) b ih
theorem gath_41 (h : Int) : gath h 41 = IntKind.u64.wrap (h * 1099511628211) := by
  rw [gath_eq h 41, IntKind.wrap_u64]
  rfl
theorem homeZ_bd' (l : List UInt8) (n : Int) : 0 ≤ homeZ l n ∧ homeZ l n < clampZ n := by
  have h := clampZ_bd n
  unfold homeZ
  exact ⟨Int.emod_nonneg _ (by omega), Int.emod_lt_of_pos (hashZ l / 1048576) (b := clampZ n) (by omega)⟩
theorem u8_wrap (c : UInt8) : IntKind.u64.wrap (c.toNat : Int) = (c.toNat : Int) := by
  have := c.toNat_lt
  rw [IntKind.wrap_u64]; omega
theorem xor_bd (H : Int) (c : UInt8) (h0 : 0 ≤ H) (h1 : H ≤ 18446744073709551615) : 0 ≤ bits .xor .u64 H (IntKind.u64.wrap (c.toNat : Int)) ∧ bits .xor .u64 H (IntKind.u64.wrap (c.toNat : Int)) ≤ 18446744073709551615 := by
  have hc := c.toNat_lt
  obtain ⟨a, rfl⟩ := Int.eq_ofNat_of_zero_le h0
  rw [u8_wrap, u64_xor_nat _ _ (by omega) (by omega)]
  have : a ^^^ c.toNat < 2 ^ 64 := Nat.xor_lt_two_pow (by omega) (by omega)
  omega
theorem xor_low (H : Int) (c : UInt8) (h0 : 0 ≤ H) (h1 : H ≤ 18446744073709551615) : IntKind.u64.wrap (H - H % 256 + bits .xor .u64 (H % 256) (IntKind.u64.wrap (c.toNat : Int))) = bits .xor .u64 H (IntKind.u64.wrap (c.toNat : Int)) := by
  have hc := c.toNat_lt
  obtain ⟨a, rfl⟩ := Int.eq_ofNat_of_zero_le h0
  have e1 : ((a : Int) % 256) = ((a % 256 : Nat) : Int) := by omega
  rw [e1, u8_wrap, u64_xor_nat _ _ (by omega) (by omega), u64_xor_nat _ _ (by omega) (by omega), IntKind.wrap_u64]
  have e2 : a ^^^ c.toNat = (a / 256) * 256 + ((a % 256) ^^^ c.toNat) := by
    apply Nat.eq_of_testBit_eq
    intro i
    have hx : (a % 256) ^^^ c.toNat < 2 ^ 8 := Nat.xor_lt_two_pow (by omega) (by omega)
    rw [show (a / 256) * 256 + ((a % 256) ^^^ c.toNat) = 2 ^ 8 * (a / 256) + ((a % 256) ^^^ c.toNat) by omega, Nat.testBit_two_pow_mul_add _ hx, Nat.testBit_xor, Nat.testBit_xor]
    by_cases hi : i < 8
    · rw [if_pos hi, show (256 : Nat) = 2 ^ 8 by rfl, Nat.testBit_mod_two_pow]; simp [hi]
    · rw [if_neg hi, show a / 256 = a / 2 ^ 8 by rfl, Nat.testBit_div_two_pow]
      have : c.toNat.testBit i = false := Nat.testBit_lt_two_pow (Nat.lt_of_lt_of_le hc (Nat.pow_le_pow_right (by omega) (by omega : 8 ≤ i)))
      rw [this]; simp; congr 1; omega
  have : a ^^^ c.toNat < 2 ^ 64 := Nat.xor_lt_two_pow (by omega) (by omega)
  omega
set_option maxHeartbeats 1000000 in
theorem homes_any (k : ByteArray) (n : Int) (w : World) (hk : k.size ≤ 140737488351232) :
    Calls Try.prog 3 #[.string k, .int .i64 n] w fun e w' => e = .returned (.bool true) ∧ Below w.heap.size w w' := by
  by_cases c0 : 100 < k.size
  · go_enter Try.func3, Try.ntmps3
    go_wp2_with (go_at_call 9; refine (head_any _).mono ?_; rintro e w' ⟨rfl, rfl⟩)
    go_ret
    exact ⟨rfl, Below.refl _ _⟩
  · go_enter Try.func3, Try.ntmps3
    go_wp2_with (go_at_call 9; refine (head_any _).mono ?_; rintro e w' ⟨rfl, rfl⟩)
    go_loop [5, 6, 7, 8, 9] (fun h i _ _ _ => ∃ j : Nat, j ≤ k.size ∧ i = .int .i64 j ∧ h = .int .u64 (hashZ (k.data.toList.take j))) (fun _ i _ _ _ => k.size - (intOf i).toNat)
    case atStart => exact ⟨0, Nat.zero_le _, rfl, rfl⟩
    case round =>
      obtain ⟨j, hj, rfl, rfl⟩ := hrel
      by_cases hlt : j < k.size
      · obtain ⟨b0, b1⟩ := hashZ_bd (k.data.toList.take j)
        obtain ⟨H, hH⟩ : ∃ H, H = hashZ (k.data.toList.take j) := ⟨_, rfl⟩
        rw [← hH] at b0 b1 ⊢
        have HH := Lib.hid hH
        clear hH
        go_wp2
        have hX : IntKind.u64.wrap (H - H % 256 + bits BinOp.xor IntKind.u64 (H % 256) (IntKind.u64.wrap (k[j].toNat : Int))) = bits .xor .u64 H (IntKind.u64.wrap (k[j].toNat : Int)) := xor_low H k[j] b0 b1
        rw [hX]
        clear hX
        obtain ⟨x0, x1⟩ := xor_bd H k[j] b0 b1
        obtain ⟨X, hX⟩ : ∃ X, X = bits .xor .u64 H (IntKind.u64.wrap (k[j].toNat : Int)) := ⟨_, rfl⟩
        rw [← hX] at x0 x1 ⊢
        have HX := Lib.hid hX
        clear hX
        go_loop [8, 9] (fun x i => ∃ b : Nat, b ≤ 41 ∧ i = .int .i64 b ∧ x = .int .u64 (gath X b)) (fun _ i => 41 - (intOf i).toNat)
        case atStart => exact ⟨0, by omega, rfl, rfl⟩
        case round =>
          obtain ⟨b, hb, rfl, rfl⟩ := hrel
          obtain ⟨g0, g1⟩ := gath_bd X b
          obtain ⟨G, hG⟩ : ∃ G, G = gath X b := ⟨_, rfl⟩
          rw [← hG] at g0 g1 ⊢
          have HG := Lib.hid hG
          clear hG
          by_cases hb41 : b < 41
          · go_wp2
            · go_round
              case rel => exact ⟨b + 1, by omega, by go_num, by rw [HG.out]; simp only [gath]; rw [if_pos ‹_›]⟩
              case measure => simp [intOf]; omega
            · go_round
              case rel => exact ⟨b + 1, by omega, by go_num, by rw [HG.out]; simp only [gath]; rw [if_neg (by rw [‹(bits _ _ _ _ == 1) = false›]; decide)]⟩
              case measure => simp [intOf]; omega
          · obtain rfl : b = 41 := by omega
            have hfin : G = hashZ (k.data.toList.take (j + 1)) := by
              rw [HG.out, gath_41 X, HX.out, take_snoc k j hlt, hashZ_snoc, HH.out]; rfl
            have HF := Lib.hid hfin
            clear hfin
            go_wp2
            go_round
            case rel => exact ⟨j + 1, by omega, by go_num, by rw [HF.out]⟩
            case measure => simp [intOf]; omega
      · obtain rfl : j = k.size := by omega
        have ht : k.data.toList.take k.size = k.data.toList := List.take_of_length_le (by simp)
        rw [ht]
        clear ht
        obtain ⟨b0, b1⟩ := hashZ_bd k.data.toList
        obtain ⟨n0, n1⟩ := homeZ_bd' k.data.toList n
        have e7 : decide (homeZ k.data.toList n < clampZ n) = true := decide_eq_true n1
        obtain ⟨e9, e10⟩ := clampZ_bd n
        have e8 : homeZ k.data.toList n = hashZ k.data.toList / 1048576 % clampZ n := rfl
        have ec : clampZ n = if n < 1 then 1 else if 64 < n then 64 else n := rfl
        by_cases c1 : n < 1
        · rw [if_pos c1] at ec
          rw [ec] at e7 e8
          have e0 : (homeZ k.data.toList n == 0) = true := by rw [beq_iff_eq]; omega
          clear ec e8
          go_wp2_with (first | (go_at_call 10; refine (home_any _ _ _ (by omega)).mono ?_; rintro e w' ⟨rfl, rfl⟩) | (go_at_call 11; refine (hash_any _ _ (by omega)).mono ?_; rintro e w' ⟨rfl, rfl⟩))
          go_ret
          exact ⟨rfl, Below.refl _ _⟩
        · rw [if_neg c1] at ec
          by_cases c2 : 64 < n
          · rw [if_pos c2] at ec
            rw [ec] at e7 e8
            have e0 : (homeZ k.data.toList n == hashZ k.data.toList / 1048576 % 64) = true := by rw [beq_iff_eq]; exact e8
            clear ec e8
            go_wp2_with (first | (go_at_call 10; refine (home_any _ _ _ (by omega)).mono ?_; rintro e w' ⟨rfl, rfl⟩) | (go_at_call 11; refine (hash_any _ _ (by omega)).mono ?_; rintro e w' ⟨rfl, rfl⟩))
            go_ret
            exact ⟨rfl, Below.refl _ _⟩
          · rw [if_neg c2] at ec
            rw [ec] at e7 e8
            have e0 : (homeZ k.data.toList n == hashZ k.data.toList / 1048576 % n) = true := by rw [beq_iff_eq]; exact e8
            clear ec e8
            go_wp2_with (first | (go_at_call 10; refine (home_any _ _ _ (by omega)).mono ?_; rintro e w' ⟨rfl, rfl⟩) | (go_at_call 11; refine (hash_any _ _ (by omega)).mono ?_; rintro e w' ⟨rfl, rfl⟩))
            go_ret
            exact ⟨rfl, Below.refl _ _⟩
end Go.Proofs.Ytllmaoimngeofaa.KeyC
