/- BinarySearch of texts that rise. -/
import Derived.Test.YtfhpgmgmofganaaNodeC
set_option linter.unusedVariables false
set_option linter.unusedSimpArgs false
set_option linter.unusedSectionVars false
namespace Go.Proofs.Ytfhpgmgmofganaa.NodeA
open Go.RowKit Go.WideShapes Go.Deep Go.Proofs.Ytfhpgmgmofganaa.Mem Go.Proofs.Ytfhpgmgmofganaa.Open Go.Proofs.Ytfhpgmgmofganaa.Kv
theorem str_same (a : ByteArray) : (!(a.toList == a.toList)) = false := by simp
theorem nan_cmp (a : S) (w : World) : Calls Try.prog 32 #[.string a] w fun e w' => e = .returned (.bool false) ∧ w' = w := by
  go_enter Try.func32, Try.ntmps32
  go_wp2
  go_ret
  exact ⟨by first | rfl | simp, rfl⟩
theorem nan_sl (a : S) (w : World) : Calls Try.prog 29 #[.string a] w fun e w' => e = .returned (.bool false) ∧ w' = w := by
  go_enter Try.func29, Try.ntmps29
  go_wp2
  go_ret
  exact ⟨by first | rfl | simp, rfl⟩
theorem less_any (a b : S) (w : World) : Calls Try.prog 28 #[.string a, .string b] w fun e w' => e = .returned (.bool (lt a b)) ∧ w' = w := by
  have hl : Op.bytesLess a.toList b.toList = lt a b := by rw [ByteArray.toList_eq, ByteArray.toList_eq]; rfl
  go_enter Try.func28, Try.ntmps28
  go_wp2_with fail
  refine (nan_cmp a w).mono ?_
  rintro e w' ⟨rfl, rfl⟩
  go_wp2_with fail
  go_ret
  exact ⟨by first | rfl | simp, rfl⟩
/-- Keys as a map's keys. -/
def kp (ks : List S) : List P2 := ks.map fun k => (k, ⟨#[]⟩)
theorem kp_len (ks : List S) : (kp ks).length = ks.length := by simp [kp]
theorem kp_at {ks : List S} {i : Nat} {k : S} (h : ks[i]? = some k) : (kp ks)[i]? = some (k, ⟨#[]⟩) := by simp [kp, h]
set_option maxHeartbeats 1000000 in
theorem search_any {v : Value} {ks : List S} (w : World) (h : Rd w w.heap.size 1 v ks.length (sc ks)) (hr : Rise (kp ks)) (k : S) (hn : ks.length ≤ 4611686018427387903) :
    Calls Try.prog 25 #[v, .string k] w fun e w' => e = .returned (.tuple #[.int .i64 (pos (kp ks) k), .bool (here (kp ks) k)]) ∧ Below w.heap.size w w' := by
  obtain ⟨hl, A, c, rfl, hc1, hc2, ha⟩ := h
  have HA := Lib.hid ha
  have HR := Lib.hid hr
  clear ha hl hr
  have hp := pos_le (kp ks) k
  rw [kp_len] at hp
  obtain ⟨n, hnn⟩ : ∃ n, n = ks.length := ⟨_, rfl⟩
  have HN := Lib.hid hnn
  rw [← hnn] at hn hc1 hp ⊢
  clear hnn
  go_enter Try.func25, Try.ntmps25
  go_wp2
  go_loopw [7, 8, 9] (fun i j _ wr => ∃ lo hi : Nat, lo ≤ pos (kp ks) k ∧ pos (kp ks) k ≤ hi ∧ hi ≤ n ∧ i = .int .i64 lo ∧ j = .int .i64 hi ∧ Below w.heap.size w wr) (fun i j _ _ => (intOf j).toNat - (intOf i).toNat)
  case atStart => exact ⟨0, n, Nat.zero_le _, hp, Nat.le_refl _, rfl, rfl, Below.refl _ _⟩
  case round =>
    obtain ⟨lo, hi, h1, h2, h3, rfl, rfl, hb⟩ := hrel
    by_cases hlt : lo < hi
    · obtain ⟨m, hm⟩ : ∃ m : Nat, ((lo : Int) + (hi : Int)) / 2 = (m : Int) := ⟨(lo + hi) / 2, by omega⟩
      have m1 : lo ≤ m := by omega
      have m2 : m < hi := by omega
      have m3 : m < n := by omega
      obtain ⟨g, off, rfl, hg, hx⟩ := HA.out (by rw [← HN.out]; omega)
      obtain ⟨p, hpm⟩ : ∃ p, ks[m]? = some p := ⟨ks[m]'(by rw [← HN.out]; omega), List.getElem?_eq_getElem _⟩
      have k0 : wr.cell? ⟨g, off + m, none⟩ = some (.string p) := (hb.cell (p := ⟨g, off + m, none⟩) hg).trans (hx _ _ (sc_at hpm))
      have hs := pos_split HR.out k m _ (kp_at hpm)
      have HB := Lib.hid hb
      clear hx hb hpm
      by_cases hk : m < pos (kp ks) k
      · have d0 : lt p k = true := hs.2 hk
        clear hs
        go_wp2_with fail
        refine (less_any p k _).mono ?_
        rintro e w1 ⟨he, rfl⟩
        rw [d0] at he
        subst he
        go_wp2_with fail
        go_roundw
        case rel => exact ⟨m + 1, hi, by omega, by omega, by omega, by go_num, rfl, HB.out⟩
        case measure => simp [intOf]; omega
      · have d0 : lt p k = false := by
          cases hq : lt p k with
          | false => rfl
          | true => exact absurd (hs.1 hq) hk
        clear hs
        go_wp2_with fail
        refine (less_any p k _).mono ?_
        rintro e w1 ⟨he, rfl⟩
        rw [d0] at he
        subst he
        go_wp2_with fail
        go_roundw
        case rel => exact ⟨lo, m, by omega, by omega, by omega, rfl, rfl, HB.out⟩
        case measure => simp [intOf]; omega
    · obtain rfl : lo = hi := by omega
      obtain rfl : lo = pos (kp ks) k := by omega
      have HH := here_at HR.out k
      by_cases hln : pos (kp ks) k < n
      · obtain ⟨g, off, rfl, hg, hx⟩ := HA.out (by rw [← HN.out]; omega)
        obtain ⟨p, hpm⟩ : ∃ p, ks[pos (kp ks) k]? = some p := ⟨ks[pos (kp ks) k]'(by rw [← HN.out]; omega), List.getElem?_eq_getElem _⟩
        have hpm2 := kp_at hpm
        obtain ⟨m, hm⟩ : ∃ m, m = pos (kp ks) k := ⟨_, rfl⟩
        rw [← hm] at hpm hpm2 HH hln h1 h2 h3 ⊢
        have HM := Lib.hid hm
        clear hm
        have k0 : wr.cell? ⟨g, off + m, none⟩ = some (.string p) := (hb.cell (p := ⟨g, off + m, none⟩) hg).trans (hx _ _ (sc_at hpm))
        have HB := Lib.hid hb
        by_cases hk : p = k
        · have hh : here (kp ks) k = true := HH.2 ⟨_, hpm2, hk⟩
          have HHH := Lib.hid hh
          subst hk
          clear hx hb hpm hpm2 hh HH
          go_wp2_with fail
          go_ret2
          exact ⟨by rw [HHH.out, ← HM.out]; first | rfl | simp, HB.out⟩
        · have hh : here (kp ks) k = false := by
            cases hq : here (kp ks) k with
            | false => rfl
            | true =>
              obtain ⟨p', hp', hk'⟩ := HH.1 hq
              rw [hpm2] at hp'
              injection hp' with hp'
              rw [← hp'] at hk'
              exact absurd hk' hk
          have HHH := Lib.hid hh
          have d0 : (p.toList == k.toList) = false := by rw [str_beq, decide_eq_false hk]
          clear hx hb hpm hpm2 hh HH hk
          go_wp2_with fail
          refine (nan_sl p _).mono ?_
          rintro e w1 ⟨rfl, rfl⟩
          go_wp2_with fail
          go_ret2
          exact ⟨by rw [HHH.out, ← HM.out]; first | rfl | simp, HB.out⟩
      · have hh : here (kp ks) k = false := by
          cases hq : here (kp ks) k with
          | false => rfl
          | true =>
            obtain ⟨p', hp', hk'⟩ := HH.1 hq
            have := (List.getElem?_eq_some_iff.1 hp').1
            rw [kp_len, ← HN.out] at this
            exact absurd this hln
        obtain ⟨m, hm⟩ : ∃ m, m = pos (kp ks) k := ⟨_, rfl⟩
        rw [← hm] at hln h1 h2 h3 ⊢
        have HM := Lib.hid hm
        have HHH := Lib.hid hh
        have HB := Lib.hid hb
        clear hh hb HH hm
        go_wp2_with fail
        go_ret2
        exact ⟨by rw [HHH.out, ← HM.out]; first | rfl | simp, HB.out⟩
#print axioms search_any
end Go.Proofs.Ytfhpgmgmofganaa.NodeA
