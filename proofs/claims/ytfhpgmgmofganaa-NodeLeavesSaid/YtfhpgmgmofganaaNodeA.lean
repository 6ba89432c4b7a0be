/- Pages in memory; lists compared. -/
import Derived.Test.YtfhpgmgmofganaaProg
import Derived.Test.YtfhpgmgmofganaaSlS
import Derived.Test.YtfhpgmgmofganaaSlI
import Derived.Test.YtfhpgmgmofganaaOpen
import Derived.Test.YtfhpgmgmofganaaKv
import Derived.Test.YtfhpgmgmofganaaRes
import Derived.Handy
set_option linter.unusedVariables false
set_option linter.unusedSimpArgs false
set_option linter.unusedSectionVars false
namespace Go.Proofs.Ytfhpgmgmofganaa.NodeA
open Go.RowKit Go.WideShapes Go.Deep Go.Proofs.Ytfhpgmgmofganaa.Mem Go.Proofs.Ytfhpgmgmofganaa.Open Go.Proofs.Ytfhpgmgmofganaa.Kv
def sc (ks : List S) : List Value := ks.map .string
theorem sc_at {ks : List S} {i : Nat} {k : S} (h : ks[i]? = some k) : (sc ks)[i]? = some (.string k) := by simp [sc, h]
def ic (ts : List Int) : List Value := ts.map (.int .i64)
theorem ic_at {ts : List Int} {i : Nat} {x : Int} (h : ts[i]? = some x) : (ic ts)[i]? = some (.int .i64 x) := by simp [ic, h]
theorem sc_one (ks : List S) : One (sc ks) := by
  intro u hu
  obtain ⟨x, _, rfl⟩ := List.mem_map.1 hu
  rfl
theorem ic_one (ts : List Int) : One (ic ts) := by
  intro u hu
  obtain ⟨x, _, rfl⟩ := List.mem_map.1 hu
  rfl
theorem str_beq (a b : ByteArray) : (a.toList == b.toList) = decide (a = b) := by
  rw [ByteArray.toList_eq, ByteArray.toList_eq]
  by_cases h : a = b
  · subst h; simp
  · rw [decide_eq_false h, beq_eq_false_iff_ne]
    intro e
    exact h (S_ext e)

set_option maxHeartbeats 1000000 in
theorem equal_str {v u : Value} {ps qs : List S} (w : World) (h : Rd w w.heap.size 1 v ps.length (sc ps)) (h' : Rd w w.heap.size 1 u qs.length (sc qs)) :
    Calls Try.prog 23 #[v, u] w fun e w' => e = .returned (.bool (decide (ps = qs))) ∧ Below w.heap.size w w' := by
  have h1 := h.len_le
  have h2 := h'.len_le
  obtain ⟨hl, A, c, rfl, hc1, hc2, ha⟩ := h
  obtain ⟨hl', A', c', rfl, hc1', hc2', ha'⟩ := h'
  have HA := Lib.hid ha
  have HA' := Lib.hid ha'
  clear ha ha' hl hl'
  by_cases hlen : ps.length = qs.length
  · obtain ⟨n, hn⟩ : ∃ n, n = ps.length := ⟨_, rfl⟩
    have HQ := Lib.hid (hn.trans hlen)
    rw [← hn] at hlen h1 hc1 ⊢
    rw [← hlen] at h2 hc1' ⊢
    have HN := Lib.hid hn
    clear hn hlen
    unfold maxLen at h1 h2
    go_enter Try.func23, Try.ntmps23
    go_wp2
    go_loopw [5, 13] (fun _ i wr => ∃ j : Nat, j ≤ n ∧ i = .int .i64 j ∧ ps.take j = qs.take j ∧ Below w.heap.size w wr) (fun _ i _ => n - (intOf i).toNat)
    case atStart => exact ⟨0, Nat.zero_le _, rfl, rfl, Below.refl _ _⟩
    case round =>
      obtain ⟨j, hj, rfl, hjt, hb⟩ := hrel
      have HT := Lib.hid hjt
      clear hjt
      by_cases hlt : j < n
      · obtain ⟨g, off, rfl, hg, hx⟩ := HA.out (by rw [← HN.out]; omega)
        obtain ⟨g', off', rfl, hg', hx'⟩ := HA'.out (by rw [← HQ.out]; omega)
        obtain ⟨p, hp⟩ : ∃ p, ps[j]? = some p := ⟨ps[j]'(by rw [← HN.out]; omega), List.getElem?_eq_getElem _⟩
        obtain ⟨q, hq⟩ : ∃ q, qs[j]? = some q := ⟨qs[j]'(by rw [← HQ.out]; omega), List.getElem?_eq_getElem _⟩
        have k0 : wr.cell? ⟨g, off + j, none⟩ = some (.string p) := (hb.cell (p := ⟨g, off + j, none⟩) hg).trans (hx _ _ (sc_at hp))
        have k2 : wr.cell? ⟨g', off' + j, none⟩ = some (.string q) := (hb.cell (p := ⟨g', off' + j, none⟩) hg').trans (hx' _ _ (sc_at hq))
        have i0 : (0 : Int) ≤ (j : Int) := by omega
        have i1 : (j : Int) < (n : Int) := by omega
        have HB := Lib.hid hb
        have HP := Lib.hid hp
        have HQQ := Lib.hid hq
        clear hx hx' hb hp hq
        by_cases he : p = q
        · subst he
          go_wp2
          go_quiet (fail)
          go_wp2
          go_roundw
          case rel => exact ⟨j + 1, by omega, by go_num, by
            rw [List.take_add_one, List.take_add_one, HT.out, HP.out, HQQ.out], below_drewN HB.out _⟩
          case measure => simp [intOf]; omega
        · have hne : decide (ps = qs) = false := decide_eq_false (fun e => he (by
            have h3 := HP.out
            rw [e, HQQ.out] at h3
            injection h3 with h3
            exact h3.symm))
          have d0 : (p.toList == q.toList) = false := by rw [str_beq, decide_eq_false he]
          have HNE := Lib.hid hne
          clear he hne
          go_wp2
          go_quiet (fail)
          go_wp2
          go_ret
          exact ⟨by rw [HNE.out]; rfl, below_drewN HB.out _⟩
      · obtain rfl : j = n := by omega
        have heq : decide (ps = qs) = true := decide_eq_true (by
          have h3 := HT.out
          rwa [List.take_of_length_le (by rw [← HN.out]; exact Nat.le_refl _), List.take_of_length_le (by rw [← HQ.out]; exact Nat.le_refl _)] at h3)
        have HNE := Lib.hid heq
        have HB := Lib.hid hb
        clear heq hb
        go_wp2
        go_ret
        exact ⟨by rw [HNE.out]; rfl, HB.out⟩
  · have hne : decide (ps = qs) = false := decide_eq_false (fun e => hlen (by rw [e]))
    rw [hne]
    have d0 : ((ps.length : Int) != (qs.length : Int)) = true := by rw [bne_iff_ne]; omega
    clear hne
    go_enter Try.func23, Try.ntmps23
    go_wp2
    go_ret
    exact ⟨rfl, Below.refl _ _⟩

set_option maxHeartbeats 1000000 in
theorem equal_int {v u : Value} {ps qs : List Int} (w : World) (h : Rd w w.heap.size 1 v ps.length (ic ps)) (h' : Rd w w.heap.size 1 u qs.length (ic qs)) :
    Calls Try.prog 24 #[v, u] w fun e w' => e = .returned (.bool (decide (ps = qs))) ∧ Below w.heap.size w w' := by
  have h1 := h.len_le
  have h2 := h'.len_le
  obtain ⟨hl, A, c, rfl, hc1, hc2, ha⟩ := h
  obtain ⟨hl', A', c', rfl, hc1', hc2', ha'⟩ := h'
  have HA := Lib.hid ha
  have HA' := Lib.hid ha'
  clear ha ha' hl hl'
  by_cases hlen : ps.length = qs.length
  · obtain ⟨n, hn⟩ : ∃ n, n = ps.length := ⟨_, rfl⟩
    have HQ := Lib.hid (hn.trans hlen)
    rw [← hn] at hlen h1 hc1 ⊢
    rw [← hlen] at h2 hc1' ⊢
    have HN := Lib.hid hn
    clear hn hlen
    unfold maxLen at h1 h2
    go_enter Try.func24, Try.ntmps24
    go_wp2
    go_loopw [5, 13] (fun _ i wr => ∃ j : Nat, j ≤ n ∧ i = .int .i64 j ∧ ps.take j = qs.take j ∧ Below w.heap.size w wr) (fun _ i _ => n - (intOf i).toNat)
    case atStart => exact ⟨0, Nat.zero_le _, rfl, rfl, Below.refl _ _⟩
    case round =>
      obtain ⟨j, hj, rfl, hjt, hb⟩ := hrel
      have HT := Lib.hid hjt
      clear hjt
      by_cases hlt : j < n
      · obtain ⟨g, off, rfl, hg, hx⟩ := HA.out (by rw [← HN.out]; omega)
        obtain ⟨g', off', rfl, hg', hx'⟩ := HA'.out (by rw [← HQ.out]; omega)
        obtain ⟨p, hp⟩ : ∃ p, ps[j]? = some p := ⟨ps[j]'(by rw [← HN.out]; omega), List.getElem?_eq_getElem _⟩
        obtain ⟨q, hq⟩ : ∃ q, qs[j]? = some q := ⟨qs[j]'(by rw [← HQ.out]; omega), List.getElem?_eq_getElem _⟩
        have k0 : wr.cell? ⟨g, off + j, none⟩ = some (.int .i64 p) := (hb.cell (p := ⟨g, off + j, none⟩) hg).trans (hx _ _ (ic_at hp))
        have k2 : wr.cell? ⟨g', off' + j, none⟩ = some (.int .i64 q) := (hb.cell (p := ⟨g', off' + j, none⟩) hg').trans (hx' _ _ (ic_at hq))
        have i0 : (0 : Int) ≤ (j : Int) := by omega
        have i1 : (j : Int) < (n : Int) := by omega
        have HB := Lib.hid hb
        have HP := Lib.hid hp
        have HQQ := Lib.hid hq
        clear hx hx' hb hp hq
        by_cases he : p = q
        · subst he
          go_wp2
          go_quiet (fail)
          go_wp2
          go_roundw
          case rel => exact ⟨j + 1, by omega, by go_num, by
            rw [List.take_add_one, List.take_add_one, HT.out, HP.out, HQQ.out], below_drewN HB.out _⟩
          case measure => simp [intOf]; omega
        · have hne : decide (ps = qs) = false := decide_eq_false (fun e => he (by
            have h3 := HP.out
            rw [e, HQQ.out] at h3
            injection h3 with h3
            exact h3.symm))
          have d0 : (p != q) = true := by rw [bne_iff_ne]; exact he
          have d1 : (p == q) = false := by rw [beq_eq_false_iff_ne]; exact he
          have HNE := Lib.hid hne
          clear he hne
          go_wp2
          go_quiet (fail)
          go_wp2
          go_ret
          exact ⟨by rw [HNE.out]; rfl, below_drewN HB.out _⟩
      · obtain rfl : j = n := by omega
        have heq : decide (ps = qs) = true := decide_eq_true (by
          have h3 := HT.out
          rwa [List.take_of_length_le (by rw [← HN.out]; exact Nat.le_refl _), List.take_of_length_le (by rw [← HQ.out]; exact Nat.le_refl _)] at h3)
        have HNE := Lib.hid heq
        have HB := Lib.hid hb
        clear heq hb
        go_wp2
        go_ret
        exact ⟨by rw [HNE.out]; rfl, HB.out⟩
  · have hne : decide (ps = qs) = false := decide_eq_false (fun e => hlen (by rw [e]))
    rw [hne]
    have d0 : ((ps.length : Int) != (qs.length : Int)) = true := by rw [bne_iff_ne]; omega
    clear hne
    go_enter Try.func24, Try.ntmps24
    go_wp2
    go_ret
    exact ⟨rfl, Below.refl _ _⟩

#print axioms equal_int
end Go.Proofs.Ytfhpgmgmofganaa.NodeA
