/- The contracts of key.Map's methods: find, Get, With, Without, Same. -/
import Derived.Test.YthkacajlbenflaaSlP
import Derived.Test.YthkacajlbenflaaKv
import Derived.Lib.Bytealg
import Derived.Laws.StructEq
set_option linter.unusedVariables false
set_option linter.unusedSimpArgs false
namespace Go.Proofs.Ythkacajlbenflaa.KeyM
open Go.RowKit Go.Proofs.Ythkacajlbenflaa.Mem Go.Proofs.Ythkacajlbenflaa.Kv

theorem cmpstring (a b : ByteArray) (w : World) : (callFunc 42 #[.string a, .string b]).run Try.prog w = .ok (.value (.int .i64 (cmpZ a b))) w := by
  rw [run_callFunc_extern Try.func42 (by kernel_rfl) (by kernel_rfl) (by kernel_rfl) (e := Extern.BytealgCompare.compare) (by kernel_rfl), Lib.run_compareString]
  rfl
theorem compare_any (a b : ByteArray) (w : World) : Calls Try.prog 37 #[.string a, .string b] w fun e w' => e = .returned (.int .i64 (cmpZ a b)) ∧ w = w' := by
  have hc := fun w => cmpstring a b w
  go_enter Try.func37, Try.ntmps37
  go_wp2_with (first | simp only [hc] | go_in)
  go_ret
  exact ⟨rfl, rfl⟩
theorem closure_any (a v b : ByteArray) (w : World) : Calls Try.prog 36 #[.agg #[.string a, .string v], .string b] w fun e w' => e = .returned (.int .i64 (cmpZ a b)) ∧ Below w.heap.size w w' := by
  go_enter Try.func36, Try.ntmps36
  go_wp2_with (go_at_call 37; refine (compare_any _ _ _).mono ?_; rintro e w' ⟨rfl, rfl⟩)
  go_ret
  exact ⟨rfl, (Below.refl _ _).alloc (Nat.le_refl _) _⟩

/-- The cells of a list of keys and values. -/
def pc (ps : List P2) : List Value := ps.flatMap fun p => [.string p.1, .string p.2]
theorem pc_cons (p : P2) (ps : List P2) : pc (p :: ps) = .string p.1 :: .string p.2 :: pc ps := rfl
theorem pc_append (ps qs : List P2) : pc (ps ++ qs) = pc ps ++ pc qs := by simp [pc]
theorem pc_length : ∀ ps : List P2, (pc ps).length = ps.length * 2
  | [] => rfl
  | p :: ps => by simp [pc_cons, pc_length ps]; omega
theorem pc_one : ∀ ps : List P2, One (pc ps)
  | [] => One.nil
  | p :: ps => fun u hu => by
    rw [pc_cons] at hu
    rcases List.mem_cons.1 hu with rfl | hu
    · rfl
    · rcases List.mem_cons.1 hu with rfl | hu
      · rfl
      · exact pc_one ps u hu
theorem pc_take : ∀ (ps : List P2) (i : Nat), (pc ps).take (i * 2) = pc (ps.take i)
  | _, 0 => by simp [pc]
  | [], i + 1 => by simp [pc]
  | p :: ps, i + 1 => by
    rw [show (i + 1) * 2 = i * 2 + 1 + 1 by omega, pc_cons, List.take_succ_cons, List.take_succ_cons, List.take_succ_cons, pc_cons, pc_take ps i]
theorem pc_drop : ∀ (ps : List P2) (i : Nat), (pc ps).drop (i * 2) = pc (ps.drop i)
  | _, 0 => by simp
  | [], i + 1 => by simp [pc]
  | p :: ps, i + 1 => by
    rw [show (i + 1) * 2 = i * 2 + 1 + 1 by omega, pc_cons, List.drop_succ_cons, List.drop_succ_cons, List.drop_succ_cons, pc_drop ps i]
theorem pc_key {ps : List P2} {i : Nat} {p : P2} (h : ps[i]? = some p) : (pc ps)[i * 2]? = some (.string p.1) := by
  have := congrArg (fun l => l[0]?) (pc_drop ps i)
  simp only [List.getElem?_drop, Nat.add_zero] at this
  rw [this]
  have hd : ps.drop i = p :: ps.drop (i + 1) := by
    obtain ⟨hi, rfl⟩ := List.getElem?_eq_some_iff.1 h
    exact List.drop_eq_getElem_cons hi
  rw [hd]; rfl
theorem pc_val {ps : List P2} {i : Nat} {p : P2} (h : ps[i]? = some p) : (pc ps)[i * 2 + 1]? = some (.string p.2) := by
  have := congrArg (fun l => l[1]?) (pc_drop ps i)
  simp only [List.getElem?_drop] at this
  rw [this]
  have hd : ps.drop i = p :: ps.drop (i + 1) := by
    obtain ⟨hi, rfl⟩ := List.getElem?_eq_some_iff.1 h
    exact List.drop_eq_getElem_cons hi
  rw [hd]; rfl

set_option maxHeartbeats 1000000 in
theorem search_any {v : Value} {ps : List P2} (w : World) (h : Rd w w.heap.size 2 v ps.length (pc ps)) (hr : Rise ps) (k : S) (hn : ps.length ≤ 4611686018427387903) :
    Calls Try.prog 35 #[v, .string k, .func (.func 36) #[] #[]] w fun e w' => e = .returned (.tuple #[.int .i64 (pos ps k), .bool (here ps k)]) ∧ Below w.heap.size w w' := by
  obtain ⟨hl, A, c, rfl, hc1, hc2, ha⟩ := h
  have HA := Lib.hid ha
  have HL := Lib.hid hl
  have HR := Lib.hid hr
  clear ha hl hr
  have hp := pos_le ps k
  obtain ⟨n, hnn⟩ : ∃ n, n = ps.length := ⟨_, rfl⟩
  have HN := Lib.hid hnn
  rw [← hnn] at hn hc1 hp ⊢
  clear hnn
  go_enter Try.func35, Try.ntmps35
  go_wp2
  go_loopw [9, 10, 11] (fun i j _ wr => ∃ lo hi : Nat, lo ≤ pos ps k ∧ pos ps k ≤ hi ∧ hi ≤ n ∧ i = .int .i64 lo ∧ j = .int .i64 hi ∧ Below w.heap.size w wr) (fun i j _ _ => (intOf j).toNat - (intOf i).toNat)
  case atStart => exact ⟨0, n, Nat.zero_le _, hp, Nat.le_refl _, rfl, rfl, Below.refl _ _⟩
  case round =>
    obtain ⟨lo, hi, h1, h2, h3, rfl, rfl, hb⟩ := hrel
    by_cases hlt : lo < hi
    · obtain ⟨m, hm⟩ : ∃ m : Nat, ((lo : Int) + (hi : Int)) / 2 = (m : Int) := ⟨(lo + hi) / 2, by omega⟩
      have m1 : lo ≤ m := by omega
      have m2 : m < hi := by omega
      have m3 : m < n := by omega
      obtain ⟨g, off, rfl, hg, hx⟩ := HA.out (by rw [← HN.out]; omega)
      obtain ⟨p, hpm⟩ : ∃ p, ps[m]? = some p := ⟨ps[m]'(by rw [← HN.out]; omega), List.getElem?_eq_getElem _⟩
      have k0 : wr.cell? ⟨g, off + m * 2, none⟩ = some (.string p.1) := (hb.cell (p := ⟨g, off + m * 2, none⟩) hg).trans (hx _ _ (pc_key hpm))
      have k1 : wr.cell? ⟨g, off + m * 2 + 1, none⟩ = some (.string p.2) := (hb.cell (p := ⟨g, off + m * 2 + 1, none⟩) hg).trans (hx _ _ (pc_val hpm))
      have hs := pos_split HR.out k m p hpm
      have HB := Lib.hid hb
      clear hx hb hpm
      by_cases hk : m < pos ps k
      · have d0 : decide (cmpZ p.1 k < 0) = true := decide_eq_true ((cmpZ_neg _ _).2 (hs.2 hk))
        clear hs
        go_wp2_with (go_at_call 36; refine (closure_any _ _ _ _).mono ?_; rintro e w1 ⟨rfl, hb1⟩; have HB1 := Lib.hid hb1; clear hb1)
        go_roundw
        case rel => exact ⟨m + 1, hi, by omega, by omega, by omega, by go_num, rfl, below_then HB.out HB.out.size HB1.out⟩
        case measure => simp [intOf]; omega
      · have d0 : decide (cmpZ p.1 k < 0) = false := decide_eq_false (fun h => hk (hs.1 ((cmpZ_neg _ _).1 h)))
        clear hs
        go_wp2_with (go_at_call 36; refine (closure_any _ _ _ _).mono ?_; rintro e w1 ⟨rfl, hb1⟩; have HB1 := Lib.hid hb1; clear hb1)
        go_roundw
        case rel => exact ⟨lo, m, by omega, by omega, by omega, rfl, rfl, below_then HB.out HB.out.size HB1.out⟩
        case measure => simp [intOf]; omega
    · obtain rfl : lo = hi := by omega
      obtain rfl : lo = pos ps k := by omega
      have HH := here_at HR.out k
      by_cases hln : pos ps k < n
      · obtain ⟨g, off, rfl, hg, hx⟩ := HA.out (by rw [← HN.out]; omega)
        obtain ⟨p, hpm⟩ : ∃ p, ps[pos ps k]? = some p := ⟨ps[pos ps k]'(by rw [← HN.out]; omega), List.getElem?_eq_getElem _⟩
        obtain ⟨m, hm⟩ : ∃ m, m = pos ps k := ⟨_, rfl⟩
        rw [← hm] at hpm HH hln h1 h2 h3 ⊢
        have HM := Lib.hid hm
        clear hm
        have k0 : wr.cell? ⟨g, off + m * 2, none⟩ = some (.string p.1) := (hb.cell (p := ⟨g, off + m * 2, none⟩) hg).trans (hx _ _ (pc_key hpm))
        have k1 : wr.cell? ⟨g, off + m * 2 + 1, none⟩ = some (.string p.2) := (hb.cell (p := ⟨g, off + m * 2 + 1, none⟩) hg).trans (hx _ _ (pc_val hpm))
        have HB := Lib.hid hb
        have hz := cmpZ_zero p.1 k
        by_cases hk : p.1 = k
        · have hh : here ps k = true := HH.2 ⟨p, hpm, hk⟩
          have d0 : (cmpZ p.1 k == 0) = true := beq_iff_eq.2 (hz.2 hk)
          have HHH := Lib.hid hh
          clear hx hb hpm hz hk hh HH
          go_wp2_with (go_at_call 36; refine (closure_any _ _ _ _).mono ?_; rintro e w1 ⟨rfl, hb1⟩; have HB1 := Lib.hid hb1; clear hb1)
          go_ret2
          exact ⟨by rw [HHH.out, ← HM.out]; rfl, below_then HB.out HB.out.size HB1.out⟩
        · have hh : here ps k = false := by
            cases he : here ps k
            · rfl
            · obtain ⟨q, hq, e⟩ := HH.1 he
              rw [hpm] at hq; injection hq with hq; subst hq; exact absurd e hk
          have d0 : (cmpZ p.1 k == 0) = false := beq_eq_false_iff_ne.2 (fun e => hk (hz.1 e))
          have HHH := Lib.hid hh
          clear hx hb hpm hz hk hh HH
          go_wp2_with (go_at_call 36; refine (closure_any _ _ _ _).mono ?_; rintro e w1 ⟨rfl, hb1⟩; have HB1 := Lib.hid hb1; clear hb1)
          go_ret2
          exact ⟨by rw [HHH.out, ← HM.out]; rfl, below_then HB.out HB.out.size HB1.out⟩
      · have hh : here ps k = false := by
          cases he : here ps k
          · rfl
          · obtain ⟨q, hq, e⟩ := HH.1 he
            have := (List.getElem?_eq_some_iff.1 hq).1
            rw [← HN.out] at this; omega
        have HHH := Lib.hid hh
        have HB := Lib.hid hb
        clear hh HH hb
        have d1 : decide ((pos ps k : Int) < (n : Int)) = false := decide_eq_false (by omega)
        go_wp2
        go_ret2
        exact ⟨by rw [HHH.out]; rfl, HB.out⟩
end Go.Proofs.Ythkacajlbenflaa.KeyM
