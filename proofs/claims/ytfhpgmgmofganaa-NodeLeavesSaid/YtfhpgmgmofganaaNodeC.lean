/- Same, Over, Under. -/
import Derived.Test.YtfhpgmgmofganaaNodeB
set_option linter.unusedVariables false
set_option linter.unusedSimpArgs false
set_option linter.unusedSectionVars false
namespace Go.Proofs.Ytfhpgmgmofganaa.NodeA
open Go.RowKit Go.WideShapes Go.Deep Go.Proofs.Ytfhpgmgmofganaa.Mem Go.Proofs.Ytfhpgmgmofganaa.Open Go.Proofs.Ytfhpgmgmofganaa.Kv
theorem PgR.forms {w : World} {kv vv nv : Value} {p : Pg} (h : PgR w kv vv nv p) : ∃ Ak ck Av cv An cn, kv = .slice Ak p.keys.length ck ∧ vv = .slice Av p.vals.length cv ∧ nv = .slice An p.kids.length cn := by
  obtain ⟨_, Ak, ck, ek, _⟩ := h.keys
  obtain ⟨_, Av, cv, ev, _⟩ := h.vals
  obtain ⟨_, An, cn, en, _⟩ := h.kids
  exact ⟨Ak, ck, Av, cv, An, cn, ek, ev, en⟩
theorem over_any {kv vv nv : Value} {p : Pg} (w : World) (h : PgR w kv vv nv p) :
    Calls Try.prog 16 #[pv p.kind kv vv nv] w fun e w' => e = .returned (.bool (decide (p.kind = 1 ∧ 6 < p.keys.length ∨ p.kind = 2 ∧ 8 < p.kids.length))) ∧ Below w.heap.size w w' := by
  obtain ⟨Ak, ck, Av, cv, An, cn, rfl, rfl, rfl⟩ := h.forms
  clear h
  obtain ⟨kind, ks, vs, ns⟩ := p
  dsimp only
  obtain ⟨n1, e1⟩ : ∃ n, n = ks.length := ⟨_, rfl⟩
  obtain ⟨n3, e3⟩ : ∃ n, n = ns.length := ⟨_, rfl⟩
  rw [← e1, ← e3]
  clear e1 e3
  unfold pv
  by_cases k1 : kind = 1
  · subst k1
    by_cases hn : 6 < n1
    · have hd : decide ((1 : Int) = 1 ∧ 6 < n1 ∨ (1 : Int) = 2 ∧ 8 < n3) = true := by simp [hn]
      have HD := Lib.hid hd
      clear hd
      go_enter Try.func16, Try.ntmps16
      go_wp2_with fail
      go_ret
      exact ⟨by first | rfl | (rw [HD.out]; rfl) | (simp [*]; done) | (simp; omega), (Below.refl _ _).alloc (Nat.le_refl _) _⟩
    · have hd : decide ((1 : Int) = 1 ∧ 6 < n1 ∨ (1 : Int) = 2 ∧ 8 < n3) = false := by simp [hn]
      have HD := Lib.hid hd
      clear hd
      go_enter Try.func16, Try.ntmps16
      go_wp2_with fail
      go_ret
      exact ⟨by first | rfl | (rw [HD.out]; rfl) | (simp [*]; done) | (simp; omega), (Below.refl _ _).alloc (Nat.le_refl _) _⟩
  · have kb1 : (kind == 1) = false := by rw [beq_eq_false_iff_ne]; exact k1
    by_cases k2 : kind = 2
    · subst k2
      by_cases hn : 8 < n3
      · have hd : decide ((2 : Int) = 1 ∧ 6 < n1 ∨ (2 : Int) = 2 ∧ 8 < n3) = true := by simp [hn]
        have HD := Lib.hid hd
        clear hd
        go_enter Try.func16, Try.ntmps16
        go_wp2_with fail
        go_ret
        exact ⟨by first | rfl | (rw [HD.out]; rfl) | (simp [*]; done) | (simp; omega), (Below.refl _ _).alloc (Nat.le_refl _) _⟩
      · have hd : decide ((2 : Int) = 1 ∧ 6 < n1 ∨ (2 : Int) = 2 ∧ 8 < n3) = false := by simp [hn]
        have HD := Lib.hid hd
        clear hd
        go_enter Try.func16, Try.ntmps16
        go_wp2_with fail
        go_ret
        exact ⟨by first | rfl | (rw [HD.out]; rfl) | (simp [*]; done) | (simp; omega), (Below.refl _ _).alloc (Nat.le_refl _) _⟩
    · have kb2 : (kind == 2) = false := by rw [beq_eq_false_iff_ne]; exact k2
      have hd : decide (kind = 1 ∧ 6 < n1 ∨ kind = 2 ∧ 8 < n3) = false := by simp [k1, k2]
      have HD := Lib.hid hd
      clear hd
      go_enter Try.func16, Try.ntmps16
      go_wp2_with fail
      go_ret
      exact ⟨by first | rfl | (rw [HD.out]; rfl) | (simp [*]; done) | (simp; omega), (Below.refl _ _).alloc (Nat.le_refl _) _⟩
theorem under_any {kv vv nv : Value} {p : Pg} (w : World) (h : PgR w kv vv nv p) :
    Calls Try.prog 15 #[pv p.kind kv vv nv] w fun e w' => e = .returned (.bool (decide (p.kind = 1 ∧ p.keys.length < 3 ∨ p.kind = 2 ∧ p.kids.length < 4))) ∧ Below w.heap.size w w' := by
  obtain ⟨Ak, ck, Av, cv, An, cn, rfl, rfl, rfl⟩ := h.forms
  clear h
  obtain ⟨kind, ks, vs, ns⟩ := p
  dsimp only
  obtain ⟨n1, e1⟩ : ∃ n, n = ks.length := ⟨_, rfl⟩
  obtain ⟨n3, e3⟩ : ∃ n, n = ns.length := ⟨_, rfl⟩
  rw [← e1, ← e3]
  clear e1 e3
  unfold pv
  by_cases k1 : kind = 1
  · subst k1
    by_cases hn : n1 < 3
    · have hd : decide ((1 : Int) = 1 ∧ n1 < 3 ∨ (1 : Int) = 2 ∧ n3 < 4) = true := by simp [hn]
      have HD := Lib.hid hd
      clear hd
      go_enter Try.func15, Try.ntmps15
      go_wp2_with fail
      go_ret
      exact ⟨by first | rfl | (rw [HD.out]; rfl) | (simp [*]; done) | (simp; omega), (Below.refl _ _).alloc (Nat.le_refl _) _⟩
    · have hd : decide ((1 : Int) = 1 ∧ n1 < 3 ∨ (1 : Int) = 2 ∧ n3 < 4) = false := by simp [hn]
      have HD := Lib.hid hd
      clear hd
      go_enter Try.func15, Try.ntmps15
      go_wp2_with fail
      go_ret
      exact ⟨by first | rfl | (rw [HD.out]; rfl) | (simp [*]; done) | (simp; omega), (Below.refl _ _).alloc (Nat.le_refl _) _⟩
  · have kb1 : (kind == 1) = false := by rw [beq_eq_false_iff_ne]; exact k1
    by_cases k2 : kind = 2
    · subst k2
      by_cases hn : n3 < 4
      · have hd : decide ((2 : Int) = 1 ∧ n1 < 3 ∨ (2 : Int) = 2 ∧ n3 < 4) = true := by simp [hn]
        have HD := Lib.hid hd
        clear hd
        go_enter Try.func15, Try.ntmps15
        go_wp2_with fail
        go_ret
        exact ⟨by first | rfl | (rw [HD.out]; rfl) | (simp [*]; done) | (simp; omega), (Below.refl _ _).alloc (Nat.le_refl _) _⟩
      · have hd : decide ((2 : Int) = 1 ∧ n1 < 3 ∨ (2 : Int) = 2 ∧ n3 < 4) = false := by simp [hn]
        have HD := Lib.hid hd
        clear hd
        go_enter Try.func15, Try.ntmps15
        go_wp2_with fail
        go_ret
        exact ⟨by first | rfl | (rw [HD.out]; rfl) | (simp [*]; done) | (simp; omega), (Below.refl _ _).alloc (Nat.le_refl _) _⟩
    · have kb2 : (kind == 2) = false := by rw [beq_eq_false_iff_ne]; exact k2
      have hd : decide (kind = 1 ∧ n1 < 3 ∨ kind = 2 ∧ n3 < 4) = false := by simp [k1, k2]
      have HD := Lib.hid hd
      clear hd
      go_enter Try.func15, Try.ntmps15
      go_wp2_with fail
      go_ret
      exact ⟨by first | rfl | (rw [HD.out]; rfl) | (simp [*]; done) | (simp; omega), (Below.refl _ _).alloc (Nat.le_refl _) _⟩

set_option maxHeartbeats 1000000 in
theorem same_any {kv vv nv kv' vv' nv' : Value} {p q : Pg} (w : World) (h : PgR w kv vv nv p) (h' : PgR w kv' vv' nv' q) (hk : p.kind = q.kind) :
    Calls Try.prog 13 #[pv p.kind kv vv nv, pv q.kind kv' vv' nv'] w fun e w' => e = .returned (.bool (decide (p.keys = q.keys) && decide (p.vals = q.vals) && decide (p.kids = q.kids))) ∧ Below w.heap.size w w' := by
  obtain ⟨kind, ks, vs, ns⟩ := p
  obtain ⟨kind', ks', vs', ns'⟩ := q
  dsimp only at hk ⊢
  subst hk
  have HK := fun w' (hb : Below w.heap.size w w') => Lib.hid (equal_str w' (h.keys.up hb) (h'.keys.up hb))
  have HV := fun w' (hb : Below w.heap.size w w') => Lib.hid (equal_str w' (h.vals.up hb) (h'.vals.up hb))
  have HN := fun w' (hb : Below w.heap.size w w') => Lib.hid (equal_int w' (h.kids.up hb) (h'.kids.up hb))
  clear h h'
  have HK := Lib.hid HK
  have HV := Lib.hid HV
  have HN := Lib.hid HN
  unfold pv
  go_enter Try.func13, Try.ntmps13
  obtain ⟨W0, hW0⟩ : ∃ W0, W0 = ((w.alloc (.cells #[.int .i64 kind, kv, vv, nv, .int .i64 0, .int .i64 0, .int .i64 0, .int .i64 0] 26)).alloc (.cells #[.int .i64 kind, kv', vv', nv', .int .i64 0, .int .i64 0, .int .i64 0, .int .i64 0] 26)) := ⟨_, rfl⟩
  have hs0 : W0.heap.size = w.heap.size + 2 := by rw [hW0]; simp
  have HB0 : Hid (Below w.heap.size w W0) := by rw [hW0]; exact ((Below.refl _ w).alloc (Nat.le_refl _) _).alloc (by simp) _
  have HR1 : Hid (∀ W, Below (w.heap.size + 2) W0 W → W.heap[w.heap.size]? = some (.cells #[.int .i64 kind, kv, vv, nv, .int .i64 0, .int .i64 0, .int .i64 0, .int .i64 0] 26 (0, 0))) := fun W hb => by
    rw [hb.block _ (by omega), hW0, Below.heap_alloc _ _ _ (by simp)]; exact heap_alloc_new w _
  have HR2 : Hid (∀ W, Below (w.heap.size + 2) W0 W → W.heap[w.heap.size + 1]? = some (.cells #[.int .i64 kind, kv', vv', nv', .int .i64 0, .int .i64 0, .int .i64 0, .int .i64 0] 26 (0, 0))) := fun W hb => by
    rw [hb.block _ (by omega), hW0]
    have := heap_alloc_new (w.alloc (.cells #[.int .i64 kind, kv, vv, nv, .int .i64 0, .int .i64 0, .int .i64 0, .int .i64 0] 26)) (.cells #[.int .i64 kind, kv', vv', nv', .int .i64 0, .int .i64 0, .int .i64 0, .int .i64 0] 26)
    simpa using this
  have HS0 := Lib.hid hs0
  have HW0 := Lib.hid hW0
  have hD0 : Hid (Below (w.heap.size + 2) W0 W0) := Below.refl _ W0
  clear hW0 hs0
  go_wp2_with fail
  rw [← HW0.out]
  refine (HK.out _ HB0.out).out.mono ?_
  rintro e w1 ⟨he, hb1⟩
  have HB1 := Lib.hid (HB0.out.trans (hb1.mono HB0.out.size))
  have hz := HS0.out
  have hz2 := hb1.size
  have HS1 : Hid (w.heap.size + 2 ≤ w1.heap.size) := by show _ ≤ _; omega
  have hD1 : Hid (Below (w.heap.size + 2) W0 w1) := hD0.out.trans (hb1.mono (by omega))
  clear hb1 hz hz2
  by_cases q1 : ks = ks'
  · rw [decide_eq_true q1] at he
    subst he
    obtain ⟨f0, f1, f2, f3, f4, f5, f6, f7, f8⟩ := row8_facts (HR1.out w1 hD1.out)
    obtain ⟨g0, g1, g2, g3, g4, g5, g6, g7, g8⟩ := row8_facts (HR2.out w1 hD1.out)
    go_wp2_with fail
    clear f0 f1 f2 f3 f4 f5 f6 f7 f8 g0 g1 g2 g3 g4 g5 g6 g7 g8
    refine (HV.out _ HB1.out).out.mono ?_
    rintro e w2 ⟨he, hb2⟩
    have HB2 := Lib.hid (HB1.out.trans (hb2.mono HB1.out.size))
    have hz := HS1.out
    have hz2 := hb2.size
    have HS2 : Hid (w.heap.size + 2 ≤ w2.heap.size) := by show _ ≤ _; omega
    have hD2 : Hid (Below (w.heap.size + 2) W0 w2) := hD1.out.trans (hb2.mono (by omega))
    clear hb2 hz hz2
    by_cases q2 : vs = vs'
    · rw [decide_eq_true q2] at he
      subst he
      obtain ⟨f0, f1, f2, f3, f4, f5, f6, f7, f8⟩ := row8_facts (HR1.out w2 hD2.out)
      obtain ⟨g0, g1, g2, g3, g4, g5, g6, g7, g8⟩ := row8_facts (HR2.out w2 hD2.out)
      go_wp2_with fail
      clear f0 f1 f2 f3 f4 f5 f6 f7 f8 g0 g1 g2 g3 g4 g5 g6 g7 g8
      refine (HN.out _ HB2.out).out.mono ?_
      rintro e w3 ⟨he, hb3⟩
      have HB3 := Lib.hid (HB2.out.trans (hb3.mono HB2.out.size))
      have hz := HS2.out
      have hz2 := hb3.size
      have HS3 : Hid (w.heap.size + 2 ≤ w3.heap.size) := by show _ ≤ _; omega
      have hD3 : Hid (Below (w.heap.size + 2) W0 w3) := hD2.out.trans (hb3.mono (by omega))
      clear hb3 hz hz2
      by_cases q3 : ns = ns'
      · rw [decide_eq_true q3] at he
        subst he
        obtain ⟨f0, f1, f2, f3, f4, f5, f6, f7, f8⟩ := row8_facts (HR1.out w3 hD3.out)
        obtain ⟨g0, g1, g2, g3, g4, g5, g6, g7, g8⟩ := row8_facts (HR2.out w3 hD3.out)
        have hfin : (decide (ks = ks') && decide (vs = vs') && decide (ns = ns')) = true := by simp [q1, q2, q3]
        have HF := Lib.hid hfin
        clear hfin
        go_wp2_with fail
        go_ret
        exact ⟨by rw [HF.out]; rfl, HB3.out⟩
      · rw [decide_eq_false q3] at he
        subst he
        obtain ⟨f0, f1, f2, f3, f4, f5, f6, f7, f8⟩ := row8_facts (HR1.out w3 hD3.out)
        obtain ⟨g0, g1, g2, g3, g4, g5, g6, g7, g8⟩ := row8_facts (HR2.out w3 hD3.out)
        have hfin : (decide (ks = ks') && decide (vs = vs') && decide (ns = ns')) = false := by simp [q3]
        have HF := Lib.hid hfin
        clear hfin
        go_wp2_with fail
        go_ret
        exact ⟨by rw [HF.out]; rfl, HB3.out⟩
    · rw [decide_eq_false q2] at he
      subst he
      obtain ⟨f0, f1, f2, f3, f4, f5, f6, f7, f8⟩ := row8_facts (HR1.out w2 hD2.out)
      obtain ⟨g0, g1, g2, g3, g4, g5, g6, g7, g8⟩ := row8_facts (HR2.out w2 hD2.out)
      have hfin : (decide (ks = ks') && decide (vs = vs') && decide (ns = ns')) = false := by simp [q2]
      have HF := Lib.hid hfin
      clear hfin
      go_wp2_with fail
      go_ret
      exact ⟨by rw [HF.out]; rfl, HB2.out⟩
  · rw [decide_eq_false q1] at he
    subst he
    obtain ⟨f0, f1, f2, f3, f4, f5, f6, f7, f8⟩ := row8_facts (HR1.out w1 hD1.out)
    obtain ⟨g0, g1, g2, g3, g4, g5, g6, g7, g8⟩ := row8_facts (HR2.out w1 hD1.out)
    have hfin : (decide (ks = ks') && decide (vs = vs') && decide (ns = ns')) = false := by simp [q1]
    have HF := Lib.hid hfin
    clear hfin
    go_wp2_with fail
    go_ret
    exact ⟨by rw [HF.out]; rfl, HB1.out⟩
#print axioms over_any
end Go.Proofs.Ytfhpgmgmofganaa.NodeA

