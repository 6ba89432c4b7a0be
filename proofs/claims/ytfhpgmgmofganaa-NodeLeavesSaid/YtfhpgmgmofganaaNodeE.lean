/- At, Get. -/
import Derived.Test.YtfhpgmgmofganaaNodeD
set_option linter.unusedVariables false
set_option linter.unusedSimpArgs false
set_option linter.unusedSectionVars false
namespace Go.Proofs.Ytfhpgmgmofganaa.NodeA
open Go.RowKit Go.WideShapes Go.Deep Go.Proofs.Ytfhpgmgmofganaa.Mem Go.Proofs.Ytfhpgmgmofganaa.Open Go.Proofs.Ytfhpgmgmofganaa.Kv
/-- What At says. -/
def atZ (p : Pg) (k : S) : Nat := if p.kind = 2 ∧ here (kp p.keys) k = true then pos (kp p.keys) k + 1 else pos (kp p.keys) k
set_option maxHeartbeats 1000000 in
theorem at_any {kv vv nv : Value} {p : Pg} (w : World) (h : PgR w kv vv nv p) (hr : Rise (kp p.keys)) (k : S) :
    Calls Try.prog 17 #[pv p.kind kv vv nv, .string k] w fun e w' => e = .returned (.tuple #[.int .i64 (atZ p k), .bool (here (kp p.keys) k)]) ∧ Below w.heap.size w w' := by
  have hl := h.lens.1
  have hp := pos_le (kp p.keys) k
  rw [kp_len] at hp
  have HS := Lib.hid (fun (w' : World) (hb : Below w.heap.size w w') => search_any w' (h.keys.up hb) hr k (by omega))
  clear h hr
  unfold pv
  by_cases hk : p.kind = 2
  · cases hh : here (kp p.keys) k with
    | true =>
      have ha : atZ p k = pos (kp p.keys) k + 1 := by unfold atZ; rw [if_pos ⟨hk, hh⟩]
      have ew : IntKind.i64.wrap ((pos (kp p.keys) k : Int) + 1) = (pos (kp p.keys) k : Int) + 1 := by rw [IntKind.wrap_i64]; omega
      have HA := Lib.hid ha
      have HH := Lib.hid hh
      clear ha hh
      rw [hk]
      go_enter Try.func17, Try.ntmps17
      go_wp2_with fail
      refine (HS.out _ ((Below.refl _ _).alloc (Nat.le_refl _) _)).mono ?_
      rintro e w1 ⟨he, hb1⟩
      rw [HH.out] at he
      subst he
      have HB1 : Hid (Below w.heap.size w w1) := ((Below.refl _ _).alloc (Nat.le_refl _) _).trans (hb1.mono (by simp))
      obtain ⟨f0, f1, f2, f3, f4, f5, f6, f7, f8⟩ := row8_facts ((hb1.block w.heap.size (by simp)).trans (heap_alloc_new w _))
      clear hb1
      go_wp2_with fail
      go_ret2
      exact ⟨by rw [HA.out]; first | rfl | simp, HB1.out⟩
    | false =>
      have ha : atZ p k = pos (kp p.keys) k := by unfold atZ; rw [if_neg (by simp [hh])]
      have HA := Lib.hid ha
      have HH := Lib.hid hh
      clear ha hh
      rw [hk]
      go_enter Try.func17, Try.ntmps17
      go_wp2_with fail
      refine (HS.out _ ((Below.refl _ _).alloc (Nat.le_refl _) _)).mono ?_
      rintro e w1 ⟨he, hb1⟩
      rw [HH.out] at he
      subst he
      have HB1 : Hid (Below w.heap.size w w1) := ((Below.refl _ _).alloc (Nat.le_refl _) _).trans (hb1.mono (by simp))
      obtain ⟨f0, f1, f2, f3, f4, f5, f6, f7, f8⟩ := row8_facts ((hb1.block w.heap.size (by simp)).trans (heap_alloc_new w _))
      clear hb1
      go_wp2_with fail
      go_ret2
      exact ⟨by rw [HA.out]; first | rfl | simp, HB1.out⟩
  · have ha : atZ p k = pos (kp p.keys) k := by unfold atZ; rw [if_neg (fun h => hk h.1)]
    have kb : (p.kind == 2) = false := by rw [beq_eq_false_iff_ne]; exact hk
    have HA := Lib.hid ha
    clear ha
    go_enter Try.func17, Try.ntmps17
    go_wp2_with fail
    refine (HS.out _ ((Below.refl _ _).alloc (Nat.le_refl _) _)).mono ?_
    rintro e w1 ⟨rfl, hb1⟩
    have HB1 : Hid (Below w.heap.size w w1) := ((Below.refl _ _).alloc (Nat.le_refl _) _).trans (hb1.mono (by simp))
    obtain ⟨f0, f1, f2, f3, f4, f5, f6, f7, f8⟩ := row8_facts ((hb1.block w.heap.size (by simp)).trans (heap_alloc_new w _))
    clear hb1
    go_wp2_with fail
    go_ret2
    exact ⟨by rw [HA.out]; first | rfl | simp, HB1.out⟩
/-- What Get says of a leaf: the value beside the key. -/
def valS (p : Pg) (k : S) : S := if p.kind = 1 ∧ here (kp p.keys) k = true then p.vals.getD (pos (kp p.keys) k) ⟨#[]⟩ else ⟨#[]⟩
def gotS (p : Pg) (k : S) : Bool := decide (p.kind = 1) && here (kp p.keys) k
set_option maxHeartbeats 1000000 in
theorem get_any {kv vv nv : Value} {p : Pg} (w : World) (h : PgR w kv vv nv p) (hr : Rise (kp p.keys)) (hv : p.kind = 1 → p.vals.length = p.keys.length) (k : S) :
    Calls Try.prog 18 #[pv p.kind kv vv nv, .string k] w fun e w' => e = .returned (.tuple #[.string (valS p k), .bool (gotS p k)]) ∧ Below w.heap.size w w' := by
  have HS := Lib.hid (fun (w' : World) (hb : Below w.heap.size w w') => at_any w' (h.up hb) hr k)
  have HV := Lib.hid (fun (w' : World) (hb : Below w.heap.size w w') => (h.up hb).vals)
  have hl := h.lens.2.1
  obtain ⟨Ak, ck, Av, cv, An, cn, e1, e2, e3⟩ := h.forms
  have HR := Lib.hid hr
  clear h hr
  subst e1 e2 e3
  unfold pv at *
  cases hh : here (kp p.keys) k with
  | false =>
    have h1 : valS p k = ⟨#[]⟩ := by unfold valS; rw [if_neg (by simp [hh])]
    have h2 : gotS p k = false := by unfold gotS; rw [hh]; simp
    have H1 := Lib.hid h1
    have H2 := Lib.hid h2
    have HH := Lib.hid hh
    clear h1 h2 hh
    go_enter Try.func18, Try.ntmps18
    go_wp2_with fail
    refine (HS.out _ ((Below.refl _ _).alloc (Nat.le_refl _) _)).mono ?_
    rintro e w1 ⟨he, hb1⟩
    rw [HH.out] at he
    subst he
    have HB1 : Hid (Below w.heap.size w w1) := ((Below.refl _ _).alloc (Nat.le_refl _) _).trans (hb1.mono (by simp))
    obtain ⟨f0, f1, f2, f3, f4, f5, f6, f7, f8⟩ := row8_facts ((hb1.block w.heap.size (by simp)).trans (heap_alloc_new w _))
    clear hb1
    go_wp2_with fail
    go_ret2
    exact ⟨by rw [H1.out, H2.out]; first | rfl | simp, HB1.out⟩
  | true =>
    by_cases hk : p.kind = 1
    · have hpl := here_pos_lt HR.out hh
      rw [kp_len] at hpl
      have hvl := hv hk
      obtain ⟨x, hx⟩ : ∃ x, p.vals[pos (kp p.keys) k]? = some x := ⟨p.vals[pos (kp p.keys) k]'(by omega), List.getElem?_eq_getElem _⟩
      have h1 : valS p k = x := by unfold valS; rw [if_pos ⟨hk, hh⟩, List.getD_eq_getElem?_getD, hx]; rfl
      have h2 : gotS p k = true := by unfold gotS; rw [hh, decide_eq_true hk]; rfl
      have ha : atZ p k = pos (kp p.keys) k := by unfold atZ; rw [if_neg (fun h => by rw [hk] at h; exact absurd h.1 (by decide))]
      obtain ⟨m, hm⟩ : ∃ m, m = pos (kp p.keys) k := ⟨_, rfl⟩
      rw [← hm] at hx hpl ha
      have H1 := Lib.hid h1
      have H2 := Lib.hid h2
      have HH := Lib.hid hh
      have HA := Lib.hid ha
      have HX := Lib.hid hx
      have hi0 : (0 : Int) ≤ (m : Int) := by omega
      have hi1 : (m : Int) < (p.vals.length : Int) := by omega
      have hS1 := HS.out
      simp only [hk] at hS1
      have HS1 := Lib.hid hS1
      clear hS1
      have hml : m < p.vals.length := by omega
      clear h1 h2 hh ha hx hm hv hvl
      rw [hk]
      go_enter Try.func18, Try.ntmps18
      go_wp2_with fail
      refine (HS1.out _ ((Below.refl _ _).alloc (Nat.le_refl _) _)).mono ?_
      rintro e w1 ⟨he, hb1⟩
      rw [HH.out, HA.out] at he
      subst he
      have hB1 : Below w.heap.size w w1 := ((Below.refl _ _).alloc (Nat.le_refl _) _).trans (hb1.mono (by simp))
      obtain ⟨f0, f1, f2, f3, f4, f5, f6, f7, f8⟩ := row8_facts ((hb1.block w.heap.size (by simp)).trans (heap_alloc_new w _))
      obtain ⟨g, off, cc, eA, _, _, _, hxx⟩ := (HV.out w1 hB1).cells (by omega)
      injection eA with eA1 eA0 eA2
      clear eA0
      subst eA1 eA2
      have k0 := hxx m _ (sc_at HX.out)
      have HB1 := Lib.hid hB1
      clear hb1 hB1 hxx
      go_wp2_with fail
      go_ret2
      exact ⟨by rw [H1.out, H2.out]; first | rfl | simp, HB1.out⟩
    · have h1 : valS p k = ⟨#[]⟩ := by unfold valS; rw [if_neg (fun h => hk h.1)]
      have h2 : gotS p k = false := by unfold gotS; rw [decide_eq_false hk]; rfl
      have kb : (p.kind != 1) = true := by rw [bne_iff_ne]; exact hk
      have H1 := Lib.hid h1
      have H2 := Lib.hid h2
      have HH := Lib.hid hh
      clear h1 h2 hh hv
      go_enter Try.func18, Try.ntmps18
      go_wp2_with fail
      refine (HS.out _ ((Below.refl _ _).alloc (Nat.le_refl _) _)).mono ?_
      rintro e w1 ⟨he, hb1⟩
      rw [HH.out] at he
      subst he
      have HB1 : Hid (Below w.heap.size w w1) := ((Below.refl _ _).alloc (Nat.le_refl _) _).trans (hb1.mono (by simp))
      obtain ⟨f0, f1, f2, f3, f4, f5, f6, f7, f8⟩ := row8_facts ((hb1.block w.heap.size (by simp)).trans (heap_alloc_new w _))
      clear hb1
      go_wp2_with fail
      go_ret2
      exact ⟨by rw [H1.out, H2.out]; first | rfl | simp, HB1.out⟩
#print axioms get_any
end Go.Proofs.Ytfhpgmgmofganaa.NodeA
