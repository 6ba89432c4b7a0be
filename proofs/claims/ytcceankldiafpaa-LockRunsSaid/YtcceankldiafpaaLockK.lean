/- Has, Waiting, Len, on a table. -/
import Derived.Test.YtcceankldiafpaaLockG
set_option linter.unusedVariables false
set_option linter.unusedSimpArgs false
set_option linter.unusedSectionVars false
set_option maxRecDepth 100000
namespace Go.Proofs.Ytcceankldiafpaa.Lock
open Go.RowKit Go.WideShapes Go.Deep Go.Proofs.Ytcceankldiafpaa.Mem Go.Proofs.Ytcceankldiafpaa.Open Go.Proofs.Ytcceankldiafpaa.Maps
def ListR (w : World) (ws : List Wt) (e : Ending) (w' : World) : Prop := ∃ A c, e = .returned (.slice A ws.length c) ∧ Own w' w.heap.size 47 3 (.slice A ws.length c) ws.length (wc ws) ∧ Below w.heap.size w w' 
set_option maxHeartbeats 2000000 in
theorem has_any {w : World} {B lt mb : Nat} {qs : List (S × Qv)} (h : Tb w B lt mb qs) {k : S} (hk : OkS k) {N : Nat} (hN : N ≤ 50000) (hb : Bnd qs N) :
    Calls Try.prog 15 #[.pointer (some ⟨lt, 0, none⟩), .string k] w (ListR w (lineOf qs k).1) := by
  have hlk := run_lookupP h hk
  have ht0 := h.cell
  cases hq : getM qs k with
  | none =>
    rw [hq] at hlk
    dsimp only [Option.map] at hlk
    have e : lineOf qs k = ([], []) := by unfold lineOf; rw [hq]
    rw [e]
    clear h hq e hb
    go_enter Try.func15, Try.ntmps15
    go_wp2_with fail
    go_ret
    exact ⟨none, 0, rfl, Own.nil_ _ _ _ _, Below.refl _ _⟩
  | some q =>
    rw [hq] at hlk
    dsimp only [Option.map] at hlk
    have e : lineOf qs k = (q.has, q.waits) := by unfold lineOf; rw [hq]
    have hl := hb.rows hq
    rw [e]
    have hQ := h.rows k q hq
    obtain ⟨s0, s1⟩ := hQ.cells
    have HC := Lib.hid (SlW.clone w hQ.h.rd (wc_one _) (by omega))
    clear h hq e hb hQ
    go_enter Try.func15, Try.ntmps15
    go_wp2_with (go_at_call 39; refine HC.out.mono ?_; rintro e w1 ⟨v1, rfl, ho1, hb1, _⟩; have HO1 := Lib.hid ho1; have HB1 := Lib.hid hb1; clear ho1 hb1)
    go_ret
    obtain ⟨A, c, e, _⟩ := HO1.out.slice_
    have ho := HO1.out
    subst e
    exact ⟨A, c, rfl, ho, HB1.out⟩
set_option maxHeartbeats 2000000 in
theorem waiting_any {w : World} {B lt mb : Nat} {qs : List (S × Qv)} (h : Tb w B lt mb qs) {k : S} (hk : OkS k) {N : Nat} (hN : N ≤ 50000) (hb : Bnd qs N) :
    Calls Try.prog 17 #[.pointer (some ⟨lt, 0, none⟩), .string k] w (ListR w (lineOf qs k).2) := by
  have hlk := run_lookupP h hk
  have ht0 := h.cell
  cases hq : getM qs k with
  | none =>
    rw [hq] at hlk
    dsimp only [Option.map] at hlk
    have e : lineOf qs k = ([], []) := by unfold lineOf; rw [hq]
    rw [e]
    clear h hq e hb
    go_enter Try.func17, Try.ntmps17
    go_wp2_with fail
    go_ret
    exact ⟨none, 0, rfl, Own.nil_ _ _ _ _, Below.refl _ _⟩
  | some q =>
    rw [hq] at hlk
    dsimp only [Option.map] at hlk
    have e : lineOf qs k = (q.has, q.waits) := by unfold lineOf; rw [hq]
    have hl := hb.rows hq
    rw [e]
    have hQ := h.rows k q hq
    obtain ⟨s0, s1⟩ := hQ.cells
    have HC := Lib.hid (SlW.clone w hQ.wt.rd (wc_one _) (by omega))
    clear h hq e hb hQ
    go_enter Try.func17, Try.ntmps17
    go_wp2_with (go_at_call 39; refine HC.out.mono ?_; rintro e w1 ⟨v1, rfl, ho1, hb1, _⟩; have HO1 := Lib.hid ho1; have HB1 := Lib.hid hb1; clear ho1 hb1)
    go_ret
    obtain ⟨A, c, e, _⟩ := HO1.out.slice_
    have ho := HO1.out
    subst e
    exact ⟨A, c, rfl, ho, HB1.out⟩
set_option maxHeartbeats 2000000 in
theorem len_any {w : World} {B lt mb : Nat} {qs : List (S × Qv)} (h : Tb w B lt mb qs) : Calls Try.prog 23 #[.pointer (some ⟨lt, 0, none⟩)] w fun e w' => e = .returned (.int .i64 qs.length) ∧ w' = w := by
  have hln := fun ty => run_lenQ (ty := ty) h.fm
  have ht0 := h.cell
  clear h
  go_enter Try.func23, Try.ntmps23
  go_wp2_with fail
  go_ret
  exact ⟨rfl, rfl⟩
#print axioms has_any
#print axioms waiting_any
#print axioms len_any
end Go.Proofs.Ytcceankldiafpaa.Lock
