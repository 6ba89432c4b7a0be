/- The library's slice functions at []byte (byte), by contracts. -/
import Derived.Test.YtpgcoopkileclaaProg
import Derived.Test.YtpgcoopkileclaaMem
import Derived.Lib.AppendZerosOnto
import Derived.Lib.Overlaps
import Derived.Laws.Externs
set_option linter.unusedVariables false
set_option linter.unusedSimpArgs false
namespace Go.Proofs.Ytpgcoopkileclaa.SlB
open Go.RowKit Go.Proofs.Ytpgcoopkileclaa.Mem

theorem ty : Ty Try.prog 5 1 1 (.int .u8 0) := Ty.of (by kernel_rfl) rfl
theorem zOne : One (Value.cells (.int .u8 0)).toList := by intro u hu; simp [Value.cells] at hu; subst hu; rfl

set_option maxHeartbeats 400000 in
/-- slices.Clone: the same elements in memory of the call's own. -/
theorem clone {v : Value} {n : Nat} {xs : List Value} (w : World) (h : Rd w w.heap.size 1 v n xs) (h1 : One xs) (hb : n * 1 ≤ 140737488355328) :
    Calls Try.prog 14 #[v] w fun e w' => ∃ v', e = .returned v' ∧ Own w' w.heap.size 5 1 v' n xs ∧ Below w.heap.size w w' ∧ (v' = .slice none 0 0 → n = 0) := by
  have q : ∀ (w : World) (a : Option Addr) (n c n' c' : Nat), (binOp .eql 29 (.slice a n c) (.slice none n' c')).run Try.prog w = .ok (.bool a.isNone) w := fun w a n c n' c' => Lib.run_eql_slice_nil w _ _ a n c n' c' Try.underlying29
  have hlen := h.len_le
  obtain ⟨hl, A, c, rfl, hn, hc, ha⟩ := h
  rcases A with _ | ad
  · have hn0 : n = 0 := by
      rcases Nat.eq_zero_or_pos n with h0 | h0
      · exact h0
      · obtain ⟨g, off, e, _⟩ := ha h0; cases e
    subst hn0
    have hx : xs = [] := List.eq_nil_of_length_eq_zero (by simpa using hl)
    subst hx
    clear ha
    go_enter Try.func14, Try.ntmps14
    go_wp2
    go_ret
    exact ⟨_, rfl, Own.nil_ _ _ _ _, Below.refl _ _, by simp⟩
  · have HA := Lib.hid ha
    have HL := Lib.hid hl
    clear ha hl
    have hrun : Does Try.prog (w.alloc (.cells #[] 5)) (Builtin.append_ #[29, 29] 29 #[.slice (some ⟨w.heap.size, 0, none⟩) 0 0, .slice (some ad) n c]) fun v' w' => Own w' w.heap.size 5 1 v' n xs ∧ Below w.heap.size w w' ∧ (v' = .slice none 0 0 → n = 0) := by
      obtain ⟨v', w', hr, ho, hg, hb', hnil⟩ := run_append (P := Try.prog) (w.alloc (.cells #[] 5)) (ty := 29) Try.underlying29 Try.underlying29 ty (base := w.heap.size) (v := .slice (some ⟨w.heap.size, 0, none⟩) 0 0) (n := 0) (xs := [])
        ⟨rfl, .inr ⟨w.heap.size, 0, 0, #[], rfl, Nat.le_refl _, heap_alloc_new w _, Nat.le_refl _, Nat.zero_le _, by simp, by simp⟩⟩ (A := some ad) (m := n) (c := c) (news := xs) HL.out
        (fun h0 => by
          obtain ⟨g, off, e, hg, hx⟩ := HA.out h0
          exact ⟨g, off, e, fun j u hu => (World.cell?_alloc_lt w _ ⟨g, off + j, none⟩ hg).trans (hx j u hu)⟩) h1 (by omega) (by omega) (by simp)
      refine ⟨v', w', hr, by simpa using ho, ?_, fun e => ?_⟩
      · exact ((Below.refl _ w).alloc (Nat.le_refl _) _).grown hg (by simp) (by intro k hk; simp [Value.ownBlock] at hk; omega)
      · exact (hnil.1 e).2
    go_enter Try.func14, Try.ntmps14
    go_wp2_with (at_builtin; refine wpL_append rfl _ _ 29 29 rfl rfl rfl hrun ?_; intro v' w' hR; have HR := Lib.hid hR; clear hR)
    go_ret
    exact ⟨v', rfl, HR.out⟩
end Go.Proofs.Ytpgcoopkileclaa.SlB
