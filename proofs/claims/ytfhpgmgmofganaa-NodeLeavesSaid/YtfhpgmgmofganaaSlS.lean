/- The library's slice functions at []string (string), by contracts. -/
import Derived.Test.YtfhpgmgmofganaaProg
import Derived.Test.YtfhpgmgmofganaaMem
import Derived.Lib.AppendZerosOnto
import Derived.Lib.Overlaps
import Derived.Laws.Externs
set_option linter.unusedVariables false
set_option linter.unusedSimpArgs false
namespace Go.Proofs.Ytfhpgmgmofganaa.SlS
open Go.RowKit Go.Proofs.Ytfhpgmgmofganaa.Mem

theorem ty : Ty Try.prog 9 1 16 (.string ⟨#[]⟩) := Ty.of (by kernel_rfl) rfl
theorem zOne : One (Value.cells (.string ⟨#[]⟩)).toList := by intro u hu; simp [Value.cells] at hu; subst hu; rfl

set_option maxHeartbeats 400000 in
/-- slices.Clone: the same elements in memory of the call's own. -/
theorem clone {v : Value} {n : Nat} {xs : List Value} (w : World) (h : Rd w w.heap.size 1 v n xs) (h1 : One xs) (hb : n * 16 ≤ 140737488355328) :
    Calls Try.prog 21 #[v] w fun e w' => ∃ v', e = .returned v' ∧ Own w' w.heap.size 9 1 v' n xs ∧ Below w.heap.size w w' ∧ (v' = .slice none 0 0 → n = 0) := by
  have q : ∀ (w : World) (a : Option Addr) (n c n' c' : Nat), (binOp .eql 22 (.slice a n c) (.slice none n' c')).run Try.prog w = .ok (.bool a.isNone) w := fun w a n c n' c' => Lib.run_eql_slice_nil w _ _ a n c n' c' Try.underlying22
  have hlen := h.len_le
  obtain ⟨hl, A, c, rfl, hn, hc, ha⟩ := h
  rcases A with _ | ad
  · have hn0 : n = 0 := by
      rcases Nat.eq_zero_or_pos n with h0 | h0
      · exact h0
      · obtain ⟨g, off, e, _⟩ := ha h0; cases e
    subst hn0
    have hx : xs = [] := List.eq_nil_of_length_eq_zero (by simpa using hl)
    subst hx
    clear ha
    go_enter Try.func21, Try.ntmps21
    go_wp2
    go_ret
    exact ⟨_, rfl, Own.nil_ _ _ _ _, Below.refl _ _, by simp⟩
  · have HA := Lib.hid ha
    have HL := Lib.hid hl
    clear ha hl
    have hrun : Does Try.prog (w.alloc (.cells #[] 9)) (Builtin.append_ #[22, 22] 22 #[.slice (some ⟨w.heap.size, 0, none⟩) 0 0, .slice (some ad) n c]) fun v' w' => Own w' w.heap.size 9 1 v' n xs ∧ Below w.heap.size w w' ∧ (v' = .slice none 0 0 → n = 0) := by
      obtain ⟨v', w', hr, ho, hg, hb', hnil⟩ := run_append (P := Try.prog) (w.alloc (.cells #[] 9)) (ty := 22) Try.underlying22 Try.underlying22 ty (base := w.heap.size) (v := .slice (some ⟨w.heap.size, 0, none⟩) 0 0) (n := 0) (xs := [])
        ⟨rfl, .inr ⟨w.heap.size, 0, 0, #[], rfl, Nat.le_refl _, heap_alloc_new w _, Nat.le_refl _, Nat.zero_le _, by simp, by simp⟩⟩ (A := some ad) (m := n) (c := c) (news := xs) HL.out
        (fun h0 => by
          obtain ⟨g, off, e, hg, hx⟩ := HA.out h0
          exact ⟨g, off, e, fun j u hu => (World.cell?_alloc_lt w _ ⟨g, off + j, none⟩ hg).trans (hx j u hu)⟩) h1 (by omega) (by omega) (by simp)
      refine ⟨v', w', hr, by simpa using ho, ?_, fun e => ?_⟩
      · exact ((Below.refl _ w).alloc (Nat.le_refl _) _).grown hg (by simp) (by intro k hk; simp [Value.ownBlock] at hk; omega)
      · exact (hnil.1 e).2
    go_enter Try.func21, Try.ntmps21
    go_wp2_with (at_builtin; refine wpL_append rfl _ _ 22 22 rfl rfl rfl hrun ?_; intro v' w' hR; have HR := Lib.hid hR; clear hR)
    go_ret
    exact ⟨v', rfl, HR.out⟩

/-- What s[:i] and s[i+1:], put one behind the other, leave: the row without its i-th element. -/
def Del (w : World) (base g off cap m : Nat) (xs : List Value) (v' : Value) (w' : World) : Prop :=
  v' = .slice (some ⟨g, off, none⟩) m cap ∧ Own w' base 9 1 (.slice (some ⟨g, off, none⟩) m cap) m xs ∧ Fr (· = g) w w'
theorem del_append {w : World} {base g off cap i r : Nat} {xs : List Value} (h : Own w base 9 1 (.slice (some ⟨g, off, none⟩) (i + 1 + r) cap) (i + 1 + r) xs) (h1 : One xs) (so : Nat) (hso : r = 0 ∨ so = off + (i + 1) * 1) :
    Does Try.prog w.drew (Builtin.append_ #[22, 22] 22 #[.slice (some ⟨g, off, none⟩) i cap, .slice (some ⟨g, so, none⟩) r (cap - (i + 1))]) (Del w base g off cap (i + r) (xs.take (i * 1) ++ xs.drop ((i + 1) * 1))) := by
  obtain ⟨hl, h⟩ := h
  rcases h with ⟨h, _⟩ | ⟨g', off', cap', cur, hv, hb, hg, hn, hc, hs, ht⟩
  · cases h
  injection hv with ha hn' hc'
  injection ha with ha
  injection ha with e1 e2
  subst e1 e2 hc'
  have hm : (i + 1 + r) * 1 ≤ cap * 1 := Nat.mul_le_mul_right _ hn
  obtain ⟨⟨ti, hi, hz, hk1, hk2⟩, hzs⟩ := ty
  have hdl : (xs.drop ((i + 1) * 1)).length = r * 1 := by rw [List.length_drop, hl]; omega
  have hr := run_append_room' (P := Try.prog) w.drew 22 22 22 9 9 ti Try.underlying22 Try.underlying22 hi g off i cap cur hg ⟨g, so, none⟩ r (cap - (i + 1)) (xs.drop ((i + 1) * 1)) (by rw [hk1]; exact hdl)
    (fun j u hu => by
      rcases hso with rfl | rfl
      · have en : xs.drop ((i + 1) * 1) = [] := List.eq_nil_of_length_eq_zero (by rw [hdl])
        rw [en] at hu; cases hu
      · rw [add_lit', World.cell?_drew, cell_of_row w g _ cur _ (0, 0) hg, Nat.add_assoc]
        rw [List.getElem?_drop] at hu
        exact own_cells ht hu) (h1.drop _) (by omega) (by rw [hk1, hdl]; omega)
  rw [hk1] at hr
  refine ⟨_, _, hr, rfl, ⟨?_, .inr ⟨g, off, cap, _, rfl, hb, setRow_heap w.drew g cur _ _ _ hg, by omega, hc, ?_, ?_⟩⟩, ((Fr.refl (fun x => x = g) w).drew).setRow (.inl rfl) _⟩
  · rw [List.length_append, hdl, List.length_take, hl]; omega
  · rw [show (cur.toList.take (off + i * 1) ++ xs.drop ((i + 1) * 1) ++ cur.toList.drop (off + i * 1 + (xs.drop ((i + 1) * 1)).length)).toArray = splice cur (off + i * 1) (xs.drop ((i + 1) * 1)) from rfl, size_splice (by rw [hdl]; omega)]
    exact hs
  · have htl : (xs.take (i * 1)).length = i * 1 := by rw [List.length_take, hl]; omega
    refine splice_list (cur := cur) (o := off + i * 1) (news := xs.drop ((i + 1) * 1)) (by rw [hdl]; omega) off _ _ (by omega) (by rw [List.length_append, hdl, htl]; omega) (fun j hj => ?_)
    rw [List.getElem?_append, htl, hdl]
    by_cases hji : j < i * 1
    · rw [if_pos hji, if_neg (by omega), List.getElem?_take, if_pos hji]
      have : j < xs.length := by omega
      rw [List.getElem?_eq_getElem this]
      exact (own_cells ht (List.getElem?_eq_getElem this)).symm
    · rw [if_neg hji, if_pos (by omega)]
      congr 1
      omega
theorem del_clear {w0 w : World} {base g off cap m : Nat} {xs : List Value} (hf : Fr (· = g) w0 w) (h : Own w base 9 1 (.slice (some ⟨g, off, none⟩) m cap) m xs) (hm : m < cap) (nn cc so : Nat) (hnn : nn = 1) (hso : so = off + m * 1) :
    Does Try.prog w (Builtin.clear_ #[22] 0 #[.slice (some ⟨g, so, none⟩) nn cc]) fun _ w' => Own w' base 9 1 (.slice (some ⟨g, off, none⟩) m cap) m xs ∧ Fr (· = g) w0 w' := by
  subst hnn hso
  obtain ⟨hl, h⟩ := h
  rcases h with ⟨h, _⟩ | ⟨g', off', cap', cur, hv, hb, hg, hn, hc, hs, ht⟩
  · cases h
  injection hv with ha hn' hc'
  injection ha with ha
  injection ha with e1 e2
  subst e1 e2 hc'
  have hmm : (m + 1) * 1 ≤ cap * 1 := Nat.mul_le_mul_right _ hm
  obtain ⟨news, hnl, hr⟩ := run_clear_at (P := Try.prog) w (ty := 0) (k := 1) (o := off + m * 1) (n := 1) (c := cc) Try.underlying22 ty hg zOne (by omega)
  refine ⟨_, _, hr, ⟨hl, .inr ⟨g, off, cap, _, rfl, hb, setRow_heap w g cur _ _ _ hg, hn, hc, ?_, ?_⟩⟩, hf.trans ((Fr.refl (· = g) w).setRow (.inl rfl) _) (fun _ _ h => h)⟩
  · rw [size_splice (by rw [hnl]; omega)]; exact hs
  · refine splice_list (by rw [hnl]; omega) off _ _ (by omega) hl (fun j hj => ?_)
    rw [if_neg (by omega)]
    have : j < xs.length := by omega
    rw [List.getElem?_eq_getElem this]
    exact (own_cells ht (List.getElem?_eq_getElem this)).symm
set_option maxHeartbeats 400000 in
/-- slices.Delete(s, i, i + 1): the row without its i-th element, in its place. -/
theorem delete {w : World} {base : Nat} {v : Value} {n : Nat} {xs : List Value} (h : Own w base 9 1 v n xs) (h1 : One xs) (i : Nat) (hi : i < n) :
    Calls Try.prog 27 #[v, .int .i64 i, .int .i64 ((i : Int) + 1)] w fun e w' => ∃ v', e = .returned v' ∧ Own w' base 9 1 v' (n - 1) (xs.take (i * 1) ++ xs.drop ((i + 1) * 1)) ∧ v'.ownBlock = v.ownBlock ∧ Fr (fun g => v.ownBlock = some g) w w' := by
  obtain ⟨g, off, cap, cur, rfl, hb, hg, hn, hc, hs, ht⟩ := h.form (by omega)
  clear hb hg hs ht
  obtain ⟨r, rfl⟩ : ∃ r, n = i + 1 + r := ⟨n - (i + 1), by omega⟩
  unfold maxLen at hc
  have c1 : ¬ ((i : Int) = (i : Int) + 1) := by omega
  have f1 : i ≤ cap := by omega
  have f2 : (0 : Int) ≤ (i : Int) + 1 := by omega
  have f3 : (i : Int) + 1 ≤ (i : Int) + 1 + (r : Int) := by omega
  have f4 : ((i : Int) + 1).toNat = i + 1 := by omega
  have f5 : ¬ (cap = i + r) := by omega
  have f6 : i + r < cap := by omega
  have e1 : i + 1 + r - 1 = i + r := by omega
  rw [e1]
  clear e1
  have HO := Lib.hid h
  clear h
  by_cases hcap : cap = i + 1
  · obtain rfl : r = 0 := by omega
    subst hcap
    have hrun := del_append HO.out h1 off (.inl rfl)
    simp only [Nat.add_zero] at hrun f5 f6 f3 ⊢
    simp only [Nat.sub_self] at hrun
    clear f5
    have f7 : (i : Int) ≤ (i : Int) + 1 := by omega
    go_enter Try.func27, Try.ntmps27
    go_wp2
    go_region_law (refine step_append rfl _ _ 22 22 rfl (by simp [Act.eval, Act.put]) (by simp [Act.eval, Act.put]) hrun ?_; intro v' w1 hR)
    obtain ⟨rfl, ho1, hf1⟩ := hR
    have HO1 := Lib.hid ho1
    have HF1 := Lib.hid hf1
    clear ho1 hf1
    go_wp2_with (refine wpL_clear rfl _ 22 rfl rfl (del_clear HF1.out HO1.out f6 _ _ _ (by omega) (by omega)) ?_; intro v' w2 hR2; have HR2 := Lib.hid hR2; clear hR2)
    go_ret
    exact ⟨_, rfl, HR2.out.1, rfl, HR2.out.2.mono (fun _ _ e => by simp [Value.ownBlock, e])⟩
  · have hrun := del_append HO.out h1 (off + (i + 1) * 1) (.inr rfl)
    go_enter Try.func27, Try.ntmps27
    go_wp2
    go_region_law (refine step_append rfl _ _ 22 22 rfl (by simp [Act.eval, Act.put]) (by simp [Act.eval, Act.put]) hrun ?_; intro v' w1 hR)
    obtain ⟨rfl, ho1, hf1⟩ := hR
    have HO1 := Lib.hid ho1
    have HF1 := Lib.hid hf1
    clear ho1 hf1
    go_wp2_with (refine wpL_clear rfl _ 22 rfl rfl (del_clear HF1.out HO1.out f6 _ _ _ (by omega) (by omega)) ?_; intro v' w2 hR2; have HR2 := Lib.hid hR2; clear hR2)
    go_ret
    exact ⟨_, rfl, HR2.out.1, rfl, HR2.out.2.mono (fun _ _ e => by simp [Value.ownBlock, e])⟩
end Go.Proofs.Ytfhpgmgmofganaa.SlS
