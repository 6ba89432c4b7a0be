/- The library's slice functions at []dockmaster/net.Letter (dockmaster/net.Letter), by contracts. -/
import Derived.Test.YtpgcoopkileclaaProg
import Derived.Test.YtpgcoopkileclaaMem
import Derived.Lib.AppendZerosOnto
import Derived.Lib.Overlaps
import Derived.Laws.Externs
set_option linter.unusedVariables false
set_option linter.unusedSimpArgs false
namespace Go.Proofs.Ytpgcoopkileclaa.SlL
open Go.RowKit Go.Proofs.Ytpgcoopkileclaa.Mem

theorem ty : Ty Try.prog 33 2 32 (.agg #[.int .i64 0, .slice none 0 0]) := Ty.of (by kernel_rfl) rfl
theorem zOne : One (Value.cells (.agg #[.int .i64 0, .slice none 0 0])).toList := by intro u hu; simp [Value.cells] at hu; rcases hu with rfl | rfl <;> rfl

/-- What s[:i] and s[i+1:], put one behind the other, leave: the row without its i-th element. -/
def Del (w : World) (base g off cap m : Nat) (xs : List Value) (v' : Value) (w' : World) : Prop :=
  v' = .slice (some ⟨g, off, none⟩) m cap ∧ Own w' base 33 2 (.slice (some ⟨g, off, none⟩) m cap) m xs ∧ Fr (· = g) w w'
theorem del_append {w : World} {base g off cap i r : Nat} {xs : List Value} (h : Own w base 33 2 (.slice (some ⟨g, off, none⟩) (i + 1 + r) cap) (i + 1 + r) xs) (h1 : One xs) (so : Nat) (hso : r = 0 ∨ so = off + (i + 1) * 2) :
    Does Try.prog w.drew (Builtin.append_ #[26, 26] 26 #[.slice (some ⟨g, off, none⟩) i cap, .slice (some ⟨g, so, none⟩) r (cap - (i + 1))]) (Del w base g off cap (i + r) (xs.take (i * 2) ++ xs.drop ((i + 1) * 2))) := by
  obtain ⟨hl, h⟩ := h
  rcases h with ⟨h, _⟩ | ⟨g', off', cap', cur, hv, hb, hg, hn, hc, hs, ht⟩
  · cases h
  injection hv with ha hn' hc'
  injection ha with ha
  injection ha with e1 e2
  subst e1 e2 hc'
  have hm : (i + 1 + r) * 2 ≤ cap * 2 := Nat.mul_le_mul_right _ hn
  obtain ⟨⟨ti, hi, hz, hk1, hk2⟩, hzs⟩ := ty
  have hdl : (xs.drop ((i + 1) * 2)).length = r * 2 := by rw [List.length_drop, hl]; omega
  have hr := run_append_room' (P := Try.prog) w.drew 26 26 26 33 33 ti Try.underlying26 Try.underlying26 hi g off i cap cur hg ⟨g, so, none⟩ r (cap - (i + 1)) (xs.drop ((i + 1) * 2)) (by rw [hk1]; exact hdl)
    (fun j u hu => by
      rcases hso with rfl | rfl
      · have en : xs.drop ((i + 1) * 2) = [] := List.eq_nil_of_length_eq_zero (by rw [hdl])
        rw [en] at hu; cases hu
      · rw [add_lit', World.cell?_drew, cell_of_row w g _ cur _ (0, 0) hg, Nat.add_assoc]
        rw [List.getElem?_drop] at hu
        exact own_cells ht hu) (h1.drop _) (by omega) (by rw [hk1, hdl]; omega)
  rw [hk1] at hr
  refine ⟨_, _, hr, rfl, ⟨?_, .inr ⟨g, off, cap, _, rfl, hb, setRow_heap w.drew g cur _ _ _ hg, by omega, hc, ?_, ?_⟩⟩, ((Fr.refl (fun x => x = g) w).drew).setRow (.inl rfl) _⟩
  · rw [List.length_append, hdl, List.length_take, hl]; omega
  · rw [show (cur.toList.take (off + i * 2) ++ xs.drop ((i + 1) * 2) ++ cur.toList.drop (off + i * 2 + (xs.drop ((i + 1) * 2)).length)).toArray = splice cur (off + i * 2) (xs.drop ((i + 1) * 2)) from rfl, size_splice (by rw [hdl]; omega)]
    exact hs
  · have htl : (xs.take (i * 2)).length = i * 2 := by rw [List.length_take, hl]; omega
    refine splice_list (cur := cur) (o := off + i * 2) (news := xs.drop ((i + 1) * 2)) (by rw [hdl]; omega) off _ _ (by omega) (by rw [List.length_append, hdl, htl]; omega) (fun j hj => ?_)
    rw [List.getElem?_append, htl, hdl]
    by_cases hji : j < i * 2
    · rw [if_pos hji, if_neg (by omega), List.getElem?_take, if_pos hji]
      have : j < xs.length := by omega
      rw [List.getElem?_eq_getElem this]
      exact (own_cells ht (List.getElem?_eq_getElem this)).symm
    · rw [if_neg hji, if_pos (by omega)]
      congr 1
      omega
theorem del_clear {w0 w : World} {base g off cap m : Nat} {xs : List Value} (hf : Fr (· = g) w0 w) (h : Own w base 33 2 (.slice (some ⟨g, off, none⟩) m cap) m xs) (hm : m < cap) (nn cc so : Nat) (hnn : nn = 1) (hso : so = off + m * 2) :
    Does Try.prog w (Builtin.clear_ #[26] 0 #[.slice (some ⟨g, so, none⟩) nn cc]) fun _ w' => Own w' base 33 2 (.slice (some ⟨g, off, none⟩) m cap) m xs ∧ Fr (· = g) w0 w' := by
  subst hnn hso
  obtain ⟨hl, h⟩ := h
  rcases h with ⟨h, _⟩ | ⟨g', off', cap', cur, hv, hb, hg, hn, hc, hs, ht⟩
  · cases h
  injection hv with ha hn' hc'
  injection ha with ha
  injection ha with e1 e2
  subst e1 e2 hc'
  have hmm : (m + 1) * 2 ≤ cap * 2 := Nat.mul_le_mul_right _ hm
  obtain ⟨news, hnl, hr⟩ := run_clear_at (P := Try.prog) w (ty := 0) (k := 2) (o := off + m * 2) (n := 1) (c := cc) Try.underlying26 ty hg zOne (by omega)
  refine ⟨_, _, hr, ⟨hl, .inr ⟨g, off, cap, _, rfl, hb, setRow_heap w g cur _ _ _ hg, hn, hc, ?_, ?_⟩⟩, hf.trans ((Fr.refl (· = g) w).setRow (.inl rfl) _) (fun _ _ h => h)⟩
  · rw [size_splice (by rw [hnl]; omega)]; exact hs
  · refine splice_list (by rw [hnl]; omega) off _ _ (by omega) hl (fun j hj => ?_)
    rw [if_neg (by omega)]
    have : j < xs.length := by omega
    rw [List.getElem?_eq_getElem this]
    exact (own_cells ht (List.getElem?_eq_getElem this)).symm
set_option maxHeartbeats 400000 in
/-- slices.Delete(s, i, i + 1): the row without its i-th element, in its place. -/
theorem delete {w : World} {base : Nat} {v : Value} {n : Nat} {xs : List Value} (h : Own w base 33 2 v n xs) (h1 : One xs) (i : Nat) (hi : i < n) :
    Calls Try.prog 15 #[v, .int .i64 i, .int .i64 ((i : Int) + 1)] w fun e w' => ∃ v', e = .returned v' ∧ Own w' base 33 2 v' (n - 1) (xs.take (i * 2) ++ xs.drop ((i + 1) * 2)) ∧ v'.ownBlock = v.ownBlock ∧ Fr (fun g => v.ownBlock = some g) w w' := by
  obtain ⟨g, off, cap, cur, rfl, hb, hg, hn, hc, hs, ht⟩ := h.form (by omega)
  clear hb hg hs ht
  obtain ⟨r, rfl⟩ : ∃ r, n = i + 1 + r := ⟨n - (i + 1), by omega⟩
  unfold maxLen at hc
  have c1 : ¬ ((i : Int) = (i : Int) + 1) := by omega
  have f1 : i ≤ cap := by omega
  have f2 : (0 : Int) ≤ (i : Int) + 1 := by omega
  have f3 : (i : Int) + 1 ≤ (i : Int) + 1 + (r : Int) := by omega
  have f4 : ((i : Int) + 1).toNat = i + 1 := by omega
  have f5 : ¬ (cap = i + r) := by omega
  have f6 : i + r < cap := by omega
  have e1 : i + 1 + r - 1 = i + r := by omega
  rw [e1]
  clear e1
  have HO := Lib.hid h
  clear h
  by_cases hcap : cap = i + 1
  · obtain rfl : r = 0 := by omega
    subst hcap
    have hrun := del_append HO.out h1 off (.inl rfl)
    simp only [Nat.add_zero] at hrun f5 f6 f3 ⊢
    simp only [Nat.sub_self] at hrun
    clear f5
    have f7 : (i : Int) ≤ (i : Int) + 1 := by omega
    go_enter Try.func15, Try.ntmps15
    go_wp2
    go_region_law (refine step_append rfl _ _ 26 26 rfl (by simp [Act.eval, Act.put]) (by simp [Act.eval, Act.put]) hrun ?_; intro v' w1 hR)
    obtain ⟨rfl, ho1, hf1⟩ := hR
    have HO1 := Lib.hid ho1
    have HF1 := Lib.hid hf1
    clear ho1 hf1
    go_wp2_with (refine wpL_clear rfl _ 26 rfl rfl (del_clear HF1.out HO1.out f6 _ _ _ (by omega) (by omega)) ?_; intro v' w2 hR2; have HR2 := Lib.hid hR2; clear hR2)
    go_ret
    exact ⟨_, rfl, HR2.out.1, rfl, HR2.out.2.mono (fun _ _ e => by simp [Value.ownBlock, e])⟩
  · have hrun := del_append HO.out h1 (off + (i + 1) * 2) (.inr rfl)
    go_enter Try.func15, Try.ntmps15
    go_wp2
    go_region_law (refine step_append rfl _ _ 26 26 rfl (by simp [Act.eval, Act.put]) (by simp [Act.eval, Act.put]) hrun ?_; intro v' w1 hR)
    obtain ⟨rfl, ho1, hf1⟩ := hR
    have HO1 := Lib.hid ho1
    have HF1 := Lib.hid hf1
    clear ho1 hf1
    go_wp2_with (refine wpL_clear rfl _ 26 rfl rfl (del_clear HF1.out HO1.out f6 _ _ _ (by omega) (by omega)) ?_; intro v' w2 hR2; have HR2 := Lib.hid hR2; clear hR2)
    go_ret
    exact ⟨_, rfl, HR2.out.1, rfl, HR2.out.2.mono (fun _ _ e => by simp [Value.ownBlock, e])⟩
end Go.Proofs.Ytpgcoopkileclaa.SlL
