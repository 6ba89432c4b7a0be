/- The library's slice functions at dockmaster/key.Map (dockmaster/api.Pair), by contracts. -/
import Derived.Test.YthkacajlbenflaaProg
import Derived.Test.YthkacajlbenflaaMem
import Derived.Lib.AppendZerosOnto
import Derived.Lib.Overlaps
import Derived.Laws.Externs
set_option linter.unusedVariables false
set_option linter.unusedSimpArgs false
namespace Go.Proofs.Ythkacajlbenflaa.SlP
open Go.RowKit Go.Proofs.Ythkacajlbenflaa.Mem

theorem ty : Ty Try.prog 48 2 32 (.agg #[.string ⟨#[]⟩, .string ⟨#[]⟩]) := Ty.of (by kernel_rfl) rfl
theorem zOne : One (Value.cells (.agg #[.string ⟨#[]⟩, .string ⟨#[]⟩])).toList := by intro u hu; simp [Value.cells] at hu; rcases hu with rfl | rfl <;> rfl

set_option maxHeartbeats 400000 in
/-- slices.Clone: the same elements in memory of the call's own. -/
theorem clone {v : Value} {n : Nat} {xs : List Value} (w : World) (h : Rd w w.heap.size 2 v n xs) (h1 : One xs) (hb : n * 32 ≤ 140737488355328) :
    Calls Try.prog 28 #[v] w fun e w' => ∃ v', e = .returned v' ∧ Own w' w.heap.size 48 2 v' n xs ∧ Below w.heap.size w w' ∧ (v' = .slice none 0 0 → n = 0) := by
  have q : ∀ (w : World) (a : Option Addr) (n c n' c' : Nat), (binOp .eql 46 (.slice a n c) (.slice none n' c')).run Try.prog w = .ok (.bool a.isNone) w := fun w a n c n' c' => Lib.run_eql_slice_nil w _ _ a n c n' c' Try.underlying46
  have hlen := h.len_le
  obtain ⟨hl, A, c, rfl, hn, hc, ha⟩ := h
  rcases A with _ | ad
  · have hn0 : n = 0 := by
      rcases Nat.eq_zero_or_pos n with h0 | h0
      · exact h0
      · obtain ⟨g, off, e, _⟩ := ha h0; cases e
    subst hn0
    have hx : xs = [] := List.eq_nil_of_length_eq_zero (by simpa using hl)
    subst hx
    clear ha
    go_enter Try.func28, Try.ntmps28
    go_wp2
    go_ret
    exact ⟨_, rfl, Own.nil_ _ _ _ _, Below.refl _ _, by simp⟩
  · have HA := Lib.hid ha
    have HL := Lib.hid hl
    clear ha hl
    have hrun : Does Try.prog (w.alloc (.cells #[] 48)) (Builtin.append_ #[46, 46] 46 #[.slice (some ⟨w.heap.size, 0, none⟩) 0 0, .slice (some ad) n c]) fun v' w' => Own w' w.heap.size 48 2 v' n xs ∧ Below w.heap.size w w' ∧ (v' = .slice none 0 0 → n = 0) := by
      obtain ⟨v', w', hr, ho, hg, hb', hnil⟩ := run_append (P := Try.prog) (w.alloc (.cells #[] 48)) (ty := 46) Try.underlying46 Try.underlying46 ty (base := w.heap.size) (v := .slice (some ⟨w.heap.size, 0, none⟩) 0 0) (n := 0) (xs := [])
        ⟨rfl, .inr ⟨w.heap.size, 0, 0, #[], rfl, Nat.le_refl _, heap_alloc_new w _, Nat.le_refl _, Nat.zero_le _, by simp, by simp⟩⟩ (A := some ad) (m := n) (c := c) (news := xs) HL.out
        (fun h0 => by
          obtain ⟨g, off, e, hg, hx⟩ := HA.out h0
          exact ⟨g, off, e, fun j u hu => (World.cell?_alloc_lt w _ ⟨g, off + j, none⟩ hg).trans (hx j u hu)⟩) h1 (by omega) (by omega) (by simp)
      refine ⟨v', w', hr, by simpa using ho, ?_, fun e => ?_⟩
      · exact ((Below.refl _ w).alloc (Nat.le_refl _) _).grown hg (by simp) (by intro k hk; simp [Value.ownBlock] at hk; omega)
      · exact (hnil.1 e).2
    go_enter Try.func28, Try.ntmps28
    go_wp2_with (at_builtin; refine wpL_append rfl _ _ 46 46 rfl rfl rfl hrun ?_; intro v' w' hR; have HR := Lib.hid hR; clear hR)
    go_ret
    exact ⟨v', rfl, HR.out⟩

/-- s[:i] of a row, and zero values behind it, in a new row. -/
theorem ins_make {w : World} {base g off n cap i : Nat} {xs : List Value} (h : Own w base 48 2 (.slice (some ⟨g, off, none⟩) n cap) n xs) (hi : i < n) (hcap : cap < n + 1) (hb : (n + 1) * 32 ≤ 140737488355328) (m : Int) (hm : m = ((n + 1 - i : Nat) : Int)) :
    Does Try.prog w (Builtin.append_ #[46, 3] 46 #[.slice (some ⟨g, off, none⟩) i cap, .int .i64 m]) fun v' w' => ∃ C cur, v' = .slice (some ⟨w.heap.size, 0, none⟩) (n + 1) C ∧ n + 1 ≤ C ∧ C ≤ maxLen ∧ w'.heap[w.heap.size]? = some (.cells cur 48 (0, 0)) ∧ cur.size = C * 2 ∧ (∀ j, j < i * 2 → cur[j]? = xs[j]?) ∧ Fr (fun _ => False) w w' := by
  subst hm
  obtain ⟨hl, h⟩ := h
  rcases h with ⟨h, _⟩ | ⟨g', off', cap', cur, hv, hb', hg, hn, hc, hs, ht⟩
  · cases h
  injection hv with ha hn' hc'
  injection ha with ha
  injection ha with e1 e2
  subst e1 e2 hc'
  obtain ⟨⟨ti, hti, hz, hk1, hk2⟩, hzs⟩ := ty
  have hold : (Builtin.firstCells ti.size i (.slice (some ⟨g, off, none⟩) i cap)).run Try.prog w.drew = .ok (xs.take (i * 2)).toArray w.drew := by
    rw [hk1]
    refine run_firstCells_some w.drew 2 i ⟨g, off, none⟩ i cap (xs.take (i * 2)) (by rw [List.length_take]; omega) (fun j u hu => ?_)
    rw [add_lit', World.cell?_drew, cell_of_row w g _ cur _ (0, 0) hg]
    rw [List.getElem?_take] at hu
    split at hu
    · exact own_cells ht hu
    · cases hu
  have e1 : i + (n + 1 - i) = n + 1 := by omega
  have hr := Lib.run_append_grow_zeros (P := Try.prog) w 46 3 46 48 ti _ .i64 .i64 Try.underlying46 Try.underlying3 hti hz (some ⟨g, off, none⟩) i cap (xs.take (i * 2)) hold (n + 1 - i) (by omega) (by omega) (by omega) (by omega) (by rw [hk2]; omega) (by rw [hk2, e1]; exact growslice_fits hcap hb)
  rw [e1] at hr
  have hge := grownCap_ge w (n + 1) cap 48
  have hcm : grownCap w (n + 1) cap 48 ≤ maxLen := grownCap_le_maxLen w (n + 1) cap _ (by unfold maxLen; omega)
  refine ⟨_, _, hr, _, _, rfl, hge, hcm, heap_alloc_new w.drew _, ?_, fun j hj => ?_, ((Fr.refl _ w).drew).alloc _⟩
  · simp only [Array.size_append, List.size_toArray, size_zeroCells, hzs, List.length_take]
    omega
  · have hjx : j < (xs.take (i * 2)).toArray.size := by simp; omega
    rw [Array.getElem?_append_left (by simp; omega), Array.getElem?_append_left hjx]
    simp only [List.getElem?_toArray, List.getElem?_take, if_pos hj]
/-- A copy of cells into a row of which the cells are known. -/
theorem ins_copy {w : World} {tx : TypeId} {g o L1 L2 c1 c2 sg so m : Nat} {cur : Array Value} (hg : w.heap[g]? = some (.cells cur 48 (0, 0))) {news : List Value} (hl : news.length = m * 2) (hmin : min L2 L1 = m)
    (hnews : ∀ j u, news[j]? = some u → w.cell? ⟨sg, so + j, none⟩ = some u) (h1 : One news) (hfit : o + news.length ≤ cur.size) :
    Does Try.prog w (Builtin.copy_ #[46, tx] 3 #[.slice (some ⟨g, o, none⟩) L1 c1, .slice (some ⟨sg, so, none⟩) L2 c2]) fun v' w' => v' = goInt m ∧ w' = w.setRow g (splice cur o news) := by
  subst hmin
  exact ⟨_, _, run_copy_at w Try.underlying46 ty hg hl hnews h1 hfit, rfl, rfl⟩
/-- What an insertion leaves. -/
def Ins (w : World) (base : Nat) (v : Value) (n : Nat) (xs : List Value) (v' : Value) (w' : World) : Prop :=
  Own w' base 48 2 v' n xs ∧ (v'.ownBlock = v.ownBlock ∨ v'.ownBlock = some w.heap.size) ∧ Fr (fun g => v.ownBlock = some g) w w'
set_option maxHeartbeats 1000000 in
/-- slices.Insert(s, i, x): x ahead of the i-th element. -/
theorem insert_end {w : World} {base : Nat} {v : Value} {n : Nat} {xs new : List Value} (h : Own w base 48 2 v n xs) {gv : Nat} {tv : TypeId} (hv : w.heap[gv]? = some (.cells new.toArray tv (0, 0))) (hnl : new.length = 2) (h1n : One new)
    (hb : (n + 1) * 32 ≤ 140737488355328) (hbase : base ≤ w.heap.size) :
    Calls Try.prog 29 #[v, .int .i64 n, .slice (some ⟨gv, 0, none⟩) 1 1] w fun e w' => ∃ v', e = .returned v' ∧ Ins w base v (n + 1) (xs ++ new) v' w' := by
  have hrun : Does Try.prog w (Builtin.append_ #[46, 45] 46 #[v, .slice (some ⟨gv, 0, none⟩) 1 1]) (Ins w base v (n + 1) (xs ++ new)) := by
    obtain ⟨v', w', hr, ho, hg, hb', _⟩ := run_append (P := Try.prog) w (ty := 46) Try.underlying46 Try.underlying45 ty h (A := some ⟨gv, 0, none⟩) (m := 1) (c := 1) (news := new) (by rw [hnl])
      (fun _ => ⟨gv, 0, rfl, fun j u hu => by rw [cell_of_row w gv _ _ _ _ hv]; simpa using hu⟩) h1n (by unfold maxLen; omega) hb hbase
    exact ⟨v', w', hr, ho, hb', Fr.of_grown hg (fun g e => e)⟩
  have HR := Lib.hid hrun
  clear hrun
  obtain ⟨A, c, rfl, hn, hc⟩ := h.slice_
  clear h hv
  have f1 : ¬ ((1 : Int) = 0) := by omega
  unfold maxLen at hc
  by_cases hcn : c = n
  · subst hcn
    go_enter Try.func29, Try.ntmps29
    go_wp2_with (at_builtin; refine wpL_append rfl _ _ 46 45 rfl rfl rfl HR.out ?_; intro v' w1 hR; have HR1 := Lib.hid hR; clear hR)
    go_ret
    exact ⟨_, rfl, HR1.out⟩
  · go_enter Try.func29, Try.ntmps29
    go_wp2_with (at_builtin; refine wpL_append rfl _ _ 46 45 rfl rfl rfl HR.out ?_; intro v' w1 hR; have HR1 := Lib.hid hR; clear hR)
    go_ret
    exact ⟨_, rfl, HR1.out⟩
set_option maxHeartbeats 1000000 in
set_option maxRecDepth 100000 in
theorem insert_grow {w : World} {base g off n cap i : Nat} {xs new : List Value} (h : Own w base 48 2 (.slice (some ⟨g, off, none⟩) n cap) n xs) (h1 : One xs) (hi : i < n) (hcap : cap < n + 1) {gv : Nat} {tv : TypeId} (hv : w.heap[gv]? = some (.cells new.toArray tv (0, 0))) (hnl : new.length = 2) (h1n : One new)
    (hb : (n + 1) * 32 ≤ 140737488355328) (hbase : base ≤ w.heap.size) :
    Calls Try.prog 29 #[.slice (some ⟨g, off, none⟩) n cap, .int .i64 i, .slice (some ⟨gv, 0, none⟩) 1 1] w fun e w' => ∃ v', e = .returned v' ∧ Ins w base (.slice (some ⟨g, off, none⟩) n cap) (n + 1) (xs.take (i * 2) ++ new ++ xs.drop (i * 2)) v' w' := by
  have hrun := ins_make h hi hcap hb ((n : Int) + 1 - (i : Int)) (by omega)
  have HR := Lib.hid hrun
  clear hrun
  obtain ⟨_, _, he, hn, hc⟩ := h.slice_
  cases he
  have HO := Lib.hid h
  have HV := Lib.hid hv
  have HL := Lib.hid hnl
  clear h hv hnl
  have hc' := hc
  unfold maxLen at hc'
  have f1 : ¬ ((1 : Int) = 0) := by omega
  have f2 : ¬ ((i : Int) = (n : Int)) := by omega
  have f3 : (cap : Int) < (n : Int) + 1 := by omega
  have f4 : i ≤ cap := by omega
  have f5 : ¬ (cap = i) := by omega
  have f6 : (i : Int) ≤ (n : Int) + 1 := by omega
  have f7 : (i : Int) + 1 ≤ (n : Int) + 1 := by omega
  have f8 : (i : Int) ≤ (n : Int) := by omega
  have f9 : (0 : Int) ≤ (i : Int) + 1 := by omega
  have f10 : ((i : Int) + 1).toNat = i + 1 := by omega
  have HX : Hid (∀ (W : World), Fr (fun k => k = w.heap.size) w W → ∀ j u, (xs.drop (i * 2))[j]? = some u → W.cell? ⟨g, off + i * 2 + j, none⟩ = some u) := fun W hW j u hu => by
    obtain ⟨hl, hh⟩ := HO.out
    rcases hh with ⟨hh, _⟩ | ⟨g', off', cap', cur, hv, hb', hg, hn, hc, hs, ht⟩
    · cases hh
    cases hv
    have hlt := (Array.getElem?_eq_some_iff.1 hg).1
    rw [cell_of_row W g _ cur _ (0, 0) (hW.blk hg (by omega)), Nat.add_assoc]
    rw [List.getElem?_drop] at hu
    exact own_cells ht hu
  have HVN : Hid (gv ≠ w.heap.size) := by
    have := (Array.getElem?_eq_some_iff.1 HV.out).1
    show gv ≠ w.heap.size
    omega
  have HXL : Hid (xs.length = n * 2) := HO.out.1
  go_enter Try.func29, Try.ntmps29
  go_wp2_with (first | (at_builtin; refine wpL_append rfl _ _ 46 3 rfl rfl rfl HR.out ?_; rintro v' w1 ⟨C, cur1, rfl, hC1, hC2, hg1, hs1, hcur, hf1⟩; have HG1 := Lib.hid hg1; have HS1 := Lib.hid hs1; have HC1 := Lib.hid hcur; have HF1 := Lib.hid hf1; clear hg1 hs1 hcur hf1; unfold maxLen at hC2; have k1 : ¬ (C = i) := (by omega); have k2 : ¬ (C = i + 1) := (by omega)) | (refine wpL_copy rfl _ _ 46 45 rfl rfl rfl (ins_copy HG1.out (m := 1) (news := new) (by rw [HL.out]) (by omega) (fun j u hu => HF1.out.cell (by rw [cell_of_row w gv _ _ _ _ HV.out]; simpa using hu) (fun x => x)) h1n (by have := HS1.out; rw [HL.out]; omega)) ?_; rintro _ w2 ⟨rfl, hw2⟩; have HW2 := Lib.hid hw2; clear hw2))
  have hfr2 : Fr (fun k => k = w.heap.size) w w2 := by rw [HW2.out]; exact Fr.setRow (S := fun k => k = w.heap.size) (HF1.out.mono (fun _ _ h => h.elim)) (.inl rfl) _
  have hg2 : w2.heap[w.heap.size]? = some (.cells (splice cur1 (i * 2) new) 48 (0, 0)) := by rw [HW2.out]; exact setRow_heap w1 _ cur1 _ _ _ HG1.out
  have HFR2 := Lib.hid hfr2
  have HG2 := Lib.hid hg2
  clear hfr2 hg2
  have hsz2 : (splice cur1 (i * 2) new).size = C * 2 := by rw [size_splice (by rw [HL.out, HS1.out]; omega)]; exact HS1.out
  have HSZ2 := Lib.hid hsz2
  clear hsz2
  have hrun2 : Does Try.prog w2.drew (Builtin.copy_ #[46, 46] 3 #[.slice (some ⟨w.heap.size, (i + 1) * 2, none⟩) (n + 1 - (i + 1)) (C - (i + 1)), .slice (some ⟨g, off + i * 2, none⟩) (n - i) (cap - i)]) fun v' w' => v' = goInt (n - i : Nat) ∧ w' = w2.drew.setRow w.heap.size (splice (splice cur1 (i * 2) new) ((i + 1) * 2) (xs.drop (i * 2))) :=
    ins_copy (w := w2.drew) HG2.out (by rw [List.length_drop, HXL.out]; omega) (by omega) (HX.out w2.drew (HFR2.out.drew)) (h1.drop _) (by rw [List.length_drop, HXL.out, HSZ2.out]; omega)
  have HRUN2 := Lib.hid hrun2
  clear hrun2
  have f11 : IntKind.i64.wrap ((i : Int) + 1) = (i : Int) + 1 := by rw [IntKind.wrap_i64]; omega
  go_region_law (refine step_copy rfl _ _ 46 46 rfl (by simp [Act.eval, Act.put]) (by simp [Act.eval, Act.put]) HRUN2.out ?_; rintro _ w3 ⟨rfl, hw3⟩)
  have HW3 := Lib.hid hw3
  clear hw3
  go_wp2
  go_ret
  refine ⟨_, rfl, ⟨?_, .inr ⟨w.heap.size, 0, C, _, rfl, hbase, by (try rw [HW3.out]); exact setRow_heap w2.drew _ _ _ _ _ HG2.out, hC1, by unfold maxLen; omega, ?_, ?_⟩⟩, .inr rfl, ?_⟩
  · rw [List.length_append, List.length_append, List.length_take, List.length_drop, HL.out, HXL.out]; omega
  · rw [size_splice (by rw [List.length_drop, HXL.out, HSZ2.out]; omega), HSZ2.out]; omega
  · refine splice_list (by rw [List.length_drop, HXL.out, HSZ2.out]; omega) 0 _ _ (by rw [HSZ2.out]; omega) (by rw [List.length_append, List.length_append, List.length_take, List.length_drop, HL.out, HXL.out]; omega) (fun j hj => ?_)
    have hl1 : (xs.take (i * 2)).length = i * 2 := by rw [List.length_take, HXL.out]; omega
    have hl2 : (xs.take (i * 2) ++ new).length = (i + 1) * 2 := by rw [List.length_append, hl1, HL.out]; omega
    rw [List.length_drop, HXL.out, Nat.zero_add]
    by_cases h2 : (i + 1) * 2 ≤ j
    · rw [if_pos (by omega), List.getElem?_append_right (by omega), hl2]
    · rw [if_neg (by omega), splice_at (by rw [HL.out, HS1.out]; omega), HL.out, List.getElem?_append_left (by omega)]
      by_cases h3 : i * 2 ≤ j
      · rw [if_pos (by omega), List.getElem?_append_right (by omega), hl1]
      · rw [if_neg (by omega), List.getElem?_append_left (by omega), List.getElem?_take, if_pos (by omega), HC1.out j (by omega)]
  · try rw [HW3.out]
    exact (Fr.setRow (S := fun k => k = w.heap.size) HFR2.out.drew (.inl rfl) _).mono_new
set_option maxHeartbeats 1000000 in
set_option maxRecDepth 100000 in
theorem insert_room {w : World} {base g off n cap i : Nat} {xs new : List Value} (h : Own w base 48 2 (.slice (some ⟨g, off, none⟩) n cap) n xs) (h1 : One xs) (hi : i < n) (hcap : n + 1 ≤ cap) {gv : Nat} {tv : TypeId} (hv : w.heap[gv]? = some (.cells new.toArray tv (0, 0))) (hnl : new.length = 2) (h1n : One new) (hne : gv ≠ g)
    (hb : (n + 1) * 32 ≤ 140737488355328) :
    Calls Try.prog 29 #[.slice (some ⟨g, off, none⟩) n cap, .int .i64 i, .slice (some ⟨gv, 0, none⟩) 1 1] w fun e w' => ∃ v', e = .returned v' ∧ Ins w base (.slice (some ⟨g, off, none⟩) n cap) (n + 1) (xs.take (i * 2) ++ new ++ xs.drop (i * 2)) v' w' := by
  obtain ⟨hxl, h⟩ := h
  rcases h with ⟨h, _⟩ | ⟨g', off', cap', cur, he, hbg, hg, hn, hc, hs, ht⟩
  · cases h
  cases he
  have hc' := hc
  unfold maxLen at hc'
  have hcm : (n + 1) * 2 ≤ cap * 2 := Nat.mul_le_mul_right _ hcap
  have f1 : ¬ ((1 : Int) = 0) := by omega
  have f2 : ¬ ((i : Int) = (n : Int)) := by omega
  have f3 : ¬ ((cap : Int) < (n : Int) + 1) := by omega
  have f3' : (n : Int) + 1 ≤ (cap : Int) := by omega
  have f3'' : ((n : Int) + 1).toNat = n + 1 := by omega
  have f5 : ¬ (cap = i) := by omega
  have f6 : (i : Int) ≤ (n : Int) + 1 := by omega
  have f7 : (i : Int) + 1 ≤ (n : Int) + 1 := by omega
  have f8 : (i : Int) ≤ (n : Int) := by omega
  have f9 : (0 : Int) ≤ (i : Int) + 1 := by omega
  have f10 : ((i : Int) + 1).toNat = i + 1 := by omega
  have f12 : ¬ (cap = i + 1) := by omega
  have hov : ∀ lb cb, (callFunc 38 #[.slice (some ⟨gv, 0, none⟩) 1 1, .slice (some ⟨g, off + (i + 1) * 2, none⟩) lb cb]).run Try.prog w = .ok (.value (.bool false)) w := fun lb cb => by
    rw [run_callFunc_extern Try.func38 (by kernel_rfl) (by kernel_rfl) (by kernel_rfl) (e := Extern.SlicesOverlaps.overlaps #[45, 45] #[4]) (by kernel_rfl),
      Lib.run_overlaps_apart w 45 4 48 Try.underlying45 2 (fun w => by
        obtain ⟨⟨ti, hti, _, hk1, _⟩, _⟩ := ty
        simp [sizeOf, typeInfo, hti, hk1]) ⟨gv, 0, none⟩ ⟨g, off + (i + 1) * 2, none⟩ 1 1 lb cb hne tv 48 new.length cur.size (by simp [World.shape?, hv]) (by simp [World.shape?, hg]) (by omega) (by simp [World.frozen?, hv]) (by simp [World.frozen?, hv])]
    rfl
  have hsz1 : (splice cur (off + (i + 1) * 2) (xs.drop (i * 2))).size = cur.size := size_splice (by rw [List.length_drop, hxl]; omega)
  have hrun1 : Does Try.prog w.drew (Builtin.copy_ #[46, 46] 3 #[.slice (some ⟨g, off + (i + 1) * 2, none⟩) (n + 1 - (i + 1)) (cap - (i + 1)), .slice (some ⟨g, off + i * 2, none⟩) (n + 1 - i) (cap - i)]) fun v' w' => v' = goInt (n - i : Nat) ∧ w' = w.drew.setRow g (splice cur (off + (i + 1) * 2) (xs.drop (i * 2))) :=
    ins_copy (w := w.drew) hg (by rw [List.length_drop, hxl]; omega) (by omega) (fun j u hu => by
      rw [World.cell?_drew, cell_of_row w g _ cur _ (0, 0) hg, Nat.add_assoc]
      rw [List.getElem?_drop] at hu
      exact own_cells ht hu) (h1.drop _) (by rw [List.length_drop, hxl]; omega)
  have hrun2 : Does Try.prog (w.drew.setRow g (splice cur (off + (i + 1) * 2) (xs.drop (i * 2)))) (Builtin.copy_ #[46, 45] 3 #[.slice (some ⟨g, off + i * 2, none⟩) (n + 1 - i) (cap - i), .slice (some ⟨gv, 0, none⟩) 1 1]) fun v' w' => v' = goInt (1 : Nat) ∧ w' = (w.drew.setRow g (splice cur (off + (i + 1) * 2) (xs.drop (i * 2)))).setRow g (splice (splice cur (off + (i + 1) * 2) (xs.drop (i * 2))) (off + i * 2) new) :=
    ins_copy (setRow_heap w.drew g cur _ _ _ hg) (by rw [hnl]) (by omega) (fun j u hu => by
      rw [cell_setRow_other _ _ _ _ hne, World.cell?_drew, cell_of_row w gv _ _ _ _ hv]; simpa using hu) h1n (by rw [hnl, hsz1]; omega)
  have HT := Lib.hid ht
  have HG := Lib.hid hg
  have HXL := Lib.hid hxl
  have HNL := Lib.hid hnl
  have HSZ := Lib.hid hsz1
  clear ht hg hxl hnl hsz1
  go_enter Try.func29, Try.ntmps29
  go_wp2_with (simp only [hov])
  have f11 : IntKind.i64.wrap ((i : Int) + 1) = (i : Int) + 1 := by rw [IntKind.wrap_i64]; omega
  go_region_law (refine step_copy rfl _ _ 46 46 rfl (by simp [Act.eval, Act.put]) (by simp [Act.eval, Act.put]) hrun1 ?_; rintro _ _ ⟨rfl, rfl⟩)
  go_wp2_with (refine wpL_copy rfl _ _ 46 45 rfl rfl rfl hrun2 ?_; rintro _ w2 ⟨rfl, hw2⟩; have HW2 := Lib.hid hw2; clear hw2)
  go_ret
  refine ⟨_, rfl, ⟨?_, .inr ⟨g, off, cap, _, rfl, hbg, by rw [HW2.out]; exact setRow_heap _ g _ _ _ _ (setRow_heap w.drew g cur _ _ _ HG.out), hcap, by unfold maxLen; omega, ?_, ?_⟩⟩, .inl rfl, ?_⟩
  · rw [List.length_append, List.length_append, List.length_take, List.length_drop, HNL.out, HXL.out]; omega
  · rw [size_splice (by rw [HNL.out, HSZ.out]; omega), HSZ.out]; exact hs
  · refine splice_list (by rw [HNL.out, HSZ.out]; omega) off _ _ (by rw [HSZ.out]; omega) (by rw [List.length_append, List.length_append, List.length_take, List.length_drop, HNL.out, HXL.out]; omega) (fun j hj => ?_)
    have hl1 : (xs.take (i * 2)).length = i * 2 := by rw [List.length_take, HXL.out]; omega
    have hl2 : (xs.take (i * 2) ++ new).length = (i + 1) * 2 := by rw [List.length_append, hl1, HNL.out]; omega
    rw [HNL.out]
    by_cases h2 : (i + 1) * 2 ≤ j
    · rw [if_neg (by omega), splice_at (by rw [List.length_drop, HXL.out]; omega), List.length_drop, HXL.out, if_pos (by omega), List.getElem?_append_right (by omega), hl2]
      congr 1; omega
    · rw [List.getElem?_append_left (by omega)]
      by_cases h3 : i * 2 ≤ j
      · rw [if_pos (by omega), List.getElem?_append_right (by omega), hl1]
        congr 1; omega
      · rw [if_neg (by omega), splice_at (by rw [List.length_drop, HXL.out]; omega), List.length_drop, HXL.out, if_neg (by omega), List.getElem?_append_left (by omega), List.getElem?_take, if_pos (by omega)]
        have hjl : j < xs.length := by rw [HXL.out]; omega
        rw [List.getElem?_eq_getElem hjl]
        exact (own_cells HT.out (List.getElem?_eq_getElem hjl)).symm
  · rw [HW2.out]
    exact Fr.setRow (Fr.setRow (Fr.refl _ w).drew (.inl (by simp [Value.ownBlock])) _) (.inl (by simp [Value.ownBlock])) _
/-- slices.Insert(s, i, x): x ahead of the i-th element, in whatever way. -/
theorem insert {w : World} {base : Nat} {v : Value} {n i : Nat} {xs new : List Value} (h : Own w base 48 2 v n xs) (h1 : One xs) (hi : i ≤ n) {gv : Nat} {tv : TypeId} (hv : w.heap[gv]? = some (.cells new.toArray tv (0, 0))) (hnl : new.length = 2) (h1n : One new) (hne : v.ownBlock ≠ some gv)
    (hb : (n + 1) * 32 ≤ 140737488355328) (hbase : base ≤ w.heap.size) :
    Calls Try.prog 29 #[v, .int .i64 i, .slice (some ⟨gv, 0, none⟩) 1 1] w fun e w' => ∃ v', e = .returned v' ∧ Ins w base v (n + 1) (xs.take (i * 2) ++ new ++ xs.drop (i * 2)) v' w' := by
  by_cases hin : i = n
  · subst hin
    rw [List.take_of_length_le (by rw [h.1]; exact Nat.le_refl _), List.drop_of_length_le (by rw [h.1]; exact Nat.le_refl _), List.append_nil]
    exact insert_end h hv hnl h1n hb hbase
  · obtain ⟨g, off, cap, cur, rfl, hbg, hg, hn, hc, hs, ht⟩ := h.form (by omega)
    by_cases hroom : n + 1 ≤ cap
    · exact insert_room h h1 (by omega) hroom hv hnl h1n (fun e => hne (by simp [Value.ownBlock, e])) hb
    · exact insert_grow h h1 (by omega) (by omega) hv hnl h1n hb hbase

/-- What s[:i] and s[i+1:], put one behind the other, leave: the row without its i-th element. -/
def Del (w : World) (base g off cap m : Nat) (xs : List Value) (v' : Value) (w' : World) : Prop :=
  v' = .slice (some ⟨g, off, none⟩) m cap ∧ Own w' base 48 2 (.slice (some ⟨g, off, none⟩) m cap) m xs ∧ Fr (· = g) w w'
theorem del_append {w : World} {base g off cap i r : Nat} {xs : List Value} (h : Own w base 48 2 (.slice (some ⟨g, off, none⟩) (i + 1 + r) cap) (i + 1 + r) xs) (h1 : One xs) (so : Nat) (hso : r = 0 ∨ so = off + (i + 1) * 2) :
    Does Try.prog w.drew (Builtin.append_ #[46, 46] 46 #[.slice (some ⟨g, off, none⟩) i cap, .slice (some ⟨g, so, none⟩) r (cap - (i + 1))]) (Del w base g off cap (i + r) (xs.take (i * 2) ++ xs.drop ((i + 1) * 2))) := by
  obtain ⟨hl, h⟩ := h
  rcases h with ⟨h, _⟩ | ⟨g', off', cap', cur, hv, hb, hg, hn, hc, hs, ht⟩
  · cases h
  injection hv with ha hn' hc'
  injection ha with ha
  injection ha with e1 e2
  subst e1 e2 hc'
  have hm : (i + 1 + r) * 2 ≤ cap * 2 := Nat.mul_le_mul_right _ hn
  obtain ⟨⟨ti, hi, hz, hk1, hk2⟩, hzs⟩ := ty
  have hdl : (xs.drop ((i + 1) * 2)).length = r * 2 := by rw [List.length_drop, hl]; omega
  have hr := run_append_room' (P := Try.prog) w.drew 46 46 46 48 48 ti Try.underlying46 Try.underlying46 hi g off i cap cur hg ⟨g, so, none⟩ r (cap - (i + 1)) (xs.drop ((i + 1) * 2)) (by rw [hk1]; exact hdl)
    (fun j u hu => by
      rcases hso with rfl | rfl
      · have en : xs.drop ((i + 1) * 2) = [] := List.eq_nil_of_length_eq_zero (by rw [hdl])
        rw [en] at hu; cases hu
      · rw [add_lit', World.cell?_drew, cell_of_row w g _ cur _ (0, 0) hg, Nat.add_assoc]
        rw [List.getElem?_drop] at hu
        exact own_cells ht hu) (h1.drop _) (by omega) (by rw [hk1, hdl]; omega)
  rw [hk1] at hr
  refine ⟨_, _, hr, rfl, ⟨?_, .inr ⟨g, off, cap, _, rfl, hb, setRow_heap w.drew g cur _ _ _ hg, by omega, hc, ?_, ?_⟩⟩, ((Fr.refl (fun x => x = g) w).drew).setRow (.inl rfl) _⟩
  · rw [List.length_append, hdl, List.length_take, hl]; omega
  · rw [show (cur.toList.take (off + i * 2) ++ xs.drop ((i + 1) * 2) ++ cur.toList.drop (off + i * 2 + (xs.drop ((i + 1) * 2)).length)).toArray = splice cur (off + i * 2) (xs.drop ((i + 1) * 2)) from rfl, size_splice (by rw [hdl]; omega)]
    exact hs
  · have htl : (xs.take (i * 2)).length = i * 2 := by rw [List.length_take, hl]; omega
    refine splice_list (cur := cur) (o := off + i * 2) (news := xs.drop ((i + 1) * 2)) (by rw [hdl]; omega) off _ _ (by omega) (by rw [List.length_append, hdl, htl]; omega) (fun j hj => ?_)
    rw [List.getElem?_append, htl, hdl]
    by_cases hji : j < i * 2
    · rw [if_pos hji, if_neg (by omega), List.getElem?_take, if_pos hji]
      have : j < xs.length := by omega
      rw [List.getElem?_eq_getElem this]
      exact (own_cells ht (List.getElem?_eq_getElem this)).symm
    · rw [if_neg hji, if_pos (by omega)]
      congr 1
      omega
theorem del_clear {w0 w : World} {base g off cap m : Nat} {xs : List Value} (hf : Fr (· = g) w0 w) (h : Own w base 48 2 (.slice (some ⟨g, off, none⟩) m cap) m xs) (hm : m < cap) (nn cc so : Nat) (hnn : nn = 1) (hso : so = off + m * 2) :
    Does Try.prog w (Builtin.clear_ #[46] 0 #[.slice (some ⟨g, so, none⟩) nn cc]) fun _ w' => Own w' base 48 2 (.slice (some ⟨g, off, none⟩) m cap) m xs ∧ Fr (· = g) w0 w' := by
  subst hnn hso
  obtain ⟨hl, h⟩ := h
  rcases h with ⟨h, _⟩ | ⟨g', off', cap', cur, hv, hb, hg, hn, hc, hs, ht⟩
  · cases h
  injection hv with ha hn' hc'
  injection ha with ha
  injection ha with e1 e2
  subst e1 e2 hc'
  have hmm : (m + 1) * 2 ≤ cap * 2 := Nat.mul_le_mul_right _ hm
  obtain ⟨news, hnl, hr⟩ := run_clear_at (P := Try.prog) w (ty := 0) (k := 2) (o := off + m * 2) (n := 1) (c := cc) Try.underlying46 ty hg zOne (by omega)
  refine ⟨_, _, hr, ⟨hl, .inr ⟨g, off, cap, _, rfl, hb, setRow_heap w g cur _ _ _ hg, hn, hc, ?_, ?_⟩⟩, hf.trans ((Fr.refl (· = g) w).setRow (.inl rfl) _) (fun _ _ h => h)⟩
  · rw [size_splice (by rw [hnl]; omega)]; exact hs
  · refine splice_list (by rw [hnl]; omega) off _ _ (by omega) hl (fun j hj => ?_)
    rw [if_neg (by omega)]
    have : j < xs.length := by omega
    rw [List.getElem?_eq_getElem this]
    exact (own_cells ht (List.getElem?_eq_getElem this)).symm
set_option maxHeartbeats 400000 in
/-- slices.Delete(s, i, i + 1): the row without its i-th element, in its place. -/
theorem delete {w : World} {base : Nat} {v : Value} {n : Nat} {xs : List Value} (h : Own w base 48 2 v n xs) (h1 : One xs) (i : Nat) (hi : i < n) :
    Calls Try.prog 31 #[v, .int .i64 i, .int .i64 ((i : Int) + 1)] w fun e w' => ∃ v', e = .returned v' ∧ Own w' base 48 2 v' (n - 1) (xs.take (i * 2) ++ xs.drop ((i + 1) * 2)) ∧ v'.ownBlock = v.ownBlock ∧ Fr (fun g => v.ownBlock = some g) w w' := by
  obtain ⟨g, off, cap, cur, rfl, hb, hg, hn, hc, hs, ht⟩ := h.form (by omega)
  clear hb hg hs ht
  obtain ⟨r, rfl⟩ : ∃ r, n = i + 1 + r := ⟨n - (i + 1), by omega⟩
  unfold maxLen at hc
  have c1 : ¬ ((i : Int) = (i : Int) + 1) := by omega
  have f1 : i ≤ cap := by omega
  have f2 : (0 : Int) ≤ (i : Int) + 1 := by omega
  have f3 : (i : Int) + 1 ≤ (i : Int) + 1 + (r : Int) := by omega
  have f4 : ((i : Int) + 1).toNat = i + 1 := by omega
  have f5 : ¬ (cap = i + r) := by omega
  have f6 : i + r < cap := by omega
  have e1 : i + 1 + r - 1 = i + r := by omega
  rw [e1]
  clear e1
  have HO := Lib.hid h
  clear h
  by_cases hcap : cap = i + 1
  · obtain rfl : r = 0 := by omega
    subst hcap
    have hrun := del_append HO.out h1 off (.inl rfl)
    simp only [Nat.add_zero] at hrun f5 f6 f3 ⊢
    simp only [Nat.sub_self] at hrun
    clear f5
    have f7 : (i : Int) ≤ (i : Int) + 1 := by omega
    go_enter Try.func31, Try.ntmps31
    go_wp2
    go_region_law (refine step_append rfl _ _ 46 46 rfl (by simp [Act.eval, Act.put]) (by simp [Act.eval, Act.put]) hrun ?_; intro v' w1 hR)
    obtain ⟨rfl, ho1, hf1⟩ := hR
    have HO1 := Lib.hid ho1
    have HF1 := Lib.hid hf1
    clear ho1 hf1
    go_wp2_with (refine wpL_clear rfl _ 46 rfl rfl (del_clear HF1.out HO1.out f6 _ _ _ (by omega) (by omega)) ?_; intro v' w2 hR2; have HR2 := Lib.hid hR2; clear hR2)
    go_ret
    exact ⟨_, rfl, HR2.out.1, rfl, HR2.out.2.mono (fun _ _ e => by simp [Value.ownBlock, e])⟩
  · have hrun := del_append HO.out h1 (off + (i + 1) * 2) (.inr rfl)
    go_enter Try.func31, Try.ntmps31
    go_wp2
    go_region_law (refine step_append rfl _ _ 46 46 rfl (by simp [Act.eval, Act.put]) (by simp [Act.eval, Act.put]) hrun ?_; intro v' w1 hR)
    obtain ⟨rfl, ho1, hf1⟩ := hR
    have HO1 := Lib.hid ho1
    have HF1 := Lib.hid hf1
    clear ho1 hf1
    go_wp2_with (refine wpL_clear rfl _ 46 rfl rfl (del_clear HF1.out HO1.out f6 _ _ _ (by omega) (by omega)) ?_; intro v' w2 hR2; have HR2 := Lib.hid hR2; clear hR2)
    go_ret
    exact ⟨_, rfl, HR2.out.1, rfl, HR2.out.2.mono (fun _ _ e => by simp [Value.ownBlock, e])⟩
end Go.Proofs.Ythkacajlbenflaa.SlP
