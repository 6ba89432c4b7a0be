/- NodeSplits: the walk. -/
import Derived.Test.YtfhpgmgmofganaaNodeV
set_option linter.unusedVariables false
set_option linter.unusedSimpArgs false
set_option linter.unusedSectionVars false
namespace Go.Proofs.Ytfhpgmgmofganaa.NodeA
open Go.RowKit Go.WideShapes Go.Deep Go.Proofs.Ytfhpgmgmofganaa.Mem Go.Proofs.Ytfhpgmgmofganaa.Open Go.Proofs.Ytfhpgmgmofganaa.Kv
set_option maxHeartbeats 2000000 in
set_option maxRecDepth 100000 in
theorem splits_leaf {v : Value} {keys : List S} (w : World) (h : Rd w w.heap.size 1 v keys.length (sc keys)) (hn : keys.length ≤ 20) (hsz : ∀ k ∈ keys, k.size < 9223372036854775807) :
    Calls Try.prog 3 #[v, .bool false] w fun e w' => e = .returned (.bool true) ∧ Below w.heap.size w w' := by
  have HR : Hid (∀ W, Below w.heap.size w W → Rd W W.heap.size 1 v keys.length (sc keys)) := fun W hb => h.up hb
  obtain ⟨_, A, c, rfl, _, _, _⟩ := h
  obtain ⟨hri, hle⟩ := leafK_rise _ keys rfl
  obtain ⟨ks, hks⟩ : ∃ ks, ks = leafK keys := ⟨_, rfl⟩
  obtain ⟨vs, hvs⟩ : ∃ vs, vs = ks.map vk := ⟨_, rfl⟩
  have hvl : vs.length = ks.length := by rw [hvs]; simp
  have HL : Hid (∀ W, Below w.heap.size w W → Calls Try.prog 9 #[.slice A keys.length c] W fun e w' => ∃ Ak ck Av cv, e = .returned (.agg #[.int .i64 1, .slice Ak ks.length ck, .slice Av vs.length cv, .slice none 0 0, .int .i64 0, .int .i64 0, .int .i64 0, .int .i64 0]) ∧ PgO w' W.heap.size (.slice Ak ks.length ck) (.slice Av vs.length cv) (.slice none 0 0) ⟨1, ks, vs, []⟩ ∧ Below W.heap.size W w') := fun W hb => leaf_row W (HR.out W hb) hn hsz hks hvs
  have hn2 : (keys.length : Int) ≤ 20 := by omega
  rw [← hks] at hri hle
  have HRI := Lib.hid hri
  have HVS := Lib.hid hvs
  have HVL := Lib.hid hvl
  clear hri hvs hvl hsz HR hks
  unfold pv at *
  go_enter Try.func3, Try.ntmps3
  go_wp2_with fail
  refine (head_any w).mono ?_
  rintro e w0 ⟨rfl, hb0⟩
  have HB0 := Lib.hid hb0
  clear hb0
  go_wp2_with fail
  refine (HL.out w0 HB0.out).mono ?_
  rintro e W1 ⟨Ak, ck, Av, cv, rfl, ho, hb1⟩
  have HO := Lib.hid ho
  have HW1 : Hid (Below w.heap.size w W1) := HB0.out.trans (hb1.mono HB0.out.size)
  clear ho hb1 HL
  by_cases h2 : ks.length < 2
  · have i2 : (ks.length : Int) < 2 := by omega
    go_wp2_with fail
    go_ret
    exact ⟨rfl, HW1.out.alloc HW1.out.size _⟩
  · have i2 : ¬ ((ks.length : Int) < 2) := by omega
    obtain ⟨m, hm⟩ : ∃ m, m = ks.length / 2 := ⟨_, rfl⟩
    obtain ⟨mid, hmid⟩ : ∃ mid, ks[m]? = some mid := ⟨ks[m]'(by omega), List.getElem?_eq_getElem _⟩
    obtain ⟨la, hla⟩ : ∃ la, la = ks.take m := ⟨_, rfl⟩
    obtain ⟨lb, hlb⟩ : ∃ lb, lb = ks.drop m := ⟨_, rfl⟩
    obtain ⟨va, hva⟩ : ∃ va, va = la.map vk := ⟨_, rfl⟩
    obtain ⟨vb, hvb⟩ : ∃ vb, vb = lb.map vk := ⟨_, rfl⟩
    have HMID := Lib.hid hmid
    have HLA := Lib.hid hla
    have HLB := Lib.hid hlb
    have HVA := Lib.hid hva
    have HVB := Lib.hid hvb
    have HSP : Hid (∀ W Ak ck Av cv, PgR W (.slice Ak ks.length ck) (.slice Av vs.length cv) (.slice none 0 0) ⟨1, ks, vs, []⟩ → Calls Try.prog 12 #[.agg #[.int .i64 1, .slice Ak ks.length ck, .slice Av vs.length cv, .slice none 0 0, .int .i64 0, .int .i64 0, .int .i64 0, .int .i64 0]] W fun e w' => ∃ Aka cka Ava cva Ana cna Akb ckb Avb cvb Anb cnb, e = .returned (.tuple #[.agg #[.int .i64 1, .slice Aka la.length cka, .slice Ava va.length cva, .slice Ana 0 cna, .int .i64 0, .int .i64 0, .int .i64 0, .int .i64 0], .string mid, .agg #[.int .i64 1, .slice Akb lb.length ckb, .slice Avb vb.length cvb, .slice Anb 0 cnb, .int .i64 0, .int .i64 0, .int .i64 0, .int .i64 0]]) ∧ PgR w' (.slice Aka la.length cka) (.slice Ava va.length cva) (.slice Ana 0 cna) ⟨1, la, va, []⟩ ∧ PgR w' (.slice Akb lb.length ckb) (.slice Avb vb.length cvb) (.slice Anb 0 cnb) ⟨1, lb, vb, []⟩ ∧ Below W.heap.size W w') := fun W Ak ck Av cv hp => (split_leaf W hp HVS.out (by omega) hm HMID.out).mono fun e w' he => by
      obtain ⟨ka, va', na, kb, vb', nb, e1, p1, p2, hb⟩ := he
      rw [← HLA.out, ← HVA.out] at p1
      rw [← HLB.out, ← HVB.out] at p2
      obtain ⟨Aka, cka, Ava, cva, Ana, cna, q1, q2, q3⟩ := p1.forms
      obtain ⟨Akb, ckb, Avb, cvb, Anb, cnb, q4, q5, q6⟩ := p2.forms
      subst q1 q2 q3 q4 q5 q6
      exact ⟨_, _, _, _, _, _, _, _, _, _, _, _, e1, p1, p2, hb⟩
    have HM := Lib.hid hm
    clear hm hmid hla hlb hva hvb
    go_wp2_with fail
    obtain ⟨X, hX⟩ : ∃ X, X = W1.alloc (.cells #[.int .i64 1, .slice Ak ks.length ck, .slice Av vs.length cv, .slice none 0 0, .int .i64 0, .int .i64 0, .int .i64 0, .int .i64 0] 26) := ⟨_, rfl⟩
    rw [← hX]
    have HX : Hid (X.heap[W1.heap.size]? = some (.cells #[.int .i64 1, .slice Ak ks.length ck, .slice Av vs.length cv, .slice none 0 0, .int .i64 0, .int .i64 0, .int .i64 0, .int .i64 0] 26 (0, 0))) := by rw [hX]; exact heap_alloc_new W1 _
    have HPG : Hid (∀ W, Below X.heap.size X W → PgR W (.slice Ak ks.length ck) (.slice Av vs.length cv) (.slice none 0 0) ⟨1, ks, vs, []⟩) := by
      have h9 := (HO.out.alloc (.cells #[.int .i64 1, .slice Ak ks.length ck, .slice Av vs.length cv, .slice none 0 0, .int .i64 0, .int .i64 0, .int .i64 0, .int .i64 0] 26)).rd
      rw [← hX] at h9
      exact Lib.hid fun W hb => h9.up hb
    have HXL : Hid (Below w.heap.size w X) := by rw [hX]; exact HW1.out.alloc HW1.out.size _
    clear hX HO
    obtain ⟨g5, hg5⟩ : ∃ g, g = W1.heap.size := ⟨_, rfl⟩
    rw [← hg5] at HX ⊢
    clear hg5
    refine (clone_any X (HPG.out X (Below.refl _ _))).mono ?_
    rintro e C1 ⟨kvw, vvw, nvw, rfl, ho, hb⟩
    obtain ⟨Akw, ckw, Avw, cvw, Anw, cnw, e1, e2, e3⟩ := ho.rd.forms
    dsimp only [List.length_nil] at e1 e2 e3
    subst e1 e2 e3
    have HOW := Lib.hid ho
    have HC1 := Lib.hid hb
    clear ho hb
    unfold pv
    have hg : g5 < X.heap.size := (Array.getElem?_eq_some_iff.1 HX.out).1
    have HGG := Lib.hid hg
    clear hg
    have hf : (C1.alloc (.cells #[.int .i64 1, .slice Akw ks.length ckw, .slice Avw vs.length cvw, .slice Anw 0 cnw, .int .i64 0, .int .i64 0, .int .i64 0, .int .i64 0] 26)).heap[g5]? = X.heap[g5]? := (Below.heap_alloc _ _ _ (by have := HC1.out.size; have := HGG.out; omega)).trans (HC1.out.block _ HGG.out)
    obtain ⟨f0, f1, f2, f3, f4, f5, f6, f7, f8⟩ := row8_facts (hf.trans HX.out)
    go_wp2_with fail
    clear f0 f1 f2 f3 f4 f5 f6 f7 f8
    obtain ⟨Z, hZ⟩ : ∃ Z, Z = C1.alloc (.cells #[.int .i64 1, .slice Akw ks.length ckw, .slice Avw vs.length cvw, .slice Anw 0 cnw, .int .i64 0, .int .i64 0, .int .i64 0, .int .i64 0] 26) := ⟨_, rfl⟩
    rw [← hZ] at hf ⊢
    have HZ5 : Hid (Z.heap[g5]? = some (.cells #[.int .i64 1, .slice Ak ks.length ck, .slice Av vs.length cv, .slice none 0 0, .int .i64 0, .int .i64 0, .int .i64 0, .int .i64 0] 26 (0, 0))) := Lib.hid (hf.trans HX.out)
    have HZ6 : Hid (Z.heap[C1.heap.size]? = some (.cells #[.int .i64 1, .slice Akw ks.length ckw, .slice Avw vs.length cvw, .slice Anw 0 cnw, .int .i64 0, .int .i64 0, .int .i64 0, .int .i64 0] 26 (0, 0))) := by rw [hZ]; exact Lib.hid (heap_alloc_new C1 _)
    have HXZ : Hid (Below X.heap.size X Z) := by rw [hZ]; exact Lib.hid (HC1.out.alloc HC1.out.size _)
    have HPW : Hid (∀ W, Below Z.heap.size Z W → PgR W (.slice Akw ks.length ckw) (.slice Avw vs.length cvw) (.slice Anw 0 cnw) ⟨1, ks, vs, []⟩) := by
      have h9 := (HOW.out.alloc (.cells #[.int .i64 1, .slice Akw ks.length ckw, .slice Avw vs.length cvw, .slice Anw 0 cnw, .int .i64 0, .int .i64 0, .int .i64 0, .int .i64 0] 26)).rd
      rw [← hZ] at h9
      exact Lib.hid fun W hb => h9.up hb
    clear hZ hf HOW
    obtain ⟨g6, hg6⟩ : ∃ g, g = C1.heap.size := ⟨_, rfl⟩
    rw [← hg6] at HZ6 ⊢
    clear hg6
    refine (HSP.out Z _ _ _ _ (HPG.out Z HXZ.out)).mono ?_
    rintro e W4 ⟨Aka, cka, Ava, cva, Ana, cna, Akb, ckb, Avb, cvb, Anb, cnb, rfl, ha, hb, hbl⟩
    have HA := Lib.hid ha
    have HBB := Lib.hid hb
    have HB4 := Lib.hid hbl
    clear ha hb hbl HSP
    have hbZ : Below Z.heap.size Z ((W4.alloc (.cells #[.int .i64 1, .slice Aka la.length cka, .slice Ava va.length cva, .slice Ana 0 cna, .int .i64 0, .int .i64 0, .int .i64 0, .int .i64 0] 26)).alloc (.cells #[.int .i64 1, .slice Akb lb.length ckb, .slice Avb vb.length cvb, .slice Anb 0 cnb, .int .i64 0, .int .i64 0, .int .i64 0, .int .i64 0] 26)) := (HB4.out.alloc HB4.out.size _).alloc (by have := HB4.out.size; simp; omega) _
    have hb4 : Below W4.heap.size W4 ((W4.alloc (.cells #[.int .i64 1, .slice Aka la.length cka, .slice Ava va.length cva, .slice Ana 0 cna, .int .i64 0, .int .i64 0, .int .i64 0, .int .i64 0] 26)).alloc (.cells #[.int .i64 1, .slice Akb lb.length ckb, .slice Avb vb.length cvb, .slice Anb 0 cnb, .int .i64 0, .int .i64 0, .int .i64 0, .int .i64 0] 26)) := ((Below.refl _ W4).alloc (Nat.le_refl _) _).alloc (by simp) _
    have h5 := (hbZ.block _ (Array.getElem?_eq_some_iff.1 HZ5.out).1).trans HZ5.out
    have h6 := (hbZ.block _ (Array.getElem?_eq_some_iff.1 HZ6.out).1).trans HZ6.out
    obtain ⟨f0, f1, f2, f3, f4, f5, f6, f7, f8⟩ := row8_facts (h5)
    obtain ⟨z0, z1, z2, z3, z4, z5, z6, z7, z8⟩ := row8_facts (h6)
    go_wp2_with fail
    clear f0 f1 f2 f3 f4 f5 f6 f7 f8 z0 z1 z2 z3 z4 z5 z6 z7 z8
    have h7 := (Below.heap_alloc (W4.alloc (.cells #[.int .i64 1, .slice Aka la.length cka, .slice Ava va.length cva, .slice Ana 0 cna, .int .i64 0, .int .i64 0, .int .i64 0, .int .i64 0] 26)) (.cells #[.int .i64 1, .slice Akb lb.length ckb, .slice Avb vb.length cvb, .slice Anb 0 cnb, .int .i64 0, .int .i64 0, .int .i64 0, .int .i64 0] 26) W4.heap.size (by simp)).trans (heap_alloc_new W4 _)
    have h9 := heap_alloc_new (W4.alloc (.cells #[.int .i64 1, .slice Aka la.length cka, .slice Ava va.length cva, .slice Ana 0 cna, .int .i64 0, .int .i64 0, .int .i64 0, .int .i64 0] 26)) (.cells #[.int .i64 1, .slice Akb lb.length ckb, .slice Avb vb.length cvb, .slice Anb 0 cnb, .int .i64 0, .int .i64 0, .int .i64 0, .int .i64 0] 26)
    rw [World.size_alloc] at h9
    obtain ⟨Y, hY⟩ : ∃ Y, Y = (W4.alloc (.cells #[.int .i64 1, .slice Aka la.length cka, .slice Ava va.length cva, .slice Ana 0 cna, .int .i64 0, .int .i64 0, .int .i64 0, .int .i64 0] 26)).alloc (.cells #[.int .i64 1, .slice Akb lb.length ckb, .slice Avb vb.length cvb, .slice Anb 0 cnb, .int .i64 0, .int .i64 0, .int .i64 0, .int .i64 0] 26) := ⟨_, rfl⟩
    rw [← hY] at hbZ hb4 h5 h6 h7 h9 ⊢
    have HZY := Lib.hid hbZ
    have HWY := Lib.hid hb4
    have HY5 := Lib.hid h5
    have HY7 := Lib.hid h7
    have HY9 := Lib.hid h9
    clear hY hbZ hb4 h5 h6 h7 h9 HZ5 HZ6
    obtain ⟨g7, hg7⟩ : ∃ g, g = W4.heap.size := ⟨_, rfl⟩
    rw [← hg7] at HY7 HY9 ⊢
    clear hg7
    have HPG2 : Hid (∀ W, Below Y.heap.size Y W → PgR W (.slice Ak ks.length ck) (.slice Av vs.length cv) (.slice none 0 0) ⟨1, ks, vs, []⟩) := fun W hb => HPG.out W ((HXZ.out.trans (HZY.out.mono HXZ.out.size)).trans (hb.mono (Nat.le_trans HXZ.out.size HZY.out.size)))
    have HPA : Hid (∀ W, Below Y.heap.size Y W → PgR W (.slice Aka la.length cka) (.slice Ava va.length cva) (.slice Ana 0 cna) ⟨1, la, va, []⟩) := fun W hb => HA.out.up (HWY.out.trans (hb.mono HWY.out.size))
    have HPB : Hid (∀ W, Below Y.heap.size Y W → PgR W (.slice Akb lb.length ckb) (.slice Avb vb.length cvb) (.slice Anb 0 cnb) ⟨1, lb, vb, []⟩) := fun W hb => HBB.out.up (HWY.out.trans (hb.mono HWY.out.size))
    have HLY : Hid (Below w.heap.size w Y) := HXL.out.trans ((HXZ.out.trans (HZY.out.mono HXZ.out.size)).mono HXL.out.size)
    refine (same_any Y (HPG2.out Y (Below.refl _ _)) (HPW.out Y HZY.out) rfl).mono ?_
    rintro e Y1 ⟨he, hb⟩
    have he' : e = .returned (.bool true) := he.trans (by simp)
    clear he
    subst he'
    have HB1 := Lib.hid hb
    clear hb HPW HZY HWY HA HBB HB4 HXZ HC1 HX HXL HPG
    have HR5 := Lib.hid ((HB1.out.block _ (Array.getElem?_eq_some_iff.1 HY5.out).1).trans HY5.out)
    have HR7 := Lib.hid ((HB1.out.block _ (Array.getElem?_eq_some_iff.1 HY7.out).1).trans HY7.out)
    have HR9 := Lib.hid ((HB1.out.block _ (Array.getElem?_eq_some_iff.1 HY9.out).1).trans HY9.out)
    obtain ⟨f0, f1, f2, f3, f4, f5, f6, f7, f8⟩ := row8_facts (HR5.out)
    obtain ⟨p0, p1, p2, p3, p4, p5, p6, p7, p8⟩ := row8_facts (HR7.out)
    obtain ⟨z0, z1, z2, z3, z4, z5, z6, z7, z8⟩ := row8_facts (HR9.out)
    have hm := HM.out
    have hkl20 : ks.length ≤ 20 := by omega
    have lal : la.length = m := by rw [HLA.out]; simp; omega
    have lbl : lb.length = ks.length - m := by rw [HLB.out]; simp
    have LAL := Lib.hid lal
    have LBL := Lib.hid lbl
    have n0 : 0 < lb.length := by omega
    have n0' : (0 : Int) < (lb.length : Int) := by omega
    have la20 : la.length ≤ 20 := by omega
    have lb20 : lb.length ≤ 20 := by omega
    have ew' : ((la.length : Int) != (m : Int)) = false := by rw [lal]; simp
    have ew2 : ((la.length : Int) != (ks.length : Int) / 2) = false := by rw [bne_eq_false_iff_eq]; omega
    have EW : Hid (wrap64 ((ks.length : Int) / 2) = (m : Int)) := Lib.hid (by unfold wrap64; omega)
    obtain ⟨gb, ob, cz, e, hgb, _, _, hx⟩ := (HPB.out Y1 HB1.out).keys.cells n0
    injection e with e1 e2 e3
    clear e2 e3
    subst e1
    have hb0 : lb[0]? = some mid := by rw [HLB.out, List.getElem?_drop, Nat.add_zero]; exact HMID.out
    have c0 : Y1.cell? ⟨gb, ob, none⟩ = some (.string mid) := hx 0 _ (sc_at hb0)
    clear hx hb0 lal lbl hm hgb
    have ew := EW.out
    go_wp2_with fail
    clear c0 ew ew' ew2
    clear f0 f1 f2 f3 f4 f5 f6 f7 f8 p0 p1 p2 p3 p4 p5 p6 p7 p8 z0 z1 z2 z3 z4 z5 z6 z7 z8
    go_loopw [125] (fun a wr => ∃ i : Nat, i ≤ la.length ∧ a = .int .i64 i ∧ wr = Y1) (fun a _ => la.length - (intOf a).toNat)
    case atStart => exact ⟨0, Nat.zero_le _, rfl, rfl⟩
    case round =>
      obtain ⟨i, hi, rfl, rfl⟩ := hrel
      by_cases hlt : i < la.length
      · obtain ⟨gx, ox, cz, e, _, _, _, hx⟩ := (HPA.out wr HB1.out).keys.cells (show 0 < la.length by omega)
        injection e with e1 e2 e3
        clear e2 e3
        cases e1
        obtain ⟨x, hxx⟩ : ∃ x, la[i]? = some x := ⟨la[i], List.getElem?_eq_getElem _⟩
        have hc := hx i _ (sc_at hxx)
        have i0 : (0 : Int) ≤ (i : Int) := by omega
        have i1 : (i : Int) < (la.length : Int) := by omega
        have hx1 : lt x mid = true := take_lt HRI.out HMID.out (by rw [← HLA.out]; exact List.mem_of_getElem? hxx)
        have hge := run_geq hx1
        simp only [Bool.not_true] at hge
        clear hx1
        clear hx hxx
        go_wp2_with fail
        go_roundw
        case rel => exact ⟨i + 1, by omega, by go_num, by first | rfl | trivial⟩
        case measure => simp [intOf]; omega
      · obtain rfl : i = la.length := by omega
        clear hlt hi
        obtain ⟨z0, z1, z2, z3, z4, z5, z6, z7, z8⟩ := row8_facts (HR9.out)
        go_wp2_with fail
        clear z0 z1 z2 z3 z4 z5 z6 z7 z8
        go_loopw [136] (fun a wr2 => ∃ i : Nat, i ≤ lb.length ∧ a = .int .i64 i ∧ wr2 = wr) (fun a _ => lb.length - (intOf a).toNat)
        case atStart => exact ⟨0, Nat.zero_le _, rfl, rfl⟩
        case round =>
          obtain ⟨i, hi, rfl, rfl⟩ := hrel
          by_cases hlt : i < lb.length
          · obtain ⟨gx, ox, cz, e, _, _, _, hx⟩ := (HPB.out wr HB1.out).keys.cells (show 0 < lb.length by omega)
            injection e with e1 e2 e3
            clear e2 e3
            cases e1
            obtain ⟨x, hxx⟩ : ∃ x, lb[i]? = some x := ⟨lb[i], List.getElem?_eq_getElem _⟩
            have hc := hx i _ (sc_at hxx)
            have i0 : (0 : Int) ≤ (i : Int) := by omega
            have i1 : (i : Int) < (lb.length : Int) := by omega
            have hx1 : lt x mid = false := drop_ge HRI.out HMID.out (by rw [← HLB.out]; exact List.mem_of_getElem? hxx)
            have d0 : Op.bytesLess x.toList mid.toList = false := by rw [bl_lt]; exact hx1
            clear hx1
            clear hx hxx
            go_wp2_with fail
            go_roundw
            case rel => exact ⟨i + 1, by omega, by go_num, by first | rfl | trivial⟩
            case measure => simp [intOf]; omega
          · obtain rfl : i = lb.length := by omega
            clear hlt hi
            obtain ⟨p0, p1, p2, p3, p4, p5, p6, p7, p8⟩ := row8_facts (HR7.out)
            obtain ⟨z0, z1, z2, z3, z4, z5, z6, z7, z8⟩ := row8_facts (HR9.out)
            obtain ⟨f0, f1, f2, f3, f4, f5, f6, f7, f8⟩ := row8_facts (HR5.out)
            go_wp2_with fail
            clear f0 f1 f2 f3 f4 f5 f6 f7 f8 p0 p1 p2 p3 p4 p5 p6 p7 p8 z0 z1 z2 z3 z4 z5 z6 z7 z8
            have hj : joinP ⟨1, la, va, []⟩ mid ⟨1, lb, vb, []⟩ = ⟨1, ks, vs, []⟩ := by
              unfold joinP
              simp only [show ¬ ((1 : Int) = 2) by decide, if_false, List.append_nil]
              rw [HVA.out, HVB.out, HVS.out, ← List.map_append, HLA.out, HLB.out, List.take_append_drop]
            have hjl : (joinP ⟨1, la, va, []⟩ mid ⟨1, lb, vb, []⟩).keys.length ≤ 100 ∧ (joinP ⟨1, la, va, []⟩ mid ⟨1, lb, vb, []⟩).vals.length ≤ 100 ∧ (joinP ⟨1, la, va, []⟩ mid ⟨1, lb, vb, []⟩).kids.length ≤ 100 := by rw [hj]; exact (HPG2.out _ HB1.out).lens
            refine (join_any wr (HPA.out wr HB1.out) (HPB.out wr HB1.out) mid hjl).mono ?_
            rintro e J ⟨kvo, vvo, nvo, rfl, ho, hb⟩
            rw [hj] at ho
            obtain ⟨Ako, cko, Avo, cvo, Ano, cno, e1, e2, e3⟩ := ho.forms
            dsimp only [List.length_nil] at e1 e2 e3
            subst e1 e2 e3
            have HOJ := Lib.hid ho
            have HBJ := Lib.hid hb
            clear ho hb hj hjl
            unfold pv
            have hbj : Below wr.heap.size wr (J.alloc (.cells #[.int .i64 1, .slice Ako ks.length cko, .slice Avo vs.length cvo, .slice Ano 0 cno, .int .i64 0, .int .i64 0, .int .i64 0, .int .i64 0] 26)) := HBJ.out.alloc HBJ.out.size _
            have hof := HOJ.out.up ((Below.refl _ J).alloc (Nat.le_refl _) (.cells #[.int .i64 1, .slice Ako ks.length cko, .slice Avo vs.length cvo, .slice Ano 0 cno, .int .i64 0, .int .i64 0, .int .i64 0, .int .i64 0] 26))
            have h14 := heap_alloc_new J (.cells #[.int .i64 1, .slice Ako ks.length cko, .slice Avo vs.length cvo, .slice Ano 0 cno, .int .i64 0, .int .i64 0, .int .i64 0, .int .i64 0] 26)
            have h5 := (hbj.block _ (Array.getElem?_eq_some_iff.1 HR5.out).1).trans HR5.out
            have h7 := (hbj.block _ (Array.getElem?_eq_some_iff.1 HR7.out).1).trans HR7.out
            have h9 := (hbj.block _ (Array.getElem?_eq_some_iff.1 HR9.out).1).trans HR9.out
            obtain ⟨N, hN⟩ : ∃ N, N = J.alloc (.cells #[.int .i64 1, .slice Ako ks.length cko, .slice Avo vs.length cvo, .slice Ano 0 cno, .int .i64 0, .int .i64 0, .int .i64 0, .int .i64 0] 26) := ⟨_, rfl⟩
            have HBN : Hid (Below Y.heap.size Y N) := by rw [hN]; exact Lib.hid (HB1.out.trans (hbj.mono HB1.out.size))
            have J5 := Lib.hid h5
            have J7 := Lib.hid h7
            have J9 := Lib.hid h9
            have J14 := Lib.hid h14
            rw [← hN] at hof h14 h5 h7 h9
            have HOF := Lib.hid hof
            have H14 := Lib.hid h14
            have H5 := Lib.hid h5
            have H7 := Lib.hid h7
            have H9 := Lib.hid h9
            by_cases hfull : ks.length = 7
            · have hfl : ((ks.length : Int) == 7) = true := by rw [beq_iff_eq]; omega
              have HFULL := Lib.hid hfull
              clear hbj hof h14 h5 h7 h9 hfull
              have HNN : Hid (Below N.heap.size N N) := Below.refl _ _
              obtain ⟨f0, f1, f2, f3, f4, f5, f6, f7, f8⟩ := row8_facts (J5.out)
              obtain ⟨p0, p1, p2, p3, p4, p5, p6, p7, p8⟩ := row8_facts (J7.out)
              obtain ⟨z0, z1, z2, z3, z4, z5, z6, z7, z8⟩ := row8_facts (J9.out)
              obtain ⟨q0, q1, q2, q3, q4, q5, q6, q7, q8⟩ := row8_facts (J14.out)
              go_wp2_with fail
              clear f0 f1 f2 f3 f4 f5 f6 f7 f8 p0 p1 p2 p3 p4 p5 p6 p7 p8 z0 z1 z2 z3 z4 z5 z6 z7 z8 q0 q1 q2 q3 q4 q5 q6 q7 q8
              rw [← hN]
              clear hN
              refine (same_any N HOF.out (HPG2.out N HBN.out) rfl).mono ?_
              rintro e N1 ⟨he, hb⟩
              have he' : e = .returned (.bool true) := he.trans (by simp)
              clear he
              subst he'
              have HNN1 := Lib.hid hb
              clear hb
              have hlens : la.length = 3 ∧ lb.length = 4 := by have h1 := LAL.out; have h2 := LBL.out; have h3 := HM.out; have h4 := HFULL.out; omega
              have HLENS := Lib.hid hlens
              clear hlens
              obtain ⟨f0, f1, f2, f3, f4, f5, f6, f7, f8⟩ := row8_facts ((HNN1.out.block _ (Array.getElem?_eq_some_iff.1 H5.out).1).trans H5.out)
              obtain ⟨p0, p1, p2, p3, p4, p5, p6, p7, p8⟩ := row8_facts ((HNN1.out.block _ (Array.getElem?_eq_some_iff.1 H7.out).1).trans H7.out)
              obtain ⟨z0, z1, z2, z3, z4, z5, z6, z7, z8⟩ := row8_facts ((HNN1.out.block _ (Array.getElem?_eq_some_iff.1 H9.out).1).trans H9.out)
              obtain ⟨q0, q1, q2, q3, q4, q5, q6, q7, q8⟩ := row8_facts ((HNN1.out.block _ (Array.getElem?_eq_some_iff.1 H14.out).1).trans H14.out)
              go_wp2_with fail
              clear f0 f1 f2 f3 f4 f5 f6 f7 f8 p0 p1 p2 p3 p4 p5 p6 p7 p8 z0 z1 z2 z3 z4 z5 z6 z7 z8 q0 q1 q2 q3 q4 q5 q6 q7 q8
              refine (under_any N1 (HPA.out N1 (HBN.out.trans (HNN1.out.mono HBN.out.size)))).mono ?_
              rintro e N2 ⟨he, hb⟩
              have he' : e = .returned (.bool false) := he.trans (by have := HLENS.out; simp [this])
              clear he
              subst he'
              have HNN2 : Hid (Below N.heap.size N N2) := HNN1.out.trans (hb.mono HNN1.out.size)
              clear hb
              obtain ⟨f0, f1, f2, f3, f4, f5, f6, f7, f8⟩ := row8_facts ((HNN2.out.block _ (Array.getElem?_eq_some_iff.1 H5.out).1).trans H5.out)
              obtain ⟨p0, p1, p2, p3, p4, p5, p6, p7, p8⟩ := row8_facts ((HNN2.out.block _ (Array.getElem?_eq_some_iff.1 H7.out).1).trans H7.out)
              obtain ⟨z0, z1, z2, z3, z4, z5, z6, z7, z8⟩ := row8_facts ((HNN2.out.block _ (Array.getElem?_eq_some_iff.1 H9.out).1).trans H9.out)
              obtain ⟨q0, q1, q2, q3, q4, q5, q6, q7, q8⟩ := row8_facts ((HNN2.out.block _ (Array.getElem?_eq_some_iff.1 H14.out).1).trans H14.out)
              go_wp2_with fail
              clear f0 f1 f2 f3 f4 f5 f6 f7 f8 p0 p1 p2 p3 p4 p5 p6 p7 p8 z0 z1 z2 z3 z4 z5 z6 z7 z8 q0 q1 q2 q3 q4 q5 q6 q7 q8
              refine (under_any N2 (HPB.out N2 (HBN.out.trans (HNN2.out.mono HBN.out.size)))).mono ?_
              rintro e N3 ⟨he, hb⟩
              have he' : e = .returned (.bool false) := he.trans (by have := HLENS.out; simp [this])
              clear he
              subst he'
              have HNN3 : Hid (Below N.heap.size N N3) := HNN2.out.trans (hb.mono HNN2.out.size)
              clear hb
              obtain ⟨f0, f1, f2, f3, f4, f5, f6, f7, f8⟩ := row8_facts ((HNN3.out.block _ (Array.getElem?_eq_some_iff.1 H5.out).1).trans H5.out)
              obtain ⟨p0, p1, p2, p3, p4, p5, p6, p7, p8⟩ := row8_facts ((HNN3.out.block _ (Array.getElem?_eq_some_iff.1 H7.out).1).trans H7.out)
              obtain ⟨z0, z1, z2, z3, z4, z5, z6, z7, z8⟩ := row8_facts ((HNN3.out.block _ (Array.getElem?_eq_some_iff.1 H9.out).1).trans H9.out)
              obtain ⟨q0, q1, q2, q3, q4, q5, q6, q7, q8⟩ := row8_facts ((HNN3.out.block _ (Array.getElem?_eq_some_iff.1 H14.out).1).trans H14.out)
              go_wp2_with fail
              clear f0 f1 f2 f3 f4 f5 f6 f7 f8 p0 p1 p2 p3 p4 p5 p6 p7 p8 z0 z1 z2 z3 z4 z5 z6 z7 z8 q0 q1 q2 q3 q4 q5 q6 q7 q8
              refine (over_any N3 (HPA.out N3 (HBN.out.trans (HNN3.out.mono HBN.out.size)))).mono ?_
              rintro e N4 ⟨he, hb⟩
              have he' : e = .returned (.bool false) := he.trans (by have := HLENS.out; simp [this])
              clear he
              subst he'
              have HNN4 : Hid (Below N.heap.size N N4) := HNN3.out.trans (hb.mono HNN3.out.size)
              clear hb
              obtain ⟨f0, f1, f2, f3, f4, f5, f6, f7, f8⟩ := row8_facts ((HNN4.out.block _ (Array.getElem?_eq_some_iff.1 H5.out).1).trans H5.out)
              obtain ⟨p0, p1, p2, p3, p4, p5, p6, p7, p8⟩ := row8_facts ((HNN4.out.block _ (Array.getElem?_eq_some_iff.1 H7.out).1).trans H7.out)
              obtain ⟨z0, z1, z2, z3, z4, z5, z6, z7, z8⟩ := row8_facts ((HNN4.out.block _ (Array.getElem?_eq_some_iff.1 H9.out).1).trans H9.out)
              obtain ⟨q0, q1, q2, q3, q4, q5, q6, q7, q8⟩ := row8_facts ((HNN4.out.block _ (Array.getElem?_eq_some_iff.1 H14.out).1).trans H14.out)
              go_wp2_with fail
              clear f0 f1 f2 f3 f4 f5 f6 f7 f8 p0 p1 p2 p3 p4 p5 p6 p7 p8 z0 z1 z2 z3 z4 z5 z6 z7 z8 q0 q1 q2 q3 q4 q5 q6 q7 q8
              refine (over_any N4 (HPB.out N4 (HBN.out.trans (HNN4.out.mono HBN.out.size)))).mono ?_
              rintro e N5 ⟨he, hb⟩
              have he' : e = .returned (.bool false) := he.trans (by have := HLENS.out; simp [this])
              clear he
              subst he'
              have HNN5 : Hid (Below N.heap.size N N5) := HNN4.out.trans (hb.mono HNN4.out.size)
              clear hb
              go_wp2_with fail
              go_ret
              exact ⟨rfl, HLY.out.trans ((HBN.out.trans (HNN5.out.mono HBN.out.size)).mono HLY.out.size)⟩
            · have hfl : ((ks.length : Int) == 7) = false := by rw [beq_eq_false_iff_ne, ne_eq]; omega
              have HFULL := Lib.hid hfull
              clear hbj hof h14 h5 h7 h9 hfull
              have HNN : Hid (Below N.heap.size N N) := Below.refl _ _
              obtain ⟨f0, f1, f2, f3, f4, f5, f6, f7, f8⟩ := row8_facts (J5.out)
              obtain ⟨p0, p1, p2, p3, p4, p5, p6, p7, p8⟩ := row8_facts (J7.out)
              obtain ⟨z0, z1, z2, z3, z4, z5, z6, z7, z8⟩ := row8_facts (J9.out)
              obtain ⟨q0, q1, q2, q3, q4, q5, q6, q7, q8⟩ := row8_facts (J14.out)
              go_wp2_with fail
              clear f0 f1 f2 f3 f4 f5 f6 f7 f8 p0 p1 p2 p3 p4 p5 p6 p7 p8 z0 z1 z2 z3 z4 z5 z6 z7 z8 q0 q1 q2 q3 q4 q5 q6 q7 q8
              rw [← hN]
              clear hN
              refine (same_any N HOF.out (HPG2.out N HBN.out) rfl).mono ?_
              rintro e N1 ⟨he, hb⟩
              have he' : e = .returned (.bool true) := he.trans (by simp)
              clear he
              subst he'
              have HNN1 := Lib.hid hb
              clear hb
              go_wp2_with fail
              go_ret
              exact ⟨rfl, HLY.out.trans ((HBN.out.trans (HNN1.out.mono HBN.out.size)).mono HLY.out.size)⟩
set_option maxHeartbeats 2000000 in
set_option maxRecDepth 100000 in
theorem splits_inner {v : Value} {keys : List S} (w : World) (h : Rd w w.heap.size 1 v keys.length (sc keys)) (hn : keys.length ≤ 20) (hsz : ∀ k ∈ keys, k.size < 9223372036854775807) :
    Calls Try.prog 3 #[v, .bool true] w fun e w' => e = .returned (.bool true) ∧ Below w.heap.size w w' := by
  have HR : Hid (∀ W, Below w.heap.size w W → Rd W W.heap.size 1 v keys.length (sc keys)) := fun W hb => h.up hb
  obtain ⟨_, A, c, rfl, _, _, _⟩ := h
  obtain ⟨hri, hle⟩ := leafK_rise _ keys rfl
  obtain ⟨ks, hks⟩ : ∃ ks, ks = leafK keys := ⟨_, rfl⟩
  obtain ⟨vs, hvs⟩ : ∃ vs, vs = ks.map vk := ⟨_, rfl⟩
  obtain ⟨kd, hkd⟩ : ∃ kd, kd = kidsOf (ks.length + 1) 5 := ⟨_, rfl⟩
  have hkl : kd.length = ks.length + 1 := by rw [hkd]; simp [kidsOf]
  have HL : Hid (∀ W, Below w.heap.size w W → Calls Try.prog 9 #[.slice A keys.length c] W fun e w' => ∃ Ak ck Av cv, e = .returned (.agg #[.int .i64 1, .slice Ak ks.length ck, .slice Av vs.length cv, .slice none 0 0, .int .i64 0, .int .i64 0, .int .i64 0, .int .i64 0]) ∧ PgO w' W.heap.size (.slice Ak ks.length ck) (.slice Av vs.length cv) (.slice none 0 0) ⟨1, ks, vs, []⟩ ∧ Below W.heap.size W w') := fun W hb => leaf_row W (HR.out W hb) hn hsz hks hvs
  have HI : Hid (∀ W, Below w.heap.size w W → Calls Try.prog 10 #[.slice A keys.length c, .int .i64 5] W fun e w' => ∃ Ak ck An cn, e = .returned (.agg #[.int .i64 2, .slice Ak ks.length ck, .slice none 0 0, .slice An kd.length cn, .int .i64 0, .int .i64 0, .int .i64 0, .int .i64 0]) ∧ PgO w' W.heap.size (.slice Ak ks.length ck) (.slice none 0 0) (.slice An kd.length cn) ⟨2, ks, [], kd⟩ ∧ Below W.heap.size W w') := fun W hb => inner_row W (HR.out W hb) hn hsz 5 (by omega) hks hkd
  have hn2 : (keys.length : Int) ≤ 20 := by omega
  rw [← hks] at hri hle
  have HRI := Lib.hid hri
  have HKD := Lib.hid hkd
  have HKL := Lib.hid hkl
  have hk21 : kd.length ≤ 21 := by omega
  clear hri hvs hkl hkd hsz HR hks hle
  unfold pv at *
  go_enter Try.func3, Try.ntmps3
  go_wp2_with fail
  refine (head_any w).mono ?_
  rintro e w0 ⟨rfl, hb0⟩
  have HB0 := Lib.hid hb0
  clear hb0
  go_wp2_with fail
  refine (HL.out w0 HB0.out).mono ?_
  rintro e W1 ⟨Al, cl, Av, cv, rfl, ho, hb1⟩
  have HW1 : Hid (Below w.heap.size w W1) := HB0.out.trans (hb1.mono HB0.out.size)
  clear ho hb1 HL
  go_wp2_with fail
  refine (HI.out _ (HW1.out.alloc HW1.out.size _)).mono ?_
  rintro e W2 ⟨Ak, ck, An, cn, rfl, ho, hb2⟩
  have HO := Lib.hid ho
  have HW2 : Hid (Below w.heap.size w W2) := (HW1.out.alloc HW1.out.size _).trans (hb2.mono (by have := HW1.out.size; simp; omega))
  have HR2 := Lib.hid ((hb2.block W1.heap.size (by simp)).trans (heap_alloc_new W1 (.cells #[.int .i64 1, .slice Al ks.length cl, .slice Av vs.length cv, .slice none 0 0, .int .i64 0, .int .i64 0, .int .i64 0, .int .i64 0] 26)))
  have hlt5 := hb2.size
  rw [World.size_alloc] at hlt5
  have HW12 := Lib.hid HW1.out.size
  clear ho hb2 HI
  obtain ⟨g5, hg5⟩ : ∃ g, g = W1.heap.size := ⟨_, rfl⟩
  rw [← hg5] at HR2 HW12 hlt5 ⊢
  have HLT5 := Lib.hid hlt5
  have hbase : W1.heap.size + 1 ≤ (W1.alloc (.cells #[.int .i64 1, .slice Al ks.length cl, .slice Av vs.length cv, .slice none 0 0, .int .i64 0, .int .i64 0, .int .i64 0, .int .i64 0] 26)).heap.size := by simp
  have HO2 := Lib.hid (HO.out.base_ hbase)
  rw [← hg5] at HO2
  clear hbase hg5 hlt5 HO
  obtain ⟨f0, f1, f2, f3, f4, f5, f6, f7, f8⟩ := row8_facts HR2.out
  by_cases h2 : kd.length < 4
  · have i2 : (kd.length : Int) < 4 := by omega
    go_wp2_with fail
    go_ret
    exact ⟨rfl, set8_below HW2.out HW12.out _ _ _ _ _ _ _ _⟩
  · have i2 : ¬ ((kd.length : Int) < 4) := by omega
    obtain ⟨m, hm⟩ : ∃ m, m = kd.length / 2 := ⟨_, rfl⟩
    obtain ⟨q, hq⟩ : ∃ q, m = q + 1 := ⟨m - 1, by omega⟩
    have hkl := HKL.out
    obtain ⟨mid, hmid⟩ : ∃ mid, ks[q]? = some mid := ⟨ks[q]'(by omega), List.getElem?_eq_getElem _⟩
    obtain ⟨la, hla⟩ : ∃ la, la = ks.take q := ⟨_, rfl⟩
    obtain ⟨lb, hlb⟩ : ∃ lb, lb = ks.drop m := ⟨_, rfl⟩
    obtain ⟨da, hda⟩ : ∃ da, da = kd.take m := ⟨_, rfl⟩
    obtain ⟨db, hdb⟩ : ∃ db, db = kd.drop m := ⟨_, rfl⟩
    have HMID := Lib.hid hmid
    have HLA := Lib.hid hla
    have HLB := Lib.hid hlb
    have HDA := Lib.hid hda
    have HDB := Lib.hid hdb
    have HM := Lib.hid hm
    have HQ := Lib.hid hq
    have HSP : Hid (∀ W Ak ck An cn, PgR W (.slice Ak ks.length ck) (.slice none 0 0) (.slice An kd.length cn) ⟨2, ks, [], kd⟩ → Calls Try.prog 12 #[.agg #[.int .i64 2, .slice Ak ks.length ck, .slice none 0 0, .slice An kd.length cn, .int .i64 0, .int .i64 0, .int .i64 0, .int .i64 0]] W fun e w' => ∃ Aka cka Ava cva Ana cna Akb ckb Avb cvb Anb cnb, e = .returned (.tuple #[.agg #[.int .i64 2, .slice Aka la.length cka, .slice Ava 0 cva, .slice Ana da.length cna, .int .i64 0, .int .i64 0, .int .i64 0, .int .i64 0], .string mid, .agg #[.int .i64 2, .slice Akb lb.length ckb, .slice Avb 0 cvb, .slice Anb db.length cnb, .int .i64 0, .int .i64 0, .int .i64 0, .int .i64 0]]) ∧ PgR w' (.slice Aka la.length cka) (.slice Ava 0 cva) (.slice Ana da.length cna) ⟨2, la, [], da⟩ ∧ PgR w' (.slice Akb lb.length ckb) (.slice Avb 0 cvb) (.slice Anb db.length cnb) ⟨2, lb, [], db⟩ ∧ Below W.heap.size W w') := fun W Ak ck An cn hp => (split_inner W hp hkl (by omega) hm hq HMID.out).mono fun e w' he => by
      obtain ⟨ka, va', na, kb, vb', nb, e1, p1, p2, hb⟩ := he
      rw [← HLA.out, ← HDA.out] at p1
      rw [← HLB.out, ← HDB.out] at p2
      obtain ⟨Aka, cka, Ava, cva, Ana, cna, q1, q2, q3⟩ := p1.forms
      obtain ⟨Akb, ckb, Avb, cvb, Anb, cnb, q4, q5, q6⟩ := p2.forms
      subst q1 q2 q3 q4 q5 q6
      exact ⟨_, _, _, _, _, _, _, _, _, _, _, _, e1, p1, p2, hb⟩
    clear hm hq hmid hla hlb hda hdb hkl
    go_wp2_with fail
    clear f0 f1 f2 f3 f4 f5 f6 f7 f8
    obtain ⟨X, hX⟩ : ∃ X, X = ((((((((W2.setCell ⟨g5, 0, none⟩ (.int .i64 2)).setCell ⟨g5, 1, none⟩ (.slice Ak ks.length ck)).setCell ⟨g5, 2, none⟩ (.slice none 0 0)).setCell ⟨g5, 3, none⟩ (.slice An kd.length cn)).setCell ⟨g5, 4, none⟩ (.int .i64 0)).setCell ⟨g5, 5, none⟩ (.int .i64 0)).setCell ⟨g5, 6, none⟩ (.int .i64 0)).setCell ⟨g5, 7, none⟩ (.int .i64 0)) := ⟨_, rfl⟩
    rw [← hX]
    have HX : Hid (X.heap[g5]? = some (.cells #[.int .i64 2, .slice Ak ks.length ck, .slice none 0 0, .slice An kd.length cn, .int .i64 0, .int .i64 0, .int .i64 0, .int .i64 0] 26 (0, 0))) := by rw [hX]; exact row8_set HR2.out _ _ _ _ _ _ _ _
    have HPG : Hid (∀ W, Below X.heap.size X W → PgR W (.slice Ak ks.length ck) (.slice none 0 0) (.slice An kd.length cn) ⟨2, ks, [], kd⟩) := by
      have h9 : PgR X (.slice Ak ks.length ck) (.slice none 0 0) (.slice An kd.length cn) ⟨2, ks, [], kd⟩ := by
        rw [hX]; exact (HO2.out.kept fun k hk => set8_ne _ (by omega) _ _ _ _ _ _ _ _).rd
      exact Lib.hid fun W hb => h9.up hb
    have HXL : Hid (Below w.heap.size w X) := by rw [hX]; exact set8_below HW2.out HW12.out _ _ _ _ _ _ _ _
    clear hX HO2 HR2
    refine (clone_any X (HPG.out X (Below.refl _ _))).mono ?_
    rintro e C1 ⟨kvw, vvw, nvw, rfl, ho, hb⟩
    obtain ⟨Akw, ckw, Avw, cvw, Anw, cnw, e1, e2, e3⟩ := ho.rd.forms
    dsimp only [List.length_nil] at e1 e2 e3
    subst e1 e2 e3
    have HOW := Lib.hid ho
    have HC1 := Lib.hid hb
    clear ho hb
    unfold pv
    have hg : g5 < X.heap.size := (Array.getElem?_eq_some_iff.1 HX.out).1
    have HGG := Lib.hid hg
    clear hg
    have hf : (C1.alloc (.cells #[.int .i64 2, .slice Akw ks.length ckw, .slice Avw 0 cvw, .slice Anw kd.length cnw, .int .i64 0, .int .i64 0, .int .i64 0, .int .i64 0] 26)).heap[g5]? = X.heap[g5]? := (Below.heap_alloc _ _ _ (by have := HC1.out.size; have := HGG.out; omega)).trans (HC1.out.block _ HGG.out)
    obtain ⟨f0, f1, f2, f3, f4, f5, f6, f7, f8⟩ := row8_facts (hf.trans HX.out)
    go_wp2_with fail
    clear f0 f1 f2 f3 f4 f5 f6 f7 f8
    obtain ⟨Z, hZ⟩ : ∃ Z, Z = C1.alloc (.cells #[.int .i64 2, .slice Akw ks.length ckw, .slice Avw 0 cvw, .slice Anw kd.length cnw, .int .i64 0, .int .i64 0, .int .i64 0, .int .i64 0] 26) := ⟨_, rfl⟩
    rw [← hZ] at hf ⊢
    have HZ5 : Hid (Z.heap[g5]? = some (.cells #[.int .i64 2, .slice Ak ks.length ck, .slice none 0 0, .slice An kd.length cn, .int .i64 0, .int .i64 0, .int .i64 0, .int .i64 0] 26 (0, 0))) := Lib.hid (hf.trans HX.out)
    have HZ6 : Hid (Z.heap[C1.heap.size]? = some (.cells #[.int .i64 2, .slice Akw ks.length ckw, .slice Avw 0 cvw, .slice Anw kd.length cnw, .int .i64 0, .int .i64 0, .int .i64 0, .int .i64 0] 26 (0, 0))) := by rw [hZ]; exact Lib.hid (heap_alloc_new C1 _)
    have HXZ : Hid (Below X.heap.size X Z) := by rw [hZ]; exact Lib.hid (HC1.out.alloc HC1.out.size _)
    have HPW : Hid (∀ W, Below Z.heap.size Z W → PgR W (.slice Akw ks.length ckw) (.slice Avw 0 cvw) (.slice Anw kd.length cnw) ⟨2, ks, [], kd⟩) := by
      have h9 := (HOW.out.alloc (.cells #[.int .i64 2, .slice Akw ks.length ckw, .slice Avw 0 cvw, .slice Anw kd.length cnw, .int .i64 0, .int .i64 0, .int .i64 0, .int .i64 0] 26)).rd
      rw [← hZ] at h9
      exact Lib.hid fun W hb => h9.up hb
    clear hZ hf HOW
    obtain ⟨g6, hg6⟩ : ∃ g, g = C1.heap.size := ⟨_, rfl⟩
    rw [← hg6] at HZ6 ⊢
    clear hg6
    refine (HSP.out Z _ _ _ _ (HPG.out Z HXZ.out)).mono ?_
    rintro e W4 ⟨Aka, cka, Ava, cva, Ana, cna, Akb, ckb, Avb, cvb, Anb, cnb, rfl, ha, hb, hbl⟩
    have HA := Lib.hid ha
    have HBB := Lib.hid hb
    have HB4 := Lib.hid hbl
    clear ha hb hbl HSP
    have hbZ : Below Z.heap.size Z ((W4.alloc (.cells #[.int .i64 2, .slice Aka la.length cka, .slice Ava 0 cva, .slice Ana da.length cna, .int .i64 0, .int .i64 0, .int .i64 0, .int .i64 0] 26)).alloc (.cells #[.int .i64 2, .slice Akb lb.length ckb, .slice Avb 0 cvb, .slice Anb db.length cnb, .int .i64 0, .int .i64 0, .int .i64 0, .int .i64 0] 26)) := (HB4.out.alloc HB4.out.size _).alloc (by have := HB4.out.size; simp; omega) _
    have hb4 : Below W4.heap.size W4 ((W4.alloc (.cells #[.int .i64 2, .slice Aka la.length cka, .slice Ava 0 cva, .slice Ana da.length cna, .int .i64 0, .int .i64 0, .int .i64 0, .int .i64 0] 26)).alloc (.cells #[.int .i64 2, .slice Akb lb.length ckb, .slice Avb 0 cvb, .slice Anb db.length cnb, .int .i64 0, .int .i64 0, .int .i64 0, .int .i64 0] 26)) := ((Below.refl _ W4).alloc (Nat.le_refl _) _).alloc (by simp) _
    have h5 := (hbZ.block _ (Array.getElem?_eq_some_iff.1 HZ5.out).1).trans HZ5.out
    have h6 := (hbZ.block _ (Array.getElem?_eq_some_iff.1 HZ6.out).1).trans HZ6.out
    obtain ⟨f0, f1, f2, f3, f4, f5, f6, f7, f8⟩ := row8_facts (h5)
    obtain ⟨z0, z1, z2, z3, z4, z5, z6, z7, z8⟩ := row8_facts (h6)
    go_wp2_with fail
    clear f0 f1 f2 f3 f4 f5 f6 f7 f8 z0 z1 z2 z3 z4 z5 z6 z7 z8
    have h7 := (Below.heap_alloc (W4.alloc (.cells #[.int .i64 2, .slice Aka la.length cka, .slice Ava 0 cva, .slice Ana da.length cna, .int .i64 0, .int .i64 0, .int .i64 0, .int .i64 0] 26)) (.cells #[.int .i64 2, .slice Akb lb.length ckb, .slice Avb 0 cvb, .slice Anb db.length cnb, .int .i64 0, .int .i64 0, .int .i64 0, .int .i64 0] 26) W4.heap.size (by simp)).trans (heap_alloc_new W4 _)
    have h9 := heap_alloc_new (W4.alloc (.cells #[.int .i64 2, .slice Aka la.length cka, .slice Ava 0 cva, .slice Ana da.length cna, .int .i64 0, .int .i64 0, .int .i64 0, .int .i64 0] 26)) (.cells #[.int .i64 2, .slice Akb lb.length ckb, .slice Avb 0 cvb, .slice Anb db.length cnb, .int .i64 0, .int .i64 0, .int .i64 0, .int .i64 0] 26)
    rw [World.size_alloc] at h9
    obtain ⟨Y, hY⟩ : ∃ Y, Y = (W4.alloc (.cells #[.int .i64 2, .slice Aka la.length cka, .slice Ava 0 cva, .slice Ana da.length cna, .int .i64 0, .int .i64 0, .int .i64 0, .int .i64 0] 26)).alloc (.cells #[.int .i64 2, .slice Akb lb.length ckb, .slice Avb 0 cvb, .slice Anb db.length cnb, .int .i64 0, .int .i64 0, .int .i64 0, .int .i64 0] 26) := ⟨_, rfl⟩
    rw [← hY] at hbZ hb4 h5 h6 h7 h9 ⊢
    have HZY := Lib.hid hbZ
    have HWY := Lib.hid hb4
    have HY5 := Lib.hid h5
    have HY7 := Lib.hid h7
    have HY9 := Lib.hid h9
    clear hY hbZ hb4 h5 h6 h7 h9 HZ5 HZ6
    obtain ⟨g7, hg7⟩ : ∃ g, g = W4.heap.size := ⟨_, rfl⟩
    rw [← hg7] at HY7 HY9 ⊢
    clear hg7
    have HPG2 : Hid (∀ W, Below Y.heap.size Y W → PgR W (.slice Ak ks.length ck) (.slice none 0 0) (.slice An kd.length cn) ⟨2, ks, [], kd⟩) := fun W hb => HPG.out W ((HXZ.out.trans (HZY.out.mono HXZ.out.size)).trans (hb.mono (Nat.le_trans HXZ.out.size HZY.out.size)))
    have HPA : Hid (∀ W, Below Y.heap.size Y W → PgR W (.slice Aka la.length cka) (.slice Ava 0 cva) (.slice Ana da.length cna) ⟨2, la, [], da⟩) := fun W hb => HA.out.up (HWY.out.trans (hb.mono HWY.out.size))
    have HPB : Hid (∀ W, Below Y.heap.size Y W → PgR W (.slice Akb lb.length ckb) (.slice Avb 0 cvb) (.slice Anb db.length cnb) ⟨2, lb, [], db⟩) := fun W hb => HBB.out.up (HWY.out.trans (hb.mono HWY.out.size))
    have HLY : Hid (Below w.heap.size w Y) := HXL.out.trans ((HXZ.out.trans (HZY.out.mono HXZ.out.size)).mono HXL.out.size)
    refine (same_any Y (HPG2.out Y (Below.refl _ _)) (HPW.out Y HZY.out) rfl).mono ?_
    rintro e Y1 ⟨he, hb⟩
    have he' : e = .returned (.bool true) := he.trans (by simp)
    clear he
    subst he'
    have HB1 := Lib.hid hb
    clear hb HPW HZY HWY HA HBB HB4 HXZ HC1 HX HXL HPG
    have HR5 := Lib.hid ((HB1.out.block _ (Array.getElem?_eq_some_iff.1 HY5.out).1).trans HY5.out)
    have HR7 := Lib.hid ((HB1.out.block _ (Array.getElem?_eq_some_iff.1 HY7.out).1).trans HY7.out)
    have HR9 := Lib.hid ((HB1.out.block _ (Array.getElem?_eq_some_iff.1 HY9.out).1).trans HY9.out)
    obtain ⟨f0, f1, f2, f3, f4, f5, f6, f7, f8⟩ := row8_facts (HR5.out)
    obtain ⟨p0, p1, p2, p3, p4, p5, p6, p7, p8⟩ := row8_facts (HR7.out)
    obtain ⟨z0, z1, z2, z3, z4, z5, z6, z7, z8⟩ := row8_facts (HR9.out)
    have hm := HM.out
    have hq := HQ.out
    have hkl := HKL.out
    have lal : la.length = q := by rw [HLA.out]; simp; omega
    have lbl : lb.length = ks.length - m := by rw [HLB.out]; simp
    have dal : da.length = m := by rw [HDA.out]; simp; omega
    have dbl : db.length = kd.length - m := by rw [HDB.out]; simp
    have la20 : la.length ≤ 20 := by omega
    have lb20 : lb.length ≤ 20 := by omega
    have hks20 : ks.length ≤ 20 := by omega
    have ew' : ((da.length : Int) != (m : Int)) = false := by rw [dal]; simp
    have ew2 : ((da.length : Int) != (kd.length : Int) / 2) = false := by rw [bne_eq_false_iff_eq]; omega
    have EW : Hid (wrap64 ((kd.length : Int) / 2) = (m : Int)) := Lib.hid (by unfold wrap64; omega)
    have E1 : Hid (wrap64 ((da.length : Int) - 1) = (la.length : Int)) := Lib.hid (by unfold wrap64; omega)
    have E2 : Hid (wrap64 ((db.length : Int) - 1) = (lb.length : Int)) := Lib.hid (by unfold wrap64; omega)
    have F1 : Hid (IntKind.i64.wrap ((da.length : Int) - 1) = (la.length : Int)) := Lib.hid (by rw [IntKind.wrap_i64]; omega)
    have F2 : Hid (IntKind.i64.wrap ((db.length : Int) - 1) = (lb.length : Int)) := Lib.hid (by rw [IntKind.wrap_i64]; omega)
    have x1 : ((la.length : Int) != (da.length : Int) - 1) = false := by rw [bne_eq_false_iff_eq]; omega
    have x2 : ((lb.length : Int) != (db.length : Int) - 1) = false := by rw [bne_eq_false_iff_eq]; omega
    have LAL := Lib.hid lal
    have LBL := Lib.hid lbl
    have DAL := Lib.hid dal
    have DBL := Lib.hid dbl
    clear lal lbl dal dbl hm hq hkl
    have ew := EW.out
    have e1 := E1.out
    have e2 := E2.out
    have e3 := F1.out
    have e4 := F2.out
    go_wp2_with fail
    clear e1 e2 e3 e4 ew ew' ew2 x1 x2
    clear f0 f1 f2 f3 f4 f5 f6 f7 f8 p0 p1 p2 p3 p4 p5 p6 p7 p8 z0 z1 z2 z3 z4 z5 z6 z7 z8
    go_loopw [125] (fun a wr => ∃ i : Nat, i ≤ la.length ∧ a = .int .i64 i ∧ wr = Y1) (fun a _ => la.length - (intOf a).toNat)
    case atStart => exact ⟨0, Nat.zero_le _, rfl, rfl⟩
    case round =>
      obtain ⟨i, hi, rfl, rfl⟩ := hrel
      by_cases hlt : i < la.length
      · obtain ⟨gx, ox, cz, e, _, _, _, hx⟩ := (HPA.out wr HB1.out).keys.cells (show 0 < la.length by omega)
        injection e with e1 e2 e3
        clear e2 e3
        cases e1
        obtain ⟨x, hxx⟩ : ∃ x, la[i]? = some x := ⟨la[i], List.getElem?_eq_getElem _⟩
        have hc := hx i _ (sc_at hxx)
        have i0 : (0 : Int) ≤ (i : Int) := by omega
        have i1 : (i : Int) < (la.length : Int) := by omega
        have hx1 : lt x mid = true := take_lt HRI.out HMID.out (by rw [← HLA.out]; exact List.mem_of_getElem? hxx)
        have hge := run_geq hx1
        simp only [Bool.not_true] at hge
        clear hx1
        clear hx hxx
        go_wp2_with fail
        go_roundw
        case rel => exact ⟨i + 1, by omega, by go_num, by first | rfl | trivial⟩
        case measure => simp [intOf]; omega
      · obtain rfl : i = la.length := by omega
        clear hlt hi
        obtain ⟨z0, z1, z2, z3, z4, z5, z6, z7, z8⟩ := row8_facts (HR9.out)
        go_wp2_with fail
        clear z0 z1 z2 z3 z4 z5 z6 z7 z8
        go_loopw [136] (fun a wr2 => ∃ i : Nat, i ≤ lb.length ∧ a = .int .i64 i ∧ wr2 = wr) (fun a _ => lb.length - (intOf a).toNat)
        case atStart => exact ⟨0, Nat.zero_le _, rfl, rfl⟩
        case round =>
          obtain ⟨i, hi, rfl, rfl⟩ := hrel
          by_cases hlt : i < lb.length
          · obtain ⟨gx, ox, cz, e, _, _, _, hx⟩ := (HPB.out wr HB1.out).keys.cells (show 0 < lb.length by omega)
            injection e with e1 e2 e3
            clear e2 e3
            cases e1
            obtain ⟨x, hxx⟩ : ∃ x, lb[i]? = some x := ⟨lb[i], List.getElem?_eq_getElem _⟩
            have hc := hx i _ (sc_at hxx)
            have i0 : (0 : Int) ≤ (i : Int) := by omega
            have i1 : (i : Int) < (lb.length : Int) := by omega
            have hx1 : lt mid x = true := by
              rw [HLB.out, List.getElem?_drop] at hxx
              exact rise_at HRI.out HMID.out hxx (by have := HQ.out; omega)
            have d0 : Op.bytesLess x.toList mid.toList = false := by rw [bl_lt]; exact lt_asymm hx1
            have d1 : (x.toList == mid.toList) = false := by rw [str_beq, decide_eq_false (fun e => lt_ne hx1 e.symm)]
            clear hx1
            clear hx hxx
            go_wp2_with fail
            go_roundw
            case rel => exact ⟨i + 1, by omega, by go_num, by first | rfl | trivial⟩
            case measure => simp [intOf]; omega
          · obtain rfl : i = lb.length := by omega
            clear hlt hi
            obtain ⟨p0, p1, p2, p3, p4, p5, p6, p7, p8⟩ := row8_facts (HR7.out)
            obtain ⟨z0, z1, z2, z3, z4, z5, z6, z7, z8⟩ := row8_facts (HR9.out)
            obtain ⟨f0, f1, f2, f3, f4, f5, f6, f7, f8⟩ := row8_facts (HR5.out)
            go_wp2_with fail
            clear f0 f1 f2 f3 f4 f5 f6 f7 f8 p0 p1 p2 p3 p4 p5 p6 p7 p8 z0 z1 z2 z3 z4 z5 z6 z7 z8
            have hj : joinP ⟨2, la, [], da⟩ mid ⟨2, lb, [], db⟩ = ⟨2, ks, [], kd⟩ := by
              unfold joinP
              simp only [if_true, List.append_nil]
              rw [HLA.out, HLB.out, HDA.out, HDB.out, List.take_append_drop]
              have h9 : ks.take q ++ [mid] = ks.take m := by rw [HQ.out, List.take_add_one, HMID.out]; rfl
              rw [h9, List.take_append_drop]
            have hjl : (joinP ⟨2, la, [], da⟩ mid ⟨2, lb, [], db⟩).keys.length ≤ 100 ∧ (joinP ⟨2, la, [], da⟩ mid ⟨2, lb, [], db⟩).vals.length ≤ 100 ∧ (joinP ⟨2, la, [], da⟩ mid ⟨2, lb, [], db⟩).kids.length ≤ 100 := by rw [hj]; exact (HPG2.out _ HB1.out).lens
            refine (join_any wr (HPA.out wr HB1.out) (HPB.out wr HB1.out) mid hjl).mono ?_
            rintro e J ⟨kvo, vvo, nvo, rfl, ho, hb⟩
            rw [hj] at ho
            obtain ⟨Ako, cko, Avo, cvo, Ano, cno, e1, e2, e3⟩ := ho.forms
            dsimp only [List.length_nil] at e1 e2 e3
            subst e1 e2 e3
            have HOJ := Lib.hid ho
            have HBJ := Lib.hid hb
            clear ho hb hj hjl
            unfold pv
            have hbj : Below wr.heap.size wr (J.alloc (.cells #[.int .i64 2, .slice Ako ks.length cko, .slice Avo 0 cvo, .slice Ano kd.length cno, .int .i64 0, .int .i64 0, .int .i64 0, .int .i64 0] 26)) := HBJ.out.alloc HBJ.out.size _
            have hof := HOJ.out.up ((Below.refl _ J).alloc (Nat.le_refl _) (.cells #[.int .i64 2, .slice Ako ks.length cko, .slice Avo 0 cvo, .slice Ano kd.length cno, .int .i64 0, .int .i64 0, .int .i64 0, .int .i64 0] 26))
            have h14 := heap_alloc_new J (.cells #[.int .i64 2, .slice Ako ks.length cko, .slice Avo 0 cvo, .slice Ano kd.length cno, .int .i64 0, .int .i64 0, .int .i64 0, .int .i64 0] 26)
            have h5 := (hbj.block _ (Array.getElem?_eq_some_iff.1 HR5.out).1).trans HR5.out
            have h7 := (hbj.block _ (Array.getElem?_eq_some_iff.1 HR7.out).1).trans HR7.out
            have h9 := (hbj.block _ (Array.getElem?_eq_some_iff.1 HR9.out).1).trans HR9.out
            obtain ⟨N, hN⟩ : ∃ N, N = J.alloc (.cells #[.int .i64 2, .slice Ako ks.length cko, .slice Avo 0 cvo, .slice Ano kd.length cno, .int .i64 0, .int .i64 0, .int .i64 0, .int .i64 0] 26) := ⟨_, rfl⟩
            have HBN : Hid (Below Y.heap.size Y N) := by rw [hN]; exact Lib.hid (HB1.out.trans (hbj.mono HB1.out.size))
            have J5 := Lib.hid h5
            have J7 := Lib.hid h7
            have J9 := Lib.hid h9
            have J14 := Lib.hid h14
            rw [← hN] at hof h14 h5 h7 h9
            have HOF := Lib.hid hof
            have H14 := Lib.hid h14
            have H5 := Lib.hid h5
            have H7 := Lib.hid h7
            have H9 := Lib.hid h9
            by_cases hfull : kd.length = 9
            · have hfl : ((kd.length : Int) == 9) = true := by rw [beq_iff_eq]; omega
              have HFULL := Lib.hid hfull
              clear hbj hof h14 h5 h7 h9 hfull
              have HNN : Hid (Below N.heap.size N N) := Below.refl _ _
              obtain ⟨f0, f1, f2, f3, f4, f5, f6, f7, f8⟩ := row8_facts (J5.out)
              obtain ⟨p0, p1, p2, p3, p4, p5, p6, p7, p8⟩ := row8_facts (J7.out)
              obtain ⟨z0, z1, z2, z3, z4, z5, z6, z7, z8⟩ := row8_facts (J9.out)
              obtain ⟨q0, q1, q2, q3, q4, q5, q6, q7, q8⟩ := row8_facts (J14.out)
              go_wp2_with fail
              clear f0 f1 f2 f3 f4 f5 f6 f7 f8 p0 p1 p2 p3 p4 p5 p6 p7 p8 z0 z1 z2 z3 z4 z5 z6 z7 z8 q0 q1 q2 q3 q4 q5 q6 q7 q8
              rw [← hN]
              clear hN
              refine (same_any N HOF.out (HPG2.out N HBN.out) rfl).mono ?_
              rintro e N1 ⟨he, hb⟩
              have he' : e = .returned (.bool true) := he.trans (by simp)
              clear he
              subst he'
              have HNN1 := Lib.hid hb
              clear hb
              have hlens : da.length = 4 ∧ db.length = 5 := by have h1 := DAL.out; have h2 := DBL.out; have h3 := HM.out; have h4 := HFULL.out; omega
              have HLENS := Lib.hid hlens
              clear hlens
              obtain ⟨f0, f1, f2, f3, f4, f5, f6, f7, f8⟩ := row8_facts ((HNN1.out.block _ (Array.getElem?_eq_some_iff.1 H5.out).1).trans H5.out)
              obtain ⟨p0, p1, p2, p3, p4, p5, p6, p7, p8⟩ := row8_facts ((HNN1.out.block _ (Array.getElem?_eq_some_iff.1 H7.out).1).trans H7.out)
              obtain ⟨z0, z1, z2, z3, z4, z5, z6, z7, z8⟩ := row8_facts ((HNN1.out.block _ (Array.getElem?_eq_some_iff.1 H9.out).1).trans H9.out)
              obtain ⟨q0, q1, q2, q3, q4, q5, q6, q7, q8⟩ := row8_facts ((HNN1.out.block _ (Array.getElem?_eq_some_iff.1 H14.out).1).trans H14.out)
              go_wp2_with fail
              clear f0 f1 f2 f3 f4 f5 f6 f7 f8 p0 p1 p2 p3 p4 p5 p6 p7 p8 z0 z1 z2 z3 z4 z5 z6 z7 z8 q0 q1 q2 q3 q4 q5 q6 q7 q8
              refine (under_any N1 (HPA.out N1 (HBN.out.trans (HNN1.out.mono HBN.out.size)))).mono ?_
              rintro e N2 ⟨he, hb⟩
              have he' : e = .returned (.bool false) := he.trans (by have := HLENS.out; simp [this])
              clear he
              subst he'
              have HNN2 : Hid (Below N.heap.size N N2) := HNN1.out.trans (hb.mono HNN1.out.size)
              clear hb
              obtain ⟨f0, f1, f2, f3, f4, f5, f6, f7, f8⟩ := row8_facts ((HNN2.out.block _ (Array.getElem?_eq_some_iff.1 H5.out).1).trans H5.out)
              obtain ⟨p0, p1, p2, p3, p4, p5, p6, p7, p8⟩ := row8_facts ((HNN2.out.block _ (Array.getElem?_eq_some_iff.1 H7.out).1).trans H7.out)
              obtain ⟨z0, z1, z2, z3, z4, z5, z6, z7, z8⟩ := row8_facts ((HNN2.out.block _ (Array.getElem?_eq_some_iff.1 H9.out).1).trans H9.out)
              obtain ⟨q0, q1, q2, q3, q4, q5, q6, q7, q8⟩ := row8_facts ((HNN2.out.block _ (Array.getElem?_eq_some_iff.1 H14.out).1).trans H14.out)
              go_wp2_with fail
              clear f0 f1 f2 f3 f4 f5 f6 f7 f8 p0 p1 p2 p3 p4 p5 p6 p7 p8 z0 z1 z2 z3 z4 z5 z6 z7 z8 q0 q1 q2 q3 q4 q5 q6 q7 q8
              refine (under_any N2 (HPB.out N2 (HBN.out.trans (HNN2.out.mono HBN.out.size)))).mono ?_
              rintro e N3 ⟨he, hb⟩
              have he' : e = .returned (.bool false) := he.trans (by have := HLENS.out; simp [this])
              clear he
              subst he'
              have HNN3 : Hid (Below N.heap.size N N3) := HNN2.out.trans (hb.mono HNN2.out.size)
              clear hb
              obtain ⟨f0, f1, f2, f3, f4, f5, f6, f7, f8⟩ := row8_facts ((HNN3.out.block _ (Array.getElem?_eq_some_iff.1 H5.out).1).trans H5.out)
              obtain ⟨p0, p1, p2, p3, p4, p5, p6, p7, p8⟩ := row8_facts ((HNN3.out.block _ (Array.getElem?_eq_some_iff.1 H7.out).1).trans H7.out)
              obtain ⟨z0, z1, z2, z3, z4, z5, z6, z7, z8⟩ := row8_facts ((HNN3.out.block _ (Array.getElem?_eq_some_iff.1 H9.out).1).trans H9.out)
              obtain ⟨q0, q1, q2, q3, q4, q5, q6, q7, q8⟩ := row8_facts ((HNN3.out.block _ (Array.getElem?_eq_some_iff.1 H14.out).1).trans H14.out)
              go_wp2_with fail
              clear f0 f1 f2 f3 f4 f5 f6 f7 f8 p0 p1 p2 p3 p4 p5 p6 p7 p8 z0 z1 z2 z3 z4 z5 z6 z7 z8 q0 q1 q2 q3 q4 q5 q6 q7 q8
              refine (over_any N3 (HPA.out N3 (HBN.out.trans (HNN3.out.mono HBN.out.size)))).mono ?_
              rintro e N4 ⟨he, hb⟩
              have he' : e = .returned (.bool false) := he.trans (by have := HLENS.out; simp [this])
              clear he
              subst he'
              have HNN4 : Hid (Below N.heap.size N N4) := HNN3.out.trans (hb.mono HNN3.out.size)
              clear hb
              obtain ⟨f0, f1, f2, f3, f4, f5, f6, f7, f8⟩ := row8_facts ((HNN4.out.block _ (Array.getElem?_eq_some_iff.1 H5.out).1).trans H5.out)
              obtain ⟨p0, p1, p2, p3, p4, p5, p6, p7, p8⟩ := row8_facts ((HNN4.out.block _ (Array.getElem?_eq_some_iff.1 H7.out).1).trans H7.out)
              obtain ⟨z0, z1, z2, z3, z4, z5, z6, z7, z8⟩ := row8_facts ((HNN4.out.block _ (Array.getElem?_eq_some_iff.1 H9.out).1).trans H9.out)
              obtain ⟨q0, q1, q2, q3, q4, q5, q6, q7, q8⟩ := row8_facts ((HNN4.out.block _ (Array.getElem?_eq_some_iff.1 H14.out).1).trans H14.out)
              go_wp2_with fail
              clear f0 f1 f2 f3 f4 f5 f6 f7 f8 p0 p1 p2 p3 p4 p5 p6 p7 p8 z0 z1 z2 z3 z4 z5 z6 z7 z8 q0 q1 q2 q3 q4 q5 q6 q7 q8
              refine (over_any N4 (HPB.out N4 (HBN.out.trans (HNN4.out.mono HBN.out.size)))).mono ?_
              rintro e N5 ⟨he, hb⟩
              have he' : e = .returned (.bool false) := he.trans (by have := HLENS.out; simp [this])
              clear he
              subst he'
              have HNN5 : Hid (Below N.heap.size N N5) := HNN4.out.trans (hb.mono HNN4.out.size)
              clear hb
              go_wp2_with fail
              go_ret
              exact ⟨rfl, HLY.out.trans ((HBN.out.trans (HNN5.out.mono HBN.out.size)).mono HLY.out.size)⟩
            · have hfl : ((kd.length : Int) == 9) = false := by rw [beq_eq_false_iff_ne, ne_eq]; omega
              have HFULL := Lib.hid hfull
              clear hbj hof h14 h5 h7 h9 hfull
              have HNN : Hid (Below N.heap.size N N) := Below.refl _ _
              obtain ⟨f0, f1, f2, f3, f4, f5, f6, f7, f8⟩ := row8_facts (J5.out)
              obtain ⟨p0, p1, p2, p3, p4, p5, p6, p7, p8⟩ := row8_facts (J7.out)
              obtain ⟨z0, z1, z2, z3, z4, z5, z6, z7, z8⟩ := row8_facts (J9.out)
              obtain ⟨q0, q1, q2, q3, q4, q5, q6, q7, q8⟩ := row8_facts (J14.out)
              go_wp2_with fail
              clear f0 f1 f2 f3 f4 f5 f6 f7 f8 p0 p1 p2 p3 p4 p5 p6 p7 p8 z0 z1 z2 z3 z4 z5 z6 z7 z8 q0 q1 q2 q3 q4 q5 q6 q7 q8
              rw [← hN]
              clear hN
              refine (same_any N HOF.out (HPG2.out N HBN.out) rfl).mono ?_
              rintro e N1 ⟨he, hb⟩
              have he' : e = .returned (.bool true) := he.trans (by simp)
              clear he
              subst he'
              have HNN1 := Lib.hid hb
              clear hb
              go_wp2_with fail
              go_ret
              exact ⟨rfl, HLY.out.trans ((HBN.out.trans (HNN1.out.mono HBN.out.size)).mono HLY.out.size)⟩
set_option maxRecDepth 100000 in
theorem splits_row {H : Type} {enc : TypeId × Value → H} {w : World} {base : Nat} {spare : Nat → Bool} {held : Bool}
    (v0 : Value) (ok0 : Value.okWide Try.prog w .any base 22 v0) (h0 : Reads1 enc Try.prog w 0 spare held 22 v0.cells.toList) (b : Bool) :
    Calls Try.prog 3 #[v0, .bool b] w fun e w' => e = .returned (.bool true) ∧ Below w.heap.size w w' := by
  obtain ⟨a, l, c, e⟩ := okWide_slice Try.underlying22 ok0
  obtain ⟨keys, hk, hsz⟩ := strings_of h0 (by rw [e]; rfl)
  by_cases hn : keys.length ≤ 20
  · cases b with
    | false => exact splits_leaf w hk hn hsz
    | true => exact splits_inner w hk hn hsz
  · obtain ⟨_, A, c, rfl, _, _, _⟩ := hk
    have hn2 : ¬ ((keys.length : Int) ≤ 20) := by omega
    have hn3 : (20 : Int) < (keys.length : Int) := by omega
    go_enter Try.func3, Try.ntmps3
    go_wp2_with fail
    refine (head_any w).mono ?_
    rintro e w0 ⟨rfl, hb0⟩
    have HB0 := Lib.hid hb0
    clear hb0
    go_wp2_with fail
    go_ret
    exact ⟨rfl, HB0.out⟩
#print axioms splits_row
end Go.Proofs.Ytfhpgmgmofganaa.NodeA
