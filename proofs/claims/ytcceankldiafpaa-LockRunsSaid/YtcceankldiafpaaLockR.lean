/- The law's 'same' at one list twice; LockAgain. -/
import Derived.Test.YtcceankldiafpaaLockQ
set_option linter.unusedVariables false
set_option linter.unusedSimpArgs false
set_option linter.unusedSectionVars false
set_option maxRecDepth 100000
namespace Go.Proofs.Ytcceankldiafpaa.Lock
open Go.RowKit Go.WideShapes Go.Deep Go.Proofs.Ytcceankldiafpaa.Mem Go.Proofs.Ytcceankldiafpaa.Open Go.Proofs.Ytcceankldiafpaa.Maps
set_option maxHeartbeats 2000000 in
theorem same_any {w : World} {A1 A2 : Option Addr} {n c1 c2 : Nat} {ws : List Wt} (hn : n = ws.length) (h1 : Rd w w.heap.size 3 (.slice A1 n c1) n (wc ws)) (h2 : Rd w w.heap.size 3 (.slice A2 n c2) n (wc ws)) :
    Calls Try.prog 18 #[.slice A1 n c1, .slice A2 n c2] w fun e w' => e = .returned (.bool true) ∧ Below w.heap.size w w' := by
  have H1 := Lib.hid h1
  have H2 := Lib.hid h2
  have HN := Lib.hid hn
  have hle := h1.len_le
  unfold maxLen at hle
  clear h1 h2 hn
  go_enter Try.func18, Try.ntmps18
  have hnn : ((n : Int) != (n : Int)) = false := by simp
  go_upto_region 4 with fail
  go_loopw [13] (fun v wr => ∃ j : Nat, j ≤ n ∧ v = .int .i64 j ∧ Below w.heap.size w wr) (fun v _ => n - (intOf v).toNat)
  case atStart => exact ⟨0, Nat.zero_le _, rfl, Below.refl _ _⟩
  case round =>
    obtain ⟨j, hj, rfl, hbl⟩ := hrel
    have HBL := Lib.hid hbl
    by_cases hlt : j < n
    · obtain ⟨t, ht⟩ : ∃ t, ws[j]? = some t := ⟨ws[j]'(by rw [← HN.out]; omega), List.getElem?_eq_getElem _⟩
      obtain ⟨g1, o1, rfl, _, a0, a1, a2⟩ := want_cells (H1.out.up hbl) ht (by omega)
      obtain ⟨g2, o2, rfl, _, b0, b1, b2⟩ := want_cells (H2.out.up hbl) ht (by omega)
      have i0 : (0 : Int) ≤ (j : Int) := by omega
      have i1 : (j : Int) < (n : Int) := by omega
      clear ht hbl
      go_upto_region 6 with fail
      go_quiet (fail)
      go_wp2_with fail
      go_roundw
      case rel => exact ⟨j + 1, by omega, by go_num, below_drewN HBL.out _⟩
      case measure => simp [intOf]; omega
    · have i1 : ¬ ((j : Int) < (n : Int)) := by omega
      go_wp2_with fail
      go_ret
      exact ⟨rfl, HBL.out⟩
#print axioms same_any
set_option maxHeartbeats 20000000 in
theorem again_any (w : World) (v0 : Value) (os : List OpT) (h : OpsIn w v0 os) (o : OpT) (hko : o.key.size ≤ 140737488351232) :
    Calls Try.prog 6 #[v0, .agg #[.int .i64 o.k, .int .u64 o.tid.1, .int .i64 o.tid.2, .string o.key, .int .i64 o.md]] w fun e w' => e = .returned (.bool true) ∧ Below w.heap.size w w' := by
  obtain ⟨n, hn⟩ : ∃ n, n = os.length := ⟨_, rfl⟩
  have hl0 := h.rd.len_le
  unfold maxLen at hl0
  obtain ⟨A0, c0, rfl⟩ : ∃ A c, v0 = .slice A n c := by
    obtain ⟨_, A, c, e, _⟩ := h.rd
    exact ⟨A, c, by rw [hn]; exact e⟩
  rw [← hn] at hl0
  have H := Lib.hid h
  have HN := Lib.hid hn
  have HKO : Hid (OkS o.key) := Lib.hid (by unfold OkS maxLen; omega)
  clear h hn
  go_enter Try.func6, Try.ntmps6
  go_upto_region 1 with fail
  obtain ⟨go, hgo⟩ : ∃ g, g = w.heap.size := ⟨_, rfl⟩
  obtain ⟨X0, hX⟩ : ∃ X, X = w.alloc (.cells #[.int .i64 o.k, .int .u64 o.tid.1, .int .i64 o.tid.2, .string o.key, .int .i64 o.md] 42) := ⟨_, rfl⟩
  rw [← hX, ← hgo]
  have HXB0 : Hid (Below w.heap.size w X0) := Lib.hid (by rw [hX]; exact (Below.refl _ _).alloc (Nat.le_refl _) _)
  have HXO0 : Hid (X0.heap[go]? = some (.cells #[.int .i64 o.k, .int .u64 o.tid.1, .int .i64 o.tid.2, .string o.key, .int .i64 o.md] 42 (0, 0))) := Lib.hid (by rw [hX, hgo]; exact heap_alloc_new w _)
  clear hX hgo
  go_upto_region 3 with (go_at_call 10; refine (head_any X0).mono ?_; rintro e X ⟨rfl, hb1⟩; have HXB1 := Lib.hid hb1; clear hb1)
  have HXB : Hid (Below w.heap.size w X) := Lib.hid (HXB0.out.trans (HXB1.out.mono HXB0.out.size))
  have HXO := Lib.hid (blk_below HXO0.out HXB1.out)
  have HL := Lib.hid (H.out.up HXB.out)
  have HC : Hid (∀ V, Below X.heap.size X V → V.cell? ⟨go, 0, none⟩ = some (.int .i64 o.k) ∧ V.cell? ⟨go, 1, none⟩ = some (.int .u64 o.tid.1) ∧ V.cell? ⟨go, 2, none⟩ = some (.int .i64 o.tid.2) ∧ V.cell? ⟨go, 3, none⟩ = some (.string o.key) ∧ V.cell? ⟨go, 4, none⟩ = some (.int .i64 o.md)) := Lib.hid (fun V hb => by
    have h := blk_below HXO.out hb
    refine ⟨?_, ?_, ?_, ?_, ?_⟩ <;> (rw [cell_of_row _ _ _ _ _ _ h]; rfl))
  clear HXB0 HXO0 HXB1 H
  obtain ⟨a0, a1, a2, a3, a4⟩ := HC.out X (Below.refl _ _)
  by_cases hlong : 40 < o.key.size
  · go_wp2_with fail
    go_ret
    exact ⟨rfl, HXB.out⟩
  go_upto_region 6 with (go_at_call 12; refine (new_any X).mono ?_; rintro e W2 ⟨rfl, ht2, hb2⟩; have HT2 := Lib.hid ht2; have HB2 := Lib.hid hb2; clear ht2 hb2)
  clear a0 a1 a2 a3 a4
  obtain ⟨B, hB⟩ : ∃ B, B = X.heap.size := ⟨_, rfl⟩
  obtain ⟨lt, hlt⟩ : ∃ B, B = X.heap.size + 1 := ⟨_, rfl⟩
  obtain ⟨mb, hmb⟩ : ∃ B, B = X.heap.size := ⟨_, rfl⟩
  have HT2' : Hid (Tb W2 B lt mb []) := Lib.hid (by rw [hB, hlt, hmb]; exact HT2.out)
  rw [← hlt]
  have hX1 : X.heap.size ≤ B := Nat.le_of_eq hB.symm
  clear HT2 hB hlt hmb
  go_upto_region 7 with fail
  go_loopw [6] (fun v6 wr => ∃ (i : Nat) (qs : List (S × Qv)), i ≤ n ∧ i ≤ 30 ∧ v6 = .int .i64 i ∧ AnyT wr B lt mb i qs ∧ Below X.heap.size X wr) (fun v6 _ => n - (intOf v6).toNat)
  case atStart => exact ⟨0, [], Nat.zero_le _, by omega, rfl, ⟨HT2'.out, Bnd.nil, Nat.le_refl _⟩, HB2.out⟩
  case round =>
    obtain ⟨i, qs, hin, hi30, rfl, hany, hbl⟩ := hrel
    have HT := Lib.hid hany
    have HBL := Lib.hid hbl
    clear hany hbl
    by_cases hlt : i < n ∧ i < 30
    · obtain ⟨hlt1, hlt2⟩ := hlt
      have hlt3 : (i : Int) < (n : Int) := by omega
      have hlt4 : (i : Int) < 30 := by omega
      have i0 : (0 : Int) ≤ (i : Int) := by omega
      obtain ⟨oo, hoo⟩ : ∃ oo, os[i]? = some oo := ⟨os[i]'(by rw [← HN.out]; omega), List.getElem?_eq_getElem _⟩
      obtain ⟨g, off, ce, hv0, hg, _, _, hx⟩ := HL.out.rd.cells (by rw [← HN.out]; omega)
      injection hv0 with hv01 hv00 hv02
      clear hv00
      subst hv01 hv02
      have HKK : Hid (OkS oo.key) := Lib.hid (by have := HL.out.each _ (List.mem_of_getElem? hoo); unfold OkS maxLen; omega)
      have HCI : Hid (∀ V, Below X.heap.size X V → (V.cell? ⟨g, off + i * 5, none⟩ = some (.int .i64 oo.k) ∧ V.cell? ⟨g, off + i * 5 + 1, none⟩ = some (.int .u64 oo.tid.1)) ∧ V.cell? ⟨g, off + i * 5 + 2, none⟩ = some (.int .i64 oo.tid.2) ∧ V.cell? ⟨g, off + i * 5 + 3, none⟩ = some (.string oo.key) ∧ V.cell? ⟨g, off + i * 5 + 4, none⟩ = some (.int .i64 oo.md)) := Lib.hid (fun V hb => by
        have hw : ∀ {j : Nat} {u : Value}, X.cell? ⟨g, j, none⟩ = some u → V.cell? ⟨g, j, none⟩ = some u := fun {j u} hu => (hb.cell (p := ⟨g, j, none⟩) hg).trans hu
        exact ⟨⟨hw (hx _ _ (oc_at hoo 0 _ rfl)), hw (by rw [Nat.add_assoc]; exact hx _ _ (oc_at hoo 1 _ rfl))⟩, hw (by rw [Nat.add_assoc]; exact hx _ _ (oc_at hoo 2 _ rfl)), hw (by rw [Nat.add_assoc]; exact hx _ _ (oc_at hoo 3 _ rfl)), hw (by rw [Nat.add_assoc]; exact hx _ _ (oc_at hoo 4 _ rfl))⟩)
      clear hoo hx hg
      obtain ⟨⟨k0, k1⟩, k2, k3, k4⟩ := HCI.out wr HBL.out
      by_cases h40 : 40 < oo.key.size
      · go_wp2_with fail
        go_roundw
        case rel => exact ⟨i + 1, qs, by omega, by omega, by go_num, HT.out.more (by omega), HBL.out⟩
        case measure => simp [intOf]; omega
      go_upto_region 10 with fail
      by_cases hk1 : oo.k = 1
      · have z1 : (oo.k == 1) = true := by simp [hk1]
        have HFR := Lib.hid (HT.out.free oo.tid (by omega))
        clear hk1
        go_wp2_with (go_at_call 14; refine HFR.out.mono ?_; rintro e w1 ⟨A1, n1, c1, qs1, rfl, ht1, hb1⟩; have HT1 := Lib.hid ht1; have HB1 := Lib.hid hb1; clear ht1 hb1)
        go_roundw
        case rel => exact ⟨i + 1, qs1, by omega, by omega, by go_num, HT1.out.more (by omega), HBL.out.trans (HB1.out.mono hX1)⟩
        case measure => simp [intOf]; omega
      · have z1 : (oo.k == 1) = false := by simp [hk1]
        clear hk1
        go_upto_region 12 with fail
        clear k0 k1 k2 k3 k4
        have HAQ : Hid (∀ V, Below wr.heap.size wr V → Calls Try.prog 13 #[.pointer (some ⟨lt, 0, none⟩), .agg #[.int .u64 oo.tid.1, .int .i64 oo.tid.2], .string oo.key, .int .i64 oo.md] V fun e w' => ∃ (a : Int) (qs' : List (S × Qv)), e = .returned (.int .i64 a) ∧ AnyT w' B lt mb (i + 1) qs' ∧ Below X.heap.size X w') := Lib.hid (fun V hb => by
          refine ((HT.out.below hb).ask HKK.out oo.tid oo.md (by omega)).mono ?_
          rintro e w' ⟨he, qs', h1, _, h3⟩
          exact ⟨_, qs', he, h1, (HBL.out.trans (hb.mono HBL.out.size)).trans ((h3.below (HT.out.below hb).tb).mono hX1)⟩)
        go_region_held3 (fun V => (V.cell? ⟨g, off + i * 5, none⟩ = some (.int .i64 oo.k) ∧ V.cell? ⟨g, off + i * 5 + 1, none⟩ = some (.int .u64 oo.tid.1)) ∧ V.cell? ⟨g, off + i * 5 + 2, none⟩ = some (.int .i64 oo.tid.2) ∧ V.cell? ⟨g, off + i * 5 + 3, none⟩ = some (.string oo.key) ∧ V.cell? ⟨g, off + i * 5 + 4, none⟩ = some (.int .i64 oo.md))
          ((first | (refine HCI.out _ ?_; repeat (first | exact HBL.out | exact HB1.out | with_reducible refine Below.drew ?_))))
          ((first | (go_at_call 13; refine (HAQ.out _ ?_).mono ?_; (repeat (first | with_reducible exact Below.refl _ _ | with_reducible refine Below.drew ?_)); rintro e w1 ⟨a1, qs1, rfl, ht1, hb1⟩; have HT1 := Lib.hid ht1; have HB1 := Lib.hid hb1; clear ht1 hb1)))
        all_goals
          rename_i hheld
          clear hheld
          go_wp2_with fail
          go_roundw
          case rel => exact ⟨i + 1, qs1, by omega, by omega, by go_num, HT1.out, HB1.out⟩
          case measure => simp [intOf]; omega
    · by_cases hin2 : i < n
      · have hi60' : ¬ ((i : Int) < 30) := by omega
        have hin3 : (i : Int) < (n : Int) := by omega
        have HAK := Lib.hid (HT.out.ask HKO.out o.tid o.md (by omega))
        obtain ⟨r, hr⟩ : ∃ r, r = askL (lineOf qs o.key) o.tid o.md := ⟨_, rfl⟩
        rw [← hr] at HAK
        have HAG : Hid (askL r.1 o.tid o.md = r) := Lib.hid (by rw [hr]; exact ask_again _ _ _)
        clear hr
        obtain ⟨r1, ra⟩ := r
        dsimp only at HAK HAG
        obtain ⟨b0, b1, b2, b3, b4⟩ := HC.out wr HBL.out
        go_upto_region 14 with (go_at_call 13; refine HAK.out.mono ?_; rintro e w1 ⟨rfl, qs1, ht1, hl1, hg1⟩; have HT1 := Lib.hid ht1; have HL1 := Lib.hid hl1; have HB1 : Hid (Below X.heap.size X w1) := Lib.hid (HBL.out.trans ((hg1.below HT.out.tb).mono hX1)); clear ht1 hl1 hg1)
        clear b0 b1 b2 b3 b4
        obtain ⟨b0, b1, b2, b3, b4⟩ := HC.out w1 HB1.out
        have HHA := Lib.hid (has_any HT1.out.tb HKO.out (by omega) HT1.out.bnd)
        go_upto_region 15 with (go_at_call 15; refine HHA.out.mono ?_; rintro e w2 ⟨A2, c2, rfl, ho2, hb2⟩; have HO2 := Lib.hid ho2; have HD2 := Lib.hid hb2; have HB2 : Hid (Below X.heap.size X w2) := Lib.hid (HB1.out.trans (hb2.mono HB1.out.size)); clear ho2 hb2)
        clear b0 b1 b2 b3 b4
        obtain ⟨b0, b1, b2, b3, b4⟩ := HC.out w2 HB2.out
        have HT2 := Lib.hid (HT1.out.below HD2.out)
        have HWA := Lib.hid (waiting_any HT2.out.tb HKO.out (by omega) HT2.out.bnd)
        go_upto_region 16 with (go_at_call 17; refine HWA.out.mono ?_; rintro e w3 ⟨A3, c3, rfl, ho3, hb3⟩; have HO3 := Lib.hid ho3; have HD3 := Lib.hid hb3; have HB3 : Hid (Below X.heap.size X w3) := Lib.hid (HB2.out.trans (hb3.mono HB2.out.size)); clear ho3 hb3)
        clear b0 b1 b2 b3 b4
        obtain ⟨b0, b1, b2, b3, b4⟩ := HC.out w3 HB3.out
        have HT3 := Lib.hid (HT2.out.below HD3.out)
        have HAK2 := Lib.hid (HT3.out.ask HKO.out o.tid o.md (by omega))
        rw [HL1.out, HAG.out] at HAK2
        have HFT : Hid (∀ g, TFeet mb qs1 g → g < w1.heap.size) := Lib.hid (fun g hg => (HT1.out.tb.feet hg).2)
        go_upto_region 17 with (go_at_call 13; refine HAK2.out.mono ?_; rintro e w4 ⟨rfl, qs4, ht4, hl4, hg4⟩; have HT4 := Lib.hid ht4; have HL4 := Lib.hid hl4; have HG4 := Lib.hid hg4; have HB4 : Hid (Below X.heap.size X w4) := Lib.hid (HB3.out.trans ((hg4.below HT3.out.tb).mono hX1)); clear ht4 hl4 hg4)
        clear b0 b1 b2 b3 b4
        obtain ⟨b0, b1, b2, b3, b4⟩ := HC.out w4 HB4.out
        have hs2 := HD2.out.size
        have HO2' := Lib.hid ((HO2.out.below HD3.out).fr HG4.out.fr (fun g hg hx => by have := HFT.out g hx; have := (HO2.out.lt g hg).1; omega))
        have HO3' := Lib.hid (HO3.out.fr HG4.out.fr (fun g hg hx => by have := HFT.out g hx; have := (HO3.out.lt g hg).1; omega))
        have HHA2 := Lib.hid (has_any HT4.out.tb HKO.out (by omega) HT4.out.bnd)
        rw [HL1.out] at HO2' HO3'
        rw [HL4.out] at HHA2
        have HLL := HL1.out
        rw [HL1.out]
        obtain ⟨rh, rw'⟩ := r1
        dsimp only at HHA2 HO2' HO3' ⊢
        obtain ⟨nh, hnh⟩ : ∃ n, n = rh.length := ⟨_, rfl⟩
        obtain ⟨nw, hnw⟩ : ∃ n, n = rw'.length := ⟨_, rfl⟩
        rw [← hnh] at HO2' ⊢
        rw [← hnw] at HO3' ⊢
        have HNH := Lib.hid hnh
        have HNW := Lib.hid hnw
        have hba : (ra == ra) = true := by simp
        clear hnh hnw HLL
        go_wp2_with (first
          | (go_at_call 15; refine HHA2.out.mono ?_; rintro e w5 ⟨A5, c5, e5, ho5, hb5⟩; rw [← HNH.out] at e5 ho5; subst e5; have HD5 := Lib.hid hb5; have HB5 : Hid (Below X.heap.size X w5) := Lib.hid (HB4.out.trans (hb5.mono HB4.out.size)); have HSM := Lib.hid (same_any HNH.out (HO2'.out.below hb5).rd ho5.rd); obtain ⟨d0, d1, d2, d3, d4⟩ := HC.out w5 HB5.out; clear ho5 hb5)
          | (go_at_call 18; refine HSM.out.mono ?_; rintro e w6 ⟨rfl, hb6⟩; have HD6 := Lib.hid (HD5.out.trans (hb6.mono HD5.out.size)); have HB6 : Hid (Below X.heap.size X w6) := Lib.hid (HB5.out.trans (hb6.mono HB5.out.size)); have HT6 := Lib.hid (HT4.out.below HD6.out); have HWA2 := Lib.hid (waiting_any HT6.out.tb HKO.out (by omega) HT6.out.bnd); rw [HL4.out] at HWA2; obtain ⟨f0, f1, f2, f3, f4⟩ := HC.out w6 HB6.out; clear hb6 HSM)
          | (go_at_call 17; refine HWA2.out.mono ?_; rintro e w7 ⟨A7, c7, e7, ho7, hb7⟩; (try dsimp only at e7 ho7); rw [← HNW.out] at e7 ho7; subst e7; have HD7 := Lib.hid (HD6.out.trans (hb7.mono HD6.out.size)); have HB7 : Hid (Below X.heap.size X w7) := Lib.hid (HB6.out.trans (hb7.mono HB6.out.size)); have HSM2 := Lib.hid (same_any HNW.out (HO3'.out.below HD7.out).rd ho7.rd); clear ho7 hb7)
          | (go_at_call 18; refine HSM2.out.mono ?_; rintro e w8 ⟨rfl, hb8⟩; have HB8 : Hid (Below X.heap.size X w8) := Lib.hid (HB7.out.trans (hb8.mono HB7.out.size)); clear hb8))
        go_ret
        exact ⟨rfl, HXB.out.trans (HB8.out.mono HXB.out.size)⟩
      · have hin3 : ¬ ((i : Int) < (n : Int)) := by omega
        have HAK := Lib.hid (HT.out.ask HKO.out o.tid o.md (by omega))
        obtain ⟨r, hr⟩ : ∃ r, r = askL (lineOf qs o.key) o.tid o.md := ⟨_, rfl⟩
        rw [← hr] at HAK
        have HAG : Hid (askL r.1 o.tid o.md = r) := Lib.hid (by rw [hr]; exact ask_again _ _ _)
        clear hr
        obtain ⟨r1, ra⟩ := r
        dsimp only at HAK HAG
        obtain ⟨b0, b1, b2, b3, b4⟩ := HC.out wr HBL.out
        go_upto_region 14 with (go_at_call 13; refine HAK.out.mono ?_; rintro e w1 ⟨rfl, qs1, ht1, hl1, hg1⟩; have HT1 := Lib.hid ht1; have HL1 := Lib.hid hl1; have HB1 : Hid (Below X.heap.size X w1) := Lib.hid (HBL.out.trans ((hg1.below HT.out.tb).mono hX1)); clear ht1 hl1 hg1)
        clear b0 b1 b2 b3 b4
        obtain ⟨b0, b1, b2, b3, b4⟩ := HC.out w1 HB1.out
        have HHA := Lib.hid (has_any HT1.out.tb HKO.out (by omega) HT1.out.bnd)
        go_upto_region 15 with (go_at_call 15; refine HHA.out.mono ?_; rintro e w2 ⟨A2, c2, rfl, ho2, hb2⟩; have HO2 := Lib.hid ho2; have HD2 := Lib.hid hb2; have HB2 : Hid (Below X.heap.size X w2) := Lib.hid (HB1.out.trans (hb2.mono HB1.out.size)); clear ho2 hb2)
        clear b0 b1 b2 b3 b4
        obtain ⟨b0, b1, b2, b3, b4⟩ := HC.out w2 HB2.out
        have HT2 := Lib.hid (HT1.out.below HD2.out)
        have HWA := Lib.hid (waiting_any HT2.out.tb HKO.out (by omega) HT2.out.bnd)
        go_upto_region 16 with (go_at_call 17; refine HWA.out.mono ?_; rintro e w3 ⟨A3, c3, rfl, ho3, hb3⟩; have HO3 := Lib.hid ho3; have HD3 := Lib.hid hb3; have HB3 : Hid (Below X.heap.size X w3) := Lib.hid (HB2.out.trans (hb3.mono HB2.out.size)); clear ho3 hb3)
        clear b0 b1 b2 b3 b4
        obtain ⟨b0, b1, b2, b3, b4⟩ := HC.out w3 HB3.out
        have HT3 := Lib.hid (HT2.out.below HD3.out)
        have HAK2 := Lib.hid (HT3.out.ask HKO.out o.tid o.md (by omega))
        rw [HL1.out, HAG.out] at HAK2
        have HFT : Hid (∀ g, TFeet mb qs1 g → g < w1.heap.size) := Lib.hid (fun g hg => (HT1.out.tb.feet hg).2)
        go_upto_region 17 with (go_at_call 13; refine HAK2.out.mono ?_; rintro e w4 ⟨rfl, qs4, ht4, hl4, hg4⟩; have HT4 := Lib.hid ht4; have HL4 := Lib.hid hl4; have HG4 := Lib.hid hg4; have HB4 : Hid (Below X.heap.size X w4) := Lib.hid (HB3.out.trans ((hg4.below HT3.out.tb).mono hX1)); clear ht4 hl4 hg4)
        clear b0 b1 b2 b3 b4
        obtain ⟨b0, b1, b2, b3, b4⟩ := HC.out w4 HB4.out
        have hs2 := HD2.out.size
        have HO2' := Lib.hid ((HO2.out.below HD3.out).fr HG4.out.fr (fun g hg hx => by have := HFT.out g hx; have := (HO2.out.lt g hg).1; omega))
        have HO3' := Lib.hid (HO3.out.fr HG4.out.fr (fun g hg hx => by have := HFT.out g hx; have := (HO3.out.lt g hg).1; omega))
        have HHA2 := Lib.hid (has_any HT4.out.tb HKO.out (by omega) HT4.out.bnd)
        rw [HL1.out] at HO2' HO3'
        rw [HL4.out] at HHA2
        have HLL := HL1.out
        rw [HL1.out]
        obtain ⟨rh, rw'⟩ := r1
        dsimp only at HHA2 HO2' HO3' ⊢
        obtain ⟨nh, hnh⟩ : ∃ n, n = rh.length := ⟨_, rfl⟩
        obtain ⟨nw, hnw⟩ : ∃ n, n = rw'.length := ⟨_, rfl⟩
        rw [← hnh] at HO2' ⊢
        rw [← hnw] at HO3' ⊢
        have HNH := Lib.hid hnh
        have HNW := Lib.hid hnw
        have hba : (ra == ra) = true := by simp
        clear hnh hnw HLL
        go_wp2_with (first
          | (go_at_call 15; refine HHA2.out.mono ?_; rintro e w5 ⟨A5, c5, e5, ho5, hb5⟩; rw [← HNH.out] at e5 ho5; subst e5; have HD5 := Lib.hid hb5; have HB5 : Hid (Below X.heap.size X w5) := Lib.hid (HB4.out.trans (hb5.mono HB4.out.size)); have HSM := Lib.hid (same_any HNH.out (HO2'.out.below hb5).rd ho5.rd); obtain ⟨d0, d1, d2, d3, d4⟩ := HC.out w5 HB5.out; clear ho5 hb5)
          | (go_at_call 18; refine HSM.out.mono ?_; rintro e w6 ⟨rfl, hb6⟩; have HD6 := Lib.hid (HD5.out.trans (hb6.mono HD5.out.size)); have HB6 : Hid (Below X.heap.size X w6) := Lib.hid (HB5.out.trans (hb6.mono HB5.out.size)); have HT6 := Lib.hid (HT4.out.below HD6.out); have HWA2 := Lib.hid (waiting_any HT6.out.tb HKO.out (by omega) HT6.out.bnd); rw [HL4.out] at HWA2; obtain ⟨f0, f1, f2, f3, f4⟩ := HC.out w6 HB6.out; clear hb6 HSM)
          | (go_at_call 17; refine HWA2.out.mono ?_; rintro e w7 ⟨A7, c7, e7, ho7, hb7⟩; (try dsimp only at e7 ho7); rw [← HNW.out] at e7 ho7; subst e7; have HD7 := Lib.hid (HD6.out.trans (hb7.mono HD6.out.size)); have HB7 : Hid (Below X.heap.size X w7) := Lib.hid (HB6.out.trans (hb7.mono HB6.out.size)); have HSM2 := Lib.hid (same_any HNW.out (HO3'.out.below HD7.out).rd ho7.rd); clear ho7 hb7)
          | (go_at_call 18; refine HSM2.out.mono ?_; rintro e w8 ⟨rfl, hb8⟩; have HB8 : Hid (Below X.heap.size X w8) := Lib.hid (HB7.out.trans (hb8.mono HB7.out.size)); clear hb8))
        go_ret
        exact ⟨rfl, HXB.out.trans (HB8.out.mono HXB.out.size)⟩
#print axioms again_any
theorem again_row {H : Type} {enc : TypeId × Value → H} {w : World} {base : Nat} {spare : Nat → Bool} {held : Bool}
    (v0 : Value) (ok0 : Value.okWide Try.prog w .any base 39 v0) (h0 : Reads1 enc Try.prog w 0 spare held 39 v0.cells.toList)
    (v1 : Value) (ok1 : Value.okWide Try.prog w .any base 42 v1) (h1 : Reads1 enc Try.prog w 0 spare held 42 v1.cells.toList) :
    Calls Try.prog 6 #[v0, v1] w fun e w' => e = .returned (.bool true) ∧ Below w.heap.size w w' := by
  obtain ⟨os, hos⟩ := ops_val ok0 h0
  obtain ⟨o, rfl, ho⟩ := op_val ok1 h1
  exact again_any w v0 os hos o ho
#print axioms again_row
end Go.Proofs.Ytcceankldiafpaa.Lock
