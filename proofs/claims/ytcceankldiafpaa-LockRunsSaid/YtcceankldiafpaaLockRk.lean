/- LockRuns: the walk. -/
import Derived.Test.YtcceankldiafpaaLockRo
import Derived.Test.YtcceankldiafpaaLockRm
import Derived.Deep.CutBlock
set_option linter.unusedVariables false
set_option linter.unusedSimpArgs false
set_option linter.unusedSectionVars false
set_option maxRecDepth 100000
namespace Go.Proofs.Ytcceankldiafpaa.Lock
open Go.RowKit Go.WideShapes Go.Deep Go.Proofs.Ytcceankldiafpaa.Mem Go.Proofs.Ytcceankldiafpaa.Open Go.Proofs.Ytcceankldiafpaa.Maps
attribute [local go_sem] getD_put
set_option maxHeartbeats 20000000 in
theorem runs_any (w : World) (v0 : Value) (os0 : List OpT) (h : OpsIn w v0 os0) :
    Calls Try.prog 7 #[v0] w fun e w' => e = .returned (.bool true) ∧ Below w.heap.size w w' := by
  obtain ⟨n, hn⟩ : ∃ n, n = os0.length := ⟨_, rfl⟩
  have hl0 := h.rd.len_le
  unfold maxLen at hl0
  obtain ⟨A0, c0, rfl⟩ : ∃ A c, v0 = .slice A n c := by
    obtain ⟨_, A, c, e, _⟩ := h.rd
    exact ⟨A, c, by rw [hn]; exact e⟩
  rw [← hn] at hl0
  have H := Lib.hid h
  have HN := Lib.hid hn
  clear h hn
  go_enter Try.func7, Try.ntmps7
  go_upto_region 3 with (go_at_call 10; refine (head_any w).mono ?_; rintro e X ⟨rfl, hb1⟩; have HXB := Lib.hid hb1; clear hb1)
  have HL := Lib.hid (H.out.up HXB.out)
  clear H
  go_upto_region 4 with (go_at_call 12; refine (new_any X).mono ?_; rintro e W2 ⟨rfl, ht2, hb2⟩; have HT2 := Lib.hid ht2; have HB2 := Lib.hid hb2; clear ht2 hb2)
  obtain ⟨B, hB⟩ : ∃ B, B = X.heap.size := ⟨_, rfl⟩
  obtain ⟨lt, hlt⟩ : ∃ B, B = X.heap.size + 1 := ⟨_, rfl⟩
  obtain ⟨mb, hmb⟩ : ∃ B, B = X.heap.size := ⟨_, rfl⟩
  have HT2' : Hid (Tb W2 B lt mb []) := Lib.hid (by rw [hB, hlt, hmb]; exact HT2.out)
  rw [← hlt]
  have hX1 : X.heap.size ≤ B := Nat.le_of_eq hB.symm
  have hBW : B ≤ W2.heap.size := HT2'.out.size
  clear HT2 hB hlt hmb
  go_upto_region 6 with fail
  go_loopw [4, 5] (fun v4 v5 wr => ∃ (i : Nat), i ≤ n ∧ i ≤ 60 ∧ v5 = .int .i64 i ∧ RunS wr B lt mb i v4 ∧ Below X.heap.size X wr) (fun _ v5 _ => n - (intOf v5).toNat)
  case atStart => exact ⟨0, Nat.zero_le _, by omega, rfl, ⟨[], [], HT2'.out.below ((Below.refl _ _).alloc (Nat.le_refl _) _), ⟨⟨by simp [lnc], .inr ⟨W2.heap.size, 0, 0, #[], rfl, hBW, heap_alloc_new W2 _, Nat.le_refl _, Nat.zero_le _, by simp, by simp [lnc]⟩⟩, (fun o ho => by cases ho), (fun o ho => by cases ho), List.Pairwise.nil, (fun o ho => by cases ho), (fun o ho => by cases ho)⟩, RunK.nil, ⟨W2.heap.size, 0, 0, 0, rfl, fun _ => rfl⟩⟩, HB2.out.alloc HB2.out.size _⟩
  case round =>
    obtain ⟨i, hin, hi60, rfl, ⟨qs, os, htb, hrl, hrk, hsv⟩, hbl⟩ := hrel
    have HTB := Lib.hid htb
    have HRL := Lib.hid hrl
    have HRK := Lib.hid hrk
    have HBL := Lib.hid hbl
    have hszr := hbl.size
    obtain ⟨A4, c4, e4, hc4, hm4⟩ := hrl.own.form_
    obtain ⟨n4, hn4⟩ : ∃ n, n = os.length := ⟨_, rfl⟩
    rw [← hn4] at e4 hc4
    subst e4
    have HSV := Lib.hid hsv
    have HN4 := Lib.hid hn4
    have hno : n4 ≤ 60 := by rw [hn4]; have := hrk.osl; omega
    unfold maxLen at hm4
    clear htb hrl hrk hbl hn4 hsv
    by_cases hlt : i < n ∧ i < 60
    · obtain ⟨hlt1, hlt2⟩ := hlt
      have hlt3 : (i : Int) < (n : Int) := by omega
      have hlt4 : (i : Int) < 60 := by omega
      have i0 : (0 : Int) ≤ (i : Int) := by omega
      obtain ⟨oo, hoo⟩ : ∃ oo, os0[i]? = some oo := ⟨os0[i]'(by rw [← HN.out]; omega), List.getElem?_eq_getElem _⟩
      obtain ⟨g, off, ce, hv0, hg, _, _, hx⟩ := HL.out.rd.cells (by rw [← HN.out]; omega)
      injection hv0 with hv01 hv00 hv02
      clear hv00
      subst hv01 hv02
      have HKK : Hid (OkS oo.key) := Lib.hid (by have := HL.out.each _ (List.mem_of_getElem? hoo); unfold OkS maxLen; omega)
      have hw : ∀ {j : Nat} {u : Value}, X.cell? ⟨g, j, none⟩ = some u → wr.cell? ⟨g, j, none⟩ = some u := fun {j u} hu => (HBL.out.cell (p := ⟨g, j, none⟩) hg).trans hu
      have k0 : wr.cell? ⟨g, off + i * 5, none⟩ = some (.int .i64 oo.k) := hw (hx _ _ (oc_at hoo 0 _ rfl))
      have k1 : wr.cell? ⟨g, off + i * 5 + 1, none⟩ = some (.int .u64 oo.tid.1) := hw (by rw [Nat.add_assoc]; exact hx _ _ (oc_at hoo 1 _ rfl))
      have k2 : wr.cell? ⟨g, off + i * 5 + 2, none⟩ = some (.int .i64 oo.tid.2) := hw (by rw [Nat.add_assoc]; exact hx _ _ (oc_at hoo 2 _ rfl))
      have k3 : wr.cell? ⟨g, off + i * 5 + 3, none⟩ = some (.string oo.key) := hw (by rw [Nat.add_assoc]; exact hx _ _ (oc_at hoo 3 _ rfl))
      have k4 : wr.cell? ⟨g, off + i * 5 + 4, none⟩ = some (.int .i64 oo.md) := hw (by rw [Nat.add_assoc]; exact hx _ _ (oc_at hoo 4 _ rfl))
      clear hoo hx hg hw
      obtain ⟨gy, hgy⟩ : ∃ g, g = wr.heap.size := ⟨_, rfl⟩
      obtain ⟨Y, hY⟩ : ∃ Y, Y = wr.alloc (.cells #[.int .i64 oo.k, .int .u64 oo.tid.1, .int .i64 oo.tid.2, .string oo.key, .int .i64 oo.md] 42) := ⟨_, rfl⟩
      have HYB : Hid (Below wr.heap.size wr Y) := Lib.hid (by rw [hY]; exact (Below.refl _ _).alloc (Nat.le_refl _) _)
      have HYR : Hid (Y.heap[gy]? = some (.cells #[.int .i64 oo.k, .int .u64 oo.tid.1, .int .i64 oo.tid.2, .string oo.key, .int .i64 oo.md] 42 (0, 0))) := Lib.hid (by rw [hY, hgy]; exact heap_alloc_new wr _)
      have HBY : Hid (Below X.heap.size X Y) := Lib.hid (HBL.out.trans (HYB.out.mono hszr))
      have HTY := Lib.hid (HTB.out.below HYB.out)
      have HLY := Lib.hid (HRL.out.below HYB.out)
      have HYS : Hid (∀ (V : World), V.heap[gy]? = some (.cells #[.int .i64 oo.k, .int .u64 oo.tid.1, .int .i64 oo.tid.2, .string oo.key, .int .i64 oo.md] 42 (0, 0)) → (V.cell? ⟨gy, 0, none⟩ = some (.int .i64 oo.k) ∧ V.cell? ⟨gy, 1, none⟩ = some (.int .u64 oo.tid.1)) ∧ V.cell? ⟨gy, 2, none⟩ = some (.int .i64 oo.tid.2) ∧ V.cell? ⟨gy, 3, none⟩ = some (.string oo.key) ∧ V.cell? ⟨gy, 4, none⟩ = some (.int .i64 oo.md)) := Lib.hid (fun V h => by
        refine ⟨⟨?_, ?_⟩, ?_, ?_, ?_⟩ <;> (rw [cell_of_row _ _ _ _ _ _ h]; rfl))
      go_upto_region 9 with fail
      rw [← hY, ← hgy]
      have HNF : Hid (¬ TFeet mb qs gy) := Lib.hid (fun h => by have := (HTB.out.feet h).2; omega)
      clear hY hgy k0 k1 k2 k3 k4
      obtain ⟨⟨d0, d1⟩, d2, d3, d4⟩ := HYS.out _ HYR.out
      by_cases h40 : 40 < oo.key.size
      · go_wp2_with fail
        go_roundw
        case rel => exact ⟨i + 1, by omega, by omega, by go_num, ⟨qs, os, HTY.out, HLY.out, HRK.out.more (by omega) (by omega), HSV.out⟩, HBY.out⟩
        case measure => simp [intOf]; omega
      go_upto_block 2 with fail
      go_cut [4, 7, 8, 9, 10, 11, 12, 13, 14, 15, 16] from 47 to 202 (fun v4 _ _ _ _ _ _ _ _ _ _ wx => RunS wx B lt mb (i + 1) v4 ∧ Below X.heap.size X wx ∧ wx.heap[gy]? = some (.cells #[.int .i64 oo.k, .int .u64 oo.tid.1, .int .i64 oo.tid.2, .string oo.key, .int .i64 oo.md] 42 (0, 0)))
      case first =>
        by_cases hk0 : oo.k = 0
        · skip
          have z0 : (oo.k == 0) = true := by simp [hk0]
          clear hk0
          go_upto_region 13 with fail
          by_cases hmd : oo.md = 1 ∨ oo.md = 2
          rotate_left
          · have b1 : (oo.md != 1) = true := by simp; omega
            have b2 : (oo.md != 2) = true := by simp; omega
            have HBAD := Lib.hid (ask_bad HTY.out oo.key oo.tid oo.md hmd)
            clear hmd
            go_wp2_with (go_at_call 13; refine HBAD.out.mono ?_; rintro e w1 ⟨rfl, hb1⟩; have HB1 := Lib.hid hb1; clear hb1)
            go_meet
            case rel => exact ⟨⟨qs, os, HTY.out.below HB1.out, HLY.out.below HB1.out, HRK.out.more (by omega) (by omega), HSV.out⟩, HBY.out.trans (HB1.out.mono HBY.out.size), blk_below HYR.out HB1.out⟩
          have HMD := Lib.hid hmd
          have HRO : Hid (Rd Y Y.heap.size 3 (.slice A4 n4 c4) n4 (lnc os)) := Lib.hid (by have h := Own.rd HLY.out.own; rw [← HN4.out] at h; exact h)
          go_cut [56] from 51 to 56 (fun v56 wx => v56 = .bool false ∧ wx = Y)
          case first =>
            by_cases hm1 : oo.md = 1
            · have b1 : (oo.md != 1) = false := by simp [hm1]
              clear hm1 hmd
              go_wp2_with fail
              go_meet
              case rel => exact ⟨rfl, rfl⟩
            · have hm2 : oo.md = 2 := by omega
              have b1 : (oo.md != 1) = true := by simp [hm1]
              have b2 : (oo.md != 2) = false := by simp [hm2]
              clear hm1 hm2 hmd
              go_wp2_with fail
              go_meet
              case rel => exact ⟨rfl, rfl⟩
          case rest =>
            obtain ⟨rfl, hwz⟩ := hcut
            rw [hwz]
            clear hwz wc hmd
            go_upto_block 3 with fail
            go_cut [8] from 65 to 80 (fun v8 wx => ∃ at_ : Nat, v8 = .int .i64 at_ ∧ at_ ≤ n4 ∧ (∀ (x : Nat) (o : Ln), x < at_ → os[x]? = some o → kLt o.key oo.key) ∧ (at_ = n4 ∨ ∃ o, os[at_]? = some o ∧ Kv.lt o.key oo.key = false) ∧ Below Y.heap.size Y wx)
            case first =>
              go_wp2_with fail
              go_loopw [8] (fun v8 w2 => ∃ j : Nat, j ≤ n4 ∧ v8 = .int .i64 j ∧ (∀ (x : Nat) (o : Ln), x < j → os[x]? = some o → kLt o.key oo.key) ∧ Below Y.heap.size Y w2) (fun v8 _ => n4 - (intOf v8).toNat)
              case atStart => exact ⟨0, Nat.zero_le _, rfl, (fun x o h => absurd h (by omega)), Below.refl _ _⟩
              case round =>
                obtain ⟨j, hj, rfl, hall, hb2⟩ := hrel
                have HB2 := Lib.hid hb2
                have HALL := Lib.hid hall
                clear hall hb2
                obtain ⟨⟨d0, d1⟩, d2, d3, d4⟩ := HYS.out _ (blk_below HYR.out HB2.out)
                by_cases hlj : j < n4
                · obtain ⟨o, ho⟩ : ∃ o, os[j]? = some o := ⟨os[j]'(by rw [← HN4.out]; omega), List.getElem?_eq_getElem _⟩
                  have j0 : (0 : Int) ≤ (j : Int) := by omega
                  have j1 : (j : Int) < (n4 : Int) := by omega
                  obtain ⟨ga, oa, ea, hga, a0, a1, a2⟩ := ln_cells (HRO.out.below HB2.out) ho (by omega)
                  subst ea
                  have HOE := Lib.hid ho
                  clear ho hga
                  obtain ⟨bl, hbl⟩ : ∃ b, b = Kv.lt o.key oo.key := ⟨_, rfl⟩
                  have hbl2 : Op.bytesLess o.key.toList oo.key.toList = bl := by rw [hbl, toL, toL]; rfl
                  have HBL3 := Lib.hid hbl
                  clear hbl
                  cases bl with
                  | true =>
                    go_upto_region 17 with fail
                    go_quiet (fail)
                    go_wp2_with fail
                    go_roundw
                    case rel => exact ⟨j + 1, by omega, by go_num, (fun x q hx hq => by
                      by_cases e : x = j
                      · subst e
                        have : some o = some q := HOE.out.symm.trans hq
                        injection this with this
                        rw [← this]; exact HBL3.out.symm
                      · exact HALL.out x q (by omega) hq), below_drewN HB2.out _⟩
                    case measure => simp [intOf]; omega
                  | false =>
                    go_upto_region 17 with fail
                    go_quiet (fail)
                    go_wp2_with fail
                    go_meet
                    case rel => exact ⟨j, rfl, hj, HALL.out, .inr ⟨o, HOE.out, HBL3.out.symm⟩, below_drewN HB2.out _⟩
                · have j1 : ¬ ((j : Int) < (n4 : Int)) := by omega
                  go_upto_region 17 with fail
                  go_quiet (fail)
                  go_wp2_with fail
                  go_meet
                  case rel => exact ⟨j, rfl, hj, HALL.out, .inl (by omega), below_drewN HB2.out _⟩
            case rest =>
              obtain ⟨at_, rfl, hat, hlo, hhi, hb1⟩ := hcut
              obtain ⟨V1, hV1⟩ : ∃ V, V = wc := ⟨_, rfl⟩
              rw [← hV1] at hb1 ⊢
              have HV1 := Lib.hid hb1
              have HLO := Lib.hid hlo
              have HHI := Lib.hid hhi
              clear hV1 wc hb1 hlo hhi
              obtain ⟨⟨d0, d1⟩, d2, d3, d4⟩ := HYS.out _ (blk_below HYR.out HV1.out)
              have HRO1 := Lib.hid (HRO.out.below HV1.out)
              have HNEW : Hid (∀ o, os[at_]? = some o → o.key ≠ oo.key → kLt oo.key o.key) := Lib.hid (fun o ho hne => by
                rcases HHI.out with e | ⟨o2, ho2, hl2⟩
                · have := (List.getElem?_eq_some_iff.1 ho).1
                  rw [← HN4.out] at this
                  omega
                · rw [ho2] at ho
                  injection ho with ho
                  subst ho
                  rcases Kv.lt_total hne with e | e
                  · rw [hl2] at e; cases e
                  · exact e)
              obtain ⟨nb, hnb⟩ : ∃ b : Bool, b = true ↔ ∀ o, os[at_]? = some o → o.key ≠ oo.key := by
                cases h : os[at_]? with
                | none => exact ⟨true, by simp⟩
                | some o => exact ⟨decide (o.key ≠ oo.key), by simp⟩
              have HNB := Lib.hid hnb
              clear hnb
              go_upto_region 19 with fail
              go_cut [94] from 81 to 94 (fun v94 wx => v94 = .bool nb ∧ Below V1.heap.size V1 wx)
              case first =>
                by_cases hae : at_ = n4
                · have e1 : ((at_ : Int) == (n4 : Int)) = true := by simp [hae]
                  have hb : nb = true := HNB.out.2 (fun o ho => by have := (List.getElem?_eq_some_iff.1 ho).1; rw [← HN4.out] at this; omega)
                  have HB := Lib.hid hb
                  clear hae hb
                  go_quiet (fail)
                  go_wp2_with fail
                  go_meet
                  case rel => exact ⟨by rw [HB.out], below_drewN (Below.refl _ _) _⟩
                · have e1 : ((at_ : Int) == (n4 : Int)) = false := by simp; omega
                  obtain ⟨o, ho⟩ : ∃ o, os[at_]? = some o := ⟨os[at_]'(by rw [← HN4.out]; omega), List.getElem?_eq_getElem _⟩
                  have j0 : (0 : Int) ≤ (at_ : Int) := by omega
                  have j1 : (at_ : Int) < (n4 : Int) := by omega
                  obtain ⟨ga, oa, ea, hga, a0, a1, a2⟩ := ln_cells HRO1.out ho (by omega)
                  subst ea
                  have HOE := Lib.hid ho
                  clear ho hga hae
                  by_cases hke : o.key = oo.key
                  · have e2 : (o.key.toList == oo.key.toList) = true := by rw [hke]; simp
                    have hb : nb = false := by
                      cases hnb : nb with
                      | false => rfl
                      | true => exact absurd hke (HNB.out.1 hnb o HOE.out)
                    have HB := Lib.hid hb
                    clear hke hb
                    go_quiet (fail)
                    go_wp2_with fail
                    go_meet
                    case rel => exact ⟨by rw [HB.out], below_drewN (Below.refl _ _) _⟩
                  · have e2 : (o.key.toList == oo.key.toList) = false := by rw [beq_eq_false_iff_ne]; intro e; exact hke (Kv.S_ext (by rw [← toL, ← toL]; exact e))
                    have hb : nb = true := HNB.out.2 (fun o2 ho2 => by rw [HOE.out] at ho2; injection ho2 with ho2; rw [← ho2]; exact hke)
                    have HB := Lib.hid hb
                    clear hke hb
                    go_quiet (fail)
                    go_wp2_with fail
                    go_meet
                    case rel => exact ⟨by rw [HB.out], below_drewN (Below.refl _ _) _⟩
              case rest =>
                obtain ⟨rfl, hb2⟩ := hcut
                obtain ⟨X2, hX2⟩ : ∃ V, V = wc := ⟨_, rfl⟩
                rw [← hX2] at hb2 ⊢
                have HX2 : Hid (Below Y.heap.size Y X2) := Lib.hid (HV1.out.trans (hb2.mono HV1.out.size))
                clear hX2 wc hb2 d0 d1 d2 d3 d4
                have HYX := Lib.hid (blk_below HYR.out HX2.out)
                obtain ⟨⟨d0, d1⟩, d2, d3, d4⟩ := HYS.out _ HYX.out
                have HL2 := Lib.hid (HLY.out.below HX2.out)
                have HT2 := Lib.hid (HTY.out.below HX2.out)
                have HRO2 : Hid (Own X2 B 52 3 (.slice A4 n4 c4) n4 (lnc os)) := Lib.hid (by have h := HL2.out.own; unfold NOwn at h; rw [← HN4.out] at h; exact h)
                go_upto_if 94 with fail
                go_cut [4] from 95 to 108 (fun v4 wx => ∃ os1 o A n c, v4 = .slice A n c ∧ os1[at_]? = some o ∧ o.key = oo.key ∧ RunL wx B mb qs (.slice A n c) os1 ∧ RunK i (i + 1) qs os1 ∧ SomeV (.slice A n c) ∧ Below Y.heap.size Y wx)
                case first =>
                  cases nb with
                  | false =>
                    have hex : ∃ o, os[at_]? = some o ∧ o.key = oo.key := Classical.byContradiction fun h => by
                      have := HNB.out.2 (fun o ho hk => h ⟨o, ho, hk⟩)
                      cases this
                    obtain ⟨o, ho, hk⟩ := hex
                    have HOK := Lib.hid (And.intro ho hk)
                    clear ho hk
                    go_wp2_with fail
                    go_meet
                    case rel => exact ⟨os, o, _, _, _, rfl, HOK.out.1, HOK.out.2, HL2.out, HRK.out.more (Nat.le_refl _) (by omega), HSV.out, HX2.out⟩
                  | true =>
                    have HFI : Hid (∀ (A : Option Addr) (m c : Nat) (w7 : World), NOwn w7 X2.heap.size (.slice A m c) (os.take at_ ++ (⟨oo.key, none, 0, 0, none, 0, 0, [], []⟩ : Ln) :: os.drop at_) → Below X2.heap.size X2 w7 → ∃ os1 o A' n c', Value.slice A m c = .slice A' n c' ∧ os1[at_]? = some o ∧ o.key = oo.key ∧ RunL w7 B mb qs (.slice A' n c') os1 ∧ RunK i (i + 1) qs os1 ∧ SomeV (.slice A' n c') ∧ Below Y.heap.size Y w7) := Lib.hid (fun A m c w7 ho hb => by
                      have hlt : (os.take at_).length = at_ := by rw [List.length_take, ← HN4.out]; omega
                      have hsp : os.take at_ ++ os.drop at_ = os := List.take_append_drop _ _
                      have h1 : ∀ x ∈ os.take at_, kLt x.key oo.key := fun x hx => by
                        obtain ⟨q, hq⟩ := List.getElem?_of_mem hx
                        rw [List.getElem?_take] at hq
                        split at hq
                        · rename_i hqa; exact HLO.out q x hqa hq
                        · cases hq
                      have h2 : ∀ x ∈ os.drop at_, kLt oo.key x.key := fun x hx => by
                        obtain ⟨q, hq⟩ := List.getElem?_of_mem hx
                        rw [List.getElem?_drop] at hq
                        obtain ⟨y, hy⟩ : ∃ y, os[at_]? = some y := ⟨os[at_]'(by have := (List.getElem?_eq_some_iff.1 hq).1; omega), List.getElem?_eq_getElem _⟩
                        have hyk := HNEW.out y hy (HNB.out.1 rfl y hy)
                        by_cases e : q = 0
                        · subst e
                          rw [Nat.add_zero, hy] at hq
                          injection hq with hq
                          rw [← hq]; exact hyk
                        · exact Kv.lt_trans hyk (pw_at HL2.out.sorted hy hq (by omega))
                      refine ⟨os.take at_ ++ (⟨oo.key, none, 0, 0, none, 0, 0, [], []⟩ : Ln) :: os.drop at_, (⟨oo.key, none, 0, 0, none, 0, 0, [], []⟩ : Ln), A, m, c, rfl, ?_, rfl, ?_, ?_, ?_, HX2.out.trans (hb.mono HX2.out.size)⟩
                      · rw [List.getElem?_append_right (by omega), hlt, Nat.sub_self]; rfl
                      · exact RunL.insert (v := .slice A4 n4 c4) (by rw [hsp]; exact HL2.out) hb (Own.base_ ho (fun g hg => by have := (ho.lt g hg).1; have := HT2.out.size; omega)) h1 h2 HKK.out
                      · refine RunK.insert (by rw [hsp]; exact HRK.out) (fun x hx => ?_) rfl
                        rcases List.mem_append.1 hx with e | e
                        · exact Kv.lt_ne (h1 x e)
                        · exact (Kv.lt_ne (h2 x e)).symm
                      · obtain ⟨g9, o9, c9, _, e9, _⟩ := Own.form ho (by simp only [List.length_append, List.length_cons]; omega)
                        obtain ⟨A9, c8, e8, _⟩ := ho.form_
                        injection e8 with _ e8 _
                        injection e9 with e9 _ _
                        exact ⟨g9, o9, m, c, by rw [e9], fun h => by rw [h] at e8; simp at e8⟩)
                    clear HNEW HNB HLO HHI HT2 HL2
                    have HTL : Hid (at_ = (os.take at_).length) := Lib.hid (by rw [List.length_take, ← HN4.out]; omega)
                    have HDL : Hid (n4 - at_ = (os.drop at_).length) := Lib.hid (by rw [List.length_drop, ← HN4.out])
                    obtain ⟨g3, off3, n3, c3, e3, h30⟩ := HSV.out
                    injection e3 with e31 e32 e33
                    subst e31 e32 e33
                    have hrd := HRO2.out.rd
                    have HTX : Hid (∀ V, Below X2.heap.size X2 V → 0 < at_ → ∃ g2 o2, some (⟨g3, off3, none⟩ : Addr) = some ⟨g2, o2, none⟩ ∧ ∀ j u, (lnc (os.take at_))[j]? = some u → V.cell? ⟨g2, o2 + j, none⟩ = some u) := Lib.hid (fun V hb h0 => ⟨g3, off3, rfl, fun j u hu => rd_take_atN (hrd.below hb) (by omega) hu⟩)
                    have i1' : (at_ : Int) ≤ (c4 : Int) := by omega
                    have i2' : (at_ : Int) ≤ (n4 : Int) := by omega
                    have i4' : (n4 : Int) ≤ (c4 : Int) := by omega
                    have HLM : Hid (([] : List Ln).length + at_ ≤ 1000000 ∧ ([] ++ os.take at_).length + 1 ≤ 1000000 ∧ ([] ++ os.take at_ ++ [(⟨oo.key, none, 0, 0, none, 0, 0, [], []⟩ : Ln)]).length + (n4 - at_) ≤ 1000000) := Lib.hid (by refine ⟨?_, ?_, ?_⟩ <;> simp only [List.nil_append, List.length_append, List.length_take, List.length_nil, List.length_cons] <;> omega)
                    by_cases hcp : c4 = at_
                    · have HDX : Hid (∀ V, Below X2.heap.size X2 V → 0 < n4 - at_ → ∃ g2 o2, some (⟨g3, off3, none⟩ : Addr) = some ⟨g2, o2, none⟩ ∧ ∀ j u, (lnc (os.drop at_))[j]? = some u → V.cell? ⟨g2, o2 + j, none⟩ = some u) := Lib.hid (fun V hb h0 => absurd h0 (by omega))
                      obtain rfl : n4 = at_ := by omega
                      clear hrd HN4 HRO HRO2
                      subst hcp
                      as_aux_lemma =>
                        go_upto_region 20 with fail
                        have hgyl : gy < X2.heap.size := (Array.getElem?_eq_some_iff.1 HYX.out).1
                        have HYS2 : Hid (∀ V, Below X2.heap.size X2 V → V.cell? ⟨gy, 3, none⟩ = some (.string oo.key)) := Lib.hid (fun V hb => (HYS.out _ (blk_below HYX.out hb)).2.2.1)
                        refine abs_cut (by with_reducible assumption) fun A N hA hN => ?_
                        refine reg20_a (by kernel_rfl) HTL HDL HTX HDX i1' i2' i4' HLM hgyl HYS2 (by rw [hA]; rfl) (by subst hA; intro h; rfl) (by subst hA; intro h; rfl) (by subst hA; intro h; rfl) ?_
                        intro A' w7 A7 m7 c7 hkp h4 ho hb
                        refine hN _ _ ?_
                        subst hA
                        rw [hkp.lit]
                        go_meet
                        case rel =>
                          obtain ⟨os1, o, A', n, c, e, hh⟩ := HFI.out _ _ _ _ ho hb
                          exact ⟨os1, o, A', n, c, h4.trans e, hh⟩
                    · have HDX : Hid (∀ V, Below X2.heap.size X2 V → 0 < n4 - at_ → ∃ g2 o2, some (⟨g3, off3 + at_ * 3, none⟩ : Addr) = some ⟨g2, o2, none⟩ ∧ ∀ j u, (lnc (os.drop at_))[j]? = some u → V.cell? ⟨g2, o2 + j, none⟩ = some u) := Lib.hid (fun V hb h0 => ⟨g3, _, rfl, fun j u hu => rd_drop_atN (hrd.below hb) (by omega) hu⟩)
                      have hcp' : ¬ c4 ≤ at_ := by omega
                      clear hrd h30
                      as_aux_lemma =>
                        go_upto_region 20 with fail
                        have hgyl : gy < X2.heap.size := (Array.getElem?_eq_some_iff.1 HYX.out).1
                        have HYS2 : Hid (∀ V, Below X2.heap.size X2 V → V.cell? ⟨gy, 3, none⟩ = some (.string oo.key)) := Lib.hid (fun V hb => (HYS.out _ (blk_below HYX.out hb)).2.2.1)
                        refine abs_cut (by with_reducible assumption) fun A N hA hN => ?_
                        refine reg20_b (by kernel_rfl) HTL HDL HTX HDX i1' i2' i4' hcp hcp' HLM hgyl HYS2 (by rw [hA]; rfl) (by subst hA; intro h; rfl) (by subst hA; intro h; rfl) (by subst hA; intro h; rfl) ?_
                        intro A' w7 A7 m7 c7 hkp h4 ho hb
                        refine hN _ _ ?_
                        subst hA
                        rw [hkp.lit]
                        go_meet
                        case rel =>
                          obtain ⟨os1, o, A', n, c, e, hh⟩ := HFI.out _ _ _ _ ho hb
                          exact ⟨os1, o, A', n, c, h4.trans e, hh⟩
                case rest =>
                  clear HNEW HNB HLO HHI HT2 HL2 HRO2 HRO1 HV1 HYX HRO HSV d0 d1 d2 d3 d4
                  obtain ⟨os1, o, A5, n5, c5, rfl, ho5, hk5, hrl5, hrk5, hsv5, hby5⟩ := hcut
                  obtain ⟨V, hV⟩ : ∃ V, V = wc := ⟨_, rfl⟩
                  rw [← hV] at hrl5 hby5 ⊢
                  clear hV wc HX2
                  obtain ⟨g5, off5, n6, c6, e5, hz5⟩ := hsv5
                  injection e5 with e51 e52 e53
                  subst e51 e52 e53
                  as_aux_lemma =>
                    have HSV5 : Hid (SomeV (.slice (some ⟨g5, off5, none⟩) n5 c5)) := Lib.hid ⟨g5, off5, n5, c5, rfl, hz5⟩
                    have hnl5 : n5 = os1.length := by obtain ⟨_, _, e, _⟩ := hrl5.own.form_; injection e
                    have hat5 : at_ < n5 := by rw [hnl5]; exact (List.getElem?_eq_some_iff.1 ho5).1
                    have hno5 : n5 ≤ 61 := by rw [hnl5]; have := hrk5.osl; omega
                    have hom := List.mem_of_getElem? ho5
                    have HRL5 := Lib.hid hrl5
                    have HRK5 := Lib.hid hrk5
                    have HBY5 := Lib.hid hby5
                    have HO5 := Lib.hid ho5
                    have HK5 := Lib.hid hk5
                    have HN5 := Lib.hid hnl5
                    have HTV := Lib.hid (HTY.out.below hby5)
                    have HYV := Lib.hid (blk_below HYR.out hby5)
                    obtain ⟨⟨d0, d1⟩, d2, d3, d4⟩ := HYS.out _ HYV.out
                    have j0 : (0 : Int) ≤ (at_ : Int) := by omega
                    have j1 : (at_ : Int) < (n5 : Int) := by omega
                    obtain ⟨ga, oa, ea, hga, a0, a1, a2⟩ := ln_cells (show Rd V V.heap.size 3 (.slice (some ⟨g5, off5, none⟩) n5 c5) n5 (lnc os1) from by have h := Own.rd hrl5.own; rw [← hnl5] at h; exact h) ho5 (by omega)
                    injection ea with ea
                    injection ea with ea1 ea2 _
                    subst ea1 ea2
                    rw [hk5] at a0
                    obtain ⟨r, hr⟩ : ∃ r, r = askL o.ln oo.tid oo.md := ⟨_, rfl⟩
                    obtain ⟨z, hz⟩ : ∃ z, z = r.2 := ⟨_, rfl⟩
                    have HR := Lib.hid hr
                    have HZ := Lib.hid hz
                    have HOL : Hid (∀ g, OldB o.hv o.wv g → g < V.heap.size) := Lib.hid (fun g hg => by
                      obtain ⟨hr1, hr2⟩ := hrl5.rows o hom
                      rcases hg with e | e
                      · exact (hr1.lt g e).2
                      · exact (hr2.lt g e).2)
                    have HAW : Hid (∀ V', Below V.heap.size V V' → Calls Try.prog 19 #[.agg #[.string oo.key, .slice o.A1 o.n1 o.c1, .slice o.A2 o.n2 o.c2], .agg #[.int .u64 oo.tid.1, .int .i64 oo.tid.2], .int .i64 oo.md] V' fun e w1 => ∃ (B1 : Option Addr) (m1 c1 : Nat) (B2 : Option Addr) (m2 c2 : Nat), e = .returned (.tuple #[.agg #[.string oo.key, .slice B1 m1 c1, .slice B2 m2 c2], .int .i64 z]) ∧ LnP (OldB o.hv o.wv) V V' w1 B (.slice B1 m1 c1) (.slice B2 m2 c2) r.1) := Lib.hid (fun V' hb => by
                      obtain ⟨hr1, hr2⟩ := hrl5.rows o hom
                      have hn1 : o.n1 = o.has.length := by obtain ⟨_, _, e, _⟩ := hr1.form_; unfold Ln.hv at e; injection e
                      have hn2 : o.n2 = o.waits.length := by obtain ⟨_, _, e, _⟩ := hr2.form_; unfold Ln.wv at e; injection e
                      have hbd := hrk5.bnd o.key
                      rw [hrk5.same1 o hom] at hbd
                      have hb12 : o.n1 + o.n2 ≤ 50000 := by rw [hn1, hn2]; exact Nat.le_trans hbd (by omega)
                      have h9 := askW_any (k := oo.key) (Own.below (show Own V B 47 3 (.slice o.A1 o.n1 o.c1) o.n1 (wc o.has) from by unfold LOwn at hr1; rw [← hn1] at hr1; exact hr1) hb) hn1 (Own.below (show Own V B 47 3 (.slice o.A2 o.n2 o.c2) o.n2 (wc o.waits) from by unfold LOwn at hr2; rw [← hn2] at hr2; exact hr2) hb) hn2 hb12 (Nat.le_trans HTV.out.size hb.size) oo.tid oo.md
                      have h8 : askW (o.has, o.waits) oo.tid oo.md = r := by rw [hr]; exact ask_same (hrl5.lk o hom) oo.tid HMD.out
                      rw [h8] at h9
                      refine h9.mono ?_
                      rintro e w1 ⟨hv, wv, he, q1, q2, hbl, q3, q4⟩
                      obtain ⟨B1, c1, e1, _⟩ := LOwn.form_ q1
                      obtain ⟨B2, c2, e2, _⟩ := LOwn.form_ q2
                      subst e1 e2
                      exact ⟨B1, _, c1, B2, _, c2, by rw [he, hz], q1, q2, hb, hbl, q3, q4⟩)
                    have HS : Hid (∀ V', Below V.heap.size V V' → (V'.cell? ⟨g5, off5 + at_ * 3, none⟩ = some (.string oo.key) ∧ V'.cell? ⟨g5, off5 + at_ * 3 + 1, none⟩ = some (.slice o.A1 o.n1 o.c1) ∧ V'.cell? ⟨g5, off5 + at_ * 3 + 2, none⟩ = some (.slice o.A2 o.n2 o.c2)) ∧ V'.cell? ⟨gy, 1, none⟩ = some (.int .u64 oo.tid.1) ∧ V'.cell? ⟨gy, 2, none⟩ = some (.int .i64 oo.tid.2)) := Lib.hid (fun V' hb => by
                      have hc : ∀ {j : Nat} {u : Value}, V.cell? ⟨g5, j, none⟩ = some u → V'.cell? ⟨g5, j, none⟩ = some u := fun {j u} hu => (hb.cell (p := ⟨g5, j, none⟩) hga).trans hu
                      obtain ⟨⟨f0, f1⟩, f2, f3, f4⟩ := HYS.out _ (blk_below HYV.out hb)
                      exact ⟨⟨hc a0, hc a1, hc a2⟩, f1, f2⟩)
                    have HOM := Lib.hid hom
                    clear hr hz hrl5 hrk5 hby5 ho5 hk5 hnl5 hom hga hz5 a0 a1 a2 d0 d1 d2 d3 d4
                    go_upto_region 21 with fail
                    go_cut [9, 10] from 109 to 119 (fun v9 v10 wx => ∃ (gn : Nat) (B1 : Option Addr) (m1 c1 : Nat) (B2 : Option Addr) (m2 c2 : Nat), v9 = .pointer (some ⟨gn, 0, none⟩) ∧ v10 = .int .i64 z ∧ NxR (OldB o.hv o.wv) V wx B gn oo.key (.slice B1 m1 c1) (.slice B2 m2 c2) r.1)
                    case first =>
                      refine abs_cut (by with_reducible assumption) fun A N hA hN => ?_
                      refine reg21_law (O := OldB o.hv o.wv) (l := r.1) (by kernel_rfl) j0 j1 HAW HS HOL (by rw [hA]; rfl) (by subst hA; intro h; rfl) (by subst hA; intro h; rfl) (by subst hA; intro h; rfl) (by subst hA; intro h; rfl) ?_
                      intro A' W gn B1 m1 c1 B2 m2 c2 hkp h9 h10 hnx
                      refine hN _ _ ?_
                      subst hA
                      rw [hkp.lit]
                      go_meet
                      case rel => exact ⟨gn, B1, m1, c1, B2, m2, c2, h9, h10, hnx⟩
                    case rest =>
                      obtain ⟨gn, B1, m1, c1, B2, m2, c2, rfl, rfl, hnx⟩ := hcut
                      obtain ⟨W3, hW3⟩ : ∃ V, V = wc := ⟨_, rfl⟩
                      rw [← hW3] at hnx ⊢
                      clear hW3 wc HAW HS
                      have HNX := Lib.hid hnx
                      clear hnx
                      have HT3 := Lib.hid (HTV.out.below HNX.out.go)
                      obtain ⟨⟨d0, d1⟩, d2, d3, d4⟩ := HYS.out _ (blk_below HYV.out HNX.out.go)
                      have HAK : Hid (Calls Try.prog 13 #[.pointer (some ⟨lt, 0, none⟩), .agg #[.int .u64 oo.tid.1, .int .i64 oo.tid.2], .string oo.key, .int .i64 oo.md] W3 (fun e w' => e = .returned (.int .i64 z) ∧ ∃ qs', AskO W3 w' B lt mb i qs qs' oo.key (askL o.ln oo.tid oo.md))) := Lib.hid (by
                        have h := ask_full HT3.out HKK.out oo.tid HMD.out HRK5.out.bnd (by omega) HRK5.out.ne (l := o.ln) (by rw [← HK5.out]; exact HRK5.out.same1 o HOM.out)
                        refine h.mono ?_
                        rintro e w' ⟨he, hq⟩
                        exact ⟨by rw [he, HZ.out, HR.out], hq⟩)
                      go_upto_region 24 with (go_at_call 13; refine HAK.out.mono ?_; rintro e W4 ⟨rfl, qs', ha⟩; have HA := Lib.hid ha; clear ha HAK)
                      clear d0 d1 d2 d3 d4
                      obtain ⟨y0, y1, y2⟩ := row3c (HA.out.go.fr.blk HNX.out.row (fun h => by have := (HTV.out.feet h).2; have := HNX.out.ge; omega))
                      have HL4 := Lib.hid ((HRL5.out.below HNX.out.go).table HT3.out HA.out.go)
                      obtain ⟨ga, oa, ea, _, x0, x1, x2⟩ := ln_cells (show Rd W4 W4.heap.size 3 (.slice (some ⟨g5, off5, none⟩) n5 c5) n5 (lnc os1) from by have h := Own.rd HL4.out.own; rw [← HN5.out] at h; exact h) HO5.out (by omega)
                      injection ea with ea
                      injection ea with ea1 ea2 _
                      subst ea1 ea2
                      have f0 := Own.frozen HL4.out.own (g := g5) rfl (off5 + at_ * 3)
                      have f1 := Own.frozen HL4.out.own (g := g5) rfl (off5 + at_ * 3 + 1)
                      have f2 := Own.frozen HL4.out.own (g := g5) rfl (off5 + at_ * 3 + 2)
                      have HFIN := Lib.hid (run_asked3 (X := X) HMD.out HTV.out HRL5.out HRK5.out HSV5.out HO5.out HK5.out (by rw [← HR.out]; exact HNX.out) HA.out (HBY.out.trans (HBY5.out.mono HBY.out.size)) hX1 HYV.out HNF.out (by decide))
                      go_wp2_with fail
                      go_meet
                      case rel => exact HFIN.out
        have z0 : (oo.k == 0) = false := by simp [hk0]
        by_cases hk1 : oo.k = 1
        · have z1 : (oo.k == 1) = true := by simp [hk1]
          clear hk0 hk1
          obtain ⟨g4, off4, n6, c6, e4, hz4⟩ := HSV.out
          injection e4 with e41 e42 e43
          subst e41 e42 e43
          have HSV4 : Hid (SomeV (.slice (some ⟨g4, off4, none⟩) n4 c4)) := Lib.hid ⟨g4, off4, n4, c4, rfl, hz4⟩
          clear hz4
          as_aux_lemma =>
            have hX0 := HBY.out.size
            have HF0 : Hid (RunF X (Y.alloc (.cells #[] 35)) B lt mb qs os os oo.tid 0 [] gy #[.int .i64 oo.k, .int .u64 oo.tid.1, .int .i64 oo.tid.2, .string oo.key, .int .i64 oo.md] (.slice (some ⟨g4, off4, none⟩) n4 c4) (.slice (some ⟨Y.heap.size, 0, none⟩) 0 0)) := Lib.hid ⟨HTY.out.alloc _, HLY.out.below ((Below.refl _ _).alloc (Nat.le_refl _) _), rfl, by simp, ⟨rfl, .inr ⟨Y.heap.size, 0, 0, #[], rfl, hX0, heap_alloc_new Y _, Nat.le_refl _, Nat.zero_le _, by simp, by simp [gc]⟩⟩, HBY.out.alloc HBY.out.size _, blk_below HYR.out ((Below.refl _ _).alloc (Nat.le_refl _) _)⟩
            clear d0 d1 d2 d3 d4
            go_upto_region 28 with fail
            go_loopw [11, 12, 13, 14, 138] (fun v11 v12 v13 v14 v138 w2 => ∃ (j : Nat) (os' : List Ln) (gs : List Gr), j ≤ n4 ∧ v138 = .int .i64 j ∧ RunF X w2 B lt mb qs os os' oo.tid j gs gy #[.int .i64 oo.k, .int .u64 oo.tid.1, .int .i64 oo.tid.2, .string oo.key, .int .i64 oo.md] (.slice (some ⟨g4, off4, none⟩) n4 c4) v11 ∧ gs = allGs (os.take j) oo.tid) (fun _ _ _ _ v138 _ => n4 - (intOf v138).toNat)
            case atStart => exact ⟨0, os, [], Nat.zero_le _, rfl, HF0.out, by simp [allGs]⟩
            case round =>
              obtain ⟨j, os', gs, hj, rfl, hrf, hgs⟩ := hrel
              obtain ⟨V, hV⟩ : ∃ V, V = wr := ⟨_, rfl⟩
              rw [← hV] at hrf ⊢
              clear hV HF0
              obtain ⟨A5, c5, e5⟩ := hrf.g.form
              obtain ⟨ng, hng⟩ : ∃ n, n = gs.length := ⟨_, rfl⟩
              rw [← hng] at e5
              subst e5
              have HRF := Lib.hid hrf
              have HGS := Lib.hid hgs
              have HNG := Lib.hid hng
              have hngl : ng ≤ 10000 := by rw [hng, hgs]; exact allGs_le HRK.out (by omega) (by omega) _ _
              clear hrf hgs hng
              by_cases hlj : j < n4
              · skip
                as_aux_lemma =>
                  have hlo := HRF.out.len
                  obtain ⟨o, ho⟩ : ∃ o, os'[j]? = some o := ⟨os'[j]'(by rw [hlo, ← HN4.out]; exact hlj), List.getElem?_eq_getElem _⟩
                  have hom := List.mem_of_getElem? ho
                  have j0 : (0 : Int) ≤ (j : Int) := by omega
                  have j1 : (j : Int) < (n4 : Int) := by omega
                  have hnl : n4 = os'.length := by rw [hlo]; exact HN4.out
                  obtain ⟨ga, oa, ea, hga, a0, a1, a2⟩ := ln_cells (show Rd V V.heap.size 3 (.slice (some ⟨g4, off4, none⟩) n4 c4) n4 (lnc os') from by have h := Own.rd HRF.out.l.own; rw [← hnl] at h; exact h) ho (by omega)
                  injection ea with ea
                  injection ea with ea1 ea2 _
                  subst ea1 ea2
                  obtain ⟨hr1, hr2⟩ := HRF.out.l.rows o hom
                  have hn1 : o.n1 = o.has.length := by obtain ⟨_, _, e, _⟩ := hr1.form_; unfold Ln.hv at e; injection e
                  have hn2 : o.n2 = o.waits.length := by obtain ⟨_, _, e, _⟩ := hr2.form_; unfold Ln.wv at e; injection e
                  have HR1 : Hid (Own V B 47 3 (.slice o.A1 o.n1 o.c1) o.n1 (wc o.has)) := Lib.hid (by unfold LOwn at hr1; rw [← hn1] at hr1; exact hr1)
                  have HR2 : Hid (Own V B 47 3 (.slice o.A2 o.n2 o.c2) o.n2 (wc o.waits)) := Lib.hid (by unfold LOwn at hr2; rw [← hn2] at hr2; exact hr2)
                  have HO1 := Lib.hid hn1
                  have HO2 := Lib.hid hn2
                  have HOL : Hid (∀ g, OldB o.hv o.wv g → g < V.heap.size) := Lib.hid (fun g hg => by
                    rcases hg with e | e
                    · exact (hr1.lt g e).2
                    · exact (hr2.lt g e).2)
                  have HB12 : Hid (o.n1 + o.n2 ≤ 50000) := Lib.hid (by
                    obtain ⟨x, hx, hxk, hxl⟩ := HRF.out.at_ ho
                    have hbd := HRK.out.bnd x.key
                    rw [HRK.out.same1 x (List.mem_of_getElem? hx), hxl] at hbd
                    have : o.has.length + o.waits.length ≤ i := hbd
                    rw [hn1, hn2]; omega)
                  have HS3 : Hid (∀ V', Below V.heap.size V V' → ((V'.cell? ⟨g4, off4 + j * 3, none⟩ = some (.string o.key) ∧ V'.cell? ⟨g4, off4 + j * 3 + 1, none⟩ = some (.slice o.A1 o.n1 o.c1) ∧ V'.cell? ⟨g4, off4 + j * 3 + 2, none⟩ = some (.slice o.A2 o.n2 o.c2)) ∧ V'.cell? ⟨gy, 1, none⟩ = some (.int .u64 oo.tid.1) ∧ V'.cell? ⟨gy, 2, none⟩ = some (.int .i64 oo.tid.2))) := Lib.hid (fun V' hb => by
                    have hc : ∀ {q : Nat} {u : Value}, V.cell? ⟨g4, q, none⟩ = some u → V'.cell? ⟨g4, q, none⟩ = some u := fun {q u} hu => (hb.cell (p := ⟨g4, q, none⟩) hga).trans hu
                    obtain ⟨⟨f0, f1⟩, f2, f3, f4⟩ := HYS.out _ (blk_below HRF.out.row hb)
                    exact ⟨⟨hc a0, hc a1, hc a2⟩, f1, f2⟩)
                  have HS2 : Hid (∀ V', Below V.heap.size V V' → ((V'.cell? ⟨g4, off4 + j * 3 + 1, none⟩ = some (.slice o.A1 o.n1 o.c1) ∧ V'.cell? ⟨g4, off4 + j * 3 + 2, none⟩ = some (.slice o.A2 o.n2 o.c2)) ∧ V'.cell? ⟨gy, 1, none⟩ = some (.int .u64 oo.tid.1) ∧ V'.cell? ⟨gy, 2, none⟩ = some (.int .i64 oo.tid.2))) := Lib.hid (fun V' hb => ⟨(HS3.out V' hb).1.2, (HS3.out V' hb).2⟩)
                  obtain ⟨z1', hz1'⟩ : ∃ z, z = firstZ (fun u => sameT u oo.tid) o.has := ⟨_, rfl⟩
                  obtain ⟨z2', hz2'⟩ : ∃ z, z = firstZ (fun u => sameT u oo.tid) o.waits := ⟨_, rfl⟩
                  have HF1 : Hid (∀ V', Below V.heap.size V V' → Calls Try.prog 20 #[.slice o.A1 o.n1 o.c1, .agg #[.int .u64 oo.tid.1, .int .i64 oo.tid.2]] V' fun e w1 => e = .returned (.int .i64 z1') ∧ Below V.heap.size V w1) := Lib.hid (fun V' hb => findL_of HO1.out HR1.out oo.tid.1 oo.tid.2 hb hz1')
                  have HF2 : Hid (∀ V', Below V.heap.size V V' → Calls Try.prog 20 #[.slice o.A2 o.n2 o.c2, .agg #[.int .u64 oo.tid.1, .int .i64 oo.tid.2]] V' fun e w1 => e = .returned (.int .i64 z2') ∧ Below V.heap.size V w1) := Lib.hid (fun V' hb => findL_of HO2.out HR2.out oo.tid.1 oo.tid.2 hb hz2')
                  have HH1 : Hid (hasT o.has oo.tid = decide (0 ≤ z1')) := Lib.hid (by unfold hasT; rw [any_first, hz1'])
                  have HH2 : Hid (hasT o.waits oo.tid = decide (0 ≤ z2')) := Lib.hid (by unfold hasT; rw [any_first, hz2'])
                  have HOE := Lib.hid ho
                  have HOM := Lib.hid hom
                  have HNL := Lib.hid hnl
                  obtain ⟨bs, hbs⟩ : ∃ b : Bool, b = (decide (z1' < 0) && decide (z2' < 0)) := ⟨_, rfl⟩
                  have HBS := Lib.hid hbs
                  clear hlo ho hom hga a0 a1 a2 hr1 hr2 hn1 hn2 hz1' hz2' hbs hnl
                  go_upto_region 30 with fail
                  go_cut [160] from 141 to 160 (fun v160 wx => v160 = .bool bs ∧ Below V.heap.size V wx)
                  case first =>
                    by_cases hz1 : z1' < 0
                    · by_cases hz2 : z2' < 0
                      · have HB : Hid (bs = true) := Lib.hid (by rw [HBS.out, decide_eq_true hz1, decide_eq_true hz2]; rfl)
                        refine abs_cut (by with_reducible assumption) fun A N hA hN => ?_
                        subst hA
                        refine reg30_yy (by kernel_rfl) j0 j1 hz1 hz2 HF1 HF2 HS2 ?_
                        intro u141 u142 u143 u144 u145 u146 u147 u148 u149 u150 u151 u152 u153 u154 u155 u156 u157 u158 u159 W hb
                        refine hN _ _ ?_
                        go_meet
                        case rel => exact ⟨by rw [HB.out], hb⟩
                      · have HB : Hid (bs = false) := Lib.hid (by rw [HBS.out, decide_eq_false hz2, Bool.and_false])
                        refine abs_cut (by with_reducible assumption) fun A N hA hN => ?_
                        subst hA
                        refine reg30_yn (by kernel_rfl) j0 j1 hz1 (decide_eq_false hz2) HF1 HF2 HS2 ?_
                        intro u141 u142 u143 u144 u145 u146 u147 u148 u149 u150 u151 u152 u153 u154 u155 u156 u157 u158 u159 W hb
                        refine hN _ _ ?_
                        go_meet
                        case rel => exact ⟨by rw [HB.out], hb⟩
                    · have HB : Hid (bs = false) := Lib.hid (by rw [HBS.out, decide_eq_false hz1, Bool.false_and])
                      refine abs_cut (by with_reducible assumption) fun A N hA hN => ?_
                      subst hA
                      refine reg30_n (by kernel_rfl) j0 j1 (decide_eq_false hz1) HF1 HF2 HS2 ?_
                      intro u141 u142 u143 u144 u145 u146 u147 u148 u149 u150 u151 u152 u153 u154 u155 u156 u157 u158 u159 u160 A' W hkp h160 hb
                      refine hN _ _ ?_
                      rw [hkp.lit]
                      go_meet
                      case rel => exact ⟨h160.trans (by rw [HB.out]), hb⟩
                  case rest =>
                    obtain ⟨rfl, hb1⟩ := hcut
                    obtain ⟨V1, hV1⟩ : ∃ V, V = wc := ⟨_, rfl⟩
                    rw [← hV1] at hb1 ⊢
                    clear hV1 wc
                    have HV1 := Lib.hid hb1
                    have HRF1 := Lib.hid (HRF.out.below hb1)
                    clear hb1 HF1 HF2 HS2
                    cases bs with
                    | true =>
                      have HSK : Hid (hasT o.has oo.tid = false ∧ hasT o.waits oo.tid = false) := Lib.hid (by
                        have h9 : (decide (z1' < 0) && decide (z2' < 0)) = true := HBS.out.symm
                        rw [Bool.and_eq_true, decide_eq_true_eq, decide_eq_true_eq] at h9
                        exact ⟨by rw [HH1.out]; exact decide_eq_false (by omega), by rw [HH2.out]; exact decide_eq_false (by omega)⟩)
                      have HNX := Lib.hid (HRF1.out.skip HOE.out HSK.out.1 HSK.out.2 HGS.out)
                      go_wp2_with fail
                      go_roundw
                      case rel => exact ⟨j + 1, os', gs, by omega, by go_num, HNX.out.1, HNX.out.2⟩
                      case measure => simp [intOf]; omega
                    | false =>
                      have HHT : Hid (hasT o.has oo.tid = true ∨ hasT o.waits oo.tid = true) := Lib.hid (by
                        have h9 : (decide (z1' < 0) && decide (z2' < 0)) = false := HBS.out.symm
                        by_cases hq : z1' < 0
                        · by_cases hq2 : z2' < 0
                          · rw [decide_eq_true hq, decide_eq_true hq2] at h9; cases h9
                          · exact .inr (by rw [HH2.out]; exact decide_eq_true (by omega))
                        · exact .inl (by rw [HH1.out]; exact decide_eq_true (by omega)))
                      obtain ⟨r, hr⟩ : ∃ r, r = freeL o.ln oo.tid := ⟨_, rfl⟩
                      obtain ⟨ns, hns⟩ : ∃ ns, ns = grs o.key r.2 := ⟨_, rfl⟩
                      obtain ⟨n2, hn2⟩ : ∃ n, n = ns.length := ⟨_, rfl⟩
                      have HR := Lib.hid hr
                      have HNS := Lib.hid hns
                      have HN2 := Lib.hid hn2
                      have HAW : Hid (∀ V', Below V1.heap.size V1 V' → Calls Try.prog 21 #[.agg #[.string o.key, .slice o.A1 o.n1 o.c1, .slice o.A2 o.n2 o.c2], .agg #[.int .u64 oo.tid.1, .int .i64 oo.tid.2]] V' fun e w1 => ∃ (B1 : Option Addr) (m1 c1 : Nat) (B2 : Option Addr) (m2 c2 : Nat) (B3 : Option Addr) (c3 : Nat), e = .returned (.tuple #[.agg #[.string o.key, .slice B1 m1 c1, .slice B2 m2 c2], .slice B3 n2 c3]) ∧ LnP (OldB o.hv o.wv) V1 V' w1 B (.slice B1 m1 c1) (.slice B2 m2 c2) r.1 ∧ GOwn w1 V'.heap.size (.slice B3 n2 c3) ns) := Lib.hid (fun V' hb => by
                        have hbV : Below V.heap.size V V' := HV1.out.trans (hb.mono HV1.out.size)
                        have h9 := freeW_any (k := o.key) (HR1.out.below hbV) HO1.out (HR2.out.below hbV) HO2.out HB12.out (Nat.le_trans HRF1.out.tb.size hb.size) oo.tid
                        have h8 : freeW (o.has, o.waits) oo.tid = r := by rw [hr]; exact free_same (HRF.out.l.lk o HOM.out) oo.tid HHT.out
                        rw [h8] at h9
                        refine h9.mono ?_
                        rintro e w1 ⟨hv, wv, gv, he, q1, q2, ⟨q5, B3, c3, e3⟩, hbl, q3, q4⟩
                        obtain ⟨B1, c1, e1, _⟩ := LOwn.form_ q1
                        obtain ⟨B2, c2, e2, _⟩ := LOwn.form_ q2
                        have e4 : r.2.length = n2 := by rw [hn2, hns, grs_len]
                        rw [e4] at e3
                        subst e1 e2 e3
                        exact ⟨B1, _, c1, B2, _, c2, B3, c3, he, ⟨q1, q2, hb, hbl, q3, q4⟩, by rw [hns]; exact q5⟩)
                      have HS4 : Hid (∀ V', Below V1.heap.size V1 V' → ((V'.cell? ⟨g4, off4 + j * 3, none⟩ = some (.string o.key) ∧ V'.cell? ⟨g4, off4 + j * 3 + 1, none⟩ = some (.slice o.A1 o.n1 o.c1) ∧ V'.cell? ⟨g4, off4 + j * 3 + 2, none⟩ = some (.slice o.A2 o.n2 o.c2)) ∧ V'.cell? ⟨gy, 1, none⟩ = some (.int .u64 oo.tid.1) ∧ V'.cell? ⟨gy, 2, none⟩ = some (.int .i64 oo.tid.2))) := Lib.hid (fun V' hb => HS3.out V' (HV1.out.trans (hb.mono HV1.out.size)))
                      have HOL1 : Hid (∀ g, OldB o.hv o.wv g → g < V1.heap.size) := Lib.hid (fun g hg => Nat.lt_of_lt_of_le (HOL.out g hg) HV1.out.size)
                      clear hr hns hn2 HS3
                      go_upto_region 31 with fail
                      go_cut [13, 14] from 161 to 170 (fun v13 v14 wx => ∃ (gn : Nat) (B1 : Option Addr) (m1 c1 : Nat) (B2 : Option Addr) (m2 c2 : Nat) (B3 : Option Addr) (c3 : Nat), v13 = .pointer (some ⟨gn, 0, none⟩) ∧ v14 = .slice B3 n2 c3 ∧ NxR (OldB o.hv o.wv) V1 wx B gn o.key (.slice B1 m1 c1) (.slice B2 m2 c2) r.1 ∧ GOwn wx V1.heap.size (.slice B3 n2 c3) ns)
                      case first =>
                        refine abs_cut (by with_reducible assumption) fun A N hA hN => ?_
                        refine reg31_law (O := OldB o.hv o.wv) (l := r.1) (by kernel_rfl) j0 j1 HAW HS4 HOL1 (by rw [hA]; rfl) (by subst hA; intro h; rfl) (by subst hA; intro h; rfl) (by subst hA; intro h; rfl) ?_
                        intro A' W gn B1 m1 c1 B2 m2 c2 B3 c3 hkp h13 h14 hnx hgg
                        refine hN _ _ ?_
                        subst hA
                        rw [hkp.lit]
                        go_meet
                        case rel => exact ⟨gn, B1, m1, c1, B2, m2, c2, B3, c3, h13, h14, hnx, hgg⟩
                      case rest =>
                        obtain ⟨gn, B1, m1, c1, B2, m2, c2, B3, c3, rfl, rfl, hnx, hgg⟩ := hcut
                        obtain ⟨W3, hW3⟩ : ∃ V, V = wc := ⟨_, rfl⟩
                        rw [← hW3] at hnx hgg ⊢
                        clear hW3 wc HAW HS4
                        have HNX := Lib.hid hnx
                        have HGG := Lib.hid hgg
                        have HRF3 := Lib.hid (HRF1.out.below hnx.go)
                        clear hnx hgg
                        obtain ⟨y0, y1, y2⟩ := row3c HNX.out.row
                        obtain ⟨ga, oa, ea, _, x0, x1, x2⟩ := ln_cells (show Rd W3 W3.heap.size 3 (.slice (some ⟨g4, off4, none⟩) n4 c4) n4 (lnc os') from by have h := Own.rd HRF3.out.l.own; rw [← HNL.out] at h; exact h) HOE.out (by omega)
                        injection ea with ea
                        injection ea with ea1 ea2 _
                        subst ea1 ea2
                        have f0 := Own.frozen HRF3.out.l.own (g := g4) rfl (off4 + j * 3)
                        have f1 := Own.frozen HRF3.out.l.own (g := g4) rfl (off4 + j * 3 + 1)
                        have f2 := Own.frozen HRF3.out.l.own (g := g4) rfl (off4 + j * 3 + 2)
                        obtain ⟨W5, hW5⟩ : ∃ W5, W5 = ((W3.setCell ⟨g4, off4 + j * 3, none⟩ (.string o.key)).setCell ⟨g4, off4 + j * 3 + 1, none⟩ (.slice B1 m1 c1)).setCell ⟨g4, off4 + j * 3 + 2, none⟩ (.slice B2 m2 c2) := ⟨_, rfl⟩
                        have HRF5 : Hid (RunF X W5 B lt mb qs os (os'.set j ⟨o.key, B1, m1, c1, B2, m2, c2, r.1.1, r.1.2⟩) oo.tid (j + 1) gs gy #[.int .i64 oo.k, .int .u64 oo.tid.1, .int .i64 oo.tid.2, .string oo.key, .int .i64 oo.md] (.slice (some ⟨g4, off4, none⟩) n4 c4) (.slice A5 ng c5)) := Lib.hid (by
                          rw [hW5]
                          have h9 := HRF1.out.freed (k := o.key) (W := W3) (gn := gn) (B1 := B1) (m1 := m1) (c1 := c1) (B2 := B2) (m2 := m2) (c2 := c2) HOE.out rfl (by rw [← HR.out]; exact HNX.out) hX1
                          rw [← HR.out] at h9
                          exact h9)
                        have HG5 : Hid (GOwn W5 V1.heap.size (.slice B3 n2 c3) ns) := Lib.hid (by rw [hW5]; exact gown_laid HRF3.out.l HGG.out)
                        have HNEXT : Hid (gs ++ ns = allGs (os.take (j + 1)) oo.tid) := Lib.hid (by
                          obtain ⟨x, hx, hxk, hxl⟩ := HRF.out.at_ HOE.out
                          rw [HNS.out, HR.out]
                          exact gs_next hx HGS.out hxk hxl)
                        have hlim : ng + n2 ≤ 10000 := by
                          have h9 := allGs_le HRK.out (by omega) (by omega) oo.tid (j + 1)
                          rw [← HNEXT.out, List.length_append, ← HNG.out, ← HN2.out] at h9
                          exact h9
                        go_upto_region 33 with fail
                        rw [← hW5]
                        clear hW5 y0 y1 y2 x0 x1 x2 f0 f1 f2
                        have HAP := Lib.hid (app_gr HRF5.out.g HRF5.out.bx.size HN2.out (show Rd W5 W5.heap.size 4 (.slice B3 n2 c3) n2 (gc ns) from by have h := Own.rd HG5.out; rw [← HN2.out] at h; exact h) (by rw [← HNG.out]; omega) 32)
                        go_wp2_with (at_builtin; refine wpL_append rfl _ _ 32 32 rfl rfl rfl HAP.out ?_; rintro v11 w11 ⟨ho11, hf11⟩; have HO11 := Lib.hid ho11; have HF11 := Lib.hid hf11; clear ho11 hf11)
                        go_roundw
                        case rel => exact ⟨j + 1, _, gs ++ ns, by omega, by go_num, HRF5.out.app HO11.out HF11.out, HNEXT.out⟩
                        case measure => simp [intOf]; omega
              · skip
                as_aux_lemma =>
                  obtain rfl : n4 = j := by omega
                  have j1 : ¬ ((n4 : Int) < (n4 : Int)) := by omega
                  obtain ⟨⟨d0, d1⟩, d2, d3, d4⟩ := HYS.out _ HRF.out.row
                  have HFR := Lib.hid (free_full HRF.out.tb HRK.out.bnd (by have := HRK.out.len; omega) oo.tid (by omega))
                  go_upto_region 36 with (go_at_call 14; refine HFR.out.mono ?_; rintro e w7 ⟨A7, c7, qs', ks, gs2, rfl, hg2, hfo⟩; obtain ⟨hd1, hd2, hd3⟩ := HRF.out.done (i := i + 1) (by rw [← HN4.out]; exact Nat.le_refl _) HGS.out HRK.out HRL.out.sorted (by omega) (by omega) HSV4.out hfo HNF.out hX1; have hd4 := hd2.symm; subst hd4; rw [← HNG.out] at hg2; rw [← HNG.out]; have HG2 := Lib.hid hg2; have HD1 := Lib.hid hd1; have HD3 := Lib.hid hd3; clear hg2 hfo hd1 hd3 HFR)
                  clear d0 d1 d2 d3 d4
                  have hnn : ((ng : Int) != (ng : Int)) = false := by simp
                  go_upto_region 39 with fail
                  go_loopw [16, 190] (fun v16 v190 wq => ∃ q : Nat, q ≤ ng ∧ v190 = .int .i64 q ∧ Below w7.heap.size w7 wq) (fun _ v190 _ => ng - (intOf v190).toNat)
                  case atStart => exact ⟨0, Nat.zero_le _, rfl, Below.refl _ _⟩
                  case round =>
                    obtain ⟨q, hq, rfl, hbq⟩ := hrel
                    have HBQ := Lib.hid hbq
                    by_cases hlq : q < ng
                    · obtain ⟨t, ht⟩ : ∃ t, gs[q]? = some t := ⟨gs[q]'(by rw [← HNG.out]; exact hlq), List.getElem?_eq_getElem _⟩
                      have i0' : (0 : Int) ≤ (q : Int) := by omega
                      have i1' : (q : Int) < (ng : Int) := by omega
                      obtain ⟨g7, o7, e7, a0, a1, a2, a3⟩ := gr_cells (show Rd wr wr.heap.size 4 (.slice A7 ng c7) ng (gc gs) from by have h := Own.rd (Own.below HG2.out hbq); rw [← HNG.out] at h; exact h) ht (by omega)
                      obtain ⟨g6, o6, e6, b0, b1, b2, b3⟩ := gr_cells (show Rd wr wr.heap.size 4 (.slice A5 ng c5) ng (gc gs) from by have h := Own.rd (Own.below HD3.out hbq); rw [← HNG.out] at h; exact h) ht (by omega)
                      subst e7 e6
                      clear ht hbq
                      go_upto_region 41 with fail
                      go_quiet (fail)
                      go_wp2_with fail
                      go_roundw
                      case rel => exact ⟨q + 1, by omega, by go_num, below_drewN HBQ.out _⟩
                      case measure => simp [intOf]; omega
                    · have i1' : ¬ ((q : Int) < (ng : Int)) := by omega
                      clear hbq
                      go_wp2_with fail
                      go_meet
                      case rel => exact ⟨HD1.out.1.below HBQ.out, HD1.out.2.1.trans (HBQ.out.mono HD1.out.2.1.size), blk_below HD1.out.2.2 HBQ.out⟩
        have z1 : (oo.k == 1) = false := by simp [hk1]
        clear hk0 hk1
        go_wp2_with fail
        go_meet
        case rel => exact ⟨⟨qs, os, HTY.out, HLY.out, HRK.out.more (by omega) (by omega), HSV.out⟩, HBY.out, HYR.out⟩
      case rest =>
        as_aux_lemma =>
          obtain ⟨⟨qs, os, htb, hrl, hrk, hsv⟩, hbx, hgy⟩ := hcut
          obtain ⟨V, hV⟩ : ∃ V, V = wc := ⟨_, rfl⟩
          rw [← hV] at htb hrl hbx hgy ⊢
          clear hV wc HTB HRL HRK HN4 hc4 hm4 hno HSV
          have HTB := Lib.hid htb
          have HRL := Lib.hid hrl
          have HRK := Lib.hid hrk
          have HBX := Lib.hid hbx
          have HGY := Lib.hid hgy
          have hszv := hbx.size
          obtain ⟨A5, c5, e5, hc5, hm5⟩ := hrl.own.form_
          obtain ⟨n5, hn5⟩ : ∃ n, n = os.length := ⟨_, rfl⟩
          rw [← hn5] at e5 hc5
          subst e5
          have HSV := Lib.hid hsv
          clear hsv
          have HN5 := Lib.hid hn5
          have hno5 : n5 ≤ 61 := by rw [hn5]; have := hrk.osl; omega
          unfold maxLen at hm5
          clear htb hrl hrk hbx hgy hn5
          go_upto_region 47 with fail
          go_loopw [17, 18, 206] (fun v17 v18 v206 w2 => ∃ j : Nat, j ≤ n5 ∧ v206 = .int .i64 j ∧ v17 = .int .i64 (((os.take j).filter fullB).length : Nat) ∧ SOwn w2 V.heap.size v18 (((os.take j).filter fun o => hasT o.has oo.tid).map Ln.key) ∧ Below V.heap.size V w2) (fun _ _ v206 _ => n5 - (intOf v206).toNat)
          case atStart => exact ⟨0, Nat.zero_le _, rfl, rfl, ⟨by simp [sc], .inr ⟨V.heap.size, 0, 0, #[], rfl, Nat.le_refl _, heap_alloc_new V _, Nat.le_refl _, Nat.zero_le _, by simp, by simp [sc]⟩⟩, (Below.refl _ _).alloc (Nat.le_refl _) _⟩
          case round =>
            obtain ⟨j, hj, rfl, rfl, hso, hb2⟩ := hrel
            obtain ⟨A6, c6, e6⟩ := hso.form
            obtain ⟨ky, hky⟩ : ∃ k, k = ((os.take j).filter fun o => hasT o.has oo.tid).map Ln.key := ⟨_, rfl⟩
            obtain ⟨n6, hn6⟩ : ∃ n, n = ky.length := ⟨_, rfl⟩
            rw [← hky, ← hn6] at e6
            rw [← hky] at hso
            subst e6
            obtain ⟨cn, hcn⟩ : ∃ c, c = ((os.take j).filter fullB).length := ⟨_, rfl⟩
            rw [← hcn]
            have hcn6 : cn ≤ 61 := by rw [hcn]; have h1 := List.length_filter_le fullB (os.take j); rw [List.length_take] at h1; omega
            have hn66 : n6 ≤ 61 := by rw [hn6, hky, List.length_map]; have h1 := List.length_filter_le (fun o : Ln => hasT o.has oo.tid) (os.take j); rw [List.length_take] at h1; omega
            have HKY := Lib.hid hky
            have HN6 := Lib.hid hn6
            have HCT := Lib.hid hcn
            have HSO6 := Lib.hid hso
            have HB2 := Lib.hid hb2
            have hsz2 := hb2.size
            clear hso hb2 hky hn6 hcn
            have HTB2 := Lib.hid (HTB.out.below HB2.out)
            have HRL2 := Lib.hid (HRL.out.below HB2.out)
            by_cases hlj : j < n5
            · obtain ⟨o, ho⟩ : ∃ o, os[j]? = some o := ⟨os[j]'(by rw [← HN5.out]; omega), List.getElem?_eq_getElem _⟩
              have j0 : (0 : Int) ≤ (j : Int) := by omega
              have j1 : (j : Int) < (n5 : Int) := by omega
              obtain ⟨ga, oa, ea, hga, a0, a1, a2⟩ := ln_cells (show Rd wr wr.heap.size 3 (.slice A5 n5 c5) n5 (lnc os) from by have h := Own.rd HRL2.out.own; rw [← HN5.out] at h; exact h) ho (by omega)
              subst ea
              have hom := List.mem_of_getElem? ho
              obtain ⟨hr1, hr2⟩ := HRL2.out.rows o hom
              have hn1 : o.n1 = o.has.length := by obtain ⟨_, _, e, _⟩ := hr1.form_; unfold Ln.hv at e; injection e
              have hn2 : o.n2 = o.waits.length := by obtain ⟨_, _, e, _⟩ := hr2.form_; unfold Ln.wv at e; injection e
              have hbd := HRK.out.bnd o.key
              rw [HRK.out.same1 o hom] at hbd
              have hb12 : o.n1 + o.n2 ≤ 61 := by rw [hn1, hn2]; exact Nat.le_trans hbd (by omega)
              have HR1 : Hid (Own wr B 47 3 (.slice o.A1 o.n1 o.c1) o.n1 (wc o.has)) := Lib.hid (by unfold LOwn at hr1; rw [← hn1] at hr1; exact hr1)
              have HR2 : Hid (Own wr B 47 3 (.slice o.A2 o.n2 o.c2) o.n2 (wc o.waits)) := Lib.hid (by unfold LOwn at hr2; rw [← hn2] at hr2; exact hr2)
              have HO1 := Lib.hid hn1
              have HO2 := Lib.hid hn2
              have HOM := Lib.hid hom
              have HTK : Hid (os.take (j + 1) = os.take j ++ [o]) := Lib.hid (by rw [List.take_add_one, ho]; rfl)
              clear ho hom hr1 hr2 hn1 hn2 hbd hga
              obtain ⟨gz, hgz⟩ : ∃ g, g = wr.heap.size := ⟨_, rfl⟩
              obtain ⟨Z, hZ⟩ : ∃ Y, Y = wr.alloc (.cells #[.string o.key, .slice o.A1 o.n1 o.c1, .slice o.A2 o.n2 o.c2] 52) := ⟨_, rfl⟩
              have HZB : Hid (Below wr.heap.size wr Z) := Lib.hid (by rw [hZ]; exact (Below.refl _ _).alloc (Nat.le_refl _) _)
              have HZR : Hid (Z.heap[gz]? = some (.cells #[.string o.key, .slice o.A1 o.n1 o.c1, .slice o.A2 o.n2 o.c2] 52 (0, 0))) := Lib.hid (by rw [hZ, hgz]; exact heap_alloc_new wr _)
              go_upto_region 49 with fail
              rw [← hZ, ← hgz]
              have HVZ : Hid (Below V.heap.size V Z) := Lib.hid (HB2.out.trans (HZB.out.mono hsz2))
              have HTZ := Lib.hid (HTB2.out.below HZB.out)
              have HSZ : Hid (SOwn Z V.heap.size (.slice A6 n6 c6) ky) := Lib.hid (Own.below HSO6.out HZB.out)
              clear hZ hgz a0 a1 a2
              have HGZ : Hid (∀ V', Below Z.heap.size Z V' → (V'.cell? ⟨gz, 0, none⟩ = some (.string o.key) ∧ V'.cell? ⟨gz, 1, none⟩ = some (.slice o.A1 o.n1 o.c1) ∧ V'.cell? ⟨gz, 2, none⟩ = some (.slice o.A2 o.n2 o.c2))) := Lib.hid (fun V' hb => row3c (blk_below HZR.out hb))
              obtain ⟨q0, q1, q2⟩ := HGZ.out Z (Below.refl _ _)
              obtain ⟨bf, hbf⟩ : ∃ b, b = fullB o := ⟨_, rfl⟩
              have HBF : Hid (fullB o = bf) := Lib.hid hbf.symm
              have hfull : bf = decide (0 < o.n1 + o.n2) := by rw [hbf]; unfold fullB; rw [← HO1.out, ← HO2.out]
              clear hbf
              obtain ⟨cn2, hcn2⟩ : ∃ c, c = cn + (if bf then 1 else 0) := ⟨_, rfl⟩
              have HMF : Hid (([o].filter fullB).length = cn2 - cn ∧ cn ≤ cn2) := Lib.hid (by rw [hcn2, List.filter_cons, HBF.out]; cases bf <;> simp)
              have HCN2 := Lib.hid hcn2
              go_upto_if 217 with fail
              go_cut [17] from 210 to 219 (fun v17 wx => v17 = .int .i64 cn2 ∧ wx = Z)
              case first =>
                by_cases hf : 0 < o.n1 + o.n2
                · have hf1 : (0 : Int) < (o.n1 : Int) + (o.n2 : Int) := by omega
                  have hcc : cn2 = cn + 1 := by rw [hcn2, hfull, decide_eq_true hf]; rfl
                  have HCC := Lib.hid hcc
                  clear hcn2 hfull hcc
                  go_wp2_with fail
                  go_meet
                  case rel => exact ⟨by rw [HCC.out]; go_num, rfl⟩
                · have hf1 : ¬ ((0 : Int) < (o.n1 : Int) + (o.n2 : Int)) := by omega
                  have hcc : cn2 = cn := by rw [hcn2, hfull, decide_eq_false hf]; rfl
                  have HCC := Lib.hid hcc
                  clear hcn2 hfull hcc
                  go_wp2_with fail
                  go_meet
                  case rel => exact ⟨by rw [HCC.out], rfl⟩
              case rest =>
                obtain ⟨rfl, hwz⟩ := hcut
                rw [hwz]
                clear hwz wc hcn2 hfull
                as_aux_lemma =>
                  have HHA : Hid (∀ V', Below Z.heap.size Z V' → Calls Try.prog 15 #[.pointer (some ⟨lt, 0, none⟩), .string o.key] V' fun e w' => ∃ A c, e = .returned (.slice A o.n1 c) ∧ Rd w' w'.heap.size 3 (.slice A o.n1 c) o.n1 (wc o.has) ∧ Below Z.heap.size Z w') := Lib.hid (fun V' hb => by
                    refine (has_any (HTZ.out.below hb) (HRL.out.ok o HOM.out) (N := 61) (by omega) (HRK.out.more (N' := 61) (M' := 61) (by omega) (by omega)).bnd).mono ?_
                    rintro e w' ⟨A, c, he, hown, hb'⟩
                    rw [HRK.out.same1 o HOM.out] at he hown
                    have he' : e = .returned (.slice A o.n1 c) := by rw [HO1.out]; exact he
                    have hr' : Rd w' w'.heap.size 3 (.slice A o.n1 c) o.n1 (wc o.has) := by rw [HO1.out]; exact hown.rd
                    exact ⟨A, c, he', hr', hb.trans (hb'.mono hb.size)⟩)
                  have HWA : Hid (∀ V', Below Z.heap.size Z V' → Calls Try.prog 17 #[.pointer (some ⟨lt, 0, none⟩), .string o.key] V' fun e w' => ∃ A c, e = .returned (.slice A o.n2 c) ∧ Rd w' w'.heap.size 3 (.slice A o.n2 c) o.n2 (wc o.waits) ∧ Below Z.heap.size Z w') := Lib.hid (fun V' hb => by
                    refine (waiting_any (HTZ.out.below hb) (HRL.out.ok o HOM.out) (N := 61) (by omega) (HRK.out.more (N' := 61) (M' := 61) (by omega) (by omega)).bnd).mono ?_
                    rintro e w' ⟨A, c, he, hown, hb'⟩
                    rw [HRK.out.same1 o HOM.out] at he hown
                    have he' : e = .returned (.slice A o.n2 c) := by rw [HO2.out]; exact he
                    have hr' : Rd w' w'.heap.size 3 (.slice A o.n2 c) o.n2 (wc o.waits) := by rw [HO2.out]; exact hown.rd
                    exact ⟨A, c, he', hr', hb.trans (hb'.mono hb.size)⟩)
                  have HZ1 : Hid (Own Z B 47 3 (.slice o.A1 o.n1 o.c1) o.n1 (wc o.has)) := Lib.hid (HR1.out.below HZB.out)
                  have HZ2 : Hid (Own Z B 47 3 (.slice o.A2 o.n2 o.c2) o.n2 (wc o.waits)) := Lib.hid (HR2.out.below HZB.out)
                  have HSM1 : Hid (∀ (V' : World) (A : Option Addr) (c : Nat), Below Z.heap.size Z V' → Rd V' V'.heap.size 3 (.slice A o.n1 c) o.n1 (wc o.has) → Calls Try.prog 18 #[.slice A o.n1 c, .slice o.A1 o.n1 o.c1] V' fun e w' => e = .returned (.bool true) ∧ Below Z.heap.size Z w') := Lib.hid (fun V' A c hb hr => (same_any HO1.out hr (HZ1.out.below hb).rd).mono fun e w' h => ⟨h.1, hb.trans (h.2.mono hb.size)⟩)
                  have HSM2 : Hid (∀ (V' : World) (A : Option Addr) (c : Nat), Below Z.heap.size Z V' → Rd V' V'.heap.size 3 (.slice A o.n2 c) o.n2 (wc o.waits) → Calls Try.prog 18 #[.slice A o.n2 c, .slice o.A2 o.n2 o.c2] V' fun e w' => e = .returned (.bool true) ∧ Below Z.heap.size Z w') := Lib.hid (fun V' A c hb hr => (same_any HO2.out hr (HZ2.out.below hb).rd).mono fun e w' h => ⟨h.1, hb.trans (h.2.mono hb.size)⟩)
                  have HRI : Hid (∀ (V' : World), Below Z.heap.size Z V' → Calls Try.prog 16 #[.slice o.A1 o.n1 o.c1, .slice o.A2 o.n2 o.c2] V' fun e w' => e = .returned (.bool true) ∧ Below Z.heap.size Z w') := Lib.hid (fun V' hb => (right_any (HRL.out.lk o HOM.out).right HO1.out HO2.out (HZ1.out.below hb).rd (HZ2.out.below hb).rd).mono fun e w' h => ⟨h.1, hb.trans (h.2.mono hb.size)⟩)
                  go_upto_region 51 with fail
                  go_region_held3 (fun V' => V'.cell? ⟨gz, 0, none⟩ = some (.string o.key) ∧ V'.cell? ⟨gz, 1, none⟩ = some (.slice o.A1 o.n1 o.c1) ∧ V'.cell? ⟨gz, 2, none⟩ = some (.slice o.A2 o.n2 o.c2))
                    ((first | (refine HGZ.out _ ?_; repeat (first | with_reducible exact Below.refl _ _ | exact HC9.out | exact HC8.out | exact HC7.out | exact HC6.out | exact HC5.out | with_reducible refine Below.drew ?_))))
                    ((first
                      | (go_at_call 15; refine (HHA.out _ ?_).mono ?_; (repeat (first | with_reducible exact Below.refl _ _ | with_reducible refine Below.drew ?_)); rintro e w5 ⟨A8, c8, rfl, hr5, hb5⟩; have HC5 := Lib.hid hb5; have HD5 := Lib.hid hr5; clear hb5 hr5)
                      | (go_at_call 18; with_reducible refine (HSM1.out _ _ _ ?_ ?_).mono ?_; (repeat (first | exact HC5.out | exact HD5.out | with_reducible refine Below.drew ?_)); rintro e w6 ⟨rfl, hb6⟩; have HC6 := Lib.hid hb6; clear hb6)
                      | (go_at_call 17; refine (HWA.out _ ?_).mono ?_; (repeat (first | exact HC6.out | with_reducible refine Below.drew ?_)); rintro e w7 ⟨A9, c9, rfl, hr7, hb7⟩; have HC7 := Lib.hid hb7; have HD7 := Lib.hid hr7; clear hb7 hr7)
                      | (go_at_call 18; with_reducible refine (HSM2.out _ _ _ ?_ ?_).mono ?_; (repeat (first | exact HC7.out | exact HD7.out | with_reducible refine Below.drew ?_)); rintro e w8 ⟨rfl, hb8⟩; have HC8 := Lib.hid hb8; clear hb8)
                      | (go_at_call 16; refine (HRI.out _ ?_).mono ?_; (repeat (first | exact HC8.out | with_reducible refine Below.drew ?_)); rintro e w9 ⟨rfl, hb9⟩; have HC9 := Lib.hid hb9; clear hb9)))
                  rename_i hheld
                  clear hheld q0 q1 q2 HSM1 HSM2 HRI HHA HWA
                  have HV9 : Hid (Below V.heap.size V w9) := Lib.hid (HVZ.out.trans (HC9.out.mono HVZ.out.size))
                  have HS9 : Hid (SOwn w9 V.heap.size (.slice A6 n6 c6) ky) := Lib.hid (Own.below HSZ.out HC9.out)
                  obtain ⟨q0, q1, q2⟩ := HGZ.out w9 HC9.out
                  obtain ⟨⟨d0, d1⟩, d2, d3, d4⟩ := HYS.out _ (blk_below HGY.out HV9.out)
                  have HFI := Lib.hid (findL_any HO1.out (HZ1.out.below HC9.out).rd oo.tid)
                  obtain ⟨rz, hrz⟩ : ∃ r, r = firstZ (fun u => sameT u oo.tid) o.has := ⟨_, rfl⟩
                  rw [← hrz] at HFI
                  have HHT : Hid (hasT o.has oo.tid = decide (0 ≤ rz)) := Lib.hid (by unfold hasT; rw [any_first, hrz])
                  clear hrz
                  go_upto_if 251 with (go_at_call 20; refine HFI.out.mono ?_; rintro e w10 ⟨rfl, hb10⟩; have HB10 : Hid (Below V.heap.size V w10) := Lib.hid (HV9.out.trans (hb10.mono HV9.out.size)); have HZ10 := Lib.hid (HC9.out.trans (hb10.mono HC9.out.size)); have HS10 : Hid (SOwn w10 V.heap.size (.slice A6 n6 c6) ky) := Lib.hid (Own.below HS9.out hb10); clear hb10 HFI)
                  clear q0 q1 q2 d0 d1 d2 d3 d4
                  obtain ⟨q0, q1, q2⟩ := HGZ.out w10 HZ10.out
                  by_cases hrz : 0 ≤ rz
                  · have HMK : Hid (((os.take (j + 1)).filter fun o => hasT o.has oo.tid).map Ln.key = ky ++ [o.key]) := Lib.hid (by rw [HTK.out, List.filter_append, List.map_append, ← HKY.out, List.filter_cons, if_pos (by rw [HHT.out]; exact decide_eq_true hrz)]; rfl)
                    have HAP := Lib.hid (app_s HS10.out HB10.out.size o.key (by rw [← HN6.out]; omega) 40)
                    go_wp2_with (at_builtin; refine wpL_append rfl _ _ 40 40 rfl rfl rfl HAP.out ?_; rintro v11 w11 ⟨ho11, hb11⟩; have HO11 := Lib.hid ho11; have HB11 := Lib.hid hb11; clear ho11 hb11)
                    go_roundw
                    case rel => exact ⟨j + 1, by omega, by go_num, by have h := HMF.out; rw [HTK.out, List.filter_append, List.length_append, ← HCT.out, h.1, Nat.add_sub_cancel' h.2], by rw [HMK.out]; exact HO11.out, HB10.out.trans HB11.out⟩
                    case measure => simp [intOf]; omega
                  · have hrz2 : rz < 0 := by omega
                    have HMK : Hid (((os.take (j + 1)).filter fun o => hasT o.has oo.tid).map Ln.key = ky) := Lib.hid (by rw [HTK.out, List.filter_append, List.map_append, ← HKY.out, List.filter_cons, if_neg (by rw [HHT.out, decide_eq_false hrz]; simp)]; simp)
                    go_wp2_with fail
                    go_roundw
                    case rel => exact ⟨j + 1, by omega, by go_num, by have h := HMF.out; rw [HTK.out, List.filter_append, List.length_append, ← HCT.out, h.1, Nat.add_sub_cancel' h.2], by rw [HMK.out]; exact HS10.out, HB10.out⟩
                    case measure => simp [intOf]; omega
            · as_aux_lemma =>
                obtain rfl : n5 = j := by omega
                have j1 : ¬ ((n5 : Int) < (n5 : Int)) := by omega
                have HKM : Hid (ky = (os.filter fun o => hasT o.has oo.tid).map Ln.key) := Lib.hid (by rw [HKY.out, HN5.out, List.take_length])
                have HCM : Hid (cn = (os.filter fullB).length) := Lib.hid (by rw [HCT.out, HN5.out, List.take_length])
                obtain ⟨U, hU⟩ : ∃ U, U = wr := ⟨_, rfl⟩
                rw [← hU] at HSO6 HB2 HTB2 HRL2 hsz2 ⊢
                clear hU
                obtain ⟨⟨d0, d1⟩, d2, d3, d4⟩ := HYS.out _ (blk_below HGY.out HB2.out)
                have HKE := Lib.hid (keysT_any HTB2.out oo.tid (by have := HRK.out.len; omega) (by
                  obtain ⟨_, _, _, _, h3, _⟩ := HTB2.out.fm
                  exact h3))
                go_upto_region 57 with (go_at_call 22; refine HKE.out.mono ?_; rintro e w7 ⟨v7, ks, rfl, hp7, hs7, ho7, hb7⟩; have hpm : (ks.map ofB).Perm (qs.map (·.1)) := (by have := hp7.map ofB; rw [List.map_map] at this; exact this); have HKL : Hid (qs.length = cn) := Lib.hid (by rw [HCM.out]; exact HRK.out.count HRL.out.sorted HTB.out.fm.keys hpm hs7); rw [HRK.out.mine HRL.out.sorted HTB.out.fm.keys hpm hs7 oo.tid, ← HKM.out] at ho7; obtain ⟨A7, c7, e7⟩ := ho7.form; rw [← HN6.out] at e7; subst e7; have HO7 := Lib.hid ho7; have HB7 := Lib.hid hb7; clear hp7 hs7 hpm ho7 hb7 HKE)
                clear d0 d1 d2 d3 d4
                have HT7 := Lib.hid (HTB2.out.below HB7.out)
                have HLN : Hid (Calls Try.prog 23 #[.pointer (some ⟨lt, 0, none⟩)] w7 fun e w' => e = .returned (.int .i64 cn) ∧ w' = w7) := Lib.hid (by rw [← HKL.out]; exact len_any HT7.out)
                have HS7 : Hid (SOwn w7 V.heap.size (.slice A6 n6 c6) ky) := Lib.hid (Own.below HSO6.out HB7.out)
                have hnn1 : ((cn : Int) != (cn : Int)) = false := by simp
                have hnn2 : ((n6 : Int) != (n6 : Int)) = false := by simp
                have hs7 := HB7.out.size
                go_upto_region 60 with (go_at_call 23; refine HLN.out.mono ?_; rintro e wz ⟨rfl, hwz⟩; rw [hwz]; clear hwz wz)
                go_loopw [275] (fun v wq => ∃ q : Nat, q ≤ n6 ∧ v = .int .i64 q ∧ Below w7.heap.size w7 wq) (fun v _ => n6 - (intOf v).toNat)
                case atStart => exact ⟨0, Nat.zero_le _, rfl, Below.refl _ _⟩
                case round =>
                  obtain ⟨q, hq, rfl, hbq⟩ := hrel
                  have HBQ := Lib.hid hbq
                  clear hbq
                  by_cases hlq : q < n6
                  · obtain ⟨s, hs⟩ : ∃ s, ky[q]? = some s := ⟨ky[q]'(by rw [← HN6.out]; omega), List.getElem?_eq_getElem _⟩
                    have i0' : (0 : Int) ≤ (q : Int) := by omega
                    have i1' : (q : Int) < (n6 : Int) := by omega
                    have hr7 := Own.rd (Own.below HO7.out HBQ.out)
                    have hr6 := Own.rd (Own.below HS7.out HBQ.out)
                    rw [← HN6.out] at hr7 hr6
                    obtain ⟨g7, o7, cz7, e7, _, _, _, hx7⟩ := hr7.cells (by omega)
                    obtain ⟨g6, o6, cz6, e6, _, _, _, hx6⟩ := hr6.cells (by omega)
                    injection e7 with e71 _ e72
                    subst e71 e72
                    injection e6 with e61 _ e62
                    subst e61 e62
                    have a7 : wr.cell? ⟨g7, o7 + q, none⟩ = some (.string s) := hx7 q _ (by unfold sc; rw [List.getElem?_map, hs]; rfl)
                    have a6 : wr.cell? ⟨g6, o6 + q, none⟩ = some (.string s) := hx6 q _ (by unfold sc; rw [List.getElem?_map, hs]; rfl)
                    clear hx7 hx6 hs hr7 hr6
                    go_upto_region 62 with fail
                    go_quiet (fail)
                    go_wp2_with fail
                    go_roundw
                    case rel => exact ⟨q + 1, by omega, by go_num, below_drewN HBQ.out _⟩
                    case measure => simp [intOf]; omega
                  · have i1' : ¬ ((q : Int) < (n6 : Int)) := by omega
                    have HU7 : Hid (Below U.heap.size U wr) := Lib.hid (HB7.out.trans (HBQ.out.mono hs7))
                    have HV7 : Hid (Below V.heap.size V wr) := Lib.hid (HB2.out.trans (HU7.out.mono hsz2))
                    go_wp2_with fail
                    go_roundw
                    case rel => exact ⟨i + 1, by omega, by omega, by go_num, ⟨qs, os, HTB.out.below HV7.out, by have h := HRL.out.below HV7.out; exact h, HRK.out, HSV.out⟩, HBX.out.trans (HV7.out.mono hszv)⟩
                    case measure => simp [intOf]; omega
    · by_cases hin2 : i < n
      · have hi60' : ¬ ((i : Int) < 60) := by omega
        have hin3 : (i : Int) < (n : Int) := by omega
        go_wp2_with fail
        go_ret
        exact ⟨rfl, HXB.out.trans (HBL.out.mono HXB.out.size)⟩
      · have hin3 : ¬ ((i : Int) < (n : Int)) := by omega
        go_wp2_with fail
        go_ret
        exact ⟨rfl, HXB.out.trans (HBL.out.mono HXB.out.size)⟩
#print axioms runs_any
end Go.Proofs.Ytcceankldiafpaa.Lock
