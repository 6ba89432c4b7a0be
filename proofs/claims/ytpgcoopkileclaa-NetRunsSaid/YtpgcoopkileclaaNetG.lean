/- NetRuns: the walk. -/
import Derived.Test.YtpgcoopkileclaaNetFb
import Derived.StillTailTactics
import Derived.Deep.RegionHeld3
import Derived.Deep.CutBlock
set_option linter.unusedVariables false
set_option linter.unusedSimpArgs false
set_option linter.unusedSectionVars false
namespace Go.Proofs.Ytpgcoopkileclaa.NetA
open Go.RowKit Go.WideShapes Go.Deep Go.Proofs.Ytpgcoopkileclaa.Mem Go.Proofs.Ytpgcoopkileclaa.Open Go.Proofs.Ytpgcoopkileclaa.Bits
set_option maxHeartbeats 20000000 in
set_option maxRecDepth 100000 in
theorem runs_any (v0 : Value) (os : List OpN) (w : World) (h : OpsIn w v0 os) :
    Calls Try.prog 4 #[v0] w fun e w' => e = .returned (.bool true) ∧ Below w.heap.size w w' := by
  obtain ⟨n, hn⟩ : ∃ n, n = os.length := ⟨_, rfl⟩
  have hl0 := h.rd.len_le
  unfold maxLen at hl0
  obtain ⟨A0, c0, rfl⟩ : ∃ A c, v0 = .slice A n c := by
    obtain ⟨_, A, c, e, _⟩ := h.rd
    exact ⟨A, c, by rw [hn]; exact e⟩
  rw [← hn] at hl0
  have H := Lib.hid h
  have HN := Lib.hid hn
  clear h hn
  go_enter Try.func4, Try.ntmps4
  go_wp2_with fail
  refine (head_any w).mono ?_
  rintro e w0 ⟨rfl, hb⟩
  have HB := Lib.hid hb
  have HL := Lib.hid (H.out.up hb)
  have hs0 := hb.size
  clear hb H
  go_wp2_with fail
  go_loopw [4, 5] (fun v4 v5 wr => ∃ (i m : Nat) (av : Value) (A1 : Option Addr) (c1 : Nat) (rs own : List R3), v5 = .int .i64 i ∧ i ≤ n ∧ i ≤ 60 ∧ v4 = .slice A1 m c1 ∧ m = own.length ∧ rs.length = m ∧ m ≤ i ∧ said rs = said own ∧ Two wr w0.heap.size w0.heap.size av rs (.slice A1 m c1) own ∧ Below w0.heap.size w0 wr) (fun _ i _ => n - (intOf i).toNat)
  case atStart => exact ⟨0, 0, _, _, _, [], [], rfl, by omega, by omega, rfl, rfl, rfl, by omega, rfl, Two.new w0, ((Below.refl _ _).alloc (Nat.le_refl _) _).alloc (by simp) _⟩
  case round =>
    obtain ⟨i, m, av, A1, c1, rs, own, rfl, hin, hi60, rfl, hm, hrl, hmi, hsaid, htwo, hbl⟩ := hrel
    have HT := Lib.hid htwo
    have HBL := Lib.hid hbl
    have HSAID := Lib.hid hsaid
    have HM := Lib.hid hm
    have HRL := Lib.hid hrl
    have hsr := hbl.size
    clear htwo hbl hsaid hm hrl
    by_cases hlt : i < n ∧ i < 60
    · obtain ⟨hlt1, hlt2⟩ := hlt
      have hlt3 : (i : Int) < (n : Int) := by omega
      have hlt4 : (i : Int) < 60 := by omega
      obtain ⟨oo, hoo⟩ : ∃ oo, os[i]? = some oo := ⟨os[i]'(by rw [← HN.out]; omega), List.getElem?_eq_getElem _⟩
      obtain ⟨g, off, ce, hv0, hg, _, _, hx⟩ := HL.out.rd.cells (by rw [← HN.out]; omega)
      injection hv0 with hv01 hv00 hv02
      clear hv00
      subst hv01 hv02
      obtain ⟨hrb, hwat, hwi, hwk⟩ := HL.out.each _ (List.mem_of_getElem? hoo)
      obtain ⟨k, at_, i_, bv, b, y⟩ := oo
      dsimp only at hrb hwat hwi hwk
      have hR := (hrb.below HBL.out).more hsr
      obtain ⟨Ab, cb, hbv⟩ : ∃ A c, bv = .slice A b.length c := by
        obtain ⟨_, A, c, e, _⟩ := hR
        exact ⟨A, c, e⟩
      subst hbv
      have hwr : ∀ {j : Nat} {u : Value}, w0.cell? ⟨g, j, none⟩ = some u → wr.cell? ⟨g, j, none⟩ = some u := fun {j u} hu => (HBL.out.cell (p := ⟨g, j, none⟩) hg).trans hu
      have k0 : wr.cell? ⟨g, off + i * 5, none⟩ = some (.int .i64 k) := hwr (hx _ _ (occ_at hoo 0 _ rfl))
      have k1 : wr.cell? ⟨g, off + i * 5 + 1, none⟩ = some (.int .i64 at_) := hwr (by rw [Nat.add_assoc]; exact hx _ _ (occ_at hoo 1 _ rfl))
      have k2 : wr.cell? ⟨g, off + i * 5 + 2, none⟩ = some (.int .i64 i_) := hwr (by rw [Nat.add_assoc]; exact hx _ _ (occ_at hoo 2 _ rfl))
      have k3 : wr.cell? ⟨g, off + i * 5 + 3, none⟩ = some (.slice Ab b.length cb) := hwr (by rw [Nat.add_assoc]; exact hx _ _ (occ_at hoo 3 _ rfl))
      have k4 : wr.cell? ⟨g, off + i * 5 + 4, none⟩ = some (.int .u8 (y.toNat : Int)) := hwr (by rw [Nat.add_assoc]; exact hx _ _ (occ_at hoo 4 _ rfl))
      have HR := Lib.hid hR
      have HWAT := Lib.hid hwat
      have HWI := Lib.hid hwi
      obtain ⟨q, hq⟩ : ∃ q, q = wr.heap.size := ⟨_, rfl⟩
      obtain ⟨X, hX⟩ : ∃ X, X = wr.alloc (opR ⟨k, at_, i_, .slice Ab b.length cb, b, y⟩) := ⟨_, rfl⟩
      have HXB : Hid (Below wr.heap.size wr X) := Lib.hid (by rw [hX]; exact (Below.refl _ _).alloc (Nat.le_refl _) _)
      have HXR : Hid (X.heap[q]? = some (opR ⟨k, at_, i_, .slice Ab b.length cb, b, y⟩)) := Lib.hid (by rw [hX, hq]; exact heap_alloc_new _ _)
      have hxs : X.heap.size = q + 1 := by rw [hX, hq]; simp
      have HTX : Hid (Two X w0.heap.size w0.heap.size av rs (.slice A1 m c1) own) := Lib.hid (HT.out.below HXB.out)
      have HBX : Hid (Below w0.heap.size w0 X) := Lib.hid (HBL.out.trans (HXB.out.mono hsr))
      have HRX : Hid (Rd X X.heap.size 1 (.slice Ab b.length cb) b.length (bc b)) := Lib.hid ((HR.out.below HXB.out).more HXB.out.size)
      have HXN : Hid (∀ g, OFoot (.slice A1 m c1) own g ∨ Foot w0.heap.size av rs g → g < q) := Lib.hid (fun g hg => by rw [hq]; exact (HT.out.feet hg).2)
      unfold opR at hX
      dsimp only at hX
      have HOO := Lib.hid hoo
      clear hx hrb hR hoo hwr HT HR hwat hwi hwk
      go_upto_region 9 with fail
      rw [← hX, ← hq]
      clear k0 k1 k2 k3 k4 hX HXB HBL hq hsr
      obtain ⟨e0, e1, e2, e3, e4⟩ := op_cells HXR.out
      dsimp only at e0 e1 e2 e3 e4
      by_cases h300 : 300 < b.length
      · go_wp2_with fail
        go_roundw
        case rel => exact ⟨i + 1, m, av, A1, c1, rs, own, by go_num, by omega, by omega, rfl, HM.out, HRL.out, by omega, HSAID.out, HTX.out, HBX.out⟩
        case measure => simp [intOf]; omega
      have hb3 : b.length ≤ 300 := by omega
      have hsx : w0.heap.size ≤ X.heap.size := HBX.out.size
      go_upto_region 10 with fail
      clear e0 e2 e3 e4
      go_cut [7] from 44 to 53 (fun v7 wx => v7 = .bool (decide (0 ≤ at_ ∧ at_ < (m : Int))) ∧ X = wx)
      case first =>
        by_cases p1 : 0 ≤ at_
        · by_cases p2 : at_ < (m : Int)
          · go_wp2_with fail
            go_meet
            case rel => exact ⟨by rw [decide_eq_true (show 0 ≤ at_ ∧ at_ < (m : Int) by omega)], rfl⟩
          · go_wp2_with fail
            go_meet
            case rel => exact ⟨by rw [decide_eq_false (show ¬ (0 ≤ at_ ∧ at_ < (m : Int)) by omega)], rfl⟩
        · go_wp2_with fail
          go_meet
          case rel => exact ⟨by rw [decide_eq_false (show ¬ (0 ≤ at_ ∧ at_ < (m : Int)) by omega)], rfl⟩
      case rest =>
        obtain ⟨rfl, rfl⟩ := hcut
        obtain ⟨inb, hinb⟩ : ∃ inb, inb = decide (0 ≤ at_ ∧ at_ < (m : Int)) := ⟨_, rfl⟩
        rw [← hinb]
        have HIN := Lib.hid hinb
        clear hinb e1
        by_cases hk0 : k = 0
        · subst hk0
          as_aux_lemma =>
            have hsX := hsx
            have HXRX := HXR
            clear hsx HXR
            obtain ⟨_, e1, _, e3, _⟩ := op_cells HXRX.out
            dsimp only at e1 e3
            go_upto_region 14 with fail
            go_cut [71] from 58 to 71 (fun v7 wx => v7 = .bool (decide (¬ (0 ≤ at_ ∧ at_ < 64 ∧ b.length ≤ 200))) ∧ X = wx)
            case first =>
              by_cases p1 : 0 ≤ at_
              · by_cases p2 : at_ < 64
                · by_cases p3 : b.length ≤ 200
                  · go_wp2_with fail
                    go_meet
                    case rel => exact ⟨congrArg Value.bool (by rw [Bool.eq_iff_iff]; simp only [Bool.or_eq_true, Bool.and_eq_true, decide_eq_true_eq, Bool.false_eq_true, true_iff, false_iff]; omega), rfl⟩
                  · go_wp2_with fail
                    go_meet
                    case rel => exact ⟨congrArg Value.bool (by rw [Bool.eq_iff_iff]; simp only [Bool.or_eq_true, Bool.and_eq_true, decide_eq_true_eq, Bool.false_eq_true, true_iff, false_iff]; omega), rfl⟩
                · go_wp2_with fail
                  go_meet
                  case rel => exact ⟨congrArg Value.bool (by rw [Bool.eq_iff_iff]; simp only [Bool.or_eq_true, Bool.and_eq_true, decide_eq_true_eq, Bool.false_eq_true, true_iff, false_iff]; omega), rfl⟩
              · go_wp2_with fail
                go_meet
                case rel => exact ⟨congrArg Value.bool (by rw [Bool.eq_iff_iff]; simp only [Bool.or_eq_true, Bool.and_eq_true, decide_eq_true_eq, Bool.false_eq_true, true_iff, false_iff]; omega), rfl⟩
            case rest =>
              obtain ⟨rfl, rfl⟩ := hcut
              have HAP := Lib.hid (app_bytes (base := w0.heap.size) (W := X) hsX HRX.out hb3 29)
              by_cases hok : 0 ≤ at_ ∧ at_ < 64 ∧ b.length ≤ 200
              · rw [decide_eq_false (show ¬ ¬ (0 ≤ at_ ∧ at_ < 64 ∧ b.length ≤ 200) from fun h => h hok)]
                go_wp2_with (at_builtin; refine wpL_append (v := .slice (some ⟨X.heap.size, 0, none⟩) 0 0) (vx := .slice Ab b.length cb) rfl _ _ 29 29 rfl (by simp [Act.eval, Act.put]) (by simp [Act.eval, Act.put]) HAP.out ?_; rintro v1 W1 ⟨⟨Am, cm, rfl⟩, ho1, hb1⟩; have HO1 := Lib.hid ho1; have HBW1 := Lib.hid hb1; clear ho1 hb1; clear e1 e3; obtain ⟨_, e1, _, _, _⟩ := op_cells ((HBW1.out.block _ (Array.getElem?_eq_some_iff.1 HXRX.out).1).trans HXRX.out); dsimp only at e1)
                clear e1
                refine ((HTX.out.below HBW1.out).net.send_ok (hBW1s HBX.out HBW1.out) ⟨hok.1, hok.2.1⟩ hok.2.2 (by rw [HRL.out]; omega) HO1.out.rd).mono ?_
                rintro e W2 ⟨rfl, hS⟩
                have hb2 := hS.below (HTX.out.below HBW1.out).net (hBW1s HBX.out HBW1.out)
                obtain ⟨av2, v2, hT2, hap⟩ := HTX.out.sent2 HBW1.out hS
                have HB2 : Hid (Below w0.heap.size w0 W2) := Lib.hid ((HBX.out.trans (HBW1.out.mono hsX)).trans hb2)
                have HT2 := Lib.hid hT2
                have HAPT := Lib.hid hap
                have hnf : ∀ g, Foot w0.heap.size av rs g → g ≠ q := fun g hg e => by have := (HTX.out.net.foot hg).2; have := HXN.out g (.inr hg); omega
                have HXR2 : Hid (W2.heap[q]? = some (opR ⟨0, at_, i_, .slice Ab b.length cb, b, y⟩)) := Lib.hid (by
                  obtain ⟨_, _, _, hf, _, _⟩ := hS
                  exact (hf.block _ (Nat.lt_of_lt_of_le (Array.getElem?_eq_some_iff.1 HXRX.out).1 HBW1.out.size) (fun e => hnf _ (e.elim .inl (fun e => .inr (.inl e))) rfl)).trans ((HBW1.out.block _ (Array.getElem?_eq_some_iff.1 HXRX.out).1).trans HXRX.out))
                have HOV : Hid (Own W2 X.heap.size 5 1 (.slice Am b.length cm) b.length (bc b)) := Lib.hid (by
                  obtain ⟨_, _, _, hf, _, _⟩ := hS
                  exact HO1.out.fr hf fun g hg e => by have := (HO1.out.lt g hg).1; have := (HTX.out.net.foot (e.elim .inl (fun e => .inr (.inl e)))).2; omega)
                clear hS hb2 hT2 hap hnf
                go_wp2_with fail
                go_loopw [85] (fun v wr => ∃ (j : Nat) (b2 : B), j ≤ b.length ∧ v = .int .i64 j ∧ b2.length = b.length ∧ Own wr X.heap.size 5 1 (.slice Am b.length cm) b.length (bc b2) ∧ Fr (fun g => (Value.slice Am b.length cm).ownBlock = some g) W2 wr) (fun v _ => b.length - (intOf v).toNat)
                case atStart => exact ⟨0, b, by omega, rfl, rfl, HOV.out, Fr.refl _ _⟩
                case round =>
                  obtain ⟨j, b2, hj, rfl, hb2, hov, hfv⟩ := hrel
                  have HOV2 := Lib.hid hov
                  have HFV := Lib.hid hfv
                  have HB2L := Lib.hid hb2
                  clear hov hfv hb2
                  by_cases hjl : j < b.length
                  · have hj1 : (j : Int) < (b.length : Int) := by omega
                    have hj0 : (0 : Int) ≤ (j : Int) := by omega
                    obtain ⟨x, hx⟩ : ∃ x, b2[j]? = some x := ⟨b2[j]'(by rw [HB2L.out]; exact hjl), List.getElem?_eq_getElem _⟩
                    obtain ⟨gm, offm, cm2, cur, hA, _, hcur, _, _, _, hcc⟩ := HOV2.out.form (by omega)
                    injection hA with hA1 hA0 hA2
                    clear hA0 hA2
                    subst hA1
                    have q0 : wr.cell? ⟨gm, offm + j, none⟩ = some (.int .u8 (x.toNat : Int)) := by
                      rw [cell_of_row _ _ _ _ _ _ hcur]
                      exact own_cells hcc (bc_at hx)
                    have q1 : wr.frozen? ⟨gm, offm + j, none⟩ = false := by unfold World.frozen?; rw [hcur]; rfl
                    have hxx : bits .xor .u8 (x.toNat : Int) 255 = ((x ^^^ 255).toNat : Int) := xor_u8 x 255
                    have hset := HOV2.out.set j (.int .u8 ((x ^^^ 255).toNat : Int))
                    rw [bc_set] at hset
                    have HSET := Lib.hid hset
                    clear hset hx hcur hcc
                    go_wp2_with fail
                    go_roundw
                    case rel => exact ⟨j + 1, b2.set j (x ^^^ 255), by omega, by go_num, by rw [List.length_set]; exact HB2L.out, HSET.out, HFV.out.setCell (p := ⟨gm, offm + j, none⟩) (.inl rfl) _⟩
                    case measure => simp [intOf]; omega
                  · obtain rfl : j = b.length := by omega
                    clear hj hjl HB2L
                    have HT3 : Hid (Two wr w0.heap.size w0.heap.size av2 (rs ++ [(at_, v2, b)]) (.slice A1 m c1) own) := Lib.hid (HT2.out.fr2 HFV.out fun g hg => HAPT.out g (HO1.out.lt g hg).1 (HO1.out.lt g hg).2)
                    have HB3 : Hid (Below w0.heap.size w0 wr) := Lib.hid (HB2.out.trans (HFV.out.below HB2.out.size fun g _ hg => by have := (HO1.out.lt g hg).1; omega))
                    have HXR3 : Hid (wr.heap[q]? = some (opR ⟨0, at_, i_, .slice Ab b.length cb, b, y⟩)) := Lib.hid ((HFV.out.block _ (Array.getElem?_eq_some_iff.1 HXR2.out).1 (fun hg => by have := (HO1.out.lt _ hg).1; omega)).trans HXR2.out)
                    clear HT2 HB2 HXR2 HAPT HOV2 HFV HO1 HBW1
                    obtain ⟨W, hW⟩ : ∃ W, W = wr := ⟨_, rfl⟩
                    rw [← hW] at HT3 HB3 HXR3 ⊢
                    clear hW
                    obtain ⟨e0, e1, e2, e3, e4⟩ := op_cells HXR3.out
                    dsimp only at e0 e1 e2 e3 e4
                    clear e0 e2 e4
                    have HLEN : Hid (own.length < 1000) := Lib.hid (by rw [← HM.out]; omega)
                    have HS := Lib.hid (fun V (h : Below W.heap.size W V) => (⟨h.cell (p := ⟨q, 1, none⟩) (Array.getElem?_eq_some_iff.1 HXR3.out).1 |>.trans e1, h.cell (p := ⟨q, 3, none⟩) (Array.getElem?_eq_some_iff.1 HXR3.out).1 |>.trans e3⟩ : V.cell? ⟨q, 1, none⟩ = some (.int .i64 at_) ∧ V.cell? ⟨q, 3, none⟩ = some (.slice Ab b.length cb)))
                    have HRW : Hid (Rd W.drew W.drew.heap.size 1 (.slice Ab b.length cb) b.length (bc b)) := Lib.hid (by
                      have h9 := (HL.out.each _ (List.mem_of_getElem? HOO.out)).1.up HB3.out
                      exact h9.drew)
                    have HAP2 := Lib.hid (app_bytes (base := w0.heap.size) (W := W.drew) HB3.out.size HRW.out hb3 29)
                    clear e1 e3
                    have HOWN : Hid (Does Try.prog (W.drew.alloc (.cells #[] 5)) (Builtin.append_ #[29, 29] 29 #[.slice (some ⟨W.heap.size, 0, none⟩) 0 0, .slice Ab b.length cb]) fun v W' => (∃ A' c', v = .slice A' b.length c') ∧ Own W' W.heap.size 5 1 v b.length (bc b) ∧ Below W.heap.size W W') := Lib.hid (HAP2.out.mono fun v W' h => ⟨h.1, h.2.1, ⟨h.2.2.os, h.2.2.tape, h.2.2.output, h.2.2.size, h.2.2.block⟩⟩)
                    clear HAP2 HRW
                    go_upto_region 25 with fail
                    go_region_held3 (fun V => V.cell? ⟨q, 1, none⟩ = some (.int .i64 at_) ∧ V.cell? ⟨q, 3, none⟩ = some (.slice Ab b.length cb))
                      ((first | exact HS4.out | (refine HS.out _ ?_; repeat (first | with_reducible exact Below.refl _ _ | exact HBW1.out | with_reducible refine Below.drew ?_ | with_reducible refine below_alloc2 ?_))))
                      ((first | (refine step_append (v := .slice A1 m c1) (vx := .slice (some ⟨W1.heap.size, 0, none⟩) 1 1) rfl _ _ 26 26 rfl (by simp [Act.eval, Act.put]) (by simp [Act.eval, Act.put]) HAP3.out ?_; rintro v3 W3 ⟨⟨A3, c3, rfl⟩, ht3, hb3, hf3⟩; have HT4 := Lib.hid ht3; have HB4 := Lib.hid hb3; have HBq : Hid (Below w0.heap.size w0 W3) := Lib.hid (HB3.out.trans (hb3.mono (Nat.le_refl _))); have HXR4 : Hid (W3.heap[q]? = some (opR ⟨0, at_, i_, .slice Ab b.length cb, b, y⟩)) := Lib.hid ((hf3.block _ (Array.getElem?_eq_some_iff.1 HXR3.out).1 (fun e => by have := HXN.out q (.inl (.inl e)); omega)).trans HXR3.out); have HS4 := Lib.hid (⟨(op_cells HXR4.out).2.1, (op_cells HXR4.out).2.2.2.1⟩ : W3.cell? ⟨q, 1, none⟩ = some (.int .i64 at_) ∧ W3.cell? ⟨q, 3, none⟩ = some (.slice Ab b.length cb)); clear ht3 hb3 hf3) | (refine step_append (v := .slice (some ⟨W.heap.size, 0, none⟩) 0 0) (vx := .slice Ab b.length cb) rfl _ _ 29 29 rfl (by simp [Act.eval, Act.put]) (by simp [Act.eval, Act.put]) HOWN.out ?_; rintro v1 W1 ⟨⟨A5, c5, rfl⟩, ho1, hb1⟩; have HBW1 := Lib.hid hb1; have HAP3 := Lib.hid (HT3.out.append HB3.out.size (tz := at_) HLEN.out ho1 hb1 26); clear ho1 hb1)))
                    rename_i hheld
                    clear hheld
                    clear HS HS4 HOWN HAP3 HBW1 HT3 HB3 HXR3
                    go_wp2_with fail
                    refine HT4.out.net.len_any.mono ?_
                    rintro e wz ⟨he, hwz⟩
                    rw [hwz]
                    clear hwz wz
                    have hlen4 : (rs ++ [(at_, v2, b)]).length = own.length + 1 := by rw [List.length_append, HRL.out, HM.out]; rfl
                    rw [hlen4] at he
                    subst he
                    clear hlen4
                    go_wp2_with fail
                    go_roundw
                    case rel => exact ⟨i + 1, m + 1, av2, A3, c3, rs ++ [(at_, v2, b)], own ++ [(at_, .slice A5 b.length c5, b)], by go_num, by omega, by omega, by rw [HM.out], by rw [List.length_append, List.length_singleton, HM.out], by rw [List.length_append, List.length_singleton, HRL.out], by omega, (by simp only [said_append, HSAID.out]; try rfl), by rw [HM.out]; exact HT4.out, HBq.out⟩
                    case measure => simp [intOf]; omega
              · rw [decide_eq_true (hok)]
                go_wp2_with (at_builtin; refine wpL_append (v := .slice (some ⟨X.heap.size, 0, none⟩) 0 0) (vx := .slice Ab b.length cb) rfl _ _ 29 29 rfl (by simp [Act.eval, Act.put]) (by simp [Act.eval, Act.put]) HAP.out ?_; rintro v1 W1 ⟨⟨Am, cm, rfl⟩, ho1, hb1⟩; have HO1 := Lib.hid ho1; have HBW1 := Lib.hid hb1; clear ho1 hb1; clear e1 e3; obtain ⟨_, e1, _, _, _⟩ := op_cells ((HBW1.out.block _ (Array.getElem?_eq_some_iff.1 HXRX.out).1).trans HXRX.out); dsimp only at e1)
                clear e1
                refine (send_arg at_ hok W1).mono ?_
                rintro e wz ⟨rfl, hwz⟩
                rw [hwz]
                clear hwz wz
                have HOV := HO1
                go_wp2_with fail
                go_loopw [85] (fun v wr => ∃ (j : Nat) (b2 : B), j ≤ b.length ∧ v = .int .i64 j ∧ b2.length = b.length ∧ Own wr X.heap.size 5 1 (.slice Am b.length cm) b.length (bc b2) ∧ Fr (fun g => (Value.slice Am b.length cm).ownBlock = some g) W1 wr) (fun v _ => b.length - (intOf v).toNat)
                case atStart => exact ⟨0, b, by omega, rfl, rfl, HOV.out, Fr.refl _ _⟩
                case round =>
                  obtain ⟨j, b2, hj, rfl, hb2, hov, hfv⟩ := hrel
                  have HOV2 := Lib.hid hov
                  have HFV := Lib.hid hfv
                  have HB2L := Lib.hid hb2
                  clear hov hfv hb2
                  by_cases hjl : j < b.length
                  · have hj1 : (j : Int) < (b.length : Int) := by omega
                    have hj0 : (0 : Int) ≤ (j : Int) := by omega
                    obtain ⟨x, hx⟩ : ∃ x, b2[j]? = some x := ⟨b2[j]'(by rw [HB2L.out]; exact hjl), List.getElem?_eq_getElem _⟩
                    obtain ⟨gm, offm, cm2, cur, hA, _, hcur, _, _, _, hcc⟩ := HOV2.out.form (by omega)
                    injection hA with hA1 hA0 hA2
                    clear hA0 hA2
                    subst hA1
                    have q0 : wr.cell? ⟨gm, offm + j, none⟩ = some (.int .u8 (x.toNat : Int)) := by
                      rw [cell_of_row _ _ _ _ _ _ hcur]
                      exact own_cells hcc (bc_at hx)
                    have q1 : wr.frozen? ⟨gm, offm + j, none⟩ = false := by unfold World.frozen?; rw [hcur]; rfl
                    have hxx : bits .xor .u8 (x.toNat : Int) 255 = ((x ^^^ 255).toNat : Int) := xor_u8 x 255
                    have hset := HOV2.out.set j (.int .u8 ((x ^^^ 255).toNat : Int))
                    rw [bc_set] at hset
                    have HSET := Lib.hid hset
                    clear hset hx hcur hcc
                    go_wp2_with fail
                    go_roundw
                    case rel => exact ⟨j + 1, b2.set j (x ^^^ 255), by omega, by go_num, by rw [List.length_set]; exact HB2L.out, HSET.out, HFV.out.setCell (p := ⟨gm, offm + j, none⟩) (.inl rfl) _⟩
                    case measure => simp [intOf]; omega
                  · obtain rfl : j = b.length := by omega
                    clear hj hjl HB2L
                    have HT3 : Hid (Two wr w0.heap.size w0.heap.size av rs (.slice A1 m c1) own) := Lib.hid ((HTX.out.below HBW1.out).fr2 HFV.out fun g hg hx => by have := (HO1.out.lt g hg).1; have := (HTX.out.feet hx).2; omega)
                    have HB3 : Hid (Below w0.heap.size w0 wr) := Lib.hid ((HBX.out.trans (HBW1.out.mono hsX)).trans (HFV.out.below (hBW1s HBX.out HBW1.out) fun g _ hg => by have := (HO1.out.lt g hg).1; omega))
                    have HXR3 : Hid (wr.heap[q]? = some (opR ⟨0, at_, i_, .slice Ab b.length cb, b, y⟩)) := Lib.hid ((HFV.out.block _ (Nat.lt_of_lt_of_le (Array.getElem?_eq_some_iff.1 HXRX.out).1 HBW1.out.size) (fun hg => by have := (HO1.out.lt _ hg).1; omega)).trans (below_q HXRX.out HBW1.out))
                    clear HO1 HBW1 HOV HOV2 HFV HAP
                    obtain ⟨W, hW⟩ : ∃ W, W = wr := ⟨_, rfl⟩
                    rw [← hW] at HT3 HB3 HXR3 ⊢
                    clear hW
                    obtain ⟨e0, e1, e2, e3, e4⟩ := op_cells HXR3.out
                    dsimp only at e0 e1 e2 e3 e4
                    go_wp2_with fail
                    refine HT3.out.net.len_any.mono ?_
                    rintro e wz ⟨he, hwz⟩
                    rw [hwz]
                    clear hwz wz
                    rw [show (rs).length = m from HRL.out] at he
                    subst he
                    go_wp2_with fail
                    go_roundw
                    case rel => exact ⟨i + 1, m, _, _, _, rs, own, by go_num, by omega, by omega, rfl, HM.out, HRL.out, by have := HM.out; omega, HSAID.out, HT3.out, HB3.out⟩
                    case measure => simp [intOf]; omega
        by_cases hk1 : k = 1
        · subst hk1
          as_aux_lemma =>
            have HXRX := HXR
            obtain ⟨e0, e1, e2, e3, e4⟩ := op_cells HXRX.out
            dsimp only at e0 e1 e2 e3 e4
            have hsX := hsx
            by_cases hio : 0 ≤ at_ ∧ at_ < (m : Int)
            · have hin1 : inb = true := HIN.out.trans (decide_eq_true hio)
              subst hin1
              obtain ⟨ja, rfl⟩ : ∃ ja : Nat, at_ = (ja : Int) := ⟨at_.toNat, by omega⟩
              have hja : ja < own.length := by rw [← HM.out]; omega
              have hja0 : (0 : Int) ≤ (ja : Int) := by omega
              have hja1 : (ja : Int) < (m : Int) := by omega
              obtain ⟨⟨tz, ov1, ob⟩, hown⟩ : ∃ p, own[ja]? = some p := ⟨own[ja]'hja, List.getElem?_eq_getElem _⟩
              obtain ⟨lv, hrs⟩ : ∃ v, rs[ja]? = some (tz, v, ob) := said_at (p := (tz, ob)) (by rw [HSAID.out]; simp [said, hown])
              have hobl := HTX.out.its.bytes _ (List.mem_of_getElem? hown)
              have hsm := (HTX.out.net.small _ (List.mem_of_getElem? hrs)).1
              obtain ⟨Ao, co, hov1, _⟩ := hobl.slice_
              have hov1' : ov1 = .slice Ao ob.length co := hov1
              clear hov1
              subst hov1'
              dsimp only at hobl hsm
              obtain ⟨go, offo, rfl, hmc, hcm⟩ := HTX.out.form (by omega)
              unfold maxLen at hcm
              have HOWN := Lib.hid hown
              have HRS := Lib.hid hrs
              have HOB := Lib.hid hobl
              clear hown hrs hobl hio
              go_wp2_with fail
              refine (HTX.out.net.at_in HRS.out).mono ?_
              rintro e w4 ⟨v4, rfl, hv4, hb4⟩
              obtain ⟨A4, c4, rfl, _⟩ := hv4.slice_
              dsimp only at hv4
              obtain ⟨t1, ht1⟩ : ∃ t1, t1 = w4.heap.size := ⟨_, rfl⟩
              have hv4s : ∀ g, (Value.slice A4 ob.length c4).ownBlock = some g → X.heap.size ≤ g ∧ g < t1 := fun g hg => by rw [ht1]; exact hv4.lt g hg
              have hb4s := hb4.size
              have HV4S := Lib.hid hv4s
              clear hv4s
              obtain ⟨V, hV⟩ : ∃ V, V = w4.alloc (.cells #[.int .i64 tz, .slice A4 ob.length c4] 33) := ⟨_, rfl⟩
              have HBV : Hid (Below X.heap.size X V) := Lib.hid (by rw [hV]; exact hb4.alloc hb4.size _)
              have HVA : Hid (V.heap[t1]? = some (.cells #[.int .i64 tz, .slice A4 ob.length c4] 33 (0, 0))) := Lib.hid (by rw [hV, ht1]; exact heap_alloc_new w4 _)
              have HV4 : Hid (Own V X.heap.size 5 1 (.slice A4 ob.length c4) ob.length (bc ob)) := Lib.hid (by rw [hV]; exact hv4.alloc _)
              have HTV := Lib.hid (HTX.out.below HBV.out)
              have HXRV := Lib.hid (below_q HXRX.out HBV.out)
              have hVs : V.heap.size = t1 + 1 := by rw [hV, ht1]; simp
              have hXt : X.heap.size ≤ t1 := by omega
              have HVV := Lib.hid hV
              clear hb4 hv4 e0 e1 e2 e3 e4 HOB hV
              go_upto_region 29 with fail
              rw [← HVV.out, ← ht1]
              clear HVV ht1
              obtain ⟨e0, e1, e2, e3, e4⟩ := op_cells HXRV.out
              dsimp only at e0 e1 e2 e3 e4
              obtain ⟨a0, a1, a2, a3⟩ := Res.row2_facts HVA.out
              go_wp2_with fail
              refine (HTV.out.net.take_in (by omega) HRS.out).mono ?_
              rintro e w5 ⟨v5, rfl, hv5, hT⟩
              obtain ⟨A5, c5, rfl, _⟩ := hv5.slice_
              dsimp only at hv5
              have hb5 := hT.below HTV.out.net (by omega)
              have hqs : q < V.heap.size := by omega
              have hfq : ∀ g, q ≤ g → g < V.heap.size → w5.heap[g]? = V.heap[g]? := fun g hg hg2 => by
                obtain ⟨_, _, hf, _⟩ := hT
                exact hf.block _ hg2 (fun e => by have := HXN.out g (.inr (e.elim .inl (fun e => .inr (.inl e)))); omega)
              have hs5 : V.heap.size ≤ w5.heap.size := by obtain ⟨_, _, hf, _⟩ := hT; exact hf.size
              obtain ⟨av5, hT5, hft⟩ := HTV.out.took2 hT
              clear hT
              have HFT : Hid (∀ g, OFoot (.slice (some ⟨go, offo, none⟩) m c1) own g ∨ Foot w0.heap.size av5 (rs.take ja ++ rs.drop (ja + 1)) g → g < X.heap.size) := Lib.hid fun g hg => (HTX.out.feet (hft g hg)).2
              have h5a : w5.heap[t1]? = some (.cells #[.int .i64 tz, .slice A4 ob.length c4] 33 (0, 0)) := (hfq t1 (by omega) (by omega)).trans HVA.out
              have h5q := (hfq q (Nat.le_refl _) hqs).trans HXRV.out
              have HV5S : Hid (∀ g, (Value.slice A5 ob.length c5).ownBlock = some g → t1 < g) := Lib.hid fun g hg => by have := (hv5.lt g hg).1; omega
              obtain ⟨W, hW⟩ : ∃ W, W = (w5.setCell ⟨t1, 0, none⟩ (.int .i64 tz)).setCell ⟨t1, 1, none⟩ (.slice A5 ob.length c5) := ⟨_, rfl⟩
              have hfW : Fr (fun g => g = t1) w5 W := by rw [hW]; exact fr_two _ _ _ _
              have HBW : Hid (Below w0.heap.size w0 W) := Lib.hid (((HBX.out.trans (HBV.out.mono hsX)).trans hb5).trans (hfW.below (by omega) fun g _ e => by omega))
              have HWA : Hid (W.heap[t1]? = some (.cells #[.int .i64 tz, .slice A5 ob.length c5] 33 (0, 0))) := Lib.hid (by rw [hW]; exact Res.row2_set h5a)
              have HTW : Hid (Two W w0.heap.size w0.heap.size av5 (rs.take ja ++ rs.drop (ja + 1)) (.slice (some ⟨go, offo, none⟩) m c1) own) := Lib.hid (hT5.fr2 hfW fun g hg hx => by have := HFT.out g hx; omega)
              have HXRW := Lib.hid (hfW.blk h5q (by omega))
              have HV5 : Hid (Own W X.heap.size 5 1 (.slice A5 ob.length c5) ob.length (bc ob)) := Lib.hid ((hv5.base_ (fun g hg => by have := HV5S.out g hg; omega)).fr hfW (fun g hg e => by have := HV5S.out g hg; omega))
              have HWW := Lib.hid hW
              obtain ⟨e0', e1', e2', e3', e4'⟩ := op_cells h5q
              dsimp only at e0' e1' e2' e3' e4'
              obtain ⟨a0', a1', a2', a3'⟩ := Res.row2_facts h5a
              clear hb5 hfq hT5 hft h5a h5q hfW hv5 hW e0 e1 e2 e3 e4 a0 a1 a2 a3 HVA HV4 HTV HXRV HBV
              go_upto_region 31 with fail
              rw [← HWW.out]
              clear HWW e0' e1' e2' e3' e4' a0' a1' a2' a3'
              obtain ⟨e0, e1, e2, e3, e4⟩ := op_cells HXRW.out
              dsimp only at e0 e1 e2 e3 e4
              obtain ⟨a0, a1, a2, a3⟩ := Res.row2_facts HWA.out
              have HVN : Hid (∀ g, (Value.slice A5 ob.length c5).ownBlock = some g → g ≠ t1) := Lib.hid fun g hg e => by have := HV5S.out g hg; omega
              have HVF := HV5
              clear HV5
              obtain ⟨o0, o1⟩ := HTW.out.cells HOWN.out (Below.refl _ _)
              have hsa := fun N => run_str (HVF.out.rd.drewN N)
              have hob := HTW.out.its.bytes _ (List.mem_of_getElem? HOWN.out)
              dsimp only at hob
              have hsb := fun N => run_str (hob.rd.drewN N)
              clear hob
              have HWS : Hid (X.heap.size ≤ W.heap.size ∧ t1 < W.heap.size ∧ q < t1) := Lib.hid ⟨by have := (Array.getElem?_eq_some_iff.1 HWA.out).1; omega, (Array.getElem?_eq_some_iff.1 HWA.out).1, by omega⟩
              go_wp2_with fail
              go_quiet (fail)
              go_wp2_with fail
              go_loopw [171] (fun v wr => ∃ (j : Nat) (b2 : B), j ≤ ob.length ∧ v = .int .i64 j ∧ b2.length = ob.length ∧ Own wr X.heap.size 5 1 (.slice A5 ob.length c5) ob.length (bc b2) ∧ Fr (fun g => (Value.slice A5 ob.length c5).ownBlock = some g) W wr) (fun v _ => ob.length - (intOf v).toNat)
              case atStart => exact ⟨0, ob, by omega, rfl, rfl, HVF.out.drewN _, (Fr.refl _ _).drewN _⟩
              case round =>
                obtain ⟨j, b2, hj, rfl, hb2, hov, hfv⟩ := hrel
                have HOV2 := Lib.hid hov
                have HFV := Lib.hid hfv
                have HB2L := Lib.hid hb2
                clear hov hfv hb2
                by_cases hjl : j < ob.length
                · have hj1 : (j : Int) < (ob.length : Int) := by omega
                  have hj0 : (0 : Int) ≤ (j : Int) := by omega
                  obtain ⟨x, hx⟩ : ∃ x, b2[j]? = some x := ⟨b2[j]'(by rw [HB2L.out]; exact hjl), List.getElem?_eq_getElem _⟩
                  obtain ⟨gm, offm, cm2, cur, hA, _, hcur, _, _, _, hcc⟩ := HOV2.out.form (by omega)
                  injection hA with hA1 hA0 hA2
                  clear hA0 hA2
                  subst hA1
                  have q0 : wr.cell? ⟨gm, offm + j, none⟩ = some (.int .u8 (x.toNat : Int)) := by
                    rw [cell_of_row _ _ _ _ _ _ hcur]
                    exact own_cells hcc (bc_at hx)
                  have q1 : wr.frozen? ⟨gm, offm + j, none⟩ = false := by unfold World.frozen?; rw [hcur]; rfl
                  have hxx : bits .xor .u8 (x.toNat : Int) 255 = ((x ^^^ 255).toNat : Int) := xor_u8 x 255
                  have hset := HOV2.out.set j (.int .u8 ((x ^^^ 255).toNat : Int))
                  rw [bc_set] at hset
                  have HSET := Lib.hid hset
                  clear hset hx hcur hcc
                  have hA11 : wr.heap[t1]? = some (.cells #[.int .i64 tz, .slice (some ⟨gm, offm, none⟩) ob.length c5] 33 (0, 0)) := HFV.out.blk HWA.out (fun e => HVN.out _ e rfl)
                  obtain ⟨r0, r1, _, _⟩ := Res.row2_facts hA11
                  clear hA11
                  go_wp2_with fail
                  go_roundw
                  case rel => exact ⟨j + 1, b2.set j (x ^^^ 255), by omega, by go_num, by rw [List.length_set]; exact HB2L.out, HSET.out, HFV.out.setCell (p := ⟨gm, offm + j, none⟩) (.inl rfl) _⟩
                  case measure => simp [intOf]; omega
                · obtain rfl : j = ob.length := by omega
                  clear hj hjl HB2L
                  have HT9 : Hid (Two wr w0.heap.size w0.heap.size av5 (rs.take ja ++ rs.drop (ja + 1)) (.slice (some ⟨go, offo, none⟩) m c1) own) := Lib.hid (HTW.out.fr2 HFV.out fun g hg hx => by have := (HVF.out.lt g hg).1; have := HFT.out g hx; omega)
                  have HB9 : Hid (Below w0.heap.size w0 wr) := Lib.hid (HBW.out.trans (HFV.out.below HBW.out.size fun g _ hg => by have := (HVF.out.lt g hg).1; omega))
                  have HXR9 := Lib.hid (HFV.out.blk HXRW.out (fun hg => by have := (HVF.out.lt _ hg).1; omega))
                  clear HOV2 HFV HTW HBW HXRW HVF HWA HFT HVN e0 e1 e2 e3 e4 a0 a1 a2 a3 o0 o1 hsa hsb
                  obtain ⟨W9, hW9⟩ : ∃ W, W = wr := ⟨_, rfl⟩
                  rw [← hW9] at HT9 HB9 HXR9 ⊢
                  clear hW9
                  obtain ⟨e0, e1, e2, e3, e4⟩ := op_cells HXR9.out
                  dsimp only at e0 e1 e2 e3 e4
                  have HCF : Hid (Does Try.prog (W9.drew.alloc (.cells #[] 33)) (Builtin.append_ #[26, 26] 26 #[.slice (some ⟨W9.heap.size, 0, none⟩) 0 0, .slice (some ⟨go, offo, none⟩) ja c1]) fun v2 w2 => (∃ A' c2, v2 = .slice A' ja c2) ∧ Own w2 W9.heap.size 33 2 v2 ja (rc (own.take ja)) ∧ Below W9.heap.size W9 w2) := Lib.hid ((cut_front (w := W9.drew) (i := ja) (HT9.out.its.kept fun g _ => rfl) hja (by rw [← HM.out]; omega) (g := go) (off := offo) (c := c1) (c' := c1) (by rw [HM.out]) 26).mono fun v W' h => ⟨h.1, h.2.1, ⟨h.2.2.os, h.2.2.tape, h.2.2.output, h.2.2.size, h.2.2.block⟩⟩)
                  have HS := Lib.hid (fun V (h : Below W9.heap.size W9 V) => ((op_cells (below_q HXR9.out h)).2.1 : V.cell? ⟨q, 1, none⟩ = some (.int .i64 (ja : Int))))
                  obtain ⟨jb, hjb⟩ : ∃ jb, jb = ja + 1 := ⟨_, rfl⟩
                  have hwj : IntKind.i64.wrap ((ja : Int) + 1) = (jb : Int) := by rw [IntKind.wrap_i64]; omega
                  have hjm : (jb : Int) ≤ (m : Int) := by omega
                  have hjb0 : (0 : Int) ≤ (jb : Int) := by omega
                  have hjbc : (jb : Int) ≤ (c1 : Int) := by omega
                  have HJB := Lib.hid hjb
                  clear hjb
                  have hjc : (ja : Int) ≤ (c1 : Int) := by omega
                  have hmc' : (m : Int) ≤ (c1 : Int) := by omega
                  go_upto_region 42 with fail
                  clear e0 e1 e2 e3 e4
                  by_cases hcj : c1 = jb
                  · have hmj : c1 = m := by omega
                    subst hmj
                    subst hcj
                    go_region_held3 (fun V => V.cell? ⟨q, 1, none⟩ = some (.int .i64 (ja : Int)))
                      ((first | exact HS.out _ HB7.out | (refine HS.out _ ?_; repeat (first | with_reducible exact Below.refl _ _ | exact HB6.out | with_reducible refine Below.drew ?_ | with_reducible refine below_alloc2 ?_))))
                      ((first | (refine step_append (v := .slice (some ⟨W9.heap.size, 0, none⟩) 0 0) (vx := .slice (some ⟨go, offo, none⟩) ja c1) rfl _ _ 26 26 rfl (by simp [Act.eval, Act.put]) (by simp [Act.eval, Act.put]) HCF.out ?_; rintro v6 W6 ⟨⟨A6, c6, rfl⟩, ho6, hb6⟩; have HB6 := Lib.hid hb6; have HO6 := Lib.hid ho6; clear ho6 hb6) | (refine step_append (v := .slice A6 ja c6) (vx := .slice (some ⟨go, offo, none⟩) (c1 - c1) (c1 - c1)) rfl _ _ 26 26 rfl (by simp [Act.eval, Act.put]) (by simp [Act.eval, Act.put]) (HT9.out.cut HB9.out.size hja (by rw [← HM.out]; omega) HB6.out HO6.out (A := some ⟨go, offo, none⟩) (m := c1 - c1) (c' := c1 - c1) (by have := HM.out; have := HJB.out; omega) (fun h0 => absurd h0 (by omega)) 26) ?_; rintro v7 W7 ⟨⟨A7, c7, rfl⟩, ht7, hb7⟩; have HT7 := Lib.hid ht7; have HB7 := Lib.hid hb7; clear ht7 hb7)))
                    rename_i hheld
                    clear hheld
                    have HBE : Hid (Below w0.heap.size w0 W7) := Lib.hid (HB9.out.trans (HB7.out.mono HB9.out.size))
                    clear HS HCF HO6 HB6 HB7 HT9 HB9 HXR9
                    go_wp2_with fail
                    refine HT7.out.net.len_any.mono ?_
                    rintro e wz ⟨he, hwz⟩
                    rw [hwz]
                    clear hwz wz
                    rw [show ((rs.take ja ++ rs.drop (ja + 1))).length = (own.length - 1) from by simp only [List.length_append, List.length_take, List.length_drop, HRL.out, HM.out]; omega] at he
                    subst he
                    go_wp2_with fail
                    go_roundw
                    case rel => exact ⟨i + 1, (own.length - 1), _, _, _, (rs.take ja ++ rs.drop (ja + 1)), (own.take ja ++ own.drop (ja + 1)), by go_num, by omega, by omega, rfl, by simp only [List.length_append, List.length_take, List.length_drop]; omega, by simp only [List.length_append, List.length_take, List.length_drop, HRL.out, HM.out]; omega, by have := HM.out; omega, by rw [said_cut, said_cut, HSAID.out], HT7.out, HBE.out⟩
                    case measure => simp [intOf]; omega
                  · go_region_held3 (fun V => V.cell? ⟨q, 1, none⟩ = some (.int .i64 (ja : Int)))
                      ((first | exact HS.out _ HB7.out | (refine HS.out _ ?_; repeat (first | with_reducible exact Below.refl _ _ | exact HB6.out | with_reducible refine Below.drew ?_ | with_reducible refine below_alloc2 ?_))))
                      ((first | (refine step_append (v := .slice (some ⟨W9.heap.size, 0, none⟩) 0 0) (vx := .slice (some ⟨go, offo, none⟩) ja c1) rfl _ _ 26 26 rfl (by simp [Act.eval, Act.put]) (by simp [Act.eval, Act.put]) HCF.out ?_; rintro v6 W6 ⟨⟨A6, c6, rfl⟩, ho6, hb6⟩; have HB6 := Lib.hid hb6; have HO6 := Lib.hid ho6; clear ho6 hb6) | (refine step_append (v := .slice A6 ja c6) (vx := .slice (some ⟨go, offo + jb * 2, none⟩) (m - jb) (c1 - jb)) rfl _ _ 26 26 rfl (by simp [Act.eval, Act.put]) (by simp [Act.eval, Act.put, hcj]) (HT9.out.cut HB9.out.size hja (by rw [← HM.out]; omega) HB6.out HO6.out (A := some ⟨go, offo + jb * 2, none⟩) (m := m - jb) (c' := c1 - jb) (by have := HM.out; have := HJB.out; omega) (fun _ => ⟨go, offo, c1, by rw [HM.out], by rw [HJB.out]⟩) 26) ?_; rintro v7 W7 ⟨⟨A7, c7, rfl⟩, ht7, hb7⟩; have HT7 := Lib.hid ht7; have HB7 := Lib.hid hb7; clear ht7 hb7)))
                    rename_i hheld
                    clear hheld
                    have HBE : Hid (Below w0.heap.size w0 W7) := Lib.hid (HB9.out.trans (HB7.out.mono HB9.out.size))
                    clear HS HCF HO6 HB6 HB7 HT9 HB9 HXR9
                    go_wp2_with fail
                    refine HT7.out.net.len_any.mono ?_
                    rintro e wz ⟨he, hwz⟩
                    rw [hwz]
                    clear hwz wz
                    rw [show ((rs.take ja ++ rs.drop (ja + 1))).length = (own.length - 1) from by simp only [List.length_append, List.length_take, List.length_drop, HRL.out, HM.out]; omega] at he
                    subst he
                    go_wp2_with fail
                    go_roundw
                    case rel => exact ⟨i + 1, (own.length - 1), _, _, _, (rs.take ja ++ rs.drop (ja + 1)), (own.take ja ++ own.drop (ja + 1)), by go_num, by omega, by omega, rfl, by simp only [List.length_append, List.length_take, List.length_drop]; omega, by simp only [List.length_append, List.length_take, List.length_drop, HRL.out, HM.out]; omega, by have := HM.out; omega, by rw [said_cut, said_cut, HSAID.out], HT7.out, HBE.out⟩
                    case measure => simp [intOf]; omega
            · have hin1 : inb = false := HIN.out.trans (decide_eq_false hio)
              subst hin1
              have hio2 : ¬ (0 ≤ at_ ∧ at_ < rs.length) := by rw [HRL.out]; exact hio
              have HIO := Lib.hid hio2
              clear hio hio2
              go_wp2_with fail
              refine (HTX.out.net.at_out HIO.out).mono ?_
              rintro e w4 ⟨rfl, hb4⟩
              obtain ⟨t1, ht1⟩ : ∃ t1, t1 = w4.heap.size := ⟨_, rfl⟩
              have hb4s := hb4.size
              obtain ⟨V, hV⟩ : ∃ V, V = w4.alloc (.cells #[.int .i64 0, .slice none 0 0] 33) := ⟨_, rfl⟩
              have HBV : Hid (Below X.heap.size X V) := Lib.hid (by rw [hV]; exact hb4.alloc hb4.size _)
              have HVA : Hid (V.heap[t1]? = some (.cells #[.int .i64 0, .slice none 0 0] 33 (0, 0))) := Lib.hid (by rw [hV, ht1]; exact heap_alloc_new w4 _)
              have HTV := Lib.hid (HTX.out.below HBV.out)
              have HXRV := Lib.hid (below_q HXRX.out HBV.out)
              have hVs : V.heap.size = t1 + 1 := by rw [hV, ht1]; simp
              have hXt : X.heap.size ≤ t1 := by omega
              have HVV := Lib.hid hV
              clear hb4 e0 e1 e2 e3 e4 hV
              go_upto_region 29 with fail
              rw [← HVV.out, ← ht1]
              clear HVV ht1
              obtain ⟨e0, e1, e2, e3, e4⟩ := op_cells HXRV.out
              dsimp only at e0 e1 e2 e3 e4
              obtain ⟨a0, a1, a2, a3⟩ := Res.row2_facts HVA.out
              go_wp2_with fail
              refine (HTV.out.net.take_out HIO.out).mono ?_
              rintro e w5 ⟨rfl, hb5⟩
              have hs5 := hb5.size
              have h5a := (hb5.block t1 (by omega)).trans HVA.out
              have h5q := below_q HXRV.out hb5
              obtain ⟨W, hW⟩ : ∃ W, W = (w5.setCell ⟨t1, 0, none⟩ (.int .i64 0)).setCell ⟨t1, 1, none⟩ (.slice none 0 0) := ⟨_, rfl⟩
              have hfW : Fr (fun g => g = t1) w5 W := by rw [hW]; exact fr_two _ _ _ _
              have HBW : Hid (Below w0.heap.size w0 W) := Lib.hid (((HBX.out.trans (HBV.out.mono hsX)).trans (hb5.mono (by omega))).trans (hfW.below (by omega) fun g _ e => by omega))
              have HWA : Hid (W.heap[t1]? = some (.cells #[.int .i64 0, .slice none 0 0] 33 (0, 0))) := Lib.hid (by rw [hW]; exact Res.row2_set h5a)
              have HTW : Hid (Two W w0.heap.size w0.heap.size av rs (.slice A1 m c1) own) := Lib.hid ((HTV.out.below hb5).fr2 hfW fun g hg hx => by have := (HTX.out.feet hx).2; omega)
              have HXRW := Lib.hid (hfW.blk h5q (by omega))
              have HWW := Lib.hid hW
              obtain ⟨e0', e1', e2', e3', e4'⟩ := op_cells h5q
              dsimp only at e0' e1' e2' e3' e4'
              obtain ⟨a0', a1', a2', a3'⟩ := Res.row2_facts h5a
              clear hb5 h5a h5q hfW hW e0 e1 e2 e3 e4 a0 a1 a2 a3 HVA HTV HXRV HBV
              go_upto_region 31 with fail
              rw [← HWW.out]
              clear HWW e0' e1' e2' e3' e4' a0' a1' a2' a3'
              obtain ⟨e0, e1, e2, e3, e4⟩ := op_cells HXRW.out
              dsimp only at e0 e1 e2 e3 e4
              obtain ⟨a0, a1, a2, a3⟩ := Res.row2_facts HWA.out
              go_wp2_with fail
              refine HTW.out.net.len_any.mono ?_
              rintro e wz ⟨he, hwz⟩
              rw [hwz]
              clear hwz wz
              rw [show (rs).length = m from HRL.out] at he
              subst he
              go_wp2_with fail
              go_roundw
              case rel => exact ⟨i + 1, m, _, _, _, rs, own, by go_num, by omega, by omega, rfl, HM.out, HRL.out, by have := HM.out; omega, HSAID.out, HTW.out, HBW.out⟩
              case measure => simp [intOf]; omega
        by_cases hk2 : k = 2
        · subst hk2
          as_aux_lemma =>
            have HXRX := HXR
            obtain ⟨e0, e1, e2, e3, e4⟩ := op_cells HXRX.out
            dsimp only at e0 e1 e2 e3 e4
            have hsX := hsx
            by_cases hio : 0 ≤ at_ ∧ at_ < (m : Int)
            · have hin1 : inb = true := HIN.out.trans (decide_eq_true hio)
              subst hin1
              obtain ⟨ja, rfl⟩ : ∃ ja : Nat, at_ = (ja : Int) := ⟨at_.toNat, by omega⟩
              have hja : ja < own.length := by rw [← HM.out]; omega
              have hja0 : (0 : Int) ≤ (ja : Int) := by omega
              have hja1 : (ja : Int) < (m : Int) := by omega
              obtain ⟨⟨tz, ov1, ob⟩, hown⟩ : ∃ p, own[ja]? = some p := ⟨own[ja]'hja, List.getElem?_eq_getElem _⟩
              obtain ⟨lv, hrs⟩ : ∃ v, rs[ja]? = some (tz, v, ob) := said_at (p := (tz, ob)) (by rw [HSAID.out]; simp [said, hown])
              have hobl := HTX.out.its.bytes _ (List.mem_of_getElem? hown)
              have hsm := (HTX.out.net.small _ (List.mem_of_getElem? hrs)).1
              obtain ⟨Ao, co, hov1, _⟩ := hobl.slice_
              have hov1' : ov1 = .slice Ao ob.length co := hov1
              clear hov1
              subst hov1'
              dsimp only at hobl hsm
              obtain ⟨go, offo, rfl, hmc, hcm⟩ := HTX.out.form (by omega)
              unfold maxLen at hcm
              have HOWN := Lib.hid hown
              have HRS := Lib.hid hrs
              have HOB := Lib.hid hobl
              clear hown hrs hobl hio
              go_wp2_with fail
              refine (HTX.out.net.at_in HRS.out).mono ?_
              rintro e w4 ⟨v4, rfl, hv4, hb4⟩
              obtain ⟨A4, c4, rfl, _⟩ := hv4.slice_
              dsimp only at hv4
              obtain ⟨t1, ht1⟩ : ∃ t1, t1 = w4.heap.size := ⟨_, rfl⟩
              have hv4s : ∀ g, (Value.slice A4 ob.length c4).ownBlock = some g → X.heap.size ≤ g ∧ g < t1 := fun g hg => by rw [ht1]; exact hv4.lt g hg
              have hb4s := hb4.size
              have HV4S := Lib.hid hv4s
              clear hv4s
              obtain ⟨V, hV⟩ : ∃ V, V = w4.alloc (.cells #[.int .i64 tz, .slice A4 ob.length c4] 33) := ⟨_, rfl⟩
              have HBV : Hid (Below X.heap.size X V) := Lib.hid (by rw [hV]; exact hb4.alloc hb4.size _)
              have HVA : Hid (V.heap[t1]? = some (.cells #[.int .i64 tz, .slice A4 ob.length c4] 33 (0, 0))) := Lib.hid (by rw [hV, ht1]; exact heap_alloc_new w4 _)
              have HV4 : Hid (Own V X.heap.size 5 1 (.slice A4 ob.length c4) ob.length (bc ob)) := Lib.hid (by rw [hV]; exact hv4.alloc _)
              have HTV := Lib.hid (HTX.out.below HBV.out)
              have HXRV := Lib.hid (below_q HXRX.out HBV.out)
              have hVs : V.heap.size = t1 + 1 := by rw [hV, ht1]; simp
              have hXt : X.heap.size ≤ t1 := by omega
              have HVV := Lib.hid hV
              clear hb4 hv4 e0 e1 e2 e3 e4 HOB hV
              go_upto_region 29 with fail
              rw [← HVV.out, ← ht1]
              clear HVV ht1
              obtain ⟨e0, e1, e2, e3, e4⟩ := op_cells HXRV.out
              dsimp only at e0 e1 e2 e3 e4
              obtain ⟨a0, a1, a2, a3⟩ := Res.row2_facts HVA.out
              obtain ⟨W, hW⟩ : ∃ W, W = V := ⟨_, rfl⟩
              rw [← hW] at HVA HV4 HTV HXRV HBV e0 e1 e2 e3 e4 a0 a1 a2 a3 ⊢
              have HBW : Hid (Below w0.heap.size w0 W) := Lib.hid (HBX.out.trans (HBV.out.mono hsX))
              have HFT : Hid (∀ g, OFoot (.slice (some ⟨go, offo, none⟩) m c1) own g ∨ Foot w0.heap.size av rs g → g < X.heap.size) := Lib.hid fun g hg => (HTX.out.feet hg).2
              clear hW HBV
              have HVN : Hid (∀ g, (Value.slice A4 ob.length c4).ownBlock = some g → g ≠ t1) := Lib.hid fun g hg e => by have := (HV4S.out g hg).2; omega
              have HWA := HVA
              have HTW := HTV
              have HXRW := HXRV
              have HVF := HV4
              clear HVA HTV HXRV HV4
              obtain ⟨o0, o1⟩ := HTW.out.cells HOWN.out (Below.refl _ _)
              have hsa := fun N => run_str (HVF.out.rd.drewN N)
              have hob := HTW.out.its.bytes _ (List.mem_of_getElem? HOWN.out)
              dsimp only at hob
              have hsb := fun N => run_str (hob.rd.drewN N)
              clear hob
              have HWS : Hid (X.heap.size ≤ W.heap.size ∧ t1 < W.heap.size ∧ q < t1) := Lib.hid ⟨by have := (Array.getElem?_eq_some_iff.1 HWA.out).1; omega, (Array.getElem?_eq_some_iff.1 HWA.out).1, by omega⟩
              go_wp2_with fail
              go_quiet (fail)
              go_wp2_with fail
              go_loopw [171] (fun v wr => ∃ (j : Nat) (b2 : B), j ≤ ob.length ∧ v = .int .i64 j ∧ b2.length = ob.length ∧ Own wr X.heap.size 5 1 (.slice A4 ob.length c4) ob.length (bc b2) ∧ Fr (fun g => (Value.slice A4 ob.length c4).ownBlock = some g) W wr) (fun v _ => ob.length - (intOf v).toNat)
              case atStart => exact ⟨0, ob, by omega, rfl, rfl, HVF.out.drewN _, (Fr.refl _ _).drewN _⟩
              case round =>
                obtain ⟨j, b2, hj, rfl, hb2, hov, hfv⟩ := hrel
                have HOV2 := Lib.hid hov
                have HFV := Lib.hid hfv
                have HB2L := Lib.hid hb2
                clear hov hfv hb2
                by_cases hjl : j < ob.length
                · have hj1 : (j : Int) < (ob.length : Int) := by omega
                  have hj0 : (0 : Int) ≤ (j : Int) := by omega
                  obtain ⟨x, hx⟩ : ∃ x, b2[j]? = some x := ⟨b2[j]'(by rw [HB2L.out]; exact hjl), List.getElem?_eq_getElem _⟩
                  obtain ⟨gm, offm, cm2, cur, hA, _, hcur, _, _, _, hcc⟩ := HOV2.out.form (by omega)
                  injection hA with hA1 hA0 hA2
                  clear hA0 hA2
                  subst hA1
                  have q0 : wr.cell? ⟨gm, offm + j, none⟩ = some (.int .u8 (x.toNat : Int)) := by
                    rw [cell_of_row _ _ _ _ _ _ hcur]
                    exact own_cells hcc (bc_at hx)
                  have q1 : wr.frozen? ⟨gm, offm + j, none⟩ = false := by unfold World.frozen?; rw [hcur]; rfl
                  have hxx : bits .xor .u8 (x.toNat : Int) 255 = ((x ^^^ 255).toNat : Int) := xor_u8 x 255
                  have hset := HOV2.out.set j (.int .u8 ((x ^^^ 255).toNat : Int))
                  rw [bc_set] at hset
                  have HSET := Lib.hid hset
                  clear hset hx hcur hcc
                  have hA11 : wr.heap[t1]? = some (.cells #[.int .i64 tz, .slice (some ⟨gm, offm, none⟩) ob.length c4] 33 (0, 0)) := HFV.out.blk HWA.out (fun e => HVN.out _ e rfl)
                  obtain ⟨r0, r1, _, _⟩ := Res.row2_facts hA11
                  clear hA11
                  go_wp2_with fail
                  go_roundw
                  case rel => exact ⟨j + 1, b2.set j (x ^^^ 255), by omega, by go_num, by rw [List.length_set]; exact HB2L.out, HSET.out, HFV.out.setCell (p := ⟨gm, offm + j, none⟩) (.inl rfl) _⟩
                  case measure => simp [intOf]; omega
                · obtain rfl : j = ob.length := by omega
                  clear hj hjl HB2L
                  have HT9 : Hid (Two wr w0.heap.size w0.heap.size av rs (.slice (some ⟨go, offo, none⟩) m c1) own) := Lib.hid (HTW.out.fr2 HFV.out fun g hg hx => by have := (HVF.out.lt g hg).1; have := HFT.out g hx; omega)
                  have HB9 : Hid (Below w0.heap.size w0 wr) := Lib.hid (HBW.out.trans (HFV.out.below HBW.out.size fun g _ hg => by have := (HVF.out.lt g hg).1; omega))
                  have HXR9 := Lib.hid (HFV.out.blk HXRW.out (fun hg => by have := (HVF.out.lt _ hg).1; omega))
                  clear HOV2 HFV HTW HBW HXRW HVF HWA HFT HVN e0 e1 e2 e3 e4 a0 a1 a2 a3 o0 o1 hsa hsb
                  obtain ⟨W9, hW9⟩ : ∃ W, W = wr := ⟨_, rfl⟩
                  rw [← hW9] at HT9 HB9 HXR9 ⊢
                  clear hW9
                  obtain ⟨e0, e1, e2, e3, e4⟩ := op_cells HXR9.out
                  dsimp only at e0 e1 e2 e3 e4
                  go_wp2_with fail
                  refine HT9.out.net.len_any.mono ?_
                  rintro e wz ⟨he, hwz⟩
                  rw [hwz]
                  clear hwz wz
                  rw [show (rs).length = m from HRL.out] at he
                  subst he
                  go_wp2_with fail
                  go_roundw
                  case rel => exact ⟨i + 1, m, _, _, _, rs, own, by go_num, by omega, by omega, rfl, HM.out, HRL.out, by have := HM.out; omega, HSAID.out, HT9.out, HB9.out⟩
                  case measure => simp [intOf]; omega
            · have hin1 : inb = false := HIN.out.trans (decide_eq_false hio)
              subst hin1
              have hio2 : ¬ (0 ≤ at_ ∧ at_ < rs.length) := by rw [HRL.out]; exact hio
              have HIO := Lib.hid hio2
              clear hio hio2
              go_wp2_with fail
              refine (HTX.out.net.at_out HIO.out).mono ?_
              rintro e w4 ⟨rfl, hb4⟩
              obtain ⟨t1, ht1⟩ : ∃ t1, t1 = w4.heap.size := ⟨_, rfl⟩
              have hb4s := hb4.size
              obtain ⟨V, hV⟩ : ∃ V, V = w4.alloc (.cells #[.int .i64 0, .slice none 0 0] 33) := ⟨_, rfl⟩
              have HBV : Hid (Below X.heap.size X V) := Lib.hid (by rw [hV]; exact hb4.alloc hb4.size _)
              have HVA : Hid (V.heap[t1]? = some (.cells #[.int .i64 0, .slice none 0 0] 33 (0, 0))) := Lib.hid (by rw [hV, ht1]; exact heap_alloc_new w4 _)
              have HTV := Lib.hid (HTX.out.below HBV.out)
              have HXRV := Lib.hid (below_q HXRX.out HBV.out)
              have hVs : V.heap.size = t1 + 1 := by rw [hV, ht1]; simp
              have hXt : X.heap.size ≤ t1 := by omega
              have HVV := Lib.hid hV
              clear hb4 e0 e1 e2 e3 e4 hV
              go_upto_region 29 with fail
              rw [← HVV.out, ← ht1]
              clear HVV ht1
              obtain ⟨e0, e1, e2, e3, e4⟩ := op_cells HXRV.out
              dsimp only at e0 e1 e2 e3 e4
              obtain ⟨a0, a1, a2, a3⟩ := Res.row2_facts HVA.out
              have HBW : Hid (Below w0.heap.size w0 V) := Lib.hid (HBX.out.trans (HBV.out.mono hsX))
              go_wp2_with fail
              refine HTV.out.net.len_any.mono ?_
              rintro e wz ⟨he, hwz⟩
              rw [hwz]
              clear hwz wz
              rw [show (rs).length = m from HRL.out] at he
              subst he
              go_wp2_with fail
              go_roundw
              case rel => exact ⟨i + 1, m, _, _, _, rs, own, by go_num, by omega, by omega, rfl, HM.out, HRL.out, by have := HM.out; omega, HSAID.out, HTV.out, HBW.out⟩
              case measure => simp [intOf]; omega
        by_cases hk3 : k = 3
        · subst hk3
          as_aux_lemma =>
            have HXRX := HXR
            obtain ⟨e0, e1, e2, e3, e4⟩ := op_cells HXRX.out
            dsimp only at e0 e1 e2 e3 e4
            have hsX := hsx
            by_cases hio : 0 ≤ at_ ∧ at_ < (m : Int)
            · have hin1 : inb = true := HIN.out.trans (decide_eq_true hio)
              subst hin1
              obtain ⟨ja, rfl⟩ : ∃ ja : Nat, at_ = (ja : Int) := ⟨at_.toNat, by omega⟩
              have hja : ja < own.length := by rw [← HM.out]; omega
              have hja0 : (0 : Int) ≤ (ja : Int) := by omega
              have hja1 : (ja : Int) < (m : Int) := by omega
              obtain ⟨⟨tz, ov1, ob⟩, hown⟩ : ∃ p, own[ja]? = some p := ⟨own[ja]'hja, List.getElem?_eq_getElem _⟩
              obtain ⟨lv, hrs⟩ : ∃ v, rs[ja]? = some (tz, v, ob) := said_at (p := (tz, ob)) (by rw [HSAID.out]; simp [said, hown])
              have hobl := HTX.out.its.bytes _ (List.mem_of_getElem? hown)
              have hsm := (HTX.out.net.small _ (List.mem_of_getElem? hrs)).1
              obtain ⟨Ao, co, hov1, _⟩ := hobl.slice_
              have hov1' : ov1 = .slice Ao ob.length co := hov1
              clear hov1
              subst hov1'
              dsimp only at hobl hsm
              obtain ⟨go, offo, rfl, hmc, hcm⟩ := HTX.out.form (by omega)
              unfold maxLen at hcm
              have HOWN := Lib.hid hown
              have HRS := Lib.hid hrs
              have HOB := Lib.hid hobl
              clear hown hrs hobl hio
              go_wp2_with fail
              refine (HTX.out.net.twice_ok hsX (by rw [HRL.out]; omega) HRS.out).mono ?_
              rintro e W ⟨rfl, hS⟩
              have hb4 := hS.below HTX.out.net hsX
              obtain ⟨av4, v4, hT4, hap⟩ := HTX.out.sent2 (Below.refl _ _) hS
              dsimp only at hT4
              have HT3 := Lib.hid hT4
              have HB3 : Hid (Below w0.heap.size w0 W) := Lib.hid (HBX.out.trans hb4)
              have HXR3 : Hid (W.heap[q]? = some (opR ⟨3, (ja : Int), i_, .slice Ab b.length cb, b, y⟩)) := Lib.hid (by
                obtain ⟨_, _, _, hf, _, _⟩ := hS
                exact (hf.block _ (Array.getElem?_eq_some_iff.1 HXRX.out).1 (fun e => by have := HXN.out q (.inr (e.elim .inl (fun e => .inr (.inl e)))); omega)).trans HXRX.out)
              clear hS hb4 hT4 hap e0 e1 e2 e3 e4 HOB
              obtain ⟨e0, e1, e2, e3, e4⟩ := op_cells HXR3.out
              dsimp only at e0 e1 e2 e3 e4
              have HLEN : Hid (own.length < 1000) := Lib.hid (by rw [← HM.out]; omega)
              have HRW : Hid (Rd W.drew W.drew.heap.size 1 (.slice Ao ob.length co) ob.length (bc ob)) := Lib.hid (by
                have h9 := HT3.out.its.bytes _ (List.mem_of_getElem? HOWN.out)
                exact h9.rd.drew)
              have HAP2 := Lib.hid (app_bytes (base := w0.heap.size) (W := W.drew) HB3.out.size HRW.out (by omega) 29)
              have HAPB : Hid (Does Try.prog (W.drew.alloc (.cells #[] 5)) (Builtin.append_ #[29, 29] 29 #[.slice (some ⟨W.heap.size, 0, none⟩) 0 0, .slice Ao ob.length co]) fun v W' => (∃ A' c', v = .slice A' ob.length c') ∧ Own W' W.heap.size 5 1 v ob.length (bc ob) ∧ Below W.heap.size W W') := Lib.hid (HAP2.out.mono fun v W' h => ⟨h.1, h.2.1, ⟨h.2.2.os, h.2.2.tape, h.2.2.output, h.2.2.size, h.2.2.block⟩⟩)
              have HT3' : Hid (Two W w0.heap.size w0.heap.size av4 (rs ++ [(tz, v4, ob)]) (.slice (some ⟨go, offo, none⟩) own.length c1) own) := Lib.hid (by rw [← HM.out]; exact HT3.out)
              have HS := Lib.hid (fun V (h : Below W.heap.size W V) => (⟨(op_cells (below_q HXR3.out h)).2.1, HT3.out.cells HOWN.out h⟩ : V.cell? ⟨q, 1, none⟩ = some (.int .i64 (ja : Int)) ∧ V.cell? ⟨go, offo + ja * 2, none⟩ = some (.int .i64 tz) ∧ V.cell? ⟨go, offo + ja * 2 + 1, none⟩ = some (.slice Ao ob.length co)))
              clear HAP2 HRW e0 e2 e3 e4
              go_upto_region 48 with fail
              clear e1
              have HMR := HM
              rw [HM.out]
              go_region_held3 (fun V => V.cell? ⟨q, 1, none⟩ = some (.int .i64 (ja : Int)) ∧ V.cell? ⟨go, offo + ja * 2, none⟩ = some (.int .i64 tz) ∧ V.cell? ⟨go, offo + ja * 2 + 1, none⟩ = some (.slice Ao ob.length co))
                ((first | exact HS4.out | (refine HS.out _ ?_; repeat (first | with_reducible exact Below.refl _ _ | exact HBW1.out | with_reducible refine Below.drew ?_ | with_reducible refine below_alloc2 ?_))))
                ((first | (refine step_append (v := .slice (some ⟨go, offo, none⟩) own.length c1) (vx := .slice (some ⟨W1.heap.size, 0, none⟩) 1 1) rfl _ _ 26 26 rfl (by simp [Act.eval, Act.put]) (by simp [Act.eval, Act.put]) HAP3.out ?_; rintro v3 W3 ⟨⟨A3, c3, rfl⟩, ht3, hb3, hf3, hk3⟩; have HT4 := Lib.hid ht3; have HBq : Hid (Below w0.heap.size w0 W3) := Lib.hid (HB3.out.trans (hb3.mono (Nat.le_refl _))); have HXR4 := Lib.hid (hf3.blk HXR3.out (fun e => by have := HXN.out q (.inl (.inl e)); omega)); have HS4 := Lib.hid (⟨(op_cells HXR4.out).2.1, hk3 _ _ (rc_at HOWN.out).1, by rw [Nat.add_assoc]; exact hk3 _ _ (rc_at HOWN.out).2⟩ : W3.cell? ⟨q, 1, none⟩ = some (.int .i64 (ja : Int)) ∧ W3.cell? ⟨go, offo + ja * 2, none⟩ = some (.int .i64 tz) ∧ W3.cell? ⟨go, offo + ja * 2 + 1, none⟩ = some (.slice Ao ob.length co)); clear ht3 hb3 hf3 hk3) | (refine step_append (v := .slice (some ⟨W.heap.size, 0, none⟩) 0 0) (vx := .slice Ao ob.length co) rfl _ _ 29 29 rfl (by simp [Act.eval, Act.put]) (by simp [Act.eval, Act.put]) HAPB.out ?_; rintro v1 W1 ⟨⟨A5, c5, rfl⟩, ho1, hb1⟩; have HBW1 := Lib.hid hb1; have HAP3 := Lib.hid (HT3'.out.append2 HB3.out.size (tz := tz) HLEN.out ho1 hb1 26); clear ho1 hb1)))
              rename_i hheld
              clear hheld
              clear HS HS4 HAPB HAP3 HBW1 HT3 HT3' HB3 HXR3
              go_wp2_with fail
              refine HT4.out.net.len_any.mono ?_
              rintro e wz ⟨he, hwz⟩
              rw [hwz]
              clear hwz wz
              rw [show ((rs ++ [(tz, v4, ob)])).length = (own.length + 1) from by rw [List.length_append, HRL.out, HM.out]; rfl] at he
              subst he
              go_wp2_with fail
              go_roundw
              case rel => exact ⟨i + 1, (own.length + 1), _, _, _, (rs ++ [(tz, v4, ob)]), (own ++ [(tz, .slice A5 ob.length c5, ob)]), by go_num, by omega, by omega, rfl, by rw [List.length_append, List.length_singleton], by rw [List.length_append, List.length_singleton, HRL.out, HM.out], by have := HM.out; omega, (by simp only [said_append, HSAID.out]; try rfl), HT4.out, HBq.out⟩
              case measure => simp [intOf]; omega
            · have hin1 : inb = false := HIN.out.trans (decide_eq_false hio)
              subst hin1
              have hio2 : ¬ (0 ≤ at_ ∧ at_ < rs.length) := by rw [HRL.out]; exact hio
              have HIO := Lib.hid hio2
              clear hio hio2
              go_wp2_with fail
              refine (HTX.out.net.twice_out HIO.out).mono ?_
              rintro e W ⟨rfl, hb4⟩
              have HTV := Lib.hid (HTX.out.below hb4)
              have HXRV := Lib.hid (below_q HXRX.out hb4)
              have HBW : Hid (Below w0.heap.size w0 W) := Lib.hid (HBX.out.trans (hb4.mono hsX))
              clear hb4 e0 e1 e2 e3 e4
              obtain ⟨e0, e1, e2, e3, e4⟩ := op_cells HXRV.out
              dsimp only at e0 e1 e2 e3 e4
              go_wp2_with fail
              refine HTV.out.net.len_any.mono ?_
              rintro e wz ⟨he, hwz⟩
              rw [hwz]
              clear hwz wz
              rw [show (rs).length = m from HRL.out] at he
              subst he
              go_wp2_with fail
              go_roundw
              case rel => exact ⟨i + 1, m, _, _, _, rs, own, by go_num, by omega, by omega, rfl, HM.out, HRL.out, by have := HM.out; omega, HSAID.out, HTV.out, HBW.out⟩
              case measure => simp [intOf]; omega
        by_cases hk4 : k = 4
        · subst hk4
          as_aux_lemma =>
            have HXRX := HXR
            obtain ⟨e0, e1, e2, e3, e4⟩ := op_cells HXRX.out
            dsimp only at e0 e1 e2 e3 e4
            have hsX := hsx
            by_cases hio : 0 ≤ at_ ∧ at_ < (m : Int)
            · have hin1 : inb = true := HIN.out.trans (decide_eq_true hio)
              subst hin1
              obtain ⟨ja, rfl⟩ : ∃ ja : Nat, at_ = (ja : Int) := ⟨at_.toNat, by omega⟩
              have hja : ja < own.length := by rw [← HM.out]; omega
              have hja0 : (0 : Int) ≤ (ja : Int) := by omega
              have hja1 : (ja : Int) < (m : Int) := by omega
              obtain ⟨⟨tz, ov1, ob⟩, hown⟩ : ∃ p, own[ja]? = some p := ⟨own[ja]'hja, List.getElem?_eq_getElem _⟩
              obtain ⟨lv, hrs⟩ : ∃ v, rs[ja]? = some (tz, v, ob) := said_at (p := (tz, ob)) (by rw [HSAID.out]; simp [said, hown])
              have hobl := HTX.out.its.bytes _ (List.mem_of_getElem? hown)
              have hsm := (HTX.out.net.small _ (List.mem_of_getElem? hrs)).1
              obtain ⟨Ao, co, hov1, _⟩ := hobl.slice_
              have hov1' : ov1 = .slice Ao ob.length co := hov1
              clear hov1
              subst hov1'
              dsimp only at hobl hsm
              obtain ⟨go, offo, rfl, hmc, hcm⟩ := HTX.out.form (by omega)
              unfold maxLen at hcm
              have HOWN := Lib.hid hown
              have HRS := Lib.hid hrs
              have HOB := Lib.hid hobl
              clear hown hrs hobl hio
              obtain ⟨o0, o1⟩ := HTX.out.cells HOWN.out (Below.refl _ _)
              by_cases hii : 0 ≤ i_ ∧ i_ < (ob.length : Int)
              · obtain ⟨ii, rfl⟩ : ∃ ii : Nat, i_ = (ii : Int) := ⟨i_.toNat, by omega⟩
                have hii0 : (0 : Int) ≤ (ii : Int) := by omega
                have hii1 : (ii : Int) < (ob.length : Int) := by omega
                obtain ⟨x, hx⟩ : ∃ x, ob[ii]? = some x := ⟨ob[ii]'(by omega), List.getElem?_eq_getElem _⟩
                have HX := Lib.hid hx
                clear hx hii
                go_wp2_with fail
                refine (HTX.out.net.spoil_ok HRS.out HX.out y).mono ?_
                rintro e W ⟨rfl, hS⟩
                have hb4 := hS.below HTX.out.net HRS.out hsX
                have hT4 := HTX.out.spoilt HRS.out hS
                dsimp only at hT4
                have HT3 := Lib.hid hT4
                have HB3 : Hid (Below w0.heap.size w0 W) := Lib.hid (HBX.out.trans hb4)
                have HXR3 : Hid (W.heap[q]? = some (opR ⟨4, (ja : Int), (ii : Int), .slice Ab b.length cb, b, y⟩)) := Lib.hid (by
                  obtain ⟨_, hf⟩ := hS
                  exact hf.blk HXRX.out (fun e => by have := HXN.out q (.inr (.inr (.inr ⟨_, List.mem_of_getElem? HRS.out, e⟩))); omega))
                clear hS hb4 hT4 e0 e1 e2 e3 e4 HOB o0 o1
                obtain ⟨e0, e1, e2, e3, e4⟩ := op_cells HXR3.out
                dsimp only at e0 e1 e2 e3 e4
                obtain ⟨o0, o1⟩ := HT3.out.cells HOWN.out (Below.refl _ _)
                have hob := HT3.out.its.bytes _ (List.mem_of_getElem? HOWN.out)
                dsimp only at hob
                obtain ⟨gb, offb, cb2, curb, hAb, _, hcurb, _, _, _, hccb⟩ := hob.form (by omega)
                injection hAb with hAb1 hAb0 hAb2
                clear hAb0 hAb2 hob
                subst hAb1
                have q0 : W.cell? ⟨gb, offb + ii, none⟩ = some (.int .u8 (x.toNat : Int)) := by
                  rw [cell_of_row _ _ _ _ _ _ hcurb]
                  exact own_cells hccb (bc_at HX.out)
                have q1 : W.frozen? ⟨gb, offb + ii, none⟩ = false := by unfold World.frozen?; rw [hcurb]; rfl
                have hxy : bits .xor .u8 (x.toNat : Int) (y.toNat : Int) = ((x ^^^ y).toNat : Int) := xor_u8 x y
                clear hcurb hccb
                go_wp2_with fail
                go_quiet (fail)
                go_upto_region 57 with fail
                obtain ⟨V, hV⟩ : ∃ V, V = W.drewN nq := ⟨_, rfl⟩
                have HTV : Hid (Two V w0.heap.size w0.heap.size av (rs.set ja (tz, lv, ob.set ii (x ^^^ y))) (.slice (some ⟨go, offo, none⟩) m c1) own) := Lib.hid (by rw [hV]; exact HT3.out.drewN _)
                have HBV : Hid (Below w0.heap.size w0 V) := Lib.hid (by rw [hV]; exact below_drewN HB3.out _)
                have f1 : V.cell? ⟨q, 1, none⟩ = some (.int .i64 (ja : Int)) := by rw [hV]; exact e1
                have f2 : V.cell? ⟨q, 2, none⟩ = some (.int .i64 (ii : Int)) := by rw [hV]; exact e2
                have f4 : V.cell? ⟨q, 4, none⟩ = some (.int .u8 (y.toNat : Int)) := by rw [hV]; exact e4
                have r0 : V.cell? ⟨gb, offb + ii, none⟩ = some (.int .u8 (x.toNat : Int)) := by rw [hV]; exact q0
                have r1 : V.frozen? ⟨gb, offb + ii, none⟩ = false := by rw [hV]; exact q1
                have p1 : V.cell? ⟨go, offo + ja * 2 + 1, none⟩ = some (.slice (some ⟨gb, offb, none⟩) ob.length co) := by rw [hV]; exact o1
                rw [← hV]
                clear hV e0 e1 e2 e3 e4 q0 q1 o0 o1 HT3 HB3 HXR3
                go_still_tail 14, (by kernel_rfl)
                change wpList _ _ _ _ _ V.drew
                obtain ⟨V2, hV2⟩ : ∃ V2, V2 = V.drew := ⟨_, rfl⟩
                have hgb : w0.heap.size ≤ gb := (HTV.out.its.bytes _ (List.mem_of_getElem? HOWN.out)).lt gb rfl |>.1
                have HT2 : Hid (Two V2 w0.heap.size w0.heap.size av (rs.set ja (tz, lv, ob.set ii (x ^^^ y))) (.slice (some ⟨go, offo, none⟩) m c1) own) := Lib.hid (by rw [hV2]; exact HTV.out.kept fun g _ _ => rfl)
                have HB2 : Hid (Below w0.heap.size w0 V2) := Lib.hid (by rw [hV2]; exact HBV.out.drew)
                have s0 : V2.cell? ⟨gb, offb + ii, none⟩ = some (.int .u8 (x.toNat : Int)) := by rw [hV2]; exact r0
                have s1 : V2.frozen? ⟨gb, offb + ii, none⟩ = false := by rw [hV2]; exact r1
                have hxn : ((x ^^^ y).toNat : Int) = ((x.toNat ^^^ y.toNat : Nat) : Int) := by rw [UInt8.toNat_xor]
                have HT5 := Lib.hid (HT2.out.set HOWN.out ii (x ^^^ y))
                rw [hxn] at HT5
                have HB5 : Hid (Below w0.heap.size w0 (V2.setCell ⟨gb, offb + ii, none⟩ (.int .u8 ((x.toNat ^^^ y.toNat : Nat) : Int)))) := Lib.hid (HB2.out.setCell (p := ⟨gb, offb + ii, none⟩) hgb _)
                clear hxn
                rw [← hV2]
                clear hV2 HTV HBV HT2 HB2 f1 f2 f4 r0 r1 p1
                go_wp2_with fail
                refine HT5.out.net.len_any.mono ?_
                rintro e wz ⟨he, hwz⟩
                rw [hwz]
                clear hwz wz
                rw [show ((rs.set ja (tz, lv, ob.set ii (x ^^^ y)))).length = m from by rw [List.length_set, HRL.out]] at he
                subst he
                go_wp2_with fail
                go_roundw
                case rel => exact ⟨i + 1, m, _, _, _, (rs.set ja (tz, lv, ob.set ii (x ^^^ y))), (own.set ja (tz, .slice (some ⟨gb, offb, none⟩) ob.length co, ob.set ii (x ^^^ y))), by go_num, by omega, by omega, rfl, by rw [List.length_set]; exact HM.out, by rw [List.length_set]; exact HRL.out, by have := HM.out; omega, by rw [said_set, said_set, HSAID.out], HT5.out, HB5.out⟩
                case measure => simp [intOf]; omega
              · have HII := Lib.hid hii
                clear hii
                go_wp2_with fail
                refine (HTX.out.net.spoil_past HRS.out (i := i_) HII.out _).mono ?_
                rintro e W ⟨rfl, hW⟩
                rw [hW]
                clear hW W
                by_cases hneg : 0 ≤ i_
                · have hnl : ¬ i_ < (ob.length : Int) := fun h => HII.out ⟨hneg, h⟩
                  have hnl2 : decide (i_ < (ob.length : Int)) = false := decide_eq_false hnl
                  go_wp2_with fail
                  go_quiet (fail)
                  go_wp2_with fail
                  refine (Lib.hid (HTX.out.drewN _)).out.net.len_any.mono ?_
                  rintro e wz ⟨he, hwz⟩
                  rw [hwz]
                  clear hwz wz
                  rw [show (rs).length = m from HRL.out] at he
                  subst he
                  go_wp2_with fail
                  go_roundw
                  case rel => exact ⟨i + 1, m, _, _, _, rs, own, by go_num, by omega, by omega, rfl, HM.out, HRL.out, by have := HM.out; omega, HSAID.out, (Lib.hid (HTX.out.drewN _)).out, (Lib.hid (below_drewN HBX.out _)).out⟩
                  case measure => simp [intOf]; omega
                · go_wp2_with fail
                  refine HTX.out.net.len_any.mono ?_
                  rintro e wz ⟨he, hwz⟩
                  rw [hwz]
                  clear hwz wz
                  rw [show (rs).length = m from HRL.out] at he
                  subst he
                  go_wp2_with fail
                  go_roundw
                  case rel => exact ⟨i + 1, m, _, _, _, rs, own, by go_num, by omega, by omega, rfl, HM.out, HRL.out, by have := HM.out; omega, HSAID.out, HTX.out, HBX.out⟩
                  case measure => simp [intOf]; omega
            · have hin1 : inb = false := HIN.out.trans (decide_eq_false hio)
              subst hin1
              have hio2 : ¬ (0 ≤ at_ ∧ at_ < rs.length) := by rw [HRL.out]; exact hio
              have HIO := Lib.hid hio2
              clear hio hio2
              go_wp2_with fail
              refine (HTX.out.net.spoil_out HIO.out i_ _).mono ?_
              rintro e W ⟨rfl, hW⟩
              rw [hW]
              clear hW W
              go_wp2_with fail
              refine HTX.out.net.len_any.mono ?_
              rintro e wz ⟨he, hwz⟩
              rw [hwz]
              clear hwz wz
              rw [show (rs).length = m from HRL.out] at he
              subst he
              go_wp2_with fail
              go_roundw
              case rel => exact ⟨i + 1, m, _, _, _, rs, own, by go_num, by omega, by omega, rfl, HM.out, HRL.out, by have := HM.out; omega, HSAID.out, HTX.out, HBX.out⟩
              case measure => simp [intOf]; omega
        have HXRX := HXR
        obtain ⟨e0, e1, e2, e3, e4⟩ := op_cells HXRX.out
        dsimp only at e0 e1 e2 e3 e4
        have hsX := hsx
        have z0 : (k == (0 : Int)) = false := beq_eq_false_iff_ne.2 hk0
        have y0 : decide (k = (0 : Int)) = false := decide_eq_false hk0
        have z1 : (k == (1 : Int)) = false := beq_eq_false_iff_ne.2 hk1
        have y1 : decide (k = (1 : Int)) = false := decide_eq_false hk1
        have z2 : (k == (2 : Int)) = false := beq_eq_false_iff_ne.2 hk2
        have y2 : decide (k = (2 : Int)) = false := decide_eq_false hk2
        have z3 : (k == (3 : Int)) = false := beq_eq_false_iff_ne.2 hk3
        have y3 : decide (k = (3 : Int)) = false := decide_eq_false hk3
        have z4 : (k == (4 : Int)) = false := beq_eq_false_iff_ne.2 hk4
        have y4 : decide (k = (4 : Int)) = false := decide_eq_false hk4
        go_wp2_with fail
        refine HTX.out.net.len_any.mono ?_
        rintro e wz ⟨he, hwz⟩
        rw [hwz]
        clear hwz wz
        rw [show (rs).length = m from HRL.out] at he
        subst he
        go_wp2_with fail
        go_roundw
        case rel => exact ⟨i + 1, m, _, _, _, rs, own, by go_num, by omega, by omega, rfl, HM.out, HRL.out, by have := HM.out; omega, HSAID.out, HTX.out, HBX.out⟩
        case measure => simp [intOf]; omega
    · as_aux_lemma =>
        by_cases hin2 : i < n
        · have hi60' : ¬ ((i : Int) < 60) := by omega
          have hin3 : (i : Int) < (n : Int) := by omega
          go_wp2_with fail
          go_loopw [295] (fun v wr2 => ∃ j : Nat, j ≤ m ∧ v = .int .i64 j ∧ Two wr2 w0.heap.size w0.heap.size av rs (.slice A1 m c1) own ∧ Below w0.heap.size w0 wr2) (fun v _ => m - (intOf v).toNat)
          case atStart => exact ⟨0, by omega, rfl, HT.out, HBL.out⟩
          case round =>
            obtain ⟨j, hj, rfl, htwo, hbl⟩ := hrel
            have HTX := Lib.hid htwo
            have HBX := Lib.hid hbl
            have hsX := hbl.size
            clear htwo hbl
            by_cases hjm : j < m
            · have hja : j < own.length := by rw [← HM.out]; omega
              have hja0 : (0 : Int) ≤ (j : Int) := by omega
              have hja1 : (j : Int) < (m : Int) := by omega
              obtain ⟨⟨tz, ov1, ob⟩, hown⟩ : ∃ p, own[j]? = some p := ⟨own[j]'hja, List.getElem?_eq_getElem _⟩
              obtain ⟨lv, hrs⟩ : ∃ v, rs[j]? = some (tz, v, ob) := said_at (p := (tz, ob)) (by rw [HSAID.out]; simp [said, hown])
              have hobl := HTX.out.its.bytes _ (List.mem_of_getElem? hown)
              obtain ⟨Ao, co, hov1, _⟩ := hobl.slice_
              have hov1' : ov1 = .slice Ao ob.length co := hov1
              clear hov1
              subst hov1'
              dsimp only at hobl
              obtain ⟨go, offo, rfl, hmc, hcm⟩ := HTX.out.form (by omega)
              unfold maxLen at hcm
              have HOWN := Lib.hid hown
              have HRS := Lib.hid hrs
              obtain ⟨o0, o1⟩ := HTX.out.cells HOWN.out (Below.refl _ _)
              obtain ⟨V, hV⟩ : ∃ V, V = wr.alloc (.cells #[.int .i64 tz, .slice Ao ob.length co] 33) := ⟨_, rfl⟩
              have HBV : Hid (Below wr.heap.size wr V) := Lib.hid (by rw [hV]; exact (Below.refl _ _).alloc (Nat.le_refl _) _)
              have HVA : Hid (V.heap[wr.heap.size]? = some (.cells #[.int .i64 tz, .slice Ao ob.length co] 33 (0, 0))) := Lib.hid (by rw [hV]; exact heap_alloc_new wr _)
              have HTV := Lib.hid (HTX.out.below HBV.out)
              have hsV := HBV.out.size
              clear hown hrs hobl
              go_upto_region 63 with fail
              rw [← hV]
              clear hV o0 o1
              obtain ⟨a0, a1, a2, a3⟩ := Res.row2_facts HVA.out
              go_wp2_with fail
              refine (HTV.out.net.at_in HRS.out).mono ?_
              rintro e w4 ⟨v4, rfl, hv4, hb4⟩
              obtain ⟨A4, c4, rfl, _⟩ := hv4.slice_
              dsimp only at hv4
              obtain ⟨W, hW⟩ : ∃ W, W = w4.alloc (.cells #[.int .i64 tz, .slice A4 ob.length c4] 33) := ⟨_, rfl⟩
              obtain ⟨t2, ht2⟩ : ∃ t2, t2 = w4.heap.size := ⟨_, rfl⟩
              have HB4 : Hid (Below V.heap.size V W) := Lib.hid (by rw [hW]; exact hb4.alloc hb4.size _)
              have HWA : Hid (W.heap[wr.heap.size]? = some (.cells #[.int .i64 tz, .slice Ao ob.length co] 33 (0, 0))) := Lib.hid ((HB4.out.block wr.heap.size (Array.getElem?_eq_some_iff.1 HVA.out).1).trans HVA.out)
              have HWB : Hid (W.heap[t2]? = some (.cells #[.int .i64 tz, .slice A4 ob.length c4] 33 (0, 0))) := Lib.hid (by rw [hW, ht2]; exact heap_alloc_new w4 _)
              have HV4 : Hid (Own W V.heap.size 5 1 (.slice A4 ob.length c4) ob.length (bc ob)) := Lib.hid (by rw [hW]; exact hv4.alloc _)
              have HTW := Lib.hid (HTV.out.below HB4.out)
              have HBW : Hid (Below w0.heap.size w0 W) := Lib.hid ((HBX.out.trans (HBV.out.mono hsX)).trans (HB4.out.mono (Nat.le_trans hsX hsV)))
              clear hb4 hv4 a0 a1 a2 a3
              go_upto_region 64 with fail
              rw [← hW, ← ht2]
              clear hW ht2
              obtain ⟨a0, a1, _, _⟩ := Res.row2_facts HWA.out
              obtain ⟨b0, b1, _, _⟩ := Res.row2_facts HWB.out
              have hsa0 := run_str HV4.out.rd
              have hob := HTW.out.its.bytes _ (List.mem_of_getElem? HOWN.out)
              dsimp only at hob
              have hsb0 := run_str hob.rd
              clear hob
              go_wp2_with fail
              go_roundw
              case rel => exact ⟨j + 1, by omega, by go_num, HTW.out, HBW.out⟩
              case measure => simp [intOf]; omega
            · obtain rfl : j = m := by omega
              go_wp2_with fail
              go_ret
              exact ⟨rfl, HB.out.trans (HBX.out.mono hs0)⟩
        · have hin3 : ¬ ((i : Int) < (n : Int)) := by omega
          go_wp2_with fail
          go_loopw [295] (fun v wr2 => ∃ j : Nat, j ≤ m ∧ v = .int .i64 j ∧ Two wr2 w0.heap.size w0.heap.size av rs (.slice A1 m c1) own ∧ Below w0.heap.size w0 wr2) (fun v _ => m - (intOf v).toNat)
          case atStart => exact ⟨0, by omega, rfl, HT.out, HBL.out⟩
          case round =>
            obtain ⟨j, hj, rfl, htwo, hbl⟩ := hrel
            have HTX := Lib.hid htwo
            have HBX := Lib.hid hbl
            have hsX := hbl.size
            clear htwo hbl
            by_cases hjm : j < m
            · have hja : j < own.length := by rw [← HM.out]; omega
              have hja0 : (0 : Int) ≤ (j : Int) := by omega
              have hja1 : (j : Int) < (m : Int) := by omega
              obtain ⟨⟨tz, ov1, ob⟩, hown⟩ : ∃ p, own[j]? = some p := ⟨own[j]'hja, List.getElem?_eq_getElem _⟩
              obtain ⟨lv, hrs⟩ : ∃ v, rs[j]? = some (tz, v, ob) := said_at (p := (tz, ob)) (by rw [HSAID.out]; simp [said, hown])
              have hobl := HTX.out.its.bytes _ (List.mem_of_getElem? hown)
              obtain ⟨Ao, co, hov1, _⟩ := hobl.slice_
              have hov1' : ov1 = .slice Ao ob.length co := hov1
              clear hov1
              subst hov1'
              dsimp only at hobl
              obtain ⟨go, offo, rfl, hmc, hcm⟩ := HTX.out.form (by omega)
              unfold maxLen at hcm
              have HOWN := Lib.hid hown
              have HRS := Lib.hid hrs
              obtain ⟨o0, o1⟩ := HTX.out.cells HOWN.out (Below.refl _ _)
              obtain ⟨V, hV⟩ : ∃ V, V = wr.alloc (.cells #[.int .i64 tz, .slice Ao ob.length co] 33) := ⟨_, rfl⟩
              have HBV : Hid (Below wr.heap.size wr V) := Lib.hid (by rw [hV]; exact (Below.refl _ _).alloc (Nat.le_refl _) _)
              have HVA : Hid (V.heap[wr.heap.size]? = some (.cells #[.int .i64 tz, .slice Ao ob.length co] 33 (0, 0))) := Lib.hid (by rw [hV]; exact heap_alloc_new wr _)
              have HTV := Lib.hid (HTX.out.below HBV.out)
              have hsV := HBV.out.size
              clear hown hrs hobl
              go_upto_region 63 with fail
              rw [← hV]
              clear hV o0 o1
              obtain ⟨a0, a1, a2, a3⟩ := Res.row2_facts HVA.out
              go_wp2_with fail
              refine (HTV.out.net.at_in HRS.out).mono ?_
              rintro e w4 ⟨v4, rfl, hv4, hb4⟩
              obtain ⟨A4, c4, rfl, _⟩ := hv4.slice_
              dsimp only at hv4
              obtain ⟨W, hW⟩ : ∃ W, W = w4.alloc (.cells #[.int .i64 tz, .slice A4 ob.length c4] 33) := ⟨_, rfl⟩
              obtain ⟨t2, ht2⟩ : ∃ t2, t2 = w4.heap.size := ⟨_, rfl⟩
              have HB4 : Hid (Below V.heap.size V W) := Lib.hid (by rw [hW]; exact hb4.alloc hb4.size _)
              have HWA : Hid (W.heap[wr.heap.size]? = some (.cells #[.int .i64 tz, .slice Ao ob.length co] 33 (0, 0))) := Lib.hid ((HB4.out.block wr.heap.size (Array.getElem?_eq_some_iff.1 HVA.out).1).trans HVA.out)
              have HWB : Hid (W.heap[t2]? = some (.cells #[.int .i64 tz, .slice A4 ob.length c4] 33 (0, 0))) := Lib.hid (by rw [hW, ht2]; exact heap_alloc_new w4 _)
              have HV4 : Hid (Own W V.heap.size 5 1 (.slice A4 ob.length c4) ob.length (bc ob)) := Lib.hid (by rw [hW]; exact hv4.alloc _)
              have HTW := Lib.hid (HTV.out.below HB4.out)
              have HBW : Hid (Below w0.heap.size w0 W) := Lib.hid ((HBX.out.trans (HBV.out.mono hsX)).trans (HB4.out.mono (Nat.le_trans hsX hsV)))
              clear hb4 hv4 a0 a1 a2 a3
              go_upto_region 64 with fail
              rw [← hW, ← ht2]
              clear hW ht2
              obtain ⟨a0, a1, _, _⟩ := Res.row2_facts HWA.out
              obtain ⟨b0, b1, _, _⟩ := Res.row2_facts HWB.out
              have hsa0 := run_str HV4.out.rd
              have hob := HTW.out.its.bytes _ (List.mem_of_getElem? HOWN.out)
              dsimp only at hob
              have hsb0 := run_str hob.rd
              clear hob
              go_wp2_with fail
              go_roundw
              case rel => exact ⟨j + 1, by omega, by go_num, HTW.out, HBW.out⟩
              case measure => simp [intOf]; omega
            · obtain rfl : j = m := by omega
              go_wp2_with fail
              go_ret
              exact ⟨rfl, HB.out.trans (HBX.out.mono hs0)⟩
#print axioms runs_any
end Go.Proofs.Ytpgcoopkileclaa.NetA
