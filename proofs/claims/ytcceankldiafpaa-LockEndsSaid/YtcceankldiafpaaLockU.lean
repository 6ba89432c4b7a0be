/- LockEnds: the walk. -/
import Derived.Test.YtcceankldiafpaaLockT
set_option linter.unusedVariables false
set_option linter.unusedSimpArgs false
set_option linter.unusedSectionVars false
set_option maxRecDepth 100000
namespace Go.Proofs.Ytcceankldiafpaa.Lock
open Go.RowKit Go.WideShapes Go.Deep Go.Proofs.Ytcceankldiafpaa.Mem Go.Proofs.Ytcceankldiafpaa.Open Go.Proofs.Ytcceankldiafpaa.Maps
set_option maxHeartbeats 20000000 in
theorem ends_any (w : World) (v0 : Value) (os : List OpT) (h : OpsIn w v0 os) (last : Int × Int) :
    Calls Try.prog 8 #[v0, .agg #[.int .u64 last.1, .int .i64 last.2]] w fun e w' => e = .returned (.bool true) ∧ Below w.heap.size w w' := by
  obtain ⟨n, hn⟩ : ∃ n, n = os.length := ⟨_, rfl⟩
  have hl0 := h.rd.len_le
  unfold maxLen at hl0
  obtain ⟨A0, c0, rfl⟩ : ∃ A c, v0 = .slice A n c := by
    obtain ⟨_, A, c, e, _⟩ := h.rd
    exact ⟨A, c, by rw [hn]; exact e⟩
  rw [← hn] at hl0
  have H := Lib.hid h
  have HN := Lib.hid hn
  clear h hn
  go_enter Try.func8, Try.ntmps8
  go_upto_region 1 with fail
  obtain ⟨go, hgo⟩ : ∃ g, g = w.heap.size := ⟨_, rfl⟩
  obtain ⟨X0, hX⟩ : ∃ X, X = w.alloc (.cells #[.int .u64 last.1, .int .i64 last.2] 24) := ⟨_, rfl⟩
  rw [← hX, ← hgo]
  have HXB0 : Hid (Below w.heap.size w X0) := Lib.hid (by rw [hX]; exact (Below.refl _ _).alloc (Nat.le_refl _) _)
  have HXO0 : Hid (X0.heap[go]? = some (.cells #[.int .u64 last.1, .int .i64 last.2] 24 (0, 0))) := Lib.hid (by rw [hX, hgo]; exact heap_alloc_new w _)
  clear hX hgo
  go_upto_region 3 with (go_at_call 10; refine (head_any X0).mono ?_; rintro e X ⟨rfl, hb1⟩; have HXB1 := Lib.hid hb1; clear hb1)
  have HXB : Hid (Below w.heap.size w X) := Lib.hid (HXB0.out.trans (HXB1.out.mono HXB0.out.size))
  have HXO := Lib.hid (blk_below HXO0.out HXB1.out)
  have HL := Lib.hid (H.out.up HXB.out)
  have HC : Hid (∀ V, Below X.heap.size X V → V.cell? ⟨go, 0, none⟩ = some (.int .u64 last.1) ∧ V.cell? ⟨go, 1, none⟩ = some (.int .i64 last.2)) := Lib.hid (fun V hb => row2c (blk_below HXO.out hb))
  clear HXB0 HXO0 HXB1 H
  go_upto_region 4 with (go_at_call 12; refine (new_any X).mono ?_; rintro e W2 ⟨rfl, ht2, hb2⟩; have HT2 := Lib.hid ht2; have HB2 := Lib.hid hb2; clear ht2 hb2)
  obtain ⟨B, hB⟩ : ∃ B, B = X.heap.size := ⟨_, rfl⟩
  obtain ⟨lt, hlt⟩ : ∃ B, B = X.heap.size + 1 := ⟨_, rfl⟩
  obtain ⟨mb, hmb⟩ : ∃ B, B = X.heap.size := ⟨_, rfl⟩
  have HT2' : Hid (Tb W2 B lt mb []) := Lib.hid (by rw [hB, hlt, hmb]; exact HT2.out)
  rw [← hlt]
  have hX1 : X.heap.size ≤ B := Nat.le_of_eq hB.symm
  have hBW : B ≤ W2.heap.size := HT2'.out.size
  clear HT2 hB hlt hmb
  go_upto_region 6 with fail
  go_loopw [6, 7] (fun v6 v7 wr => ∃ (i : Nat) (qs : List (S × Qv)) (al : List (Int × Int)), i ≤ n ∧ i ≤ 40 ∧ v7 = .int .i64 i ∧ POwn wr B v6 al ∧ al.length ≤ i ∧ EndT wr B lt mb i (fun q => q ∈ al) qs ∧ Below X.heap.size X wr) (fun _ v7 _ => n - (intOf v7).toNat)
  case atStart => exact ⟨0, [], [], Nat.zero_le _, by omega, rfl, ⟨by simp [pc], .inr ⟨W2.heap.size, 0, 0, #[], rfl, hBW, heap_alloc_new W2 _, Nat.le_refl _, Nat.zero_le _, by simp, by simp [pc]⟩⟩, Nat.le_refl _, ((EndT.new HT2'.out).below ((Below.refl _ _).alloc (Nat.le_refl _) _)).more (Nat.le_refl _) (fun q hq => hq.elim), HB2.out.alloc HB2.out.size _⟩
  case round =>
    obtain ⟨i, qs, al, hin, hi40, rfl, hpo, hal, hend, hbl⟩ := hrel
    have HT := Lib.hid hend
    have HBL := Lib.hid hbl
    have HPO := Lib.hid hpo
    have hszr := hbl.size
    obtain ⟨Aa, ca, rfl⟩ := hpo.form
    obtain ⟨na, hna⟩ : ∃ n, n = al.length := ⟨_, rfl⟩
    rw [← hna] at hal ⊢
    have HNA := Lib.hid hna
    clear hend hbl hpo hna
    by_cases hlt : i < n ∧ i < 40
    · obtain ⟨hlt1, hlt2⟩ := hlt
      have hlt3 : (i : Int) < (n : Int) := by omega
      have hlt4 : (i : Int) < 40 := by omega
      have i0 : (0 : Int) ≤ (i : Int) := by omega
      obtain ⟨oo, hoo⟩ : ∃ oo, os[i]? = some oo := ⟨os[i]'(by rw [← HN.out]; omega), List.getElem?_eq_getElem _⟩
      obtain ⟨g, off, ce, hv0, hg, _, _, hx⟩ := HL.out.rd.cells (by rw [← HN.out]; omega)
      injection hv0 with hv01 hv00 hv02
      clear hv00
      subst hv01 hv02
      have HKK : Hid (OkS oo.key) := Lib.hid (by have := HL.out.each _ (List.mem_of_getElem? hoo); unfold OkS maxLen; omega)
      have hw : ∀ {j : Nat} {u : Value}, X.cell? ⟨g, j, none⟩ = some u → wr.cell? ⟨g, j, none⟩ = some u := fun {j u} hu => (HBL.out.cell (p := ⟨g, j, none⟩) hg).trans hu
      have k0 : wr.cell? ⟨g, off + i * 5, none⟩ = some (.int .i64 oo.k) := hw (hx _ _ (oc_at hoo 0 _ rfl))
      have k1 : wr.cell? ⟨g, off + i * 5 + 1, none⟩ = some (.int .u64 oo.tid.1) := hw (by rw [Nat.add_assoc]; exact hx _ _ (oc_at hoo 1 _ rfl))
      have k2 : wr.cell? ⟨g, off + i * 5 + 2, none⟩ = some (.int .i64 oo.tid.2) := hw (by rw [Nat.add_assoc]; exact hx _ _ (oc_at hoo 2 _ rfl))
      have k3 : wr.cell? ⟨g, off + i * 5 + 3, none⟩ = some (.string oo.key) := hw (by rw [Nat.add_assoc]; exact hx _ _ (oc_at hoo 3 _ rfl))
      have k4 : wr.cell? ⟨g, off + i * 5 + 4, none⟩ = some (.int .i64 oo.md) := hw (by rw [Nat.add_assoc]; exact hx _ _ (oc_at hoo 4 _ rfl))
      clear hoo hx hg hw
      obtain ⟨gy, hgy⟩ : ∃ g, g = wr.heap.size := ⟨_, rfl⟩
      obtain ⟨Y, hY⟩ : ∃ Y, Y = wr.alloc (.cells #[.int .i64 oo.k, .int .u64 oo.tid.1, .int .i64 oo.tid.2, .string oo.key, .int .i64 oo.md] 42) := ⟨_, rfl⟩
      have HYB : Hid (Below wr.heap.size wr Y) := Lib.hid (by rw [hY]; exact (Below.refl _ _).alloc (Nat.le_refl _) _)
      have HYR : Hid (Y.heap[gy]? = some (.cells #[.int .i64 oo.k, .int .u64 oo.tid.1, .int .i64 oo.tid.2, .string oo.key, .int .i64 oo.md] 42 (0, 0))) := Lib.hid (by rw [hY, hgy]; exact heap_alloc_new wr _)
      have HBY : Hid (Below X.heap.size X Y) := Lib.hid (HBL.out.trans (HYB.out.mono hszr))
      have HTY := Lib.hid (HT.out.below HYB.out)
      have HPY : Hid (POwn Y B (.slice Aa na ca) al) := Lib.hid (by rw [HNA.out]; exact Own.below HPO.out HYB.out)
      have HYS : Hid (∀ (V : World), V.heap[gy]? = some (.cells #[.int .i64 oo.k, .int .u64 oo.tid.1, .int .i64 oo.tid.2, .string oo.key, .int .i64 oo.md] 42 (0, 0)) → V.cell? ⟨gy, 1, none⟩ = some (.int .u64 oo.tid.1) ∧ V.cell? ⟨gy, 2, none⟩ = some (.int .i64 oo.tid.2) ∧ V.cell? ⟨gy, 3, none⟩ = some (.string oo.key) ∧ V.cell? ⟨gy, 4, none⟩ = some (.int .i64 oo.md)) := Lib.hid (fun V h => by
        refine ⟨?_, ?_, ?_, ?_⟩ <;> (rw [cell_of_row _ _ _ _ _ _ h]; rfl))
      go_upto_region 9 with fail
      rw [← hY, ← hgy]
      clear hY hgy k0 k1 k2 k3 k4
      obtain ⟨d1, d2, d3, d4⟩ := HYS.out _ HYR.out
      by_cases h40 : 40 < oo.key.size
      · go_wp2_with fail
        go_roundw
        case rel => exact ⟨i + 1, qs, al, by omega, by omega, by go_num, HPY.out, by rw [← HNA.out]; omega, HTY.out.more (by omega) (fun q hq => hq), HBY.out⟩
        case measure => simp [intOf]; omega
      have HAK := Lib.hid (HTY.out.ask HKK.out oo.tid oo.md (by omega))
      go_upto_region 11 with (go_at_call 13; refine HAK.out.mono ?_; rintro e w1 ⟨a1, qs1, rfl, ht1, hg1⟩; have HT1 := Lib.hid ht1; have HB1 : Hid (Below X.heap.size X w1) := Lib.hid (HBY.out.trans ((hg1.below HTY.out.tb).mono hX1)); have HP1 : Hid (POwn w1 B (.slice Aa na ca) al) := Lib.hid (Own.fr HPY.out hg1.fr fun g hg => HTY.out.tb.far HPY.out t_w t_q hg); have HY1 := Lib.hid (hg1.fr.blk HYR.out (fun hx => by
          rcases hx with e | ⟨k9, q9, h9, hx⟩
          · obtain ⟨es, c, h8, _⟩ := HTY.out.tb.fm
            rw [← e, HYR.out] at h8
            injection h8 with h8
            cases h8
          · exact not_feet_row (HTY.out.tb.rows k9 q9 h9) HYR.out (by decide) (by decide) hx)); clear ht1 hg1)
      clear d1 d2 d3 d4 HAK
      obtain ⟨d1, d2, d3, d4⟩ := HYS.out _ HY1.out
      have hs1 := HB1.out.size
      have HAP := Lib.hid (app_p HP1.out HT1.out.tb.size oo.tid (by rw [← HNA.out]; omega) 45)
      go_wp2_with (at_builtin; refine wpL_append rfl _ _ 45 45 rfl rfl rfl HAP.out ?_; rintro v5 w5 ⟨ho5, hf5⟩; have HO5 := Lib.hid ho5; have HF5 := Lib.hid hf5; clear ho5 hf5)
      go_roundw
      case rel =>
        have hw1 : Below w1.heap.size w1 (w1.alloc (.cells #[.int .u64 oo.tid.1, .int .i64 oo.tid.2] 24)) := (Below.refl _ _).alloc (Nat.le_refl _) _
        have hA := HT1.out.below hw1
        have hO := Own.alloc HP1.out (.cells #[.int .u64 oo.tid.1, .int .i64 oo.tid.2] 24)
        refine ⟨i + 1, qs1, al ++ [oo.tid], by omega, by omega, by go_num, HO5.out, by rw [List.length_append, List.length_singleton, ← HNA.out]; omega, ⟨hA.tb.row hO t_w t_q t_t HF5.out, hA.bnd, hA.len, hA.ne, hA.ok, fun k q hq => ?_⟩, (HB1.out.alloc hs1 _).trans (HF5.out.below (by simp; omega) fun g _ hg => by have := (Own.lt hO g hg).1; omega)⟩
        rcases hA.mem k q hq with e | e
        · exact List.mem_append_right _ (List.mem_singleton.2 e)
        · exact List.mem_append_left _ e
      case measure => simp [intOf]; omega
    · by_cases hin2 : i < n
      · have hi60' : ¬ ((i : Int) < 40) := by omega
        have hin3 : (i : Int) < (n : Int) := by omega
        go_upto_region 13 with fail
        go_loopw [51] (fun v51 w2 => ∃ (j : Nat) (qs2 : List (S × Qv)), j ≤ na ∧ v51 = .int .i64 j ∧ EndT w2 B lt mb 40 (fun q => q ∈ al ∧ ∀ (k : Nat) (u : Int × Int), k < j → al[k]? = some u → u ≠ last → q ≠ u) qs2 ∧ POwn w2 B (.slice Aa na ca) al ∧ Below X.heap.size X w2) (fun v51 _ => na - (intOf v51).toNat)
        case atStart => exact ⟨0, qs, Nat.zero_le _, rfl, HT.out.more (by omega) (fun q hq => ⟨hq, fun k u hk => absurd hk (by omega)⟩), by rw [HNA.out]; exact HPO.out, HBL.out⟩
        case round =>
          obtain ⟨j, qs2, hj, rfl, he2, hp2, hb2⟩ := hrel
          have HE2 := Lib.hid he2
          have HP2 := Lib.hid hp2
          have HB2 := Lib.hid hb2
          have hsz2 := hb2.size
          clear he2 hp2 hb2
          by_cases hlj : j < na
          · obtain ⟨u, hu⟩ : ∃ u, al[j]? = some u := ⟨al[j]'(by rw [← HNA.out]; omega), List.getElem?_eq_getElem _⟩
            have j0 : (0 : Int) ≤ (j : Int) := by omega
            have j1 : (j : Int) < (na : Int) := by omega
            have hrd := Own.rd HP2.out
            rw [← HNA.out] at hrd
            obtain ⟨ga, oa, cza, ea, hga, _, _, hxa⟩ := hrd.cells (by omega)
            injection ea with ea1 ea2 ea3
            clear ea2
            subst ea1 ea3
            have k0 : wr.cell? ⟨ga, oa + j * 2, none⟩ = some (.int .u64 u.1) := hxa _ _ (pc_at hu).1
            have k1 : wr.cell? ⟨ga, oa + j * 2 + 1, none⟩ = some (.int .i64 u.2) := by rw [Nat.add_assoc]; exact hxa _ _ (pc_at hu).2
            have HU := Lib.hid hu
            clear hu hrd hga hxa
            obtain ⟨gy, hgy⟩ : ∃ g, g = wr.heap.size := ⟨_, rfl⟩
            obtain ⟨Y, hY⟩ : ∃ Y, Y = wr.alloc (.cells #[.int .u64 u.1, .int .i64 u.2] 24) := ⟨_, rfl⟩
            have HYB : Hid (Below wr.heap.size wr Y) := Lib.hid (by rw [hY]; exact (Below.refl _ _).alloc (Nat.le_refl _) _)
            have HYR : Hid (Y.heap[gy]? = some (.cells #[.int .u64 u.1, .int .i64 u.2] 24 (0, 0))) := Lib.hid (by rw [hY, hgy]; exact heap_alloc_new wr _)
            have HBY : Hid (Below X.heap.size X Y) := Lib.hid (HB2.out.trans (HYB.out.mono hsz2))
            have HEY := Lib.hid (HE2.out.below HYB.out)
            have HPY : Hid (POwn Y B (.slice (some ⟨ga, oa, none⟩) na ca) al) := Lib.hid (by have := Own.below HP2.out HYB.out; exact this)
            go_upto_region 15 with fail
            rw [← hY, ← hgy]
            clear hY hgy k0 k1
            obtain ⟨d0, d1⟩ := row2c HYR.out
            obtain ⟨l0, l1⟩ := HC.out Y HBY.out
            by_cases hul : u = last
            · have HUL := Lib.hid hul
              have hb1 : (u.1 == last.1) = true := by rw [hul]; simp
              have hb2 : (u.2 == last.2) = true := by rw [hul]; simp
              clear hul
              go_wp2_with fail
              go_roundw
              case rel => exact ⟨j + 1, qs2, by omega, by go_num, HEY.out.more (Nat.le_refl _) (fun q hq => ⟨hq.1, fun k v hk hv hne => by
                by_cases e : k = j
                · subst e
                  have : some u = some v := HU.out.symm.trans hv
                  injection this with this
                  exact absurd (this.symm.trans HUL.out) hne
                · exact hq.2 k v (by omega) hv hne⟩), HPY.out, HBY.out⟩
              case measure => simp [intOf]; omega
            · have HUL := Lib.hid hul
              have HFR := Lib.hid (HEY.out.free u (by omega))
              have rel2 : Hid (∀ w3 qs3, EndT w3 B lt mb 40 (fun q => (q ∈ al ∧ ∀ (k : Nat) (v : Int × Int), k < j → al[k]? = some v → v ≠ last → q ≠ v) ∧ q ≠ u) qs3 → EndT w3 B lt mb 40 (fun q => q ∈ al ∧ ∀ (k : Nat) (v : Int × Int), k < j + 1 → al[k]? = some v → v ≠ last → q ≠ v) qs3) := Lib.hid (fun w3 qs3 h3 => h3.more (Nat.le_refl _) (fun q hq => ⟨hq.1.1, fun k v hk hv hne => by
                by_cases e : k = j
                · subst e
                  have : some u = some v := HU.out.symm.trans hv
                  injection this with this
                  rw [← this]
                  exact hq.2
                · exact hq.1.2 k v (by omega) hv hne⟩))
              by_cases h1 : u.1 = last.1
              · have h2 : ¬ u.2 = last.2 := fun e => hul (Prod.ext h1 e)
                have hb1 : (u.1 == last.1) = true := by simp [h1]
                have hb2 : (u.2 == last.2) = false := by simp [h2]
                clear h1 h2 hul
                go_wp2_with (go_at_call 14; refine HFR.out.mono ?_; rintro e w3 ⟨A3, n3, c3, qs3, rfl, ht3, hg3⟩; have HT3 := Lib.hid (rel2.out _ _ ht3); have HB3 : Hid (Below X.heap.size X w3) := Lib.hid (HBY.out.trans ((hg3.below HEY.out.tb).mono hX1)); have HP3 : Hid (POwn w3 B (.slice (some ⟨ga, oa, none⟩) na ca) al) := Lib.hid (Own.fr HPY.out hg3.fr fun g hg => HEY.out.tb.far HPY.out t_w t_q hg); clear ht3 hg3)
                go_roundw
                case rel => exact ⟨j + 1, qs3, by omega, by go_num, HT3.out, HP3.out, HB3.out⟩
                case measure => simp [intOf]; omega
              · have hb1 : (u.1 == last.1) = false := by simp [h1]
                clear h1 hul
                go_wp2_with (go_at_call 14; refine HFR.out.mono ?_; rintro e w3 ⟨A3, n3, c3, qs3, rfl, ht3, hg3⟩; have HT3 := Lib.hid (rel2.out _ _ ht3); have HB3 : Hid (Below X.heap.size X w3) := Lib.hid (HBY.out.trans ((hg3.below HEY.out.tb).mono hX1)); have HP3 : Hid (POwn w3 B (.slice (some ⟨ga, oa, none⟩) na ca) al) := Lib.hid (Own.fr HPY.out hg3.fr fun g hg => HEY.out.tb.far HPY.out t_w t_q hg); clear ht3 hg3)
                go_roundw
                case rel => exact ⟨j + 1, qs3, by omega, by go_num, HT3.out, HP3.out, HB3.out⟩
                case measure => simp [intOf]; omega
          · obtain rfl : j = na := by omega
            have HEF := Lib.hid (HE2.out.more (T' := fun q => q = last) (Nat.le_refl _) (fun q hq => Classical.byContradiction fun hne => by
              obtain ⟨k, hk⟩ := List.getElem?_of_mem hq.1
              exact hq.2 k q (by rw [HNA.out]; exact (List.getElem?_eq_some_iff.1 hk).1) hk hne rfl))
            clear HE2
            obtain ⟨W, hW⟩ : ∃ W, W = wr := ⟨_, rfl⟩
            rw [← hW] at HEF HB2 ⊢
            have hsW := HB2.out.size
            clear hW
            have HONE : Hid (∀ k, (lineOf qs2 k).2 = [] ∧ ∀ u ∈ (lineOf qs2 k).1, u.num = last.1 ∧ u.nd = last.2) := Lib.hid (fun k => ⟨alone (HEF.out.ok k) (fun q hq => HEF.out.mem k q hq), fun u hu => by
              have h9 : u.tid = last := HEF.out.mem k _ (.inl (List.mem_map.2 ⟨u, hu, rfl⟩))
              exact ⟨congrArg Prod.fst h9, congrArg Prod.snd h9⟩⟩)
            go_upto_region 19 with fail
            go_loopw [11] (fun v11 w4 => ∃ i4 : Nat, i4 ≤ n ∧ i4 ≤ 40 ∧ v11 = .int .i64 i4 ∧ Below W.heap.size W w4) (fun v11 _ => n - (intOf v11).toNat)
            case atStart => exact ⟨0, Nat.zero_le _, by omega, rfl, Below.refl _ _⟩
            case round =>
              obtain ⟨i4, hi4, hi4', rfl, hb4⟩ := hrel
              have HB4 := Lib.hid hb4
              have hsz4 := hb4.size
              clear hb4
              have HBX : Hid (Below X.heap.size X wr) := Lib.hid (HB2.out.trans (HB4.out.mono hsW))
              by_cases hl4 : i4 < n ∧ i4 < 40
              · obtain ⟨hla, hlb⟩ := hl4
                have hlc : (i4 : Int) < (n : Int) := by omega
                have hld : (i4 : Int) < 40 := by omega
                have z0 : (0 : Int) ≤ (i4 : Int) := by omega
                obtain ⟨oo, hoo⟩ : ∃ oo, os[i4]? = some oo := ⟨os[i4]'(by rw [← HN.out]; omega), List.getElem?_eq_getElem _⟩
                obtain ⟨g, off, ce, hv0, hg, _, _, hx⟩ := HL.out.rd.cells (by rw [← HN.out]; omega)
                injection hv0 with hv01 hv00 hv02
                clear hv00
                subst hv01 hv02
                have HKK : Hid (OkS oo.key) := Lib.hid (by have := HL.out.each _ (List.mem_of_getElem? hoo); unfold OkS maxLen; omega)
                have HK3 : Hid (∀ V, Below X.heap.size X V → V.cell? ⟨g, off + i4 * 5 + 2 + 1, none⟩ = some (.string oo.key)) := Lib.hid (fun V hb => (hb.cell (p := ⟨g, off + i4 * 5 + 2 + 1, none⟩) hg).trans (by
                  have := hx _ _ (oc_at hoo 3 _ rfl)
                  rw [show off + i4 * 5 + 2 + 1 = off + (i4 * 5 + 3) by omega]
                  exact this))
                have HK3' : Hid (∀ V, Below X.heap.size X V → V.cell? ⟨g, off + i4 * 5 + 3, none⟩ = some (.string oo.key)) := Lib.hid (fun V hb => HK3.out V hb)
                clear hoo hx hg
                have k3 := HK3'.out wr HBX.out
                by_cases h40 : 40 < oo.key.size
                · go_wp2_with fail
                  go_roundw
                  case rel => exact ⟨i4 + 1, by omega, by omega, by go_num, HB4.out⟩
                  case measure => simp [intOf]; omega
                obtain ⟨hw0, hh0⟩ := HONE.out oo.key
                have HER := Lib.hid (HEF.out.below HB4.out)
                have HHA := Lib.hid (has_any HER.out.tb HKK.out (N := 40) (by omega) HER.out.bnd)
                have HW0 := Lib.hid hw0
                have HH0 := Lib.hid hh0
                obtain ⟨hs9, hhs9⟩ : ∃ l, l = (lineOf qs2 oo.key).1 := ⟨_, rfl⟩
                rw [← hhs9] at HHA HH0
                obtain ⟨nh, hnh⟩ : ∃ n, n = hs9.length := ⟨_, rfl⟩
                have HNH := Lib.hid hnh
                clear hw0 hh0 hhs9
                go_upto_region 23 with (go_at_call 15; refine HHA.out.mono ?_; rintro e w5 ⟨A5, c5, e5, ho5, hb5⟩; rw [← hnh] at e5; clear hnh; subst e5; have HO5 := Lib.hid ho5; have HB5 := Lib.hid hb5; clear ho5 hb5)
                clear k3
                have HBX5 : Hid (Below X.heap.size X w5) := Lib.hid (HBX.out.trans (HB5.out.mono HBX.out.size))
                have hs5 := HBX5.out.size
                have hn64 : nh ≤ maxLen := by rw [HNH.out]; exact HO5.out.rd.len_le
                unfold maxLen at hn64
                go_loopw [87] (fun v87 w6 => ∃ j : Nat, j ≤ nh ∧ v87 = .int .i64 j ∧ Below w5.heap.size w5 w6) (fun v87 _ => nh - (intOf v87).toNat)
                case atStart => exact ⟨0, Nat.zero_le _, rfl, Below.refl _ _⟩
                case round =>
                  obtain ⟨jj, hjj, rfl, hb6⟩ := hrel
                  have HB6 := Lib.hid hb6
                  have hsz6 := hb6.size
                  clear hb6
                  have HBX6 : Hid (Below X.heap.size X wr) := Lib.hid (HBX5.out.trans (HB6.out.mono hs5))
                  by_cases hlj6 : jj < nh
                  · obtain ⟨u, hu⟩ : ∃ u, hs9[jj]? = some u := ⟨hs9[jj]'(by rw [← HNH.out]; omega), List.getElem?_eq_getElem _⟩
                    have y0 : (0 : Int) ≤ (jj : Int) := by omega
                    have y1 : (jj : Int) < (nh : Int) := by omega
                    obtain ⟨g6, o6, rfl, _, c0', c1', c2'⟩ := want_cells (HO5.out.below HB6.out).rd hu (by have := HNH.out; omega)
                    obtain ⟨hu1, hu2⟩ := HH0.out u (List.mem_of_getElem? hu)
                    have hb1 : (u.num == last.1) = true := by rw [hu1]; simp
                    have hb2 : (u.nd == last.2) = true := by rw [hu2]; simp
                    clear hu hu1 hu2
                    obtain ⟨gy, hgy⟩ : ∃ g, g = wr.heap.size := ⟨_, rfl⟩
                    obtain ⟨Y, hY⟩ : ∃ Y, Y = wr.alloc (.cells #[.int .u64 u.num, .int .i64 u.nd, .int .i64 u.md] 47) := ⟨_, rfl⟩
                    have HYB : Hid (Below wr.heap.size wr Y) := Lib.hid (by rw [hY]; exact (Below.refl _ _).alloc (Nat.le_refl _) _)
                    have HYR : Hid (Y.heap[gy]? = some (.cells #[.int .u64 u.num, .int .i64 u.nd, .int .i64 u.md] 47 (0, 0))) := Lib.hid (by rw [hY, hgy]; exact heap_alloc_new wr _)
                    go_upto_region 25 with fail
                    rw [← hY, ← hgy]
                    clear hY hgy c0' c1' c2'
                    obtain ⟨d0, d1, d2⟩ := row3c HYR.out
                    obtain ⟨l0, l1⟩ := HC.out Y (HBX6.out.trans (HYB.out.mono HBX6.out.size))
                    go_wp2_with fail
                    go_roundw
                    case rel => exact ⟨jj + 1, by omega, by go_num, HB6.out.trans (HYB.out.mono hsz6)⟩
                    case measure => simp [intOf]; omega
                  · obtain rfl : jj = nh := by omega
                    have k3 := HK3'.out wr HBX6.out
                    have HER6 := Lib.hid ((HER.out.below HB5.out).below HB6.out)
                    have HWA := Lib.hid (waiting_any HER6.out.tb HKK.out (N := 40) (by omega) HER6.out.bnd)
                    rw [HW0.out] at HWA
                    go_wp2_with (go_at_call 17; refine HWA.out.mono ?_; rintro e w7 ⟨A7, c7, rfl, _, hb7⟩; have HB7 := Lib.hid hb7; clear hb7)
                    go_roundw
                    case rel => exact ⟨i4 + 1, by omega, by omega, by go_num, HB4.out.trans ((HB5.out.trans ((HB6.out.trans (HB7.out.mono hsz6)).mono HB5.out.size)).mono hsz4)⟩
                    case measure => simp [intOf]; omega
              · have HER := Lib.hid (HEF.out.below HB4.out)
                have HFR := Lib.hid (HER.out.free last (by omega))
                obtain ⟨l0, l1⟩ := HC.out wr HBX.out
                by_cases hin9 : i4 < n
                · have hia : ¬ ((i4 : Int) < 40) := by omega
                  have hib : (i4 : Int) < (n : Int) := by omega
                  go_wp2_with (first
                    | (go_at_call 14; refine HFR.out.mono ?_; rintro e w8 ⟨A8, n8, c8, qs8, rfl, ht8, hg8⟩; have hnil : qs8 = [] := ht8.empty (fun q hq => hq.2 hq.1); subst hnil; have HT8 := Lib.hid ht8.tb; have HB8 : Hid (Below X.heap.size X w8) := Lib.hid (HBX.out.trans ((hg8.below HER.out.tb).mono hX1)); obtain ⟨m0, m1⟩ := HC.out w8 HB8.out; have HLN : Hid (Calls Try.prog 23 #[.pointer (some ⟨lt, 0, none⟩)] w8 fun e w' => e = .returned (.int .i64 0) ∧ w' = w8) := Lib.hid (len_any HT8.out); have HKE := Lib.hid (keysT_any HT8.out last (by simp) (fun q hq => by cases hq)); clear ht8 hg8)
                    | (go_at_call 23; refine HLN.out.mono ?_; rintro e wz ⟨rfl, hwz⟩; rw [hwz]; clear hwz wz)
                    | (go_at_call 22; refine HKE.out.mono ?_; rintro e w9 ⟨v9, ks9, rfl, hp9, _, ho9, hb9⟩; have hk9 : ks9 = [] := List.eq_nil_of_length_eq_zero (by rw [hp9.length_eq]; rfl); subst hk9; obtain ⟨A9, c9, e9⟩ := ho9.form; have e9' : v9 = .slice A9 0 c9 := e9; clear e9; subst e9'; have HB9 : Hid (Below X.heap.size X w9) := Lib.hid (HB8.out.trans (hb9.mono HB8.out.size)); clear hp9 ho9 hb9))
                  go_ret
                  exact ⟨rfl, HXB.out.trans (HB9.out.mono HXB.out.size)⟩
                · have hib : ¬ ((i4 : Int) < (n : Int)) := by omega
                  go_wp2_with (first
                    | (go_at_call 14; refine HFR.out.mono ?_; rintro e w8 ⟨A8, n8, c8, qs8, rfl, ht8, hg8⟩; have hnil : qs8 = [] := ht8.empty (fun q hq => hq.2 hq.1); subst hnil; have HT8 := Lib.hid ht8.tb; have HB8 : Hid (Below X.heap.size X w8) := Lib.hid (HBX.out.trans ((hg8.below HER.out.tb).mono hX1)); obtain ⟨m0, m1⟩ := HC.out w8 HB8.out; have HLN : Hid (Calls Try.prog 23 #[.pointer (some ⟨lt, 0, none⟩)] w8 fun e w' => e = .returned (.int .i64 0) ∧ w' = w8) := Lib.hid (len_any HT8.out); have HKE := Lib.hid (keysT_any HT8.out last (by simp) (fun q hq => by cases hq)); clear ht8 hg8)
                    | (go_at_call 23; refine HLN.out.mono ?_; rintro e wz ⟨rfl, hwz⟩; rw [hwz]; clear hwz wz)
                    | (go_at_call 22; refine HKE.out.mono ?_; rintro e w9 ⟨v9, ks9, rfl, hp9, _, ho9, hb9⟩; have hk9 : ks9 = [] := List.eq_nil_of_length_eq_zero (by rw [hp9.length_eq]; rfl); subst hk9; obtain ⟨A9, c9, e9⟩ := ho9.form; have e9' : v9 = .slice A9 0 c9 := e9; clear e9; subst e9'; have HB9 : Hid (Below X.heap.size X w9) := Lib.hid (HB8.out.trans (hb9.mono HB8.out.size)); clear hp9 ho9 hb9))
                  go_ret
                  exact ⟨rfl, HXB.out.trans (HB9.out.mono HXB.out.size)⟩
      · have hin3 : ¬ ((i : Int) < (n : Int)) := by omega
        go_upto_region 13 with fail
        go_loopw [51] (fun v51 w2 => ∃ (j : Nat) (qs2 : List (S × Qv)), j ≤ na ∧ v51 = .int .i64 j ∧ EndT w2 B lt mb 40 (fun q => q ∈ al ∧ ∀ (k : Nat) (u : Int × Int), k < j → al[k]? = some u → u ≠ last → q ≠ u) qs2 ∧ POwn w2 B (.slice Aa na ca) al ∧ Below X.heap.size X w2) (fun v51 _ => na - (intOf v51).toNat)
        case atStart => exact ⟨0, qs, Nat.zero_le _, rfl, HT.out.more (by omega) (fun q hq => ⟨hq, fun k u hk => absurd hk (by omega)⟩), by rw [HNA.out]; exact HPO.out, HBL.out⟩
        case round =>
          obtain ⟨j, qs2, hj, rfl, he2, hp2, hb2⟩ := hrel
          have HE2 := Lib.hid he2
          have HP2 := Lib.hid hp2
          have HB2 := Lib.hid hb2
          have hsz2 := hb2.size
          clear he2 hp2 hb2
          by_cases hlj : j < na
          · obtain ⟨u, hu⟩ : ∃ u, al[j]? = some u := ⟨al[j]'(by rw [← HNA.out]; omega), List.getElem?_eq_getElem _⟩
            have j0 : (0 : Int) ≤ (j : Int) := by omega
            have j1 : (j : Int) < (na : Int) := by omega
            have hrd := Own.rd HP2.out
            rw [← HNA.out] at hrd
            obtain ⟨ga, oa, cza, ea, hga, _, _, hxa⟩ := hrd.cells (by omega)
            injection ea with ea1 ea2 ea3
            clear ea2
            subst ea1 ea3
            have k0 : wr.cell? ⟨ga, oa + j * 2, none⟩ = some (.int .u64 u.1) := hxa _ _ (pc_at hu).1
            have k1 : wr.cell? ⟨ga, oa + j * 2 + 1, none⟩ = some (.int .i64 u.2) := by rw [Nat.add_assoc]; exact hxa _ _ (pc_at hu).2
            have HU := Lib.hid hu
            clear hu hrd hga hxa
            obtain ⟨gy, hgy⟩ : ∃ g, g = wr.heap.size := ⟨_, rfl⟩
            obtain ⟨Y, hY⟩ : ∃ Y, Y = wr.alloc (.cells #[.int .u64 u.1, .int .i64 u.2] 24) := ⟨_, rfl⟩
            have HYB : Hid (Below wr.heap.size wr Y) := Lib.hid (by rw [hY]; exact (Below.refl _ _).alloc (Nat.le_refl _) _)
            have HYR : Hid (Y.heap[gy]? = some (.cells #[.int .u64 u.1, .int .i64 u.2] 24 (0, 0))) := Lib.hid (by rw [hY, hgy]; exact heap_alloc_new wr _)
            have HBY : Hid (Below X.heap.size X Y) := Lib.hid (HB2.out.trans (HYB.out.mono hsz2))
            have HEY := Lib.hid (HE2.out.below HYB.out)
            have HPY : Hid (POwn Y B (.slice (some ⟨ga, oa, none⟩) na ca) al) := Lib.hid (by have := Own.below HP2.out HYB.out; exact this)
            go_upto_region 15 with fail
            rw [← hY, ← hgy]
            clear hY hgy k0 k1
            obtain ⟨d0, d1⟩ := row2c HYR.out
            obtain ⟨l0, l1⟩ := HC.out Y HBY.out
            by_cases hul : u = last
            · have HUL := Lib.hid hul
              have hb1 : (u.1 == last.1) = true := by rw [hul]; simp
              have hb2 : (u.2 == last.2) = true := by rw [hul]; simp
              clear hul
              go_wp2_with fail
              go_roundw
              case rel => exact ⟨j + 1, qs2, by omega, by go_num, HEY.out.more (Nat.le_refl _) (fun q hq => ⟨hq.1, fun k v hk hv hne => by
                by_cases e : k = j
                · subst e
                  have : some u = some v := HU.out.symm.trans hv
                  injection this with this
                  exact absurd (this.symm.trans HUL.out) hne
                · exact hq.2 k v (by omega) hv hne⟩), HPY.out, HBY.out⟩
              case measure => simp [intOf]; omega
            · have HUL := Lib.hid hul
              have HFR := Lib.hid (HEY.out.free u (by omega))
              have rel2 : Hid (∀ w3 qs3, EndT w3 B lt mb 40 (fun q => (q ∈ al ∧ ∀ (k : Nat) (v : Int × Int), k < j → al[k]? = some v → v ≠ last → q ≠ v) ∧ q ≠ u) qs3 → EndT w3 B lt mb 40 (fun q => q ∈ al ∧ ∀ (k : Nat) (v : Int × Int), k < j + 1 → al[k]? = some v → v ≠ last → q ≠ v) qs3) := Lib.hid (fun w3 qs3 h3 => h3.more (Nat.le_refl _) (fun q hq => ⟨hq.1.1, fun k v hk hv hne => by
                by_cases e : k = j
                · subst e
                  have : some u = some v := HU.out.symm.trans hv
                  injection this with this
                  rw [← this]
                  exact hq.2
                · exact hq.1.2 k v (by omega) hv hne⟩))
              by_cases h1 : u.1 = last.1
              · have h2 : ¬ u.2 = last.2 := fun e => hul (Prod.ext h1 e)
                have hb1 : (u.1 == last.1) = true := by simp [h1]
                have hb2 : (u.2 == last.2) = false := by simp [h2]
                clear h1 h2 hul
                go_wp2_with (go_at_call 14; refine HFR.out.mono ?_; rintro e w3 ⟨A3, n3, c3, qs3, rfl, ht3, hg3⟩; have HT3 := Lib.hid (rel2.out _ _ ht3); have HB3 : Hid (Below X.heap.size X w3) := Lib.hid (HBY.out.trans ((hg3.below HEY.out.tb).mono hX1)); have HP3 : Hid (POwn w3 B (.slice (some ⟨ga, oa, none⟩) na ca) al) := Lib.hid (Own.fr HPY.out hg3.fr fun g hg => HEY.out.tb.far HPY.out t_w t_q hg); clear ht3 hg3)
                go_roundw
                case rel => exact ⟨j + 1, qs3, by omega, by go_num, HT3.out, HP3.out, HB3.out⟩
                case measure => simp [intOf]; omega
              · have hb1 : (u.1 == last.1) = false := by simp [h1]
                clear h1 hul
                go_wp2_with (go_at_call 14; refine HFR.out.mono ?_; rintro e w3 ⟨A3, n3, c3, qs3, rfl, ht3, hg3⟩; have HT3 := Lib.hid (rel2.out _ _ ht3); have HB3 : Hid (Below X.heap.size X w3) := Lib.hid (HBY.out.trans ((hg3.below HEY.out.tb).mono hX1)); have HP3 : Hid (POwn w3 B (.slice (some ⟨ga, oa, none⟩) na ca) al) := Lib.hid (Own.fr HPY.out hg3.fr fun g hg => HEY.out.tb.far HPY.out t_w t_q hg); clear ht3 hg3)
                go_roundw
                case rel => exact ⟨j + 1, qs3, by omega, by go_num, HT3.out, HP3.out, HB3.out⟩
                case measure => simp [intOf]; omega
          · obtain rfl : j = na := by omega
            have HEF := Lib.hid (HE2.out.more (T' := fun q => q = last) (Nat.le_refl _) (fun q hq => Classical.byContradiction fun hne => by
              obtain ⟨k, hk⟩ := List.getElem?_of_mem hq.1
              exact hq.2 k q (by rw [HNA.out]; exact (List.getElem?_eq_some_iff.1 hk).1) hk hne rfl))
            clear HE2
            obtain ⟨W, hW⟩ : ∃ W, W = wr := ⟨_, rfl⟩
            rw [← hW] at HEF HB2 ⊢
            have hsW := HB2.out.size
            clear hW
            have HONE : Hid (∀ k, (lineOf qs2 k).2 = [] ∧ ∀ u ∈ (lineOf qs2 k).1, u.num = last.1 ∧ u.nd = last.2) := Lib.hid (fun k => ⟨alone (HEF.out.ok k) (fun q hq => HEF.out.mem k q hq), fun u hu => by
              have h9 : u.tid = last := HEF.out.mem k _ (.inl (List.mem_map.2 ⟨u, hu, rfl⟩))
              exact ⟨congrArg Prod.fst h9, congrArg Prod.snd h9⟩⟩)
            go_upto_region 19 with fail
            go_loopw [11] (fun v11 w4 => ∃ i4 : Nat, i4 ≤ n ∧ i4 ≤ 40 ∧ v11 = .int .i64 i4 ∧ Below W.heap.size W w4) (fun v11 _ => n - (intOf v11).toNat)
            case atStart => exact ⟨0, Nat.zero_le _, by omega, rfl, Below.refl _ _⟩
            case round =>
              obtain ⟨i4, hi4, hi4', rfl, hb4⟩ := hrel
              have HB4 := Lib.hid hb4
              have hsz4 := hb4.size
              clear hb4
              have HBX : Hid (Below X.heap.size X wr) := Lib.hid (HB2.out.trans (HB4.out.mono hsW))
              by_cases hl4 : i4 < n ∧ i4 < 40
              · obtain ⟨hla, hlb⟩ := hl4
                have hlc : (i4 : Int) < (n : Int) := by omega
                have hld : (i4 : Int) < 40 := by omega
                have z0 : (0 : Int) ≤ (i4 : Int) := by omega
                obtain ⟨oo, hoo⟩ : ∃ oo, os[i4]? = some oo := ⟨os[i4]'(by rw [← HN.out]; omega), List.getElem?_eq_getElem _⟩
                obtain ⟨g, off, ce, hv0, hg, _, _, hx⟩ := HL.out.rd.cells (by rw [← HN.out]; omega)
                injection hv0 with hv01 hv00 hv02
                clear hv00
                subst hv01 hv02
                have HKK : Hid (OkS oo.key) := Lib.hid (by have := HL.out.each _ (List.mem_of_getElem? hoo); unfold OkS maxLen; omega)
                have HK3 : Hid (∀ V, Below X.heap.size X V → V.cell? ⟨g, off + i4 * 5 + 2 + 1, none⟩ = some (.string oo.key)) := Lib.hid (fun V hb => (hb.cell (p := ⟨g, off + i4 * 5 + 2 + 1, none⟩) hg).trans (by
                  have := hx _ _ (oc_at hoo 3 _ rfl)
                  rw [show off + i4 * 5 + 2 + 1 = off + (i4 * 5 + 3) by omega]
                  exact this))
                have HK3' : Hid (∀ V, Below X.heap.size X V → V.cell? ⟨g, off + i4 * 5 + 3, none⟩ = some (.string oo.key)) := Lib.hid (fun V hb => HK3.out V hb)
                clear hoo hx hg
                have k3 := HK3'.out wr HBX.out
                by_cases h40 : 40 < oo.key.size
                · go_wp2_with fail
                  go_roundw
                  case rel => exact ⟨i4 + 1, by omega, by omega, by go_num, HB4.out⟩
                  case measure => simp [intOf]; omega
                obtain ⟨hw0, hh0⟩ := HONE.out oo.key
                have HER := Lib.hid (HEF.out.below HB4.out)
                have HHA := Lib.hid (has_any HER.out.tb HKK.out (N := 40) (by omega) HER.out.bnd)
                have HW0 := Lib.hid hw0
                have HH0 := Lib.hid hh0
                obtain ⟨hs9, hhs9⟩ : ∃ l, l = (lineOf qs2 oo.key).1 := ⟨_, rfl⟩
                rw [← hhs9] at HHA HH0
                obtain ⟨nh, hnh⟩ : ∃ n, n = hs9.length := ⟨_, rfl⟩
                have HNH := Lib.hid hnh
                clear hw0 hh0 hhs9
                go_upto_region 23 with (go_at_call 15; refine HHA.out.mono ?_; rintro e w5 ⟨A5, c5, e5, ho5, hb5⟩; rw [← hnh] at e5; clear hnh; subst e5; have HO5 := Lib.hid ho5; have HB5 := Lib.hid hb5; clear ho5 hb5)
                clear k3
                have HBX5 : Hid (Below X.heap.size X w5) := Lib.hid (HBX.out.trans (HB5.out.mono HBX.out.size))
                have hs5 := HBX5.out.size
                have hn64 : nh ≤ maxLen := by rw [HNH.out]; exact HO5.out.rd.len_le
                unfold maxLen at hn64
                go_loopw [87] (fun v87 w6 => ∃ j : Nat, j ≤ nh ∧ v87 = .int .i64 j ∧ Below w5.heap.size w5 w6) (fun v87 _ => nh - (intOf v87).toNat)
                case atStart => exact ⟨0, Nat.zero_le _, rfl, Below.refl _ _⟩
                case round =>
                  obtain ⟨jj, hjj, rfl, hb6⟩ := hrel
                  have HB6 := Lib.hid hb6
                  have hsz6 := hb6.size
                  clear hb6
                  have HBX6 : Hid (Below X.heap.size X wr) := Lib.hid (HBX5.out.trans (HB6.out.mono hs5))
                  by_cases hlj6 : jj < nh
                  · obtain ⟨u, hu⟩ : ∃ u, hs9[jj]? = some u := ⟨hs9[jj]'(by rw [← HNH.out]; omega), List.getElem?_eq_getElem _⟩
                    have y0 : (0 : Int) ≤ (jj : Int) := by omega
                    have y1 : (jj : Int) < (nh : Int) := by omega
                    obtain ⟨g6, o6, rfl, _, c0', c1', c2'⟩ := want_cells (HO5.out.below HB6.out).rd hu (by have := HNH.out; omega)
                    obtain ⟨hu1, hu2⟩ := HH0.out u (List.mem_of_getElem? hu)
                    have hb1 : (u.num == last.1) = true := by rw [hu1]; simp
                    have hb2 : (u.nd == last.2) = true := by rw [hu2]; simp
                    clear hu hu1 hu2
                    obtain ⟨gy, hgy⟩ : ∃ g, g = wr.heap.size := ⟨_, rfl⟩
                    obtain ⟨Y, hY⟩ : ∃ Y, Y = wr.alloc (.cells #[.int .u64 u.num, .int .i64 u.nd, .int .i64 u.md] 47) := ⟨_, rfl⟩
                    have HYB : Hid (Below wr.heap.size wr Y) := Lib.hid (by rw [hY]; exact (Below.refl _ _).alloc (Nat.le_refl _) _)
                    have HYR : Hid (Y.heap[gy]? = some (.cells #[.int .u64 u.num, .int .i64 u.nd, .int .i64 u.md] 47 (0, 0))) := Lib.hid (by rw [hY, hgy]; exact heap_alloc_new wr _)
                    go_upto_region 25 with fail
                    rw [← hY, ← hgy]
                    clear hY hgy c0' c1' c2'
                    obtain ⟨d0, d1, d2⟩ := row3c HYR.out
                    obtain ⟨l0, l1⟩ := HC.out Y (HBX6.out.trans (HYB.out.mono HBX6.out.size))
                    go_wp2_with fail
                    go_roundw
                    case rel => exact ⟨jj + 1, by omega, by go_num, HB6.out.trans (HYB.out.mono hsz6)⟩
                    case measure => simp [intOf]; omega
                  · obtain rfl : jj = nh := by omega
                    have k3 := HK3'.out wr HBX6.out
                    have HER6 := Lib.hid ((HER.out.below HB5.out).below HB6.out)
                    have HWA := Lib.hid (waiting_any HER6.out.tb HKK.out (N := 40) (by omega) HER6.out.bnd)
                    rw [HW0.out] at HWA
                    go_wp2_with (go_at_call 17; refine HWA.out.mono ?_; rintro e w7 ⟨A7, c7, rfl, _, hb7⟩; have HB7 := Lib.hid hb7; clear hb7)
                    go_roundw
                    case rel => exact ⟨i4 + 1, by omega, by omega, by go_num, HB4.out.trans ((HB5.out.trans ((HB6.out.trans (HB7.out.mono hsz6)).mono HB5.out.size)).mono hsz4)⟩
                    case measure => simp [intOf]; omega
              · have HER := Lib.hid (HEF.out.below HB4.out)
                have HFR := Lib.hid (HER.out.free last (by omega))
                obtain ⟨l0, l1⟩ := HC.out wr HBX.out
                by_cases hin9 : i4 < n
                · have hia : ¬ ((i4 : Int) < 40) := by omega
                  have hib : (i4 : Int) < (n : Int) := by omega
                  go_wp2_with (first
                    | (go_at_call 14; refine HFR.out.mono ?_; rintro e w8 ⟨A8, n8, c8, qs8, rfl, ht8, hg8⟩; have hnil : qs8 = [] := ht8.empty (fun q hq => hq.2 hq.1); subst hnil; have HT8 := Lib.hid ht8.tb; have HB8 : Hid (Below X.heap.size X w8) := Lib.hid (HBX.out.trans ((hg8.below HER.out.tb).mono hX1)); obtain ⟨m0, m1⟩ := HC.out w8 HB8.out; have HLN : Hid (Calls Try.prog 23 #[.pointer (some ⟨lt, 0, none⟩)] w8 fun e w' => e = .returned (.int .i64 0) ∧ w' = w8) := Lib.hid (len_any HT8.out); have HKE := Lib.hid (keysT_any HT8.out last (by simp) (fun q hq => by cases hq)); clear ht8 hg8)
                    | (go_at_call 23; refine HLN.out.mono ?_; rintro e wz ⟨rfl, hwz⟩; rw [hwz]; clear hwz wz)
                    | (go_at_call 22; refine HKE.out.mono ?_; rintro e w9 ⟨v9, ks9, rfl, hp9, _, ho9, hb9⟩; have hk9 : ks9 = [] := List.eq_nil_of_length_eq_zero (by rw [hp9.length_eq]; rfl); subst hk9; obtain ⟨A9, c9, e9⟩ := ho9.form; have e9' : v9 = .slice A9 0 c9 := e9; clear e9; subst e9'; have HB9 : Hid (Below X.heap.size X w9) := Lib.hid (HB8.out.trans (hb9.mono HB8.out.size)); clear hp9 ho9 hb9))
                  go_ret
                  exact ⟨rfl, HXB.out.trans (HB9.out.mono HXB.out.size)⟩
                · have hib : ¬ ((i4 : Int) < (n : Int)) := by omega
                  go_wp2_with (first
                    | (go_at_call 14; refine HFR.out.mono ?_; rintro e w8 ⟨A8, n8, c8, qs8, rfl, ht8, hg8⟩; have hnil : qs8 = [] := ht8.empty (fun q hq => hq.2 hq.1); subst hnil; have HT8 := Lib.hid ht8.tb; have HB8 : Hid (Below X.heap.size X w8) := Lib.hid (HBX.out.trans ((hg8.below HER.out.tb).mono hX1)); obtain ⟨m0, m1⟩ := HC.out w8 HB8.out; have HLN : Hid (Calls Try.prog 23 #[.pointer (some ⟨lt, 0, none⟩)] w8 fun e w' => e = .returned (.int .i64 0) ∧ w' = w8) := Lib.hid (len_any HT8.out); have HKE := Lib.hid (keysT_any HT8.out last (by simp) (fun q hq => by cases hq)); clear ht8 hg8)
                    | (go_at_call 23; refine HLN.out.mono ?_; rintro e wz ⟨rfl, hwz⟩; rw [hwz]; clear hwz wz)
                    | (go_at_call 22; refine HKE.out.mono ?_; rintro e w9 ⟨v9, ks9, rfl, hp9, _, ho9, hb9⟩; have hk9 : ks9 = [] := List.eq_nil_of_length_eq_zero (by rw [hp9.length_eq]; rfl); subst hk9; obtain ⟨A9, c9, e9⟩ := ho9.form; have e9' : v9 = .slice A9 0 c9 := e9; clear e9; subst e9'; have HB9 : Hid (Below X.heap.size X w9) := Lib.hid (HB8.out.trans (hb9.mono HB8.out.size)); clear hp9 ho9 hb9))
                  go_ret
                  exact ⟨rfl, HXB.out.trans (HB9.out.mono HXB.out.size)⟩
#print axioms ends_any
theorem ends_row {H : Type} {enc : TypeId × Value → H} {w : World} {base : Nat} {spare : Nat → Bool} {held : Bool}
    (v0 : Value) (ok0 : Value.okWide Try.prog w .any base 39 v0) (h0 : Reads1 enc Try.prog w 0 spare held 39 v0.cells.toList)
    (v1 : Value) (ok1 : Value.okWide Try.prog w .any base 24 v1) (h1 : Reads1 enc Try.prog w 0 spare held 24 v1.cells.toList) :
    Calls Try.prog 8 #[v0, v1] w fun e w' => e = .returned (.bool true) ∧ Below w.heap.size w w' := by
  obtain ⟨os, hos⟩ := ops_val ok0 h0
  obtain ⟨t, rfl, ht⟩ := tid_val ok1 h1
  exact ends_any w v0 os hos t
#print axioms ends_row
end Go.Proofs.Ytcceankldiafpaa.Lock
