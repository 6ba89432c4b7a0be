/- The law's 'right' at a line that is right. -/
import Derived.Test.YtcceankldiafpaaLockV
set_option linter.unusedVariables false
set_option linter.unusedSimpArgs false
set_option linter.unusedSectionVars false
set_option maxRecDepth 100000
namespace Go.Proofs.Ytcceankldiafpaa.Lock
open Go.RowKit Go.WideShapes Go.Deep Go.Proofs.Ytcceankldiafpaa.Mem Go.Proofs.Ytcceankldiafpaa.Open Go.Proofs.Ytcceankldiafpaa.Maps
theorem pw_at {α : Type} {R : α → α → Prop} {l : List α} (h : l.Pairwise R) {i k : Nat} {u v : α} (hu : l[i]? = some u) (hv : l[k]? = some v) (hik : i < k) : R u v := by
  obtain ⟨h1, e1⟩ := List.getElem?_eq_some_iff.1 hu
  obtain ⟨h2, e2⟩ := List.getElem?_eq_some_iff.1 hv
  rw [← e1, ← e2]
  exact List.pairwise_iff_getElem.1 h i k h1 h2 hik
set_option maxHeartbeats 20000000 in
theorem right_any {w : World} {A1 A2 : Option Addr} {nh nw c1 c2 : Nat} {has waits : List Wt} (h : RightL (has, waits)) (hn1 : nh = has.length) (hn2 : nw = waits.length) (h1 : Rd w w.heap.size 3 (.slice A1 nh c1) nh (wc has)) (h2 : Rd w w.heap.size 3 (.slice A2 nw c2) nw (wc waits)) :
    Calls Try.prog 16 #[.slice A1 nh c1, .slice A2 nw c2] w fun e w' => e = .returned (.bool true) ∧ Below w.heap.size w w' := by
  have hag : ∀ {a b : Int}, against a b = false → a ≠ 2 ∧ b ≠ 2 := fun {a b} h => by
    unfold against at h
    rw [decide_eq_false_iff_not] at h
    exact ⟨fun e => h (.inl e), fun e => h (.inr e)⟩
  have hel : ∀ {p q : Wt}, elder p.tid q.tid = true → ∀ V : World, Calls Try.prog 11 #[.agg #[.int .u64 p.num, .int .i64 p.nd], .agg #[.int .u64 q.num, .int .i64 q.nd]] V fun e w' => e = .returned (.bool true) ∧ Below V.heap.size V w' := fun {p q} he V => (elderL_any V p.tid q.tid).mono fun e w' h => ⟨by rw [h.1, he], h.2⟩
  have HPW : Hid (∀ (i k : Nat) (u v : Wt), has[i]? = some u → has[k]? = some v → i ≠ k → u.md ≠ 2 ∧ v.md ≠ 2) := Lib.hid (fun i k u v hu hv hne => by
    rcases Nat.lt_or_gt_of_ne hne with e | e
    · exact hag (pw_at h.hh hu hv e)
    · exact (hag (pw_at h.hh hv hu e)).symm)
  have HWH : Hid (∀ u ∈ waits, ∀ v ∈ has, v.tid ≠ u.tid → (v.md = 2 ∨ u.md = 2) → ∀ V : World, Calls Try.prog 11 #[.agg #[.int .u64 u.num, .int .i64 u.nd], .agg #[.int .u64 v.num, .int .i64 v.nd]] V fun e w' => e = .returned (.bool true) ∧ Below V.heap.size V w') := Lib.hid (fun u hu v hv hne hm => hel (h.wh u hu v hv hne (by unfold against; rw [decide_eq_true_eq]; exact hm)))
  have HWW : Hid (∀ (i k : Nat) (u v : Wt), waits[i]? = some u → waits[k]? = some v → k < i → (v.md = 2 ∨ u.md = 2) → ∀ V : World, Calls Try.prog 11 #[.agg #[.int .u64 u.num, .int .i64 u.nd], .agg #[.int .u64 v.num, .int .i64 v.nd]] V fun e w' => e = .returned (.bool true) ∧ Below V.heap.size V w') := Lib.hid (fun i k u v hu hv hik hm => hel (pw_at h.ww hv hu hik (by unfold against; rw [decide_eq_true_eq]; exact hm)))
  clear hag hel
  have H1 := Lib.hid h1
  have H2 := Lib.hid h2
  have HN1 := Lib.hid hn1
  have HN2 := Lib.hid hn2
  have hle1 := h1.len_le
  have hle2 := h2.len_le
  unfold maxLen at hle1 hle2
  have hcp : nw ≤ c2 ∧ c2 ≤ maxLen := by
    obtain ⟨_, A, c, e, h9, h8, _⟩ := h2
    injection e with _ _ e
    subst e
    exact ⟨h9, h8⟩
  obtain ⟨hcp1, hcp2⟩ := hcp
  unfold maxLen at hcp2
  clear h h1 h2 hn1 hn2
  go_enter Try.func16, Try.ntmps16
  go_upto_region 2 with fail
  go_loopw [17] (fun v wr => ∃ i : Nat, i ≤ nh ∧ v = .int .i64 i ∧ Below w.heap.size w wr) (fun v _ => nh - (intOf v).toNat)
  case atStart => exact ⟨0, Nat.zero_le _, rfl, Below.refl _ _⟩
  case round =>
    obtain ⟨i, hi, rfl, hbl⟩ := hrel
    have HBL := Lib.hid hbl
    have hsz := hbl.size
    by_cases hli : i < nh
    · obtain ⟨u, hu⟩ : ∃ u, has[i]? = some u := ⟨has[i]'(by rw [← HN1.out]; omega), List.getElem?_eq_getElem _⟩
      have i0 : (0 : Int) ≤ (i : Int) := by omega
      have i1 : (i : Int) < (nh : Int) := by omega
      obtain ⟨g1, o1, rfl, _, a0, a1, a2⟩ := want_cells (H1.out.up hbl) hu (by omega)
      have HU := Lib.hid hu
      clear hu hbl
      obtain ⟨gy, hgy⟩ : ∃ g, g = wr.heap.size := ⟨_, rfl⟩
      obtain ⟨Y, hY⟩ : ∃ Y, Y = wr.alloc (.cells #[.int .u64 u.num, .int .i64 u.nd, .int .i64 u.md] 47) := ⟨_, rfl⟩
      have HYB : Hid (Below wr.heap.size wr Y) := Lib.hid (by rw [hY]; exact (Below.refl _ _).alloc (Nat.le_refl _) _)
      have HYR : Hid (Y.heap[gy]? = some (.cells #[.int .u64 u.num, .int .i64 u.nd, .int .i64 u.md] 47 (0, 0))) := Lib.hid (by rw [hY, hgy]; exact heap_alloc_new wr _)
      go_upto_region 5 with fail
      rw [← hY, ← hgy]
      clear hY hgy a0 a1 a2
      have HBY : Hid (Below w.heap.size w Y) := Lib.hid (HBL.out.trans (HYB.out.mono hsz))
      go_loopw [24] (fun v wr => ∃ k : Nat, k ≤ nh ∧ v = .int .i64 k ∧ Below Y.heap.size Y wr) (fun v _ => nh - (intOf v).toNat)
      case atStart => exact ⟨0, Nat.zero_le _, rfl, Below.refl _ _⟩
      case round =>
        obtain ⟨k, hk, rfl, hb2⟩ := hrel
        have HB2 := Lib.hid hb2
        have hsz2 := hb2.size
        clear hb2
        have HBX2 : Hid (Below w.heap.size w wr) := Lib.hid (HBY.out.trans (HB2.out.mono HBY.out.size))
        by_cases hlk : k < nh
        · obtain ⟨v, hv⟩ : ∃ v, has[k]? = some v := ⟨has[k]'(by rw [← HN1.out]; omega), List.getElem?_eq_getElem _⟩
          have k0 : (0 : Int) ≤ (k : Int) := by omega
          have k1 : (k : Int) < (nh : Int) := by omega
          obtain ⟨g2, o2, ea, _, b0, b1, b2⟩ := want_cells (H1.out.up HBX2.out) hv (by omega)
          injection ea with ea; injection ea with ea1 ea2 _; subst ea1 ea2
          have HV := Lib.hid hv
          clear hv
          obtain ⟨gz, hgz⟩ : ∃ g, g = wr.heap.size := ⟨_, rfl⟩
          obtain ⟨Z, hZ⟩ : ∃ Y, Y = wr.alloc (.cells #[.int .u64 v.num, .int .i64 v.nd, .int .i64 v.md] 47) := ⟨_, rfl⟩
          have HZB : Hid (Below wr.heap.size wr Z) := Lib.hid (by rw [hZ]; exact (Below.refl _ _).alloc (Nat.le_refl _) _)
          have HZR : Hid (Z.heap[gz]? = some (.cells #[.int .u64 v.num, .int .i64 v.nd, .int .i64 v.md] 47 (0, 0))) := Lib.hid (by rw [hZ, hgz]; exact heap_alloc_new wr _)
          go_upto_region 7 with fail
          rw [← hZ, ← hgz]
          clear hZ hgz b0 b1 b2
          obtain ⟨d0, d1, d2⟩ := row3c (blk_below (blk_below HYR.out HB2.out) HZB.out)
          obtain ⟨e0, e1, e2⟩ := row3c HZR.out
          by_cases hik : i = k
          · have hne : ((i : Int) != (k : Int)) = false := by simp [hik]
            clear hik
            go_wp2_with fail
            go_roundw
            case rel => exact ⟨k + 1, by omega, by go_num, HB2.out.trans (HZB.out.mono hsz2)⟩
            case measure => simp [intOf]; omega
          · have hne : ((i : Int) != (k : Int)) = true := by rw [bne_iff_ne]; omega
            obtain ⟨h1, h2⟩ := HPW.out i k u v HU.out HV.out hik
            have m1 : (u.md == 2) = false := by simp [h1]
            have m2 : (v.md == 2) = false := by simp [h2]
            clear hik h1 h2
            go_wp2_with fail
            go_roundw
            case rel => exact ⟨k + 1, by omega, by go_num, HB2.out.trans (HZB.out.mono hsz2)⟩
            case measure => simp [intOf]; omega
        · have k1 : ¬ ((k : Int) < (nh : Int)) := by omega
          go_wp2_with fail
          go_roundw
          case rel => exact ⟨i + 1, by omega, by go_num, HBX2.out⟩
          case measure => simp [intOf]; omega
    · have i1 : ¬ ((i : Int) < (nh : Int)) := by omega
      clear hbl
      have HB0 := HBL
      go_upto_region 12 with fail
      clear HBL hsz i1 hli hi
      go_loopw [46] (fun v wr => ∃ i : Nat, i ≤ nw ∧ v = .int .i64 i ∧ Below w.heap.size w wr) (fun v _ => nw - (intOf v).toNat)
      case atStart => exact ⟨0, Nat.zero_le _, rfl, HB0.out⟩
      case round =>
        obtain ⟨i, hi, rfl, hbl⟩ := hrel
        have HBL := Lib.hid hbl
        have hsz := hbl.size
        by_cases hli : i < nw
        · obtain ⟨u, hu⟩ : ∃ u, waits[i]? = some u := ⟨waits[i]'(by rw [← HN2.out]; omega), List.getElem?_eq_getElem _⟩
          have i0 : (0 : Int) ≤ (i : Int) := by omega
          have i1 : (i : Int) < (nw : Int) := by omega
          obtain ⟨g1, o1, rfl, _, a0, a1, a2⟩ := want_cells (H2.out.up hbl) hu (by omega)
          have HU := Lib.hid hu
          clear hu hbl
          obtain ⟨gy, hgy⟩ : ∃ g, g = wr.heap.size := ⟨_, rfl⟩
          obtain ⟨Y, hY⟩ : ∃ Y, Y = wr.alloc (.cells #[.int .u64 u.num, .int .i64 u.nd, .int .i64 u.md] 47) := ⟨_, rfl⟩
          have HYB : Hid (Below wr.heap.size wr Y) := Lib.hid (by rw [hY]; exact (Below.refl _ _).alloc (Nat.le_refl _) _)
          have HYR : Hid (Y.heap[gy]? = some (.cells #[.int .u64 u.num, .int .i64 u.nd, .int .i64 u.md] 47 (0, 0))) := Lib.hid (by rw [hY, hgy]; exact heap_alloc_new wr _)
          go_upto_region 15 with fail
          rw [← hY, ← hgy]
          clear hY hgy a0 a1 a2
          have HBY : Hid (Below w.heap.size w Y) := Lib.hid (HBL.out.trans (HYB.out.mono hsz))
          go_loopw [53] (fun v wr => ∃ k : Nat, k ≤ nh ∧ v = .int .i64 k ∧ Below Y.heap.size Y wr) (fun v _ => nh - (intOf v).toNat)
          case atStart => exact ⟨0, Nat.zero_le _, rfl, Below.refl _ _⟩
          case round =>
            obtain ⟨k, hk, rfl, hb2⟩ := hrel
            have HB2 := Lib.hid hb2
            have hsz2 := hb2.size
            clear hb2
            have HBX2 : Hid (Below w.heap.size w wr) := Lib.hid (HBY.out.trans (HB2.out.mono HBY.out.size))
            by_cases hlk : k < nh
            · obtain ⟨v, hv⟩ : ∃ v, has[k]? = some v := ⟨has[k]'(by rw [← HN1.out]; omega), List.getElem?_eq_getElem _⟩
              have k0 : (0 : Int) ≤ (k : Int) := by omega
              have k1 : (k : Int) < (nh : Int) := by omega
              obtain ⟨g2, o2, ea, _, b0, b1, b2⟩ := want_cells (H1.out.up HBX2.out) hv (by omega)
              subst ea
              have HV := Lib.hid hv
              clear hv
              obtain ⟨gz, hgz⟩ : ∃ g, g = wr.heap.size := ⟨_, rfl⟩
              obtain ⟨Z, hZ⟩ : ∃ Y, Y = wr.alloc (.cells #[.int .u64 v.num, .int .i64 v.nd, .int .i64 v.md] 47) := ⟨_, rfl⟩
              have HZB : Hid (Below wr.heap.size wr Z) := Lib.hid (by rw [hZ]; exact (Below.refl _ _).alloc (Nat.le_refl _) _)
              have HZR : Hid (Z.heap[gz]? = some (.cells #[.int .u64 v.num, .int .i64 v.nd, .int .i64 v.md] 47 (0, 0))) := Lib.hid (by rw [hZ, hgz]; exact heap_alloc_new wr _)
              go_upto_region 17 with fail
              rw [← hZ, ← hgz]
              clear hZ hgz b0 b1 b2
              obtain ⟨d0, d1, d2⟩ := row3c (blk_below (blk_below HYR.out HB2.out) HZB.out)
              obtain ⟨e0, e1, e2⟩ := row3c HZR.out
              by_cases hn1 : v.num = u.num
              · by_cases hn2 : v.nd = u.nd
                · have q1 : (v.num == u.num) = true := by simp [hn1]
                  have q2 : (v.nd == u.nd) = true := by simp [hn2]
                  clear hn1 hn2
                  go_wp2_with fail
                  go_roundw
                  case rel => exact ⟨k + 1, by omega, by go_num, HB2.out.trans (HZB.out.mono hsz2)⟩
                  case measure => simp [intOf]; omega
                · have q1 : (v.num == u.num) = true := by simp [hn1]
                  have q2 : (v.nd == u.nd) = false := by simp [hn2]
                  have HQ := Lib.hid (HWH.out u (List.mem_of_getElem? HU.out) v (List.mem_of_getElem? HV.out) (fun e => hn2 (congrArg Prod.snd e)))
                  clear hn1 hn2
                  by_cases hv2 : v.md = 2
                  · have HEL := Lib.hid (HQ.out (.inl hv2))
                    have m2 : (v.md == 2) = true := by simp [hv2]
                    clear hv2
                    go_wp2_with (go_at_call 11; refine (HEL.out _).mono ?_; rintro e w9 ⟨rfl, hb9⟩; have HB9 := Lib.hid hb9; clear hb9)
                    go_roundw
                    case rel => exact ⟨k + 1, by omega, by go_num, HB2.out.trans ((HZB.out.trans (HB9.out.mono HZB.out.size)).mono hsz2)⟩
                    case measure => simp [intOf]; omega
                  · have m2 : (v.md == 2) = false := by simp [hv2]
                    by_cases hu2 : u.md = 2
                    · have HEL := Lib.hid (HQ.out (.inr hu2))
                      have m1 : (u.md == 2) = true := by simp [hu2]
                      clear hv2 hu2
                      go_wp2_with (go_at_call 11; refine (HEL.out _).mono ?_; rintro e w9 ⟨rfl, hb9⟩; have HB9 := Lib.hid hb9; clear hb9)
                      go_roundw
                      case rel => exact ⟨k + 1, by omega, by go_num, HB2.out.trans ((HZB.out.trans (HB9.out.mono HZB.out.size)).mono hsz2)⟩
                      case measure => simp [intOf]; omega
                    · have m1 : (u.md == 2) = false := by simp [hu2]
                      clear hv2 hu2
                      go_wp2_with fail
                      go_roundw
                      case rel => exact ⟨k + 1, by omega, by go_num, HB2.out.trans (HZB.out.mono hsz2)⟩
                      case measure => simp [intOf]; omega
              · have q1 : (v.num == u.num) = false := by simp [hn1]
                have HQ := Lib.hid (HWH.out u (List.mem_of_getElem? HU.out) v (List.mem_of_getElem? HV.out) (fun e => hn1 (congrArg Prod.fst e)))
                clear hn1
                by_cases hv2 : v.md = 2
                · have HEL := Lib.hid (HQ.out (.inl hv2))
                  have m2 : (v.md == 2) = true := by simp [hv2]
                  clear hv2
                  go_wp2_with (go_at_call 11; refine (HEL.out _).mono ?_; rintro e w9 ⟨rfl, hb9⟩; have HB9 := Lib.hid hb9; clear hb9)
                  go_roundw
                  case rel => exact ⟨k + 1, by omega, by go_num, HB2.out.trans ((HZB.out.trans (HB9.out.mono HZB.out.size)).mono hsz2)⟩
                  case measure => simp [intOf]; omega
                · have m2 : (v.md == 2) = false := by simp [hv2]
                  by_cases hu2 : u.md = 2
                  · have HEL := Lib.hid (HQ.out (.inr hu2))
                    have m1 : (u.md == 2) = true := by simp [hu2]
                    clear hv2 hu2
                    go_wp2_with (go_at_call 11; refine (HEL.out _).mono ?_; rintro e w9 ⟨rfl, hb9⟩; have HB9 := Lib.hid hb9; clear hb9)
                    go_roundw
                    case rel => exact ⟨k + 1, by omega, by go_num, HB2.out.trans ((HZB.out.trans (HB9.out.mono HZB.out.size)).mono hsz2)⟩
                    case measure => simp [intOf]; omega
                  · have m1 : (u.md == 2) = false := by simp [hu2]
                    clear hv2 hu2
                    go_wp2_with fail
                    go_roundw
                    case rel => exact ⟨k + 1, by omega, by go_num, HB2.out.trans (HZB.out.mono hsz2)⟩
                    case measure => simp [intOf]; omega
            · have k1 : ¬ ((k : Int) < (nh : Int)) := by omega
              obtain ⟨Y4, hY4⟩ : ∃ Y, Y = wr := ⟨_, rfl⟩
              have HBY4 : Hid (Below w.heap.size w Y4) := Lib.hid (by rw [hY4]; exact HBX2.out)
              have HY4R := Lib.hid (blk_below HYR.out HB2.out)
              rw [← hY4] at HY4R ⊢
              have hs4 := HB2.out.size
              rw [← hY4] at hs4
              clear hY4
              go_upto_region 21 with fail
              clear HB2 HBX2 hsz2 k1
              go_loopw [85] (fun v wr => ∃ k : Nat, k ≤ i ∧ v = .int .i64 k ∧ Below Y4.heap.size Y4 wr) (fun v _ => i - (intOf v).toNat)
              case atStart => exact ⟨0, Nat.zero_le _, rfl, Below.refl _ _⟩
              case round =>
                obtain ⟨k, hk, rfl, hb2⟩ := hrel
                have HB2 := Lib.hid hb2
                have hsz2 := hb2.size
                clear hb2
                have HBX2 : Hid (Below w.heap.size w wr) := Lib.hid (HBY4.out.trans (HB2.out.mono HBY4.out.size))
                by_cases hlk : k < i
                · obtain ⟨v, hv⟩ : ∃ v, waits[k]? = some v := ⟨waits[k]'(by rw [← HN2.out]; omega), List.getElem?_eq_getElem _⟩
                  have k0 : (0 : Int) ≤ (k : Int) := by omega
                  have k1 : (k : Int) < (i : Int) := by omega
                  obtain ⟨g2, o2, ea, _, b0, b1, b2⟩ := want_cells (H2.out.up HBX2.out) hv (by omega)
                  injection ea with ea; injection ea with ea1 ea2 _; subst ea1 ea2
                  have HV := Lib.hid hv
                  clear hv
                  obtain ⟨gz, hgz⟩ : ∃ g, g = wr.heap.size := ⟨_, rfl⟩
                  obtain ⟨Z, hZ⟩ : ∃ Y, Y = wr.alloc (.cells #[.int .u64 v.num, .int .i64 v.nd, .int .i64 v.md] 47) := ⟨_, rfl⟩
                  have HZB : Hid (Below wr.heap.size wr Z) := Lib.hid (by rw [hZ]; exact (Below.refl _ _).alloc (Nat.le_refl _) _)
                  have HZR : Hid (Z.heap[gz]? = some (.cells #[.int .u64 v.num, .int .i64 v.nd, .int .i64 v.md] 47 (0, 0))) := Lib.hid (by rw [hZ, hgz]; exact heap_alloc_new wr _)
                  go_upto_region 23 with fail
                  rw [← hZ, ← hgz]
                  clear hZ hgz b0 b1 b2
                  obtain ⟨d0, d1, d2⟩ := row3c (blk_below (blk_below HY4R.out HB2.out) HZB.out)
                  obtain ⟨e0, e1, e2⟩ := row3c HZR.out
                  by_cases hv2 : v.md = 2
                  · have HEL := Lib.hid (HWW.out i k u v HU.out HV.out (by omega) (.inl hv2))
                    have m2 : (v.md == 2) = true := by simp [hv2]
                    clear hv2
                    go_wp2_with (go_at_call 11; refine (HEL.out _).mono ?_; rintro e w9 ⟨rfl, hb9⟩; have HB9 := Lib.hid hb9; clear hb9)
                    go_roundw
                    case rel => exact ⟨k + 1, by omega, by go_num, HB2.out.trans ((HZB.out.trans (HB9.out.mono HZB.out.size)).mono hsz2)⟩
                    case measure => simp [intOf]; omega
                  · have m2 : (v.md == 2) = false := by simp [hv2]
                    by_cases hu2 : u.md = 2
                    · have HEL := Lib.hid (HWW.out i k u v HU.out HV.out (by omega) (.inr hu2))
                      have m1 : (u.md == 2) = true := by simp [hu2]
                      clear hv2 hu2
                      go_wp2_with (go_at_call 11; refine (HEL.out _).mono ?_; rintro e w9 ⟨rfl, hb9⟩; have HB9 := Lib.hid hb9; clear hb9)
                      go_roundw
                      case rel => exact ⟨k + 1, by omega, by go_num, HB2.out.trans ((HZB.out.trans (HB9.out.mono HZB.out.size)).mono hsz2)⟩
                      case measure => simp [intOf]; omega
                    · have m1 : (u.md == 2) = false := by simp [hu2]
                      clear hv2 hu2
                      go_wp2_with fail
                      go_roundw
                      case rel => exact ⟨k + 1, by omega, by go_num, HB2.out.trans (HZB.out.mono hsz2)⟩
                      case measure => simp [intOf]; omega
                · have k1 : ¬ ((k : Int) < (i : Int)) := by omega
                  go_wp2_with fail
                  go_roundw
                  case rel => exact ⟨i + 1, by omega, by go_num, HBX2.out⟩
                  case measure => simp [intOf]; omega
        · have i1 : ¬ ((i : Int) < (nw : Int)) := by omega
          clear hbl
          go_wp2_with fail
          go_ret
          exact ⟨rfl, HBL.out⟩
#print axioms right_any
end Go.Proofs.Ytcceankldiafpaa.Lock
