/- HistFolds: the walk. -/
import Derived.Test.YthkacajlbenflaaHistU
set_option linter.unusedVariables false
set_option linter.unusedSimpArgs false
set_option linter.unusedSectionVars false
namespace Go.Proofs.Ythkacajlbenflaa.HistA
open Go.RowKit Go.WideShapes Go.Deep Go.Proofs.Ythkacajlbenflaa.Mem Go.Proofs.Ythkacajlbenflaa.Open Go.Proofs.Ythkacajlbenflaa.KeyM Go.Proofs.Ythkacajlbenflaa.KeyN Go.Proofs.Ythkacajlbenflaa.Kv Go.Proofs.Ythkacajlbenflaa.Maps
attribute [local irreducible] withL withoutL
/-- The first place of a name from place q on, or -1. -/
def fromZ (ts : List TxV) (p : Int × Int) (q : Nat) : Int := match first (ts.drop q) p with | some i => ((q + i : Nat) : Int) | none => -1
theorem fromZ_step {ts : List TxV} {p : Int × Int} {q : Nat} {t : TxV} (ht : ts[q]? = some t) : fromZ ts p q = if sameT t p = true then (q : Int) else fromZ ts p (q + 1) := by
  obtain ⟨hq, e⟩ := List.getElem?_eq_some_iff.1 ht
  have hd : ts.drop q = t :: ts.drop (q + 1) := by rw [← e]; exact List.drop_eq_getElem_cons hq
  unfold fromZ first
  rw [hd, List.findIdx?_cons]
  by_cases h : sameT t p = true
  · simp [h]
  · rw [if_neg h, if_neg h]
    cases List.findIdx? (fun t => sameT t p) (ts.drop (q + 1)) with
    | none => rfl
    | some i => simp only [Option.map_some]; omega
theorem fromZ_zero (ts : List TxV) (p : Int × Int) : fromZ ts p 0 = firstZ ts p := by
  unfold fromZ firstZ
  rw [List.drop_zero]
  cases first ts p with
  | none => rfl
  | some i => simp
theorem fromZ_end (ts : List TxV) (p : Int × Int) : fromZ ts p ts.length = -1 := by
  unfold fromZ first
  rw [List.drop_length]; rfl
theorem foldP_facts {s : List P2 × Bool} (h : Rise s.1) (os : List OpR) : Rise (os.foldl play1 s).1 ∧ (os.foldl play1 s).1.length ≤ s.1.length + os.length := by
  obtain ⟨s1, s2⟩ := s
  rw [playF]
  exact playL_facts h _ os rfl
set_option maxHeartbeats 4000000 in
set_option maxRecDepth 100000 in
theorem folds_any {ts : List TxV} {ps : List (Int × Int)} (w : World) {A B : Option Addr} {c d : Nat} (h : Rd w w.heap.size 7 (.slice A ts.length c) ts.length (tc ts)) (hok : ∀ t ∈ ts, TxOk w t)
    (ho : Rd w w.heap.size 2 (.slice B ps.length d) ps.length (idc ps)) :
    Calls Try.prog 7 #[.slice A ts.length c, .slice B ps.length d] w fun e w' => e = .returned (.bool true) ∧ Below w.heap.size w w' := by
  have HO : Hid (∀ W, Below w.heap.size w W → Rd W W.heap.size 2 (.slice B ps.length d) ps.length (idc ps)) := fun W hb => ho.up hb
  have HRA : Hid (∀ W, Below w.heap.size w W → Rd W W.heap.size 7 (.slice A ts.length c) ts.length (tc ts)) := fun W hb => h.up hb
  have HT : Hid (∀ W, Below w.heap.size w W → ∀ t ∈ ts, TxOk W t) := fun W hb t ht => (hok t ht).up hb
  have HSM : Hid (∀ W, Below w.heap.size w W → Calls Try.prog 10 #[.slice A ts.length c, .slice B ps.length d] W fun e w' => SRes ts ps.length W e w') := fun W hb => small_any W (h.up hb) (fun t ht => (hok t ht).up hb)
  have HFO : Hid (∀ W, Below w.heap.size w W → Small ts ps.length → Calls Try.prog 19 #[.slice A ts.length c, .slice B ps.length d] W fun e w' => ∃ v', e = .returned (.tuple #[v', .bool (foldO ts ps).2]) ∧ IsMap w' v' (foldO ts ps).1 ∧ Below W.heap.size W w') := fun W hb hs => fold_any W (h.up hb) (fun t ht => (hok t ht).up hb) (ho.up hb) hs
  have hln := h.len_le
  have hlm := ho.len_le
  clear h hok ho
  obtain ⟨n, hn⟩ : ∃ n, n = ts.length := ⟨_, rfl⟩
  obtain ⟨m, hm⟩ : ∃ m, m = ps.length := ⟨_, rfl⟩
  rw [← hm] at HO HSM HFO hlm ⊢
  rw [← hn] at HRA HSM HFO hln ⊢
  have HN := Lib.hid hn
  have HM := Lib.hid hm
  clear hn hm
  unfold maxLen at hln hlm
  have hmm := @run_makeMap Try.prog
  go_enter Try.func7, Try.ntmps7
  go_wp2_with fail
  refine (head_any w).mono ?_
  rintro e w0 ⟨rfl, hb0⟩
  have HB0 : Hid (Below w.heap.size w w0) := Lib.hid hb0
  clear hb0
  go_wp2_with fail
  refine (HSM.out w0 HB0.out).mono ?_
  rintro e w1 ⟨b, rfl, hsm, hb1⟩
  have HB1 : Hid (Below w.heap.size w w1) := HB0.out.trans (hb1.mono HB0.out.size)
  clear hb1
  cases b with
  | false =>
    go_wp2_with fail
    go_ret
    exact ⟨rfl, HB1.out⟩
  | true =>
    have HS := Lib.hid (hsm rfl)
    clear hsm
    have hm20 := HS.out.2.1
    have hn20 := HS.out.1
    rw [← HN.out] at hn20
    go_wp2_with fail
    clear hmm
    go_loopw [6, 30] (fun ok i wr => ∃ (j : Nat) (b : Bool) (ms : List (S × S)), j ≤ m ∧ i = .int .i64 j ∧ ok = .bool b ∧ b = (foldO ts (ps.take j)).2 ∧ AtS wr w1.heap.size ms ∧ Agree ms (foldO ts (ps.take j)).1 ∧ Below w.heap.size w wr) (fun _ i _ => m - (intOf i).toNat)
    case atStart => exact ⟨0, true, [], Nat.zero_le _, rfl, rfl, rfl, MapAt.new _, agree_nil, HB1.out.alloc HB1.out.size _⟩
    case round =>
      obtain ⟨j, b, ms, hj, rfl, rfl, hb, hat, hag, hbl⟩ := hrel
      by_cases hlt : j < m
      · obtain ⟨p, hp⟩ : ∃ p, ps[j]? = some p := ⟨ps[j]'(by rw [← HM.out]; omega), List.getElem?_eq_getElem _⟩
        obtain ⟨g, off, rfl, c0, c1⟩ := id_cells (HO.out wr hbl) hp (by omega)
        obtain ⟨s, hs⟩ : ∃ s, s = foldO ts (ps.take j) := ⟨_, rfl⟩
        obtain ⟨hr, hlen⟩ := foldO_facts HS.out _ (ps.take j) rfl
        have htl : (ps.take j).length = j := by rw [List.length_take, ← HM.out]; omega
        rw [htl] at hlen
        rw [← hs] at hb hag hr hlen
        have hnext : foldO ts (ps.take (j + 1)) = fold1 ts s p := by rw [List.take_add_one, hp]; show foldO ts (ps.take j ++ [p]) = _; rw [foldO_snoc, ← hs]
        have HNX := Lib.hid hnext
        have HLEN : Hid (s.1.length ≤ 400) := Lib.hid (by omega)
        have HRR := Lib.hid hr
        have HB := Lib.hid hb
        have HAG := Lib.hid hag
        obtain ⟨X, hX⟩ : ∃ X, X = wr.alloc (.cells #[.int .u64 p.1, .int .i64 p.2] 30) := ⟨_, rfl⟩
        have hbx : Below wr.heap.size wr X := by rw [hX]; exact (Below.refl _ _).alloc (Nat.le_refl _) _
        have HXR : Hid (X.heap[wr.heap.size]? = some (.cells #[.int .u64 p.1, .int .i64 p.2] 30 (0, 0))) := Lib.hid (by rw [hX]; exact heap_alloc_new wr _)
        have HXB : Hid (Below w.heap.size w X) := hbl.trans (hbx.mono hbl.size)
        have HAT := Lib.hid (hat.below hbx)
        have HXE := Lib.hid hX
        have i0 : (0 : Int) ≤ (j : Int) := by omega
        have i1 : (j : Int) < (m : Int) := by omega
        clear hX hbx hat hag hbl hnext hs hb hr hlen htl hp
        go_upto_region 10 with fail
        rw [← HXE.out]
        clear HXE c0 c1
        go_wp2_with fail
        go_loopw [9, 10] (fun a i wq => ∃ (q : Nat) (z : Int), q ≤ n ∧ z = (q : Int) - 1 ∧ i = .int .i64 z ∧ a = .int .i64 (fromZ ts p q) ∧ Below X.heap.size X wq) (fun _ i _ => (intOf i + 1).toNat)
        case atStart => exact ⟨n, _, Nat.le_refl _, rfl, by go_num, by rw [HN.out, fromZ_end], Below.refl _ _⟩
        case round =>
          obtain ⟨q, z, hq, hz, rfl, rfl, hbq⟩ := hrel
          have HBQ := Lib.hid hbq
          have HBWQ : Hid (Below w.heap.size w wr) := Lib.hid (HXB.out.trans (hbq.mono HXB.out.size))
          clear hbq
          obtain ⟨d0, d1⟩ := row2c (blk_below HXR.out HBQ.out)
          by_cases hz0 : 0 ≤ z
          · obtain ⟨q', rfl⟩ : ∃ q', q = q' + 1 := ⟨q - 1, by omega⟩
            have hze : z = (q' : Int) := by omega
            subst hze
            clear hz
            obtain ⟨t, ht⟩ : ∃ t, ts[q']? = some t := ⟨ts[q']'(by rw [← HN.out]; omega), List.getElem?_eq_getElem _⟩
            obtain ⟨g2, off2, rfl, e0, e1, e2, e3, e4, e5, e6⟩ := txn_cells (HRA.out wr HBWQ.out) ht (by omega)
            have HST := Lib.hid (fromZ_step (p := p) ht)
            have q0 : (0 : Int) ≤ (q' : Int) := by omega
            have q1 : (q' : Int) < (n : Int) := by omega
            clear ht e2 e3 e4 e5 e6
            by_cases h1 : t.num = p.1
            · have b1 : (t.num == p.1) = true := by simp [h1]
              have H1 := Lib.hid h1
              clear h1
              by_cases h2 : t.nd = p.2
              · have b2 : (t.nd == p.2) = true := by simp [h2]
                have H2 := Lib.hid h2
                clear h2
                go_wp2_with fail
                go_quiet (fail)
                go_wp2_with fail
                go_roundw
                case rel => exact ⟨q', _, by omega, rfl, by go_num, by rw [HST.out, if_pos (by unfold sameT; simp [H1.out, H2.out])], below_drewN HBQ.out _⟩
                case measure => simp [intOf]
              · have b2 : (t.nd == p.2) = false := by simp [h2]
                go_wp2_with fail
                go_quiet (fail)
                go_wp2_with fail
                go_roundw
                case rel => exact ⟨q', _, by omega, rfl, by go_num, by rw [HST.out, if_neg (by unfold sameT; simp [h2])], below_drewN HBQ.out _⟩
                case measure => simp [intOf]
            · have b1 : (t.num == p.1) = false := by simp [h1]
              go_wp2_with fail
              go_quiet (fail)
              go_wp2_with fail
              go_roundw
              case rel => exact ⟨q', _, by omega, rfl, by go_num, by rw [HST.out, if_neg (by unfold sameT; simp [h1])], below_drewN HBQ.out _⟩
              case measure => simp [intOf]
          · obtain rfl : q = 0 := by omega
            have hze : z = -1 := by omega
            subst hze
            clear hz hz0 d0 d1
            have hat2 := HAT.out.below HBQ.out
            have HAT2 := Lib.hid hat2
            clear hat2
            rw [fromZ_zero]
            cases hf : first ts p with
            | none =>
              have e : firstZ ts p = -1 := by unfold firstZ; rw [hf]
              rw [e]
              have HFN := Lib.hid hf
              clear hf e
              go_wp2_with fail
              go_roundw
              case rel => exact ⟨j + 1, false, ms, by omega, by go_num, rfl, by rw [HNX.out]; unfold fold1; rw [HFN.out], HAT2.out, by rw [HNX.out]; unfold fold1; rw [HFN.out]; exact HAG.out, HBWQ.out⟩
              case measure => simp [intOf]; omega
            | some k =>
              have e : firstZ ts p = (k : Int) := by unfold firstZ; rw [hf]
              obtain ⟨t, ht, _⟩ := first_some hf
              have hk : k < n := by rw [HN.out]; exact (List.getElem?_eq_some_iff.1 ht).1
              obtain ⟨g2, off2, rfl, e0, e1, e2, e3, e4, e5, e6⟩ := txn_cells (HRA.out wr HBWQ.out) ht (by omega)
              have hfx : fold1 ts s p = t.os.foldl play1 s := by
                unfold fold1; rw [hf]; simp only [ht]
                exact (playF s.1 s.2 t.os).symm
              have HFX := Lib.hid hfx
              have HTM := Lib.hid (List.mem_of_getElem? ht)
              have hfew := HS.out.2.2 t HTM.out
              have HFEW := Lib.hid hfew
              have hol := hfew.1
              obtain ⟨tn, htn⟩ : ∃ tn, tn = t.os.length := ⟨_, rfl⟩
              rw [← htn] at e6 hol
              have HTN := Lib.hid htn
              rw [e]
              have k0 : (0 : Int) ≤ (k : Int) := by omega
              have k1 : (k : Int) < (n : Int) := by omega
              have k2 : ¬ ((k : Int) < 0) := by omega
              clear hf e ht hfx hfew htn e0 e1 e2 e3 e4 e5
              go_wp2_with fail
              clear e6
              go_loopw [6, 57] (fun ok i wq => ∃ (q : Nat) (b : Bool) (ms : List (S × S)), q ≤ tn ∧ i = .int .i64 q ∧ ok = .bool b ∧ b = ((t.os.take q).foldl play1 s).2 ∧ AtS wq w1.heap.size ms ∧ Agree ms ((t.os.take q).foldl play1 s).1 ∧ Below w.heap.size w wq) (fun _ i _ => tn - (intOf i).toNat)
              case atStart => exact ⟨0, b, ms, Nat.zero_le _, rfl, rfl, HB.out, HAT2.out, HAG.out, HBWQ.out⟩
              case round =>
                clear HAT2 HBWQ HBQ HAT HXB HXR HAG HB
                obtain ⟨q, b, ms, hq, rfl, rfl, hb, hat, hag, hbl⟩ := hrel
                by_cases hqt : q < tn
                · obtain ⟨o, hoj⟩ : ∃ o, t.os[q]? = some o := ⟨t.os[q]'(by rw [← HTN.out]; omega), List.getElem?_eq_getElem _⟩
                  have hrd := (HT.out wr hbl t HTM.out).1
                  unfold TxV.ov at hrd
                  rw [← HTN.out] at hrd
                  obtain ⟨g3, off3, hA3, f1, f2, f3, f4⟩ := op_cells hrd hoj (by omega)
                  rw [hA3]
                  obtain ⟨s2, hs2⟩ : ∃ s2, s2 = (t.os.take q).foldl play1 s := ⟨_, rfl⟩
                  obtain ⟨hr, _⟩ := foldP_facts HRR.out (t.os.take q)
                  rw [← hs2] at hb hag hr
                  have hnext : (t.os.take (q + 1)).foldl play1 s = play1 s2 o := by rw [List.take_add_one, hoj]; show (t.os.take q ++ [o]).foldl play1 s = _; rw [List.foldl_append, ← hs2]; rfl
                  have HNY := Lib.hid hnext
                  have HRY := Lib.hid hr
                  have HB := Lib.hid hb
                  have HAG := Lib.hid hag
                  have hks : o.key.size ≤ 100 := (HFEW.out.2 o (List.mem_of_getElem? hoj)).1
                  have hkm : o.key.size ≤ maxLen := by unfold maxLen; omega
                  obtain ⟨Y, hY⟩ : ∃ Y, Y = wr.alloc (.cells #[.int .i64 o.kind, .string o.key, .string o.val, .bool o.has] 54) := ⟨_, rfl⟩
                  have hby : Below wr.heap.size wr Y := by rw [hY]; exact (Below.refl _ _).alloc (Nat.le_refl _) _
                  have HYR : Hid (Y.heap[wr.heap.size]? = some (.cells #[.int .i64 o.kind, .string o.key, .string o.val, .bool o.has] 54 (0, 0))) := Lib.hid (by rw [hY]; exact heap_alloc_new wr _)
                  have HYB : Hid (Below w.heap.size w Y) := hbl.trans (hby.mono hbl.size)
                  have HAT := Lib.hid (hat.below hby)
                  have HYE := Lib.hid hY
                  have i0 : (0 : Int) ≤ (q : Int) := by omega
                  have i1 : (q : Int) < (tn : Int) := by omega
                  clear hY hby hat hag hbl hnext hs2 hb hr hoj hrd hA3
                  go_upto_region 21 with fail
                  rw [← HYE.out]
                  clear HYE f1 f2 f3 f4
                  obtain ⟨h0, h1, h2, h3⟩ := row4_facts HYR.out
                  have hlook := run_look HAT.out HAG.out hkm
                  obtain ⟨gs, hgs⟩ : ∃ gs, gs = getS s2.1 o.key := ⟨_, rfl⟩
                  obtain ⟨gh, hgh⟩ : ∃ gh, gh = here s2.1 o.key := ⟨_, rfl⟩
                  rw [← hgs, ← hgh] at hlook
                  have HGS := Lib.hid hgs
                  have HGH := Lib.hid hgh
                  clear hgs hgh
                  by_cases kk2 : o.kind = 2
                  · have b2 : (o.kind == 2) = true := by simp [kk2]
                    have HK := Lib.hid kk2
                    clear kk2
                    cases b with
                    | false =>
                      go_wp2_with fail
                      go_roundw
                      case rel => exact ⟨q + 1, false, ms, by omega, by go_num, rfl, by rw [HNY.out]; unfold play1; rw [if_pos HK.out]; simp [← HB.out], HAT.out, by rw [HNY.out]; unfold play1; rw [if_pos HK.out]; exact HAG.out, HYB.out⟩
                      case measure => simp [intOf]; omega
                    | true =>
                      by_cases e2 : gh = o.has
                      · have d2 : (gh == o.has) = true := by simp [e2]
                        have E2 := Lib.hid e2
                        clear e2
                        by_cases e1 : gs = o.val
                        · have d1 : (gs.toList == o.val.toList) = true := by rw [str_beq, decide_eq_true e1]
                          have E1 := Lib.hid e1
                          clear e1
                          go_wp2_with fail
                          go_roundw
                          case rel => exact ⟨q + 1, true, ms, by omega, by go_num, rfl, by rw [HNY.out]; unfold play1; rw [if_pos HK.out]; simp [← HB.out, ← HGS.out, ← HGH.out, E1.out, E2.out], HAT.out, by rw [HNY.out]; unfold play1; rw [if_pos HK.out]; exact HAG.out, HYB.out⟩
                          case measure => simp [intOf]; omega
                        · have d1 : (gs.toList == o.val.toList) = false := by rw [str_beq, decide_eq_false e1]
                          have E1 := Lib.hid e1
                          clear e1
                          go_wp2_with fail
                          go_roundw
                          case rel => exact ⟨q + 1, false, ms, by omega, by go_num, rfl, by rw [HNY.out]; unfold play1; rw [if_pos HK.out]; simp [← HGS.out, E1.out], HAT.out, by rw [HNY.out]; unfold play1; rw [if_pos HK.out]; exact HAG.out, HYB.out⟩
                          case measure => simp [intOf]; omega
                      · have d2 : (gh == o.has) = false := by simp [e2]
                        have E2 := Lib.hid e2
                        clear e2
                        go_wp2_with fail
                        go_roundw
                        case rel => exact ⟨q + 1, false, ms, by omega, by go_num, rfl, by rw [HNY.out]; unfold play1; rw [if_pos HK.out]; simp [← HGH.out, E2.out], HAT.out, by rw [HNY.out]; unfold play1; rw [if_pos HK.out]; exact HAG.out, HYB.out⟩
                        case measure => simp [intOf]; omega
                  · have b2 : (o.kind == 2) = false := by simp [kk2]
                    by_cases kk3 : o.kind = 3
                    · have b3 : (o.kind == 3) = true := by simp [kk3]
                      have HK := Lib.hid kk3
                      have HK2 := Lib.hid kk2
                      clear kk3 kk2
                      obtain ⟨w4, hup, hat4, ht4⟩ := Maps.run_update (P := Try.prog) (t := 60) (e := 9) kmS Try.underlying60 HAT.out hkm o.val
                      have HB4 : Hid (Below w.heap.size w w4) := Lib.hid (below_turned ht4 HYB.out HB1.out.size)
                      have HAT4 := Lib.hid hat4
                      have HAG4 := Lib.hid (HAG.out.with_ HRY.out o.key o.val)
                      clear ht4 hat4
                      go_wp2_with fail
                      go_roundw
                      case rel => exact ⟨q + 1, b, setM ms o.key o.val, by omega, by go_num, rfl, by rw [HNY.out]; unfold play1; rw [if_neg HK2.out, if_pos HK.out]; exact HB.out, HAT4.out, by rw [HNY.out]; unfold play1; rw [if_neg HK2.out, if_pos HK.out]; exact HAG4.out, HB4.out⟩
                      case measure => simp [intOf]; omega
                    · have b3 : (o.kind == 3) = false := by simp [kk3]
                      by_cases kk4 : o.kind = 4
                      · have b4 : (o.kind == 4) = true := by simp [kk4]
                        have HK := Lib.hid kk4
                        have HK2 := Lib.hid kk2
                        have HK3 := Lib.hid kk3
                        clear kk4 kk3 kk2
                        obtain ⟨w4, hup0, hat4, ht4⟩ := Maps.run_delete (P := Try.prog) (t := 60) (e := 9) (ty := 0) kmS Try.underlying60 HAT.out hkm
                        have hup : ∀ ty, (Builtin.delete_ #[60, 9] ty #[.map (some w1.heap.size), .string o.key]).run Try.prog Y = .ok (.tuple #[]) w4 := fun ty => hup0
                        have HB4 : Hid (Below w.heap.size w w4) := Lib.hid (below_turned ht4 HYB.out HB1.out.size)
                        have HAT4 := Lib.hid hat4
                        have HAG4 := Lib.hid (HAG.out.without_ HAT.out.keys HRY.out o.key)
                        clear ht4 hat4 hup0
                        go_wp2_with fail
                        go_roundw
                        case rel => exact ⟨q + 1, b, delM ms o.key, by omega, by go_num, rfl, by rw [HNY.out]; unfold play1; rw [if_neg HK2.out, if_neg HK3.out, if_pos HK.out]; exact HB.out, HAT4.out, by rw [HNY.out]; unfold play1; rw [if_neg HK2.out, if_neg HK3.out, if_pos HK.out]; exact HAG4.out, HB4.out⟩
                        case measure => simp [intOf]; omega
                      · have b4 : (o.kind == 4) = false := by simp [kk4]
                        have HK4 := Lib.hid kk4
                        have HK2 := Lib.hid kk2
                        have HK3 := Lib.hid kk3
                        clear kk4 kk3 kk2
                        go_wp2_with fail
                        go_roundw
                        case rel => exact ⟨q + 1, b, ms, by omega, by go_num, rfl, by rw [HNY.out]; unfold play1; rw [if_neg HK2.out, if_neg HK3.out, if_neg HK4.out]; exact HB.out, HAT.out, by rw [HNY.out]; unfold play1; rw [if_neg HK2.out, if_neg HK3.out, if_neg HK4.out]; exact HAG.out, HYB.out⟩
                        case measure => simp [intOf]; omega
                · obtain rfl : q = tn := by omega
                  have htk : t.os.take q = t.os := by rw [HTN.out]; exact List.take_length
                  rw [htk] at hb hag
                  have HAT := Lib.hid hat
                  have HAG := Lib.hid hag
                  have HB := Lib.hid hb
                  have HBL := Lib.hid hbl
                  have i1 : ¬ ((q : Int) < (q : Int)) := by omega
                  clear hat hag hb hbl htk
                  go_wp2_with fail
                  go_roundw
                  case rel => exact ⟨j + 1, b, ms, by omega, by go_num, rfl, by rw [HNX.out, HFX.out]; exact HB.out, HAT.out, by rw [HNX.out, HFX.out]; exact HAG.out, HBL.out⟩
                  case measure => simp [intOf]; omega
      · obtain rfl : j = m := by omega
        have htk : ps.take j = ps := by rw [HM.out]; exact List.take_length
        rw [htk] at hb hag
        have HF := Lib.hid (HFO.out wr hbl HS.out)
        obtain ⟨qs, hqs⟩ : ∃ qs, qs = (foldO ts ps).1 := ⟨_, rfl⟩
        have HQR : Hid (Rise qs) := Lib.hid (by rw [hqs]; exact (foldO_facts HS.out _ ps rfl).1)
        rw [← hqs] at HF hag
        rw [← hb] at HF
        have HAT := Lib.hid hat
        have HAG := Lib.hid hag
        have HBL := Lib.hid hbl
        clear hat hag hbl htk hqs hb
        go_wp2_with fail
        refine HF.out.mono ?_
        rintro e w2 ⟨v2, rfl, him, hb2⟩
        have HB2 : Hid (Below w.heap.size w w2) := HBL.out.trans (hb2.mono HBL.out.size)
        have HAT2 := Lib.hid (HAT.out.below hb2)
        have HIM := Lib.hid him
        obtain ⟨C, cq, hv⟩ : ∃ C cq, v2 = .slice C qs.length cq := by
          obtain ⟨_, A, c, e, _⟩ := him.rd
          exact ⟨A, c, e⟩
        subst hv
        have hll := him.len
        have hlen5 := run_lenm HAT2.out HAG.out
        have hbb : (b == b) = true := by simp
        have hbn : (b != b) = false := by simp
        clear him hb2 HF HAT
        go_wp2_with fail
        clear hlen5
        go_loopw [117] (fun i wq => ∃ k, k ≤ qs.length ∧ i = .int .i64 k ∧ Below w2.heap.size w2 wq) (fun i _ => qs.length - (intOf i).toNat)
        case atStart => exact ⟨0, Nat.zero_le _, rfl, Below.refl _ _⟩
        case round =>
          obtain ⟨k, hk, rfl, hb6⟩ := hrel
          have HB6 := Lib.hid hb6
          by_cases hkl : k < qs.length
          · obtain ⟨g2, off2, cz, hB, hg2, _, _, hx2⟩ := HIM.out.rd.cells (by omega)
            injection hB with hB1 _ hB2
            subst hB1 hB2
            obtain ⟨⟨pk, pv⟩, hp⟩ : ∃ p, qs[k]? = some p := ⟨qs[k]'hkl, List.getElem?_eq_getElem _⟩
            have k0 : wr.cell? ⟨g2, off2 + k * 2, none⟩ = some (.string pk) := (hb6.cell (p := ⟨g2, off2 + k * 2, none⟩) hg2).trans (hx2 _ _ (pc_key hp))
            have k1 : wr.cell? ⟨g2, off2 + k * 2 + 1, none⟩ = some (.string pv) := (hb6.cell (p := ⟨g2, off2 + k * 2 + 1, none⟩) hg2).trans (hx2 _ _ (pc_val hp))
            have l0 : ∀ k', k = k' + 1 → ∃ p2 : P2, qs[k']? = some p2 ∧ wr.cell? ⟨g2, off2 + k' * 2, none⟩ = some (.string p2.1) := fun k' e => ⟨qs[k']'(by omega), List.getElem?_eq_getElem _, (hb6.cell (p := ⟨g2, off2 + k' * 2, none⟩) hg2).trans (hx2 _ _ (pc_key (List.getElem?_eq_getElem _)))⟩
            obtain ⟨Y, hY⟩ : ∃ Y, Y = wr.alloc (.cells #[.string pk, .string pv] 48) := ⟨_, rfl⟩
            have hby : Below wr.heap.size wr Y := by rw [hY]; exact (Below.refl _ _).alloc (Nat.le_refl _) _
            have hyr : Y.heap[wr.heap.size]? = some (.cells #[.string pk, .string pv] 48 (0, 0)) := by rw [hY]; exact heap_alloc_new wr _
            have HYB : Hid (Below w2.heap.size w2 Y) := hb6.trans (hby.mono hb6.size)
            have HYE := Lib.hid hY
            have hlook6 := fun N => look_at ((HAT2.out.below HYB.out).drewN N) HAG.out HQR.out hp
            have hlook7 := look_at (HAT2.out.below HYB.out) HAG.out HQR.out hp
            simp only at hlook6 hlook7
            have j0 : (0 : Int) ≤ (k : Int) := by omega
            have j1 : (k : Int) < (qs.length : Int) := by omega
            have HL0 := Lib.hid l0
            have HYR := Lib.hid hyr
            have HP := Lib.hid hp
            have HBY := Lib.hid hby
            clear hx2 hb6 hY hyr l0 hp hby
            go_upto_region 37 with fail
            rw [← HYE.out]
            clear HYE k0 k1
            obtain ⟨d0, d1⟩ := row2c HYR.out
            have hpv : (pv.toList == pv.toList) = true := by simp
            have hpn : (pv.toList != pv.toList) = false := by simp
            by_cases hk0 : k = 0
            · subst hk0
              go_wp2_with fail
              go_quiet (fail)
              go_wp2_with fail
              go_roundw
              case rel => exact ⟨1, (by omega), rfl, below_drewN HYB.out _⟩
              case measure => simp [intOf]; omega
            · obtain ⟨k', rfl⟩ : ∃ k', k = k' + 1 := ⟨k - 1, by omega⟩
              obtain ⟨⟨qk, qv⟩, ho, l1⟩ := HL0.out k' rfl
              have l2 : Y.cell? ⟨g2, off2 + k' * 2, none⟩ = some (.string qk) := (HBY.out.cell (p := ⟨g2, off2 + k' * 2, none⟩) (World.block_lt_of_cell? wr _ l1)).trans l1
              have hlt : Op.bytesLess qk.toList pk.toList = true := by
                rw [ByteArray.toList_eq, ByteArray.toList_eq]
                exact rise_at HQR.out ho HP.out (Nat.lt_succ_self k')
              have ew : IntKind.i64.wrap (k' : Int) = (k' : Int) := by rw [IntKind.wrap_i64]; omega
              have hi1 : (k' : Int) < (qs.length : Int) := by omega
              have hi2 : (0 : Int) ≤ (k' : Int) := by omega
              have hi3 : (k' : Int) + 1 < (qs.length : Int) := by omega
              have hi4 : (0 : Int) ≤ (k' : Int) + 1 := by omega
              have hi5 : ((k' : Int) + 1).toNat = k' + 1 := by omega
              have hge : ∀ W : World, Sem.run Try.prog (binOp .geq 9 (.string qk) (.string pk)) W = .ok (.bool false) W := fun W => by simp [binOp, Op.stringOp, hlt]
              clear ho l1
              go_wp2_with fail
              go_quiet (fail)
              go_wp2_with fail
              go_roundw
              case rel => exact ⟨k' + 1 + 1, by omega, by go_num, below_drewN HYB.out _⟩
              case measure => simp [intOf]; omega
          · clear hb6
            go_wp2_with fail
            go_ret
            exact ⟨rfl, HB2.out.trans (HB6.out.mono HB2.out.size)⟩
theorem folds_row {H : Type} {enc : TypeId × Value → H} {w : World} {base : Nat} {spare : Nat → Bool} {held : Bool} (v0 : Value) (ok0 : Value.okWide Try.prog w .any base 35 v0) (h0 : Reads1 enc Try.prog w 0 spare held 35 v0.cells.toList)
    (v1 : Value) (ok1 : Value.okWide Try.prog w .any base 41 v1) (h1 : Reads1 enc Try.prog w 0 spare held 41 v1.cells.toList) :
    Calls Try.prog 7 #[v0, v1] w fun e w' => e = .returned (.bool true) ∧ Below w.heap.size w w' := by
  obtain ⟨ts, hr, ht⟩ := txns_val ok0 h0
  obtain ⟨ps, hp, _⟩ := tids_val ok1 h1
  obtain ⟨A, c, rfl⟩ : ∃ A c, v0 = .slice A ts.length c := by
    obtain ⟨_, A, c, e, _⟩ := hr; exact ⟨A, c, e⟩
  obtain ⟨B, d, rfl⟩ : ∃ B d, v1 = .slice B ps.length d := by
    obtain ⟨_, A, c, e, _⟩ := hp; exact ⟨A, c, e⟩
  exact folds_any w hr ht hp
#print axioms folds_row
end Go.Proofs.Ythkacajlbenflaa.HistA
