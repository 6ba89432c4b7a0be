/- HistOrders: the first of a name, by the law's own function. -/
import Derived.Test.YthkacajlbenflaaHistX
import Derived.Test.YthkacajlbenflaaHistB
import Derived.Test.YthkacajlbenflaaRes
set_option linter.unusedVariables false
set_option linter.unusedSimpArgs false
set_option linter.unusedSectionVars false
namespace Go.Proofs.Ythkacajlbenflaa.HistA
open Go.RowKit Go.WideShapes Go.Deep Go.Proofs.Ythkacajlbenflaa.Mem Go.Proofs.Ythkacajlbenflaa.Open Go.Proofs.Ythkacajlbenflaa.KeyM Go.Proofs.Ythkacajlbenflaa.KeyN Go.Proofs.Ythkacajlbenflaa.Kv Go.Proofs.Ythkacajlbenflaa.Maps
def zeroT : TxV := ⟨0, 0, 0, 0, false, false, none, 0, []⟩
def txV (t : TxV) : Value := .agg #[.int .u64 t.num, .int .i64 t.nd, .int .i64 t.bg, .int .i64 t.en, .bool t.as_, .bool t.lo, .slice t.A t.os.length t.c]
theorem row7_set {W : World} {g : Nat} {a b c d e f h a' b' c' d' e' f' h' : Value} {t : TypeId} (hr : W.heap[g]? = some (.cells #[a, b, c, d, e, f, h] t (0, 0))) :
    (sets W g [(0, a'), (1, b'), (2, c'), (3, d'), (4, e'), (5, f'), (6, h')]).heap[g]? = some (.cells #[a', b', c', d', e', f', h'] t (0, 0)) := by
  have := sets_row [(0, a'), (1, b'), (2, c'), (3, d'), (4, e'), (5, f'), (6, h')] W hr
  simpa using this
set_option maxHeartbeats 2000000 in
set_option maxRecDepth 100000 in
theorem first1_any {ts : List TxV} (w : World) {A : Option Addr} {c : Nat} (h : Rd w w.heap.size 7 (.slice A ts.length c) ts.length (tc ts)) (p : Int × Int) {gb : Nat} (hg : w.heap[gb]? = some (.cells #[.slice A ts.length c] 35 (0, 0))) :
    Calls Try.prog 11 #[.agg #[.int .u64 p.1, .int .i64 p.2], .pointer (some ⟨gb, 0, none⟩)] w fun e w' => e = .returned (.tuple #[txV ((look ts p).getD zeroT), .bool (look ts p).isSome]) ∧ Below w.heap.size w w' := by
  have HO : Hid (∀ W, Below w.heap.size w W → Rd W W.heap.size 7 (.slice A ts.length c) ts.length (tc ts)) := fun W hb => h.up hb
  have HG : Hid (∀ W, Below w.heap.size w W → W.heap[gb]? = some (.cells #[.slice A ts.length c] 35 (0, 0))) := fun W hb => blk_below hg hb
  have hln := h.len_le
  clear h hg
  obtain ⟨n, hn⟩ : ∃ n, n = ts.length := ⟨_, rfl⟩
  rw [← hn] at HO HG hln
  have HN := Lib.hid hn
  clear hn
  unfold maxLen at hln
  obtain ⟨o, ho⟩ : ∃ o, o = look ts p := ⟨_, rfl⟩
  rw [← ho]
  have HOO := Lib.hid ho
  clear ho
  go_enter Try.func11, Try.ntmps11
  go_upto_region 1 with fail
  obtain ⟨X, hX⟩ : ∃ X, X = (w.alloc (.cells #[.int .u64 p.1, .int .i64 p.2] 30)).alloc (.cells #[.int .u64 0, .int .i64 0, .int .i64 0, .int .i64 0, .bool false, .bool false, .slice none 0 0] 39) := ⟨_, rfl⟩
  rw [← hX]
  have HXB : Hid (Below w.heap.size w X) := Lib.hid (by rw [hX]; exact ((Below.refl _ _).alloc (Nat.le_refl _) _).alloc (by simp) _)
  have HXZ : Hid (X.heap.size = w.heap.size + 2) := Lib.hid (by rw [hX]; simp)
  have HXT : Hid (X.heap[w.heap.size]? = some (.cells #[.int .u64 p.1, .int .i64 p.2] 30 (0, 0))) := Lib.hid (by rw [hX, Below.heap_alloc _ _ _ (by simp)]; exact heap_alloc_new w _)
  have HXR : Hid (X.heap[w.heap.size + 1]? = some (.cells #[.int .u64 0, .int .i64 0, .int .i64 0, .int .i64 0, .bool false, .bool false, .slice none 0 0] 39 (0, 0))) := Lib.hid (by
    rw [hX]
    have h9 := heap_alloc_new (w.alloc (.cells #[.int .u64 p.1, .int .i64 p.2] 30)) (.cells #[.int .u64 0, .int .i64 0, .int .i64 0, .int .i64 0, .bool false, .bool false, .slice none 0 0] 39)
    rw [World.size_alloc] at h9
    exact h9)
  clear hX
  have b0 : X.cell? ⟨gb, 0, none⟩ = some (.slice A n c) := row_at (HG.out X HXB.out) rfl
  go_wp2_with fail
  clear b0
  go_loopw [9] (fun i wr => ∃ j : Nat, j ≤ n ∧ i = .int .i64 j ∧ (∀ i u, i < j → ts[i]? = some u → sameT u p = false) ∧ Below X.heap.size X wr) (fun i _ => n - (intOf i).toNat)
  case atStart => exact ⟨0, Nat.zero_le _, rfl, fun i u h => absurd h (by omega), Below.refl _ _⟩
  case round =>
    obtain ⟨j, hj, rfl, hall, hbl⟩ := hrel
    have HALL := Lib.hid hall
    have HBL := Lib.hid hbl
    have HBW : Hid (Below w.heap.size w wr) := Lib.hid (HXB.out.trans (hbl.mono HXB.out.size))
    clear hall
    by_cases hlt : j < n
    · obtain ⟨t, ht⟩ : ∃ t, ts[j]? = some t := ⟨ts[j]'(by rw [← HN.out]; omega), List.getElem?_eq_getElem _⟩
      obtain ⟨g, off, rfl, c0, c1, c2, c3, c4, c5, c6⟩ := txn_cells (HO.out wr HBW.out) ht (by omega)
      have HTE := Lib.hid ht
      obtain ⟨Y, hY⟩ : ∃ Y, Y = wr.alloc (.cells #[.int .u64 t.num, .int .i64 t.nd, .int .i64 t.bg, .int .i64 t.en, .bool t.as_, .bool t.lo, .slice t.A t.os.length t.c] 39) := ⟨_, rfl⟩
      have hby : Below wr.heap.size wr Y := by rw [hY]; exact (Below.refl _ _).alloc (Nat.le_refl _) _
      have HYB : Hid (Below X.heap.size X Y) := hbl.trans (hby.mono hbl.size)
      have hyr : Y.heap[wr.heap.size]? = some (.cells #[.int .u64 t.num, .int .i64 t.nd, .int .i64 t.bg, .int .i64 t.en, .bool t.as_, .bool t.lo, .slice t.A t.os.length t.c] 39 (0, 0)) := by rw [hY]; exact heap_alloc_new wr _
      have HYE := Lib.hid hY
      have HYR := Lib.hid hyr
      have i0 : (0 : Int) ≤ (j : Int) := by omega
      have i1 : (j : Int) < (n : Int) := by omega
      clear hbl ht hY hby hyr
      go_upto_region 4 with fail
      rw [← HYE.out]
      clear c0 c1 c2 c3 c4 c5 c6 HYE
      obtain ⟨d0, d1, d2, d3, d4, d5, d6⟩ := row7_facts HYR.out
      obtain ⟨p0, p1⟩ := row2c (blk_below HXT.out HYB.out)
      have HZ := Lib.hid (blk_below HXR.out HYB.out)
      obtain ⟨z0, z1, z2, z3, z4, z5, z6⟩ := row7_facts HZ.out
      have zf : ∀ k, Y.frozen? ⟨w.heap.size + 1, k, none⟩ = false := row_free HZ.out
      by_cases h1 : t.num = p.1
      · have b1 : (t.num == p.1) = true := by simp [h1]
        have H1 := Lib.hid h1
        clear h1
        by_cases h2 : t.nd = p.2
        · have b2 : (t.nd == p.2) = true := by simp [h2]
          have H2 := Lib.hid h2
          clear h2
          have hlk : o = some t := by rw [HOO.out]; exact look_some (first_at HTE.out (by unfold sameT; simp [H1.out, H2.out]) HALL.out) HTE.out
          subst hlk
          go_wp2_with fail
          have HBF : Hid (Below w.heap.size w Y) := Lib.hid (HXB.out.trans (HYB.out.mono HXB.out.size))
          refine bodyPost_ret (Res.results_row_tmp rfl _ _ (row7_set HZ.out) rfl Try.underlying39 rfl rfl) rfl ?_
          exact ⟨rfl, sets_below [(0, _), (1, _), (2, _), (3, _), (4, _), (5, _), (6, _)] HBF.out (by omega)⟩
        · have b2 : (t.nd == p.2) = false := by simp [h2]
          have H2 := Lib.hid h2
          clear h2
          go_wp2_with fail
          go_roundw
          case rel => exact ⟨j + 1, by omega, by go_num, fun i u hi hu => by
            by_cases e : i = j
            · subst e
              have : some t = some u := HTE.out.symm.trans hu
              injection this with this
              rw [← this]; unfold sameT; simp [H2.out]
            · exact HALL.out i u (by omega) hu, HYB.out⟩
          case measure => simp [intOf]; omega
      · have b1 : (t.num == p.1) = false := by simp [h1]
        have H1 := Lib.hid h1
        clear h1
        go_wp2_with fail
        go_roundw
        case rel => exact ⟨j + 1, by omega, by go_num, fun i u hi hu => by
          by_cases e : i = j
          · subst e
            have : some t = some u := HTE.out.symm.trans hu
            injection this with this
            rw [← this]; unfold sameT; simp [H1.out]
          · exact HALL.out i u (by omega) hu, HYB.out⟩
        case measure => simp [intOf]; omega
    · have HZ := Lib.hid (blk_below HXR.out hbl)
      obtain ⟨z0, z1, z2, z3, z4, z5, z6⟩ := row7_facts HZ.out
      have zf : ∀ k, wr.frozen? ⟨w.heap.size + 1, k, none⟩ = false := row_free HZ.out
      clear hbl
      have hlk : o = none := by
        rw [HOO.out]
        exact look_none (first_none fun i u hu => HALL.out i u (by have := (List.getElem?_eq_some_iff.1 hu).1; rw [← HN.out] at this; omega) hu)
      subst hlk
      go_wp2_with fail
      refine bodyPost_ret (Res.results_row_tmp rfl _ _ (row7_set HZ.out) rfl Try.underlying39 rfl rfl) rfl ?_
      exact ⟨rfl, sets_below [(0, _), (1, _), (2, _), (3, _), (4, _), (5, _), (6, _)] HBW.out (by omega)⟩
#print axioms first1_any
end Go.Proofs.Ythkacajlbenflaa.HistA
