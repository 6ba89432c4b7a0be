/- Find: where a transaction of a name stands first. -/
import Derived.Test.YthkacajlbenflaaHistS
set_option linter.unusedVariables false
set_option linter.unusedSimpArgs false
set_option linter.unusedSectionVars false
namespace Go.Proofs.Ythkacajlbenflaa.HistA
open Go.RowKit Go.WideShapes Go.Deep Go.Proofs.Ythkacajlbenflaa.Mem Go.Proofs.Ythkacajlbenflaa.Open Go.Proofs.Ythkacajlbenflaa.KeyM Go.Proofs.Ythkacajlbenflaa.KeyN Go.Proofs.Ythkacajlbenflaa.Kv
def sameT (t : TxV) (p : Int × Int) : Bool := decide (t.num = p.1 ∧ t.nd = p.2)
def first (ts : List TxV) (p : Int × Int) : Option Nat := ts.findIdx? fun t => sameT t p
def firstZ (ts : List TxV) (p : Int × Int) : Int := match first ts p with | some i => i | none => -1
set_option maxHeartbeats 2000000 in
set_option maxRecDepth 100000 in
theorem find1_any (w : World) (t : TxV) (p : Int × Int) {g : Nat} (hg : w.heap[g]? = some (.cells #[.int .u64 p.1, .int .i64 p.2] 30 (0, 0))) :
    Calls Try.prog 34 #[.agg #[.int .u64 t.num, .int .i64 t.nd, .int .i64 t.bg, .int .i64 t.en, .bool t.as_, .bool t.lo, .slice t.A t.os.length t.c], .pointer (some ⟨g, 0, none⟩)] w fun e w' => e = .returned (.bool (sameT t p)) ∧ Below w.heap.size w w' := by
  have HG := Lib.hid hg
  clear hg
  obtain ⟨b, hb⟩ : ∃ b, b = sameT t p := ⟨_, rfl⟩
  rw [← hb]
  have HB := Lib.hid hb
  clear hb
  go_enter Try.func34, Try.ntmps34
  go_upto_region 1 with fail
  obtain ⟨X, hX⟩ : ∃ X, X = w.alloc (.cells #[.int .u64 t.num, .int .i64 t.nd, .int .i64 t.bg, .int .i64 t.en, .bool t.as_, .bool t.lo, .slice t.A t.os.length t.c] 39) := ⟨_, rfl⟩
  rw [← hX]
  have HXB : Hid (Below w.heap.size w X) := Lib.hid (by rw [hX]; exact (Below.refl _ _).alloc (Nat.le_refl _) _)
  obtain ⟨d0, d1, d2, d3, d4, d5, d6⟩ := row7_facts (show X.heap[w.heap.size]? = _ by rw [hX]; exact heap_alloc_new w _)
  obtain ⟨p0, p1⟩ := row2c (blk_below HG.out HXB.out)
  clear hX d2 d3 d4 d5 d6
  by_cases h1 : t.num = p.1
  · have b1 : (t.num == p.1) = true := by simp [h1]
    have H1 := Lib.hid h1
    clear h1
    by_cases h2 : t.nd = p.2
    · have b2 : (t.nd == p.2) = true := by simp [h2]
      have H2 := Lib.hid h2
      clear h2
      go_wp2_with fail
      go_ret
      exact ⟨by rw [HB.out]; unfold sameT; simp [H1.out, H2.out], HXB.out⟩
    · have b2 : (t.nd == p.2) = false := by simp [h2]
      go_wp2_with fail
      go_ret
      exact ⟨by rw [HB.out]; unfold sameT; simp [h2], HXB.out⟩
  · have b1 : (t.num == p.1) = false := by simp [h1]
    go_wp2_with fail
    go_ret
    exact ⟨by rw [HB.out]; unfold sameT; simp [h1], HXB.out⟩
theorem first_at {ts : List TxV} {p : Int × Int} {j : Nat} {t : TxV} (ht : ts[j]? = some t) (hs : sameT t p = true) (hb : ∀ (i : Nat) (u : TxV), i < j → ts[i]? = some u → sameT u p = false) : first ts p = some j := by
  unfold first
  rw [List.findIdx?_eq_some_iff_getElem]
  obtain ⟨hj, e⟩ := List.getElem?_eq_some_iff.1 ht
  exact ⟨hj, by rw [e]; exact hs, fun i hi => by simp [hb i _ hi (List.getElem?_eq_getElem (by omega))]⟩
theorem first_none {ts : List TxV} {p : Int × Int} (hb : ∀ (i : Nat) (u : TxV), ts[i]? = some u → sameT u p = false) : first ts p = none := by
  unfold first
  rw [List.findIdx?_eq_none_iff]
  intro t ht
  obtain ⟨i, hi⟩ := List.mem_iff_getElem?.1 ht
  exact hb i t hi
set_option maxHeartbeats 2000000 in
set_option maxRecDepth 100000 in
theorem index_any {ts : List TxV} (w : World) {A : Option Addr} {c : Nat} (h : Rd w w.heap.size 7 (.slice A ts.length c) ts.length (tc ts)) (p : Int × Int) {gt : Nat} (hg : w.heap[gt]? = some (.cells #[.int .u64 p.1, .int .i64 p.2] 30 (0, 0))) :
    Calls Try.prog 33 #[.slice A ts.length c, .func (.func 34) #[] #[.pointer (some ⟨gt, 0, none⟩)]] w fun e w' => e = .returned (.int .i64 (firstZ ts p)) ∧ Below w.heap.size w w' := by
  have HO : Hid (∀ W, Below w.heap.size w W → Rd W W.heap.size 7 (.slice A ts.length c) ts.length (tc ts)) := fun W hb => h.up hb
  have HG : Hid (∀ W, Below w.heap.size w W → W.heap[gt]? = some (.cells #[.int .u64 p.1, .int .i64 p.2] 30 (0, 0))) := fun W hb => blk_below hg hb
  have hln := h.len_le
  clear h hg
  obtain ⟨n, hn⟩ : ∃ n, n = ts.length := ⟨_, rfl⟩
  rw [← hn] at HO hln ⊢
  have HN := Lib.hid hn
  clear hn
  unfold maxLen at hln
  obtain ⟨r, hr⟩ : ∃ r, r = firstZ ts p := ⟨_, rfl⟩
  rw [← hr]
  have HR := Lib.hid hr
  clear hr
  go_enter Try.func33, Try.ntmps33
  go_wp2_with fail
  go_loopw [8] (fun i wr => ∃ j : Nat, j ≤ n ∧ i = .int .i64 j ∧ (∀ i u, i < j → ts[i]? = some u → sameT u p = false) ∧ Below w.heap.size w wr) (fun i _ => n - (intOf i).toNat)
  case atStart => exact ⟨0, Nat.zero_le _, rfl, fun i u h => absurd h (by omega), Below.refl _ _⟩
  case round =>
    obtain ⟨j, hj, rfl, hall, hbl⟩ := hrel
    have HBL := Lib.hid hbl
    have HALL := Lib.hid hall
    clear hall
    by_cases hlt : j < n
    · obtain ⟨t, ht⟩ : ∃ t, ts[j]? = some t := ⟨ts[j]'(by rw [← HN.out]; omega), List.getElem?_eq_getElem _⟩
      obtain ⟨g, off, rfl, c0, c1, c2, c3, c4, c5, c6⟩ := txn_cells (HO.out wr hbl) ht (by omega)
      have HTE := Lib.hid ht
      have HC := Lib.hid (find1_any wr t p (HG.out wr hbl))
      have i0 : (0 : Int) ≤ (j : Int) := by omega
      have i1 : (j : Int) < (n : Int) := by omega
      clear hbl ht
      obtain ⟨b, hb⟩ : ∃ b, b = sameT t p := ⟨_, rfl⟩
      rw [← hb] at HC
      have HB := Lib.hid hb
      clear hb
      cases b with
      | true =>
        go_wp2_with (go_at_call 34; refine HC.out.mono ?_; rintro e w1 ⟨rfl, hb1⟩; have HB1 := Lib.hid hb1; clear hb1)
        go_ret
        refine ⟨?_, HBL.out.trans (HB1.out.mono HBL.out.size)⟩
        have e : r = (j : Int) := by rw [HR.out]; unfold firstZ; rw [first_at HTE.out HB.out.symm HALL.out]
        rw [e]; rfl
      | false =>
        go_wp2_with (go_at_call 34; refine HC.out.mono ?_; rintro e w1 ⟨rfl, hb1⟩; have HB1 := Lib.hid hb1; clear hb1)
        go_roundw
        case rel => exact ⟨j + 1, by omega, by go_num, fun i u hi hu => by
          by_cases e : i = j
          · subst e
            have : some t = some u := HTE.out.symm.trans hu
            injection this with this
            rw [← this]; exact HB.out.symm
          · exact HALL.out i u (by omega) hu, HBL.out.trans (HB1.out.mono HBL.out.size)⟩
        case measure => simp [intOf]; omega
    · have i1 : ¬ ((j : Int) < (n : Int)) := by omega
      go_wp2_with fail
      go_ret
      refine ⟨?_, HBL.out⟩
      have e : r = -1 := by
        rw [HR.out]; unfold firstZ
        rw [first_none fun i u hu => HALL.out i u (by have := (List.getElem?_eq_some_iff.1 hu).1; rw [← HN.out] at this; omega) hu]
      rw [e]; rfl
set_option maxHeartbeats 2000000 in
set_option maxRecDepth 100000 in
theorem find_txn {ts : List TxV} (w : World) {A : Option Addr} {c : Nat} (h : Rd w w.heap.size 7 (.slice A ts.length c) ts.length (tc ts)) (p : Int × Int) :
    Calls Try.prog 24 #[.slice A ts.length c, .agg #[.int .u64 p.1, .int .i64 p.2]] w fun e w' => e = .returned (.int .i64 (firstZ ts p)) ∧ Below w.heap.size w w' := by
  have HB : Hid (Below w.heap.size w (w.alloc (.cells #[.int .u64 p.1, .int .i64 p.2] 30))) := Lib.hid ((Below.refl _ _).alloc (Nat.le_refl _) _)
  have HC := Lib.hid (index_any _ (h.up HB.out) p (heap_alloc_new w _))
  clear h
  obtain ⟨r, hr⟩ : ∃ r, r = firstZ ts p := ⟨_, rfl⟩
  obtain ⟨n, hn⟩ : ∃ n, n = ts.length := ⟨_, rfl⟩
  rw [← hr, ← hn] at HC ⊢
  clear hr hn
  go_enter Try.func24, Try.ntmps24
  go_wp2_with (go_at_call 33; refine HC.out.mono ?_; rintro e w1 ⟨rfl, hb1⟩; have HB1 := Lib.hid hb1; clear hb1)
  go_ret
  exact ⟨rfl, HB.out.trans (HB1.out.mono HB.out.size)⟩
end Go.Proofs.Ythkacajlbenflaa.HistA
