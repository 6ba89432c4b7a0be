/- Those who keep a wish from being granted: has and a front of waits in one new slice, and who of them is against it. -/
import Derived.Test.YtcceankldiafpaaLockB
set_option linter.unusedVariables false
set_option linter.unusedSimpArgs false
set_option linter.unusedSectionVars false
namespace Go.Proofs.Ytcceankldiafpaa.Lock
open Go.RowKit Go.WideShapes Go.Deep Go.Proofs.Ytcceankldiafpaa.Mem Go.Proofs.Ytcceankldiafpaa.Open
theorem app_own {W : World} {B n : Nat} {v : Value} {xs : List Value} (ho : Own W B 47 3 v n xs) (hB : B ≤ W.heap.size) {A : Option Addr} {m c : Nat} {ws : List Wt} (hl : m = ws.length) (hr : Rd W W.heap.size 3 (.slice A m c) m (wc ws)) (hlim : n + m ≤ 1000000) (t : TypeId) :
    Does Try.prog W (Builtin.append_ #[36, 36] t #[v, .slice A m c]) fun v' w' => Own w' B 47 3 v' (n + m) (xs ++ wc ws) ∧ Fr (fun g => v.ownBlock = some g) W w' ∧ (v'.ownBlock = v.ownBlock ∨ v'.ownBlock = some W.heap.size) := by
  obtain ⟨v', w', hrun, ho', hg, hbl, _⟩ := run_append (P := Try.prog) W (ty := t) Try.underlying36 Try.underlying36 SlW.ty ho (A := A) (m := m) (c := c) (news := wc ws) (by rw [wc_len, hl])
    (fun h0 => by
      obtain ⟨g, off, cc, e, _, _, _, hx⟩ := hr.cells h0
      injection e with e1 _ _
      exact ⟨g, off, e1, hx⟩) (wc_one ws) (by unfold maxLen; omega) (by omega) hB
  exact ⟨v', w', hrun, ho', Fr.of_grown hg (fun g e => e), hbl⟩
theorem grow_run (w : World) {n : Nat} (h0 : 0 < n) (hn : n ≤ 1000000) (t : TypeId) :
    Does Try.prog w (Builtin.append_ #[36, 3] t #[.slice none 0 0, .int .i64 n]) fun v' w' => ∃ C cur, v' = .slice (some ⟨w.heap.size, 0, none⟩) n C ∧ n ≤ C ∧ C ≤ maxLen ∧ w'.heap[w.heap.size]? = some (.cells cur 47 (0, 0)) ∧ C * 3 ≤ cur.size ∧ Below w.heap.size w w' := by
  obtain ⟨⟨ti, hti, hz, hk1, hk2⟩, hzs⟩ := SlW.ty
  have hr := Lib.run_append_nil_zeros (P := Try.prog) w 36 3 t 47 ti _ .i64 .i64 Try.underlying36 Try.underlying3 hti hz n h0 (by omega) (by omega) (by rw [hk2]; omega)
  have hge := grownCap_ge w n 0 47
  have hcm : grownCap w n 0 47 ≤ maxLen := grownCap_le_maxLen w n 0 _ (by unfold maxLen; omega)
  refine ⟨_, _, hr, _, _, rfl, hge, hcm, heap_alloc_new w.drew _, ?_, ((Below.refl _ w).drew).alloc (by simp) _⟩
  simp only [Array.size_append, size_zeroCells, hzs]
  omega
set_option maxHeartbeats 1000000 in
set_option maxRecDepth 100000 in
theorem grow_any (w : World) {n : Nat} (hn : n ≤ 1000000) :
    Calls Try.prog 52 #[.slice none 0 0, .int .i64 n] w fun e w' => ∃ v', e = .returned v' ∧ Own w' w.heap.size 47 3 v' 0 [] ∧ Below w.heap.size w w' := by
  have h1 : ¬ ((n : Int) < 0) := by omega
  rcases Nat.eq_zero_or_pos n with h0 | h0
  · subst h0
    go_enter Try.func52, Try.ntmps52
    go_wp2_with fail
    go_ret
    exact ⟨_, rfl, Own.nil_ _ _ _ _, Below.refl _ _⟩
  · have HR := Lib.hid (grow_run w h0 hn 36)
    have h2 : (0 : Int) < (n : Int) := by omega
    go_enter Try.func52, Try.ntmps52
    go_wp2_with (at_builtin; refine wpL_append rfl _ _ 36 3 rfl rfl rfl HR.out ?_; rintro v' w1 ⟨C, cur, rfl, hC, hCm, hh, hcs, hb1⟩; have HC := Lib.hid (And.intro hC (And.intro hCm (And.intro hh (And.intro hcs hb1)))); clear hC hCm hh hcs hb1)
    go_ret
    obtain ⟨hC, hCm, hh, hcs, hb1⟩ := HC.out
    exact ⟨_, rfl, ⟨rfl, .inr ⟨w.heap.size, 0, C, cur, rfl, Nat.le_refl _, hh, Nat.zero_le _, hCm, by omega, by simp⟩⟩, hb1⟩
#print axioms grow_any
def ConR (w : World) (ws : List Wt) (e : Ending) (w' : World) : Prop := ∃ v', e = .returned v' ∧ Own w' w.heap.size 47 3 v' ws.length (wc ws) ∧ Below w.heap.size w w'
def CatR (w w' : World) (v : Value) (ws : List Wt) : Prop := Own w' w.heap.size 47 3 v ws.length (wc ws)
theorem CatR.form {w w' : World} {v : Value} {ws : List Wt} (h : CatR w w' v ws) : ∃ A n c, v = .slice A n c := by
  obtain ⟨A, c, e, _⟩ := Own.slice_ h
  exact ⟨A, _, c, e⟩
theorem app_cat {w W : World} {v : Value} {xs : List Wt} (ho : CatR w W v xs) (hB : w.heap.size ≤ W.heap.size) {A : Option Addr} {m c : Nat} {ws : List Wt} (hl : m = ws.length) (hr : Rd W W.heap.size 3 (.slice A m c) m (wc ws)) (hlim : xs.length + m ≤ 1000000) (t : TypeId) :
    Does Try.prog W (Builtin.append_ #[36, 36] t #[v, .slice A m c]) fun v' w' => CatR w w' v' (xs ++ ws) ∧ Below w.heap.size W w' :=
  (app_own ho hB hl hr hlim t).mono fun v' w' h => ⟨by unfold CatR; rw [List.length_append, wc_append, ← hl]; exact h.1, h.2.1.below hB fun g _ hg => (Own.lt ho g hg).1⟩
set_option maxHeartbeats 4000000 in
set_option maxRecDepth 100000 in
theorem concat_any (w : World) {A1 A2 : Option Addr} {n1 n2 c1 c2 gb : Nat} {a b : List Wt} (hb : w.heap[gb]? = some (.cells #[.slice A1 n1 c1, .slice A2 n2 c2] 36 (0, 0)))
    (h1 : Rd w w.heap.size 3 (.slice A1 n1 c1) n1 (wc a)) (h2 : Rd w w.heap.size 3 (.slice A2 n2 c2) n2 (wc b)) (hn1 : n1 = a.length) (hn2 : n2 = b.length) (hlim : n1 + n2 ≤ 100000) :
    Calls Try.prog 45 #[.slice (some ⟨gb, 0, none⟩) 2 2] w (ConR w (a ++ b)) := by
  have HB := Lib.hid hb
  have H1 := Lib.hid h1
  have H2 := Lib.hid h2
  have HN1 := Lib.hid hn1
  have HN2 := Lib.hid hn2
  clear hb h1 h2 hn1 hn2
  have hS : ∀ V, Below w.heap.size w V → V.cell? ⟨gb, 0, none⟩ = some (.slice A1 n1 c1) ∧ V.cell? ⟨gb, 1, none⟩ = some (.slice A2 n2 c2) := fun V h => row2c (blk_below HB.out h)
  have HS := Lib.hid hS
  clear hS
  go_enter Try.func45, Try.ntmps45
  go_wp2_with fail
  go_loopw [3, 11] (fun v3 v11 wr => ∃ j : Nat, j ≤ 2 ∧ v11 = .int .i64 j ∧ v3 = .int .i64 ((if j = 0 then 0 else if j = 1 then n1 else n1 + n2 : Nat) : Int) ∧ wr = w) (fun _ i _ => 2 - (intOf i).toNat)
  case atStart => exact ⟨0, Nat.zero_le _, rfl, rfl, rfl⟩
  case round =>
    obtain ⟨j, hj, rfl, rfl, rfl⟩ := hrel
    obtain ⟨s0, s1⟩ := HS.out _ (Below.refl _ _)
    obtain rfl | rfl | rfl : j = 0 ∨ j = 1 ∨ j = 2 := by omega
    · have k1 : IntKind.i64.wrap ((0 : Int) + (n1 : Int)) = (n1 : Int) := by rw [IntKind.wrap_i64]; omega
      have k2 : ¬ ((n1 : Int) < 0) := by omega
      simp only [if_pos]
      go_wp2_with fail
      go_roundw
      case rel => exact ⟨1, by omega, by go_num, by first | trivial | rfl | simp, by first | trivial | rfl⟩
      case measure => simp [intOf]
    · have k1 : IntKind.i64.wrap ((n1 : Int) + (n2 : Int)) = ((n1 + n2 : Nat) : Int) := by rw [IntKind.wrap_i64]; omega
      have k2 : ¬ (((n1 + n2 : Nat) : Int) < 0) := by omega
      simp only [if_neg (show ¬ (1 = 0) by omega), if_true]
      go_wp2_with fail
      go_roundw
      case rel => exact ⟨2, by omega, by go_num, by first | trivial | rfl | simp, by first | trivial | rfl⟩
      case measure => simp [intOf]
    · simp only [if_neg (show ¬ (2 = 0) by omega), if_neg (show ¬ (2 = 1) by omega)]
      have HG := Lib.hid (grow_any wr (n := n1 + n2) (by omega))
      go_wp2_with (go_at_call 52; refine HG.out.mono ?_; rintro e w1 ⟨v1, rfl, ho1, hb1⟩; have HO1 := Lib.hid ho1; have HB1 := Lib.hid hb1; clear ho1 hb1)
      go_loopw [6, 27] (fun v6 v27 wr2 => ∃ j : Nat, j ≤ 2 ∧ v27 = .int .i64 j ∧ CatR wr wr2 v6 (if j = 0 then [] else if j = 1 then a else a ++ b) ∧ Below wr.heap.size wr wr2) (fun _ i _ => 2 - (intOf i).toNat)
      case atStart => exact ⟨0, Nat.zero_le _, rfl, HO1.out, HB1.out⟩
      case round =>
        obtain ⟨j, hj, rfl, hcat, hbl⟩ := hrel
        have HBL := Lib.hid hbl
        obtain ⟨s0, s1⟩ := HS.out _ hbl
        obtain ⟨A6, n6, c6, rfl⟩ := hcat.form
        have HCAT := Lib.hid hcat
        clear hcat hbl
        obtain rfl | rfl | rfl : j = 0 ∨ j = 1 ∨ j = 2 := by omega
        · simp only [if_pos] at HCAT
          have HA := Lib.hid (app_cat HCAT.out (ws := a) (HBL.out.size) HN1.out (H1.out.up HBL.out) (by simp only [List.length_nil]; have := HN1.out; omega) 36)
          go_wp2_with (at_builtin; refine wpL_append rfl _ _ 36 36 rfl rfl rfl HA.out ?_; rintro v' w2 ⟨ho2, hb2⟩; have HO2 := Lib.hid ho2; have HB2 := Lib.hid hb2; clear ho2 hb2)
          go_roundw
          case rel => exact ⟨1, by omega, by go_num, HO2.out, HBL.out.trans HB2.out⟩
          case measure => simp [intOf]
        · simp only [if_neg (show ¬ (1 = 0) by omega), if_true] at HCAT
          have HA := Lib.hid (app_cat HCAT.out (ws := b) (HBL.out.size) HN2.out (H2.out.up HBL.out) (by have := HN1.out; have := HN2.out; omega) 36)
          go_wp2_with (at_builtin; refine wpL_append rfl _ _ 36 36 rfl rfl rfl HA.out ?_; rintro v' w2 ⟨ho2, hb2⟩; have HO2 := Lib.hid ho2; have HB2 := Lib.hid hb2; clear ho2 hb2)
          go_roundw
          case rel => exact ⟨2, by omega, by go_num, HO2.out, HBL.out.trans HB2.out⟩
          case measure => simp [intOf]
        · simp only [if_neg (show ¬ (2 = 0) by omega), if_neg (show ¬ (2 = 1) by omega)] at HCAT
          go_wp2_with fail
          go_ret
          exact ⟨_, rfl, HCAT.out, HBL.out⟩
#print axioms concat_any
def blockL (q : Qv) (p : Int × Int) (m : Int) (place : Nat) : List Wt := (q.has ++ q.waits.take place).filter fun u => !sameT u p && against u.md m
theorem rd_one (X : World) (t : Wt) : Rd (X.alloc (.cells #[.int .u64 t.num, .int .i64 t.nd, .int .i64 t.md] 47)) (X.alloc (.cells #[.int .u64 t.num, .int .i64 t.nd, .int .i64 t.md] 47)).heap.size 3 (.slice (some ⟨X.heap.size, 0, none⟩) 1 1) 1 (wc [t]) :=
  ⟨rfl, _, 1, rfl, Nat.le_refl _, by unfold maxLen; omega, fun _ => ⟨X.heap.size, 0, rfl, by simp, fun j u hu => by
    rw [Nat.zero_add, cell_of_row _ _ _ _ _ _ (heap_alloc_new X _)]
    rw [show wc [t] = t.cs by simp [wc]] at hu
    simpa [Wt.cs] using hu⟩⟩
theorem filter_next {f : Wt → Bool} {l : List Wt} {j : Nat} {t : Wt} (ht : l[j]? = some t) : (l.take (j + 1)).filter f = (l.take j).filter f ++ (if f t then [t] else []) := by
  rw [List.take_add_one, ht, List.filter_append]
  congr 1
  cases h : f t <;> simp [h]
def BlkR (w : World) (ws : List Wt) (e : Ending) (w' : World) : Prop := ∃ v', e = .returned v' ∧ Own w' w.heap.size 47 3 v' ws.length (wc ws) ∧ Below w.heap.size w w'
set_option maxHeartbeats 4000000 in
set_option maxRecDepth 100000 in
theorem blocks_any {w : World} {B : Nat} {q : Qv} (h : QAt w B q) (p : Int × Int) (m : Int) {place : Nat} (hp : place ≤ q.waits.length) (hlim : q.has.length + q.waits.length ≤ 100000) :
    Calls Try.prog 30 #[.pointer (some ⟨q.qb, 0, none⟩), .agg #[.int .u64 p.1, .int .i64 p.2], .int .i64 m, .int .i64 place] w (BlkR w (blockL q p m place)) := by
  obtain ⟨r, hr⟩ : ∃ r, r = blockL q p m place := ⟨_, rfl⟩
  rw [← hr]
  have HR := Lib.hid hr
  have H := Lib.hid h
  obtain ⟨q0, hv, wv, has, waits⟩ := q
  obtain ⟨Ah, ch, ehv, _⟩ := h.h.slice_
  obtain ⟨Aw, cw, ewv, hcw, hcm⟩ := h.wt.slice_
  dsimp only at ehv ewv hp hlim hcw ⊢
  subst ehv ewv
  unfold maxLen at hcm
  clear h hr
  obtain ⟨nh, hnh⟩ : ∃ n, n = has.length := ⟨_, rfl⟩
  obtain ⟨nw, hnw⟩ : ∃ n, n = waits.length := ⟨_, rfl⟩
  rw [← hnw] at hp hcw
  rw [← hnh, ← hnw] at hlim
  have HNW := Lib.hid hnw
  have HNH := Lib.hid hnh
  obtain ⟨l, hl⟩ : ∃ l, l = has ++ waits.take place := ⟨_, rfl⟩
  obtain ⟨nl, hnl⟩ : ∃ n, n = l.length := ⟨_, rfl⟩
  have HL := Lib.hid hl
  have HNL := Lib.hid hnl
  have hnl2 : nl ≤ 100000 := by rw [hnl, hl, List.length_append, List.length_take]; omega
  have hp0 : (0 : Int) ≤ (place : Int) := by omega
  have hp1 : (place : Int) ≤ (nw : Int) := by omega
  have hp2 : (place : Int) ≤ (cw : Int) := by omega
  have hp3 : (nw : Int) ≤ (cw : Int) := by omega
  go_enter Try.func30, Try.ntmps30
  go_upto_region 1 with fail
  obtain ⟨X, hX⟩ : ∃ X, X = w.alloc (.cells #[.int .u64 p.1, .int .i64 p.2] 24) := ⟨_, rfl⟩
  rw [← hX]
  have HXB : Hid (Below w.heap.size w X) := Lib.hid (by rw [hX]; exact (Below.refl _ _).alloc (Nat.le_refl _) _)
  have HXQ := Lib.hid (H.out.below HXB.out)
  have HXT : Hid (X.heap[w.heap.size]? = some (.cells #[.int .u64 p.1, .int .i64 p.2] 24 (0, 0))) := Lib.hid (by rw [hX]; exact heap_alloc_new w _)
  have HS : Hid (∀ V, Below X.heap.size X V → V.cell? ⟨q0, 0, none⟩ = some (.slice Ah nh ch) ∧ V.cell? ⟨q0, 1, none⟩ = some (.slice Aw nw cw)) := Lib.hid (fun V hb => by rw [hnh, hnw]; exact (HXQ.out.below hb).cells)
  have HCA : Hid (Calls Try.prog 45 #[.slice (some ⟨X.heap.size, 0, none⟩) 2 2] (X.drew.alloc (.cells #[.slice Ah nh ch, .slice Aw place cw] 36)) fun e w' => ∃ v', e = .returned v' ∧ (∃ A c, v' = .slice A nl c) ∧ Own w' X.heap.size 47 3 v' nl (wc l) ∧ Below X.heap.size X w') := Lib.hid (by
    have hbe : Below X.heap.size X (X.drew.alloc (.cells #[.slice Ah nh ch, .slice Aw place cw] 36)) := ((Below.refl _ X).drew).alloc (by simp) _
    have h1 : Rd X X.heap.size 3 (.slice Ah nh ch) nh (wc has) := by rw [hnh]; exact HXQ.out.h.rd
    have h2 : Rd X X.heap.size 3 (.slice Aw place cw) place (wc (waits.take place)) := by
      have h0 : Rd X X.heap.size 3 (.slice Aw nw cw) nw (wc waits) := by rw [hnw]; exact HXQ.out.wt.rd
      obtain ⟨_, A, c, e, e1, e2, hx⟩ := h0
      injection e with ea eb ec
      subst ea ec
      refine ⟨by rw [wc_len, List.length_take]; omega, _, _, rfl, by omega, e2, fun hp => ?_⟩
      obtain ⟨g, off, e3, e4, e5⟩ := hx (by omega)
      refine ⟨g, off, e3, e4, fun j u hu => e5 j u ?_⟩
      rw [← wc_take, List.getElem?_take] at hu
      split at hu
      · exact hu
      · cases hu
    refine (concat_any _ (gb := X.heap.size) (a := has) (b := waits.take place) (heap_alloc_new X.drew _) (h1.up hbe) (h2.up hbe) hnh (by rw [List.length_take]; omega) (by omega)).mono ?_
    rintro e w' ⟨v', he, ho, hb'⟩
    rw [← hl, ← hnl] at ho
    have hox : Own w' X.heap.size 47 3 v' nl (wc l) := ho.base_ fun g hg => by have := (ho.lt g hg).1; have := hbe.size; omega
    refine ⟨v', he, ?_, hox, hbe.trans (hb'.mono hbe.size)⟩
    obtain ⟨A, c, e, _⟩ := ho.slice_
    exact ⟨A, c, e⟩)
  clear hX hnh hnw hl hnl
  go_upto_region 2 with fail
  go_region_held3 (fun V => V.cell? ⟨q0, 0, none⟩ = some (.slice Ah nh ch) ∧ V.cell? ⟨q0, 1, none⟩ = some (.slice Aw nw cw))
    ((first | (refine HS.out _ ?_; repeat (first | with_reducible exact Below.refl _ _ | exact HB1.out | with_reducible refine Below.drew ?_ | with_reducible refine below_alloc2 ?_))))
    ((first | (go_at_call 45; refine HCA.out.mono ?_; rintro e w1 ⟨v1, rfl, ⟨A1, c1, rfl⟩, ho1, hb1⟩; have HO1 := Lib.hid ho1; have HB1 := Lib.hid hb1; clear ho1 hb1)))
  rename_i hheld
  clear hheld
  have HXW : Hid (Below w.heap.size w w1) := Lib.hid (HXB.out.trans (HB1.out.mono HXB.out.size))
  have HT1 := Lib.hid (blk_below HXT.out HB1.out)
  clear HS HCA
  go_wp2_with fail
  go_loopw [9, 25] (fun v9 v25 wr => ∃ j : Nat, j ≤ nl ∧ v25 = .int .i64 j ∧ CatR w1 wr v9 ((l.take j).filter fun u => !sameT u p && against u.md m) ∧ Below w1.heap.size w1 wr) (fun _ i _ => nl - (intOf i).toNat)
  case atStart => exact ⟨0, Nat.zero_le _, rfl, Own.nil_ _ _ _ _, Below.refl _ _⟩
  case round =>
    obtain ⟨j, hj, rfl, hcat, hbl⟩ := hrel
    have HBL := Lib.hid hbl
    have hsz := hbl.size
    obtain ⟨A9, n9, c9, rfl⟩ := hcat.form
    have HCAT := Lib.hid hcat
    clear hcat hbl
    by_cases hlt : j < nl
    · obtain ⟨t, ht⟩ : ∃ t, l[j]? = some t := ⟨l[j]'(by rw [← HNL.out]; omega), List.getElem?_eq_getElem _⟩
      have i0 : (0 : Int) ≤ (j : Int) := by omega
      have i1 : (j : Int) < (nl : Int) := by omega
      obtain ⟨g, off, rfl, _, c0, c1', c2⟩ := want_cells (HO1.out.below HBL.out).rd ht (by omega)
      have HTE := Lib.hid ht
      clear ht
      go_upto_region 5 with fail
      obtain ⟨Y, hY⟩ : ∃ Y, Y = wr.alloc (.cells #[.int .u64 t.num, .int .i64 t.nd, .int .i64 t.md] 47) := ⟨_, rfl⟩
      rw [← hY]
      have HYB : Hid (Below w1.heap.size w1 Y) := Lib.hid (by rw [hY]; exact HBL.out.alloc hsz _)
      have HYC : Hid (CatR w1 Y (.slice A9 n9 c9) ((l.take j).filter fun u => !sameT u p && against u.md m)) := Lib.hid (by rw [hY]; exact Own.alloc HCAT.out _)
      obtain ⟨d0, d1, d2⟩ := row3c (show Y.heap[wr.heap.size]? = _ by rw [hY]; exact heap_alloc_new wr _)
      obtain ⟨p0, p1⟩ := row2c (blk_below HT1.out HYB.out)
      have HAG := Lib.hid (against_any Y t.md m)
      obtain ⟨ra, hra⟩ : ∃ r, r = against t.md m := ⟨_, rfl⟩
      rw [← hra] at HAG
      have HRA := Lib.hid hra
      have HAP := Lib.hid (app_cat (W := Y.alloc (.cells #[.int .u64 t.num, .int .i64 t.nd, .int .i64 t.md] 47)) (ws := [t]) (m := 1) (c := 1) (Own.alloc HYC.out _) (by have := HYB.out.size; simp; omega) rfl (rd_one Y t) (by
        have h1 := List.length_filter_le (fun u => !sameT u p && against u.md m) (l.take j)
        rw [List.length_take] at h1
        omega) 36)
      have HYA : Hid (Below w1.heap.size w1 (Y.alloc (.cells #[.int .u64 t.num, .int .i64 t.nd, .int .i64 t.md] 47))) := Lib.hid (HYB.out.alloc HYB.out.size _)
      clear hY hra c0 c1' c2
      by_cases h1 : t.num = p.1
      · have b1 : (t.num == p.1) = true := by simp [h1]
        have H1 := Lib.hid h1
        clear h1
        by_cases h2 : t.nd = p.2
        · have b2 : (t.nd == p.2) = true := by simp [h2]
          have H2 := Lib.hid h2
          clear h2
          go_wp2_with (first | (go_at_call 28; refine HAG.out.mono ?_; rintro e w2 ⟨rfl, rfl⟩) | (at_builtin; refine wpL_append rfl _ _ 36 36 rfl rfl rfl HAP.out ?_; rintro v' w3 ⟨ho3, hb3⟩; have HO3 := Lib.hid ho3; have HB3 := Lib.hid hb3; clear ho3 hb3))
          go_roundw
          case rel => exact ⟨j + 1, by omega, by go_num, by rw [filter_next HTE.out]; have hf : (!sameT t p && against t.md m) = false := (by rw [← HRA.out]; unfold sameT; simp [H1.out, H2.out]); rw [hf]; exact (by rw [if_neg (by simp), List.append_nil]; exact HYC.out), HYB.out⟩
          case measure => simp [intOf]; omega
        · have b2 : (t.nd == p.2) = false := by simp [h2]
          have H2 := Lib.hid h2
          clear h2
          cases ra with
          | true =>
            go_wp2_with (first | (go_at_call 28; refine HAG.out.mono ?_; rintro e w2 ⟨rfl, rfl⟩) | (at_builtin; refine wpL_append rfl _ _ 36 36 rfl rfl rfl HAP.out ?_; rintro v' w3 ⟨ho3, hb3⟩; have HO3 := Lib.hid ho3; have HB3 := Lib.hid hb3; clear ho3 hb3))
            go_roundw
            case rel => exact ⟨j + 1, by omega, by go_num, by rw [filter_next HTE.out]; have hf : (!sameT t p && against t.md m) = true := (by rw [← HRA.out]; unfold sameT; simp [H2.out]); rw [hf]; exact HO3.out, HYA.out.trans HB3.out⟩
            case measure => simp [intOf]; omega
          | false =>
            go_wp2_with (first | (go_at_call 28; refine HAG.out.mono ?_; rintro e w2 ⟨rfl, rfl⟩) | (at_builtin; refine wpL_append rfl _ _ 36 36 rfl rfl rfl HAP.out ?_; rintro v' w3 ⟨ho3, hb3⟩; have HO3 := Lib.hid ho3; have HB3 := Lib.hid hb3; clear ho3 hb3))
            go_roundw
            case rel => exact ⟨j + 1, by omega, by go_num, by rw [filter_next HTE.out]; have hf : (!sameT t p && against t.md m) = false := (by rw [← HRA.out]; unfold sameT; simp [H2.out]); rw [hf]; exact (by rw [if_neg (by simp), List.append_nil]; exact HYC.out), HYB.out⟩
            case measure => simp [intOf]; omega
      · have b1 : (t.num == p.1) = false := by simp [h1]
        have H1 := Lib.hid h1
        clear h1
        cases ra with
        | true =>
          go_wp2_with (first | (go_at_call 28; refine HAG.out.mono ?_; rintro e w2 ⟨rfl, rfl⟩) | (at_builtin; refine wpL_append rfl _ _ 36 36 rfl rfl rfl HAP.out ?_; rintro v' w3 ⟨ho3, hb3⟩; have HO3 := Lib.hid ho3; have HB3 := Lib.hid hb3; clear ho3 hb3))
          go_roundw
          case rel => exact ⟨j + 1, by omega, by go_num, by rw [filter_next HTE.out]; have hf : (!sameT t p && against t.md m) = true := (by rw [← HRA.out]; unfold sameT; simp [H1.out]); rw [hf]; exact HO3.out, HYA.out.trans HB3.out⟩
          case measure => simp [intOf]; omega
        | false =>
          go_wp2_with (first | (go_at_call 28; refine HAG.out.mono ?_; rintro e w2 ⟨rfl, rfl⟩) | (at_builtin; refine wpL_append rfl _ _ 36 36 rfl rfl rfl HAP.out ?_; rintro v' w3 ⟨ho3, hb3⟩; have HO3 := Lib.hid ho3; have HB3 := Lib.hid hb3; clear ho3 hb3))
          go_roundw
          case rel => exact ⟨j + 1, by omega, by go_num, by rw [filter_next HTE.out]; have hf : (!sameT t p && against t.md m) = false := (by rw [← HRA.out]; unfold sameT; simp [H1.out]); rw [hf]; exact (by rw [if_neg (by simp), List.append_nil]; exact HYC.out), HYB.out⟩
          case measure => simp [intOf]; omega
    · have i1 : ¬ ((j : Int) < (nl : Int)) := by omega
      obtain rfl : j = nl := by omega
      go_wp2_with fail
      go_ret
      have e : l.take j = l := by rw [HNL.out]; exact List.take_length
      have HC := HCAT.out
      rw [e] at HC
      rw [HR.out]
      unfold blockL
      dsimp only
      rw [← HL.out]
      exact ⟨_, rfl, Own.base_ HC fun g hg => by have := (Own.lt HC g hg).1; have := HXW.out.size; omega, HXW.out.trans (HBL.out.mono HXW.out.size)⟩
#print axioms blocks_any
end Go.Proofs.Ytcceankldiafpaa.Lock
