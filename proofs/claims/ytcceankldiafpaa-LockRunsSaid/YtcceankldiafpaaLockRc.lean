/- The law's find, cut, with. -/
import Derived.Test.YtcceankldiafpaaLockRa
set_option linter.unusedVariables false
set_option linter.unusedSimpArgs false
set_option linter.unusedSectionVars false
set_option maxRecDepth 100000
namespace Go.Proofs.Ytcceankldiafpaa.Lock
open Go.RowKit Go.WideShapes Go.Deep Go.Proofs.Ytcceankldiafpaa.Mem Go.Proofs.Ytcceankldiafpaa.Open Go.Proofs.Ytcceankldiafpaa.Maps
set_option maxHeartbeats 2000000 in
theorem findL_any {w : World} {A : Option Addr} {n c : Nat} {ws : List Wt} (hn : n = ws.length) (h : Rd w w.heap.size 3 (.slice A n c) n (wc ws)) (p : Int × Int) :
    Calls Try.prog 20 #[.slice A n c, .agg #[.int .u64 p.1, .int .i64 p.2]] w fun e w' => e = .returned (.int .i64 (firstZ (fun t => sameT t p) ws)) ∧ Below w.heap.size w w' := by
  have H := Lib.hid h
  have HN := Lib.hid hn
  have hle := h.len_le
  unfold maxLen at hle
  clear h hn
  go_enter Try.func20, Try.ntmps20
  go_upto_region 1 with fail
  obtain ⟨go, hgo⟩ : ∃ g, g = w.heap.size := ⟨_, rfl⟩
  obtain ⟨X, hX⟩ : ∃ X, X = w.alloc (.cells #[.int .u64 p.1, .int .i64 p.2] 24) := ⟨_, rfl⟩
  rw [← hX, ← hgo]
  have HXB : Hid (Below w.heap.size w X) := Lib.hid (by rw [hX]; exact (Below.refl _ _).alloc (Nat.le_refl _) _)
  have HXO : Hid (X.heap[go]? = some (.cells #[.int .u64 p.1, .int .i64 p.2] 24 (0, 0))) := Lib.hid (by rw [hX, hgo]; exact heap_alloc_new w _)
  have HL := Lib.hid (H.out.up HXB.out)
  clear hX hgo H
  go_upto_region 2 with fail
  go_loopw [9] (fun v wr => ∃ j : Nat, j ≤ n ∧ v = .int .i64 j ∧ (∀ (i : Nat) (u : Wt), i < j → ws[i]? = some u → sameT u p = false) ∧ Below X.heap.size X wr) (fun v _ => n - (intOf v).toNat)
  case atStart => exact ⟨0, Nat.zero_le _, rfl, (fun i u h => absurd h (by omega)), Below.refl _ _⟩
  case round =>
    obtain ⟨j, hj, rfl, hno, hbl⟩ := hrel
    have HNO := Lib.hid hno
    have HBL := Lib.hid hbl
    have hsz := hbl.size
    clear hno
    by_cases hlt : j < n
    · obtain ⟨t, ht⟩ : ∃ t, ws[j]? = some t := ⟨ws[j]'(by rw [← HN.out]; omega), List.getElem?_eq_getElem _⟩
      obtain ⟨g1, o1, rfl, _, a0, a1, a2⟩ := want_cells (HL.out.up hbl) ht (by omega)
      have HTT := Lib.hid ht
      have i0 : (0 : Int) ≤ (j : Int) := by omega
      have i1 : (j : Int) < (n : Int) := by omega
      clear ht hbl
      obtain ⟨gy, hgy⟩ : ∃ g, g = wr.heap.size := ⟨_, rfl⟩
      obtain ⟨Y, hY⟩ : ∃ Y, Y = wr.alloc (.cells #[.int .u64 t.num, .int .i64 t.nd, .int .i64 t.md] 47) := ⟨_, rfl⟩
      have HYB : Hid (Below wr.heap.size wr Y) := Lib.hid (by rw [hY]; exact (Below.refl _ _).alloc (Nat.le_refl _) _)
      have HYR : Hid (Y.heap[gy]? = some (.cells #[.int .u64 t.num, .int .i64 t.nd, .int .i64 t.md] 47 (0, 0))) := Lib.hid (by rw [hY, hgy]; exact heap_alloc_new wr _)
      go_upto_region 4 with fail
      rw [← hY, ← hgy]
      clear hY hgy a0 a1 a2
      have HBY : Hid (Below X.heap.size X Y) := Lib.hid (HBL.out.trans (HYB.out.mono hsz))
      obtain ⟨d0, d1, d2⟩ := row3c HYR.out
      obtain ⟨l0, l1⟩ := row2c (blk_below HXO.out HBY.out)
      by_cases e1 : t.num = p.1
      · by_cases e2 : t.nd = p.2
        · have q1 : (t.num == p.1) = true := by simp [e1]
          have q2 : (t.nd == p.2) = true := by simp [e2]
          have HS : Hid (sameT t p = true) := Lib.hid (by simp [sameT, e1, e2])
          clear e1 e2
          go_wp2_with fail
          go_ret
          refine ⟨?_, HXB.out.trans (HBY.out.mono HXB.out.size)⟩
          unfold firstZ
          rw [first_at HTT.out HS.out HNO.out]
          rfl
        · have q1 : (t.num == p.1) = true := by simp [e1]
          have q2 : (t.nd == p.2) = false := by simp [e2]
          have HS : Hid (sameT t p = false) := Lib.hid (by simp [sameT, e2])
          clear e1 e2
          go_wp2_with fail
          go_roundw
          case rel => exact ⟨j + 1, by omega, by go_num, (fun i u hi hu => by
            by_cases e : i = j
            · subst e; rw [HTT.out] at hu; injection hu with hu; rw [← hu]; exact HS.out
            · exact HNO.out i u (by omega) hu), HBY.out⟩
          case measure => simp [intOf]; omega
      · have q1 : (t.num == p.1) = false := by simp [e1]
        have HS : Hid (sameT t p = false) := Lib.hid (by simp [sameT, e1])
        clear e1
        go_wp2_with fail
        go_roundw
        case rel => exact ⟨j + 1, by omega, by go_num, (fun i u hi hu => by
          by_cases e : i = j
          · subst e; rw [HTT.out] at hu; injection hu with hu; rw [← hu]; exact HS.out
          · exact HNO.out i u (by omega) hu), HBY.out⟩
        case measure => simp [intOf]; omega
    · have i1 : ¬ ((j : Int) < (n : Int)) := by omega
      go_wp2_with fail
      go_ret
      refine ⟨?_, HXB.out.trans (HBL.out.mono HXB.out.size)⟩
      unfold firstZ
      rw [first_none (fun i u hu => HNO.out i u (by have := (List.getElem?_eq_some_iff.1 hu).1; rw [← HN.out] at this; omega) hu)]
      rfl
#print axioms findL_any
theorem tyW : Ty Try.prog 47 3 24 (.agg #[.int .u64 0, .int .i64 0, .int .i64 0]) := Ty.of (by kernel_rfl) rfl
def LOwn (w : World) (B : Nat) (v : Value) (ws : List Wt) : Prop := Own w B 47 3 v ws.length (wc ws)
theorem LOwn.form_ {w : World} {B : Nat} {v : Value} {ws : List Wt} (h : LOwn w B v ws) : ∃ A c, v = .slice A ws.length c ∧ ws.length ≤ c ∧ c ≤ maxLen := Own.slice_ h
theorem LOwn.lt {w : World} {B : Nat} {v : Value} {ws : List Wt} (h : LOwn w B v ws) : ∀ g, v.ownBlock = some g → B ≤ g ∧ g < w.heap.size := Own.lt h
theorem own_emptyW (w : World) : LOwn (w.alloc (.cells #[] 47)).drew w.heap.size (.slice (some ⟨w.heap.size, 0, none⟩) 0 0) [] :=
  ⟨rfl, .inr ⟨w.heap.size, 0, 0, #[], rfl, Nat.le_refl _, heap_alloc_new w _, Nat.le_refl _, Nat.zero_le _, by simp, by simp [wc]⟩⟩
theorem app_w {W : World} {B : Nat} {v : Value} {xs ys : List Wt} {A : Option Addr} {m c : Nat} (ho : LOwn W B v xs) (hB : B ≤ W.heap.size) (hl : m = ys.length) (hr : 0 < m → ∃ g off, A = some ⟨g, off, none⟩ ∧ ∀ j u, (wc ys)[j]? = some u → W.cell? ⟨g, off + j, none⟩ = some u) (hlim : xs.length + m ≤ 1000000) (t : TypeId) :
    Does Try.prog W (Builtin.append_ #[36, 36] t #[v, .slice A m c]) fun v' w' => (∃ A' m' c', v' = .slice A' m' c') ∧ LOwn w' B v' (xs ++ ys) ∧ Fr (fun g => v.ownBlock = some g) W w' := by
  obtain ⟨v', w', hrun, ho', hg, hbl, _⟩ := run_append (P := Try.prog) W (ty := t) Try.underlying36 Try.underlying36 tyW ho (A := A) (m := m) (c := c) (news := wc ys) (by rw [wc_len, hl]) hr (wc_one _) (by unfold maxLen; omega) (by omega) hB
  have ho2 : LOwn w' B v' (xs ++ ys) := by
    unfold LOwn
    rw [List.length_append, ← hl, wc_append]
    exact ho'
  obtain ⟨A', c', e, _⟩ := ho2.form_
  exact ⟨v', w', hrun, ⟨A', _, c', e⟩, ho2, Fr.of_grown hg (fun g e => e)⟩
theorem rd_take_at {V : World} {B g off n c i : Nat} {ws : List Wt} (h : Rd V B 3 (.slice (some ⟨g, off, none⟩) n c) n (wc ws)) (hn : 0 < n) (hi : i ≤ n) {j : Nat} {u : Value} (hu : (wc (ws.take i))[j]? = some u) : V.cell? ⟨g, off + j, none⟩ = some u := by
  obtain ⟨g2, o2, c2, e, _, _, _, hx⟩ := h.cells hn
  injection e with e _ _
  injection e with e
  injection e with e1 e2
  subst e1 e2
  rw [← wc_take] at hu
  rw [List.getElem?_take] at hu
  split at hu
  · exact hx j u hu
  · cases hu
theorem rd_drop_at {V : World} {B g off n c i : Nat} {ws : List Wt} (h : Rd V B 3 (.slice (some ⟨g, off, none⟩) n c) n (wc ws)) (hn : 0 < n) {j : Nat} {u : Value} (hu : (wc (ws.drop i))[j]? = some u) : V.cell? ⟨g, off + i * 3 + j, none⟩ = some u := by
  obtain ⟨g2, o2, c2, e, _, _, _, hx⟩ := h.cells hn
  injection e with e _ _
  injection e with e
  injection e with e1 e2
  subst e1 e2
  rw [← wc_drop] at hu
  rw [List.getElem?_drop] at hu
  rw [Nat.add_assoc]
  exact hx _ u hu
theorem fr_new {w w5 : World} {o : Obj} (hf : Fr (fun g => (Value.slice (some ⟨w.heap.size, 0, none⟩) 0 0).ownBlock = some g) ((w.alloc o).drew) w5) : Below w.heap.size w w5 := by
  have h0 : Below w.heap.size w (w.alloc o).drew := ((Below.refl _ _).alloc (Nat.le_refl _) _).drew
  refine h0.trans (hf.below h0.size fun g _ e => ?_)
  have e' : some w.heap.size = some g := e
  injection e' with e'
  omega
theorem fr_own {w w5 w6 : World} {v : Value} {xs : List Wt} (hb : Below w.heap.size w w5) (ho : LOwn w5 w.heap.size v xs) (hf : Fr (fun g => v.ownBlock = some g) w5 w6) : Below w.heap.size w w6 := hb.trans (hf.below hb.size fun g _ e => (ho.lt g e).1)
theorem wrap_i1 {x : Int} (h0 : 0 ≤ x) (h : x ≤ 1000000) : IntKind.i64.wrap (x + 1) = x + 1 := IntWalk.i64_in (x + 1) (by omega)
def ListE (w : World) (L : List Wt) (e : Ending) (w' : World) : Prop := ∃ v, e = .returned v ∧ LOwn w' w.heap.size v L ∧ Below w.heap.size w w'
set_option maxHeartbeats 4000000 in
theorem cut_any {w : World} {B n c i : Nat} {A : Option Addr} {ws : List Wt} (h : Own w B 47 3 (.slice A n c) n (wc ws)) (hn : n = ws.length) (hi : i < n) (hlim : n ≤ 100000) :
    Calls Try.prog 42 #[.slice A n c, .int .i64 i] w (ListE w (ws.take i ++ ws.drop (i + 1))) := by
  obtain ⟨g, off, cap, cur, hv, _, hg, h1, h2, _⟩ := (show Own _ _ _ _ _ _ _ from h).form (by omega)
  injection hv with e1 e0 e2
  clear e0
  subst e1 e2
  have hrd := (show Own _ _ _ _ _ _ _ from h).rd
  have HTL : Hid (i = (ws.take i).length) := Lib.hid (by rw [List.length_take]; omega)
  have HDL : Hid (n - (i + 1) = (ws.drop (i + 1)).length) := Lib.hid (by rw [List.length_drop]; omega)
  have HTR : Hid (∀ V, Below w.heap.size w V → 0 < i → ∃ g2 o2, some (⟨g, off, none⟩ : Addr) = some ⟨g2, o2, none⟩ ∧ ∀ j u, (wc (ws.take i))[j]? = some u → V.cell? ⟨g2, o2 + j, none⟩ = some u) := Lib.hid (fun V hb _ => ⟨g, off, rfl, fun j u hu => rd_take_at (hrd.below hb) (by omega) (by omega) hu⟩)
  have HW : Hid (n ≤ 100000) := Lib.hid hlim
  have i0 : (0 : Int) ≤ (i : Int) := by omega
  have i1 : (i : Int) ≤ (c : Int) := by omega
  have i2 : (i : Int) + 1 ≤ (n : Int) := by omega
  have i3 : (0 : Int) ≤ (i : Int) + 1 := by omega
  have i4 : (n : Int) ≤ (c : Int) := by omega
  have hc6 : c ≤ 2 ^ 63 - 1 := h2
  have hwr : IntKind.i64.wrap ((i : Int) + 1) = (i : Int) + 1 := wrap_i1 (by omega) (by omega)
  have htn : ((i : Int) + 1).toNat = i + 1 := by omega
  go_enter Try.func42, Try.ntmps42
  go_upto_region 1 with fail
  by_cases hcp : c = i + 1
  · have HDR : Hid (∀ V, Below w.heap.size w V → 0 < n - (i + 1) → ∃ g2 o2, some (⟨g, off, none⟩ : Addr) = some ⟨g2, o2, none⟩ ∧ ∀ j u, (wc (ws.drop (i + 1)))[j]? = some u → V.cell? ⟨g2, o2 + j, none⟩ = some u) := Lib.hid (fun V hb h0 => absurd h0 (by omega))
    clear hrd h hn hg
    subst hcp
    obtain rfl : n = i + 1 := by omega
    have j1 : (i : Int) ≤ (i : Int) + 1 := by omega
    have j2 : (0 : Int) ≤ (i : Int) + 1 := by omega
    have HLM : Hid (([] ++ ws.take i).length + ((i + 1) - (i + 1)) ≤ 1000000) := Lib.hid (by have h9 := HW.out; rw [List.nil_append, List.length_take]; omega)
    have HAP1 := Lib.hid (app_w (W := (w.alloc (.cells #[] 47)).drew) (B := w.heap.size) (xs := []) (ys := ws.take i) (A := some ⟨g, off, none⟩) (m := i) (c := (i + 1)) (ho := (own_emptyW w)) (hB := by simp) (hl := HTL.out) (hr := fun h0 => HTR.out _ (by exact (((Below.refl _ _).alloc (Nat.le_refl _) _).drew)) h0) (hlim := by simp; omega) 36)
    go_region_law (first
      | (refine step_append rfl _ _ 36 36 rfl (by simp [Act.eval, Act.put]) (by simp [Act.eval, Act.put]) HAP1.out ?_; rintro v5 w5 ⟨⟨A5, m5, c5, rfl⟩, ho5, hf5⟩; have HO5 := Lib.hid ho5; have HB5 : Hid (Below w.heap.size w w5) := Lib.hid (fr_new hf5); have HAP2 := Lib.hid (app_w (W := w5) (B := w.heap.size) (xs := [] ++ ws.take i) (ys := ws.drop (i + 1)) (A := some ⟨g, off, none⟩) (m := (i + 1) - (i + 1)) (c := i + 1 - (i + 1)) (ho := HO5.out) (hB := HB5.out.size) (hl := HDL.out) (hr := fun h0 => HDR.out _ HB5.out h0) (hlim := HLM.out) 36); clear ho5 hf5 HAP1)
      | (refine step_append rfl _ _ 36 36 rfl (by simp [Act.eval, Act.put]) (by simp [Act.eval, Act.put]) HAP2.out ?_; rintro v6 w6 ⟨⟨A6, m6, c6, rfl⟩, ho6, hf6⟩; have HO6 := Lib.hid ho6; have HB6 : Hid (Below w.heap.size w w6) := Lib.hid (fr_own HB5.out HO5.out hf6); clear ho6 hf6))
    all_goals
      go_wp2_with fail
      go_ret
      exact ⟨_, rfl, HO6.out, HB6.out⟩
  · have HDR : Hid (∀ V, Below w.heap.size w V → 0 < n - (i + 1) → ∃ g2 o2, some (⟨g, off + (i + 1) * 3, none⟩ : Addr) = some ⟨g2, o2, none⟩ ∧ ∀ j u, (wc (ws.drop (i + 1)))[j]? = some u → V.cell? ⟨g2, o2 + j, none⟩ = some u) := Lib.hid (fun V hb _ => ⟨g, _, rfl, fun j u hu => rd_drop_at (hrd.below hb) (by omega) hu⟩)
    have hcp' : ¬ c ≤ i + 1 := by omega
    clear hrd h hn hg
    have HLM : Hid (([] ++ ws.take i).length + (n - (i + 1)) ≤ 1000000) := Lib.hid (by have h9 := HW.out; rw [List.nil_append, List.length_take]; omega)
    have HAP1 := Lib.hid (app_w (W := (w.alloc (.cells #[] 47)).drew) (B := w.heap.size) (xs := []) (ys := ws.take i) (A := some ⟨g, off, none⟩) (m := i) (c := c) (ho := (own_emptyW w)) (hB := by simp) (hl := HTL.out) (hr := fun h0 => HTR.out _ (by exact (((Below.refl _ _).alloc (Nat.le_refl _) _).drew)) h0) (hlim := by simp; omega) 36)
    go_region_law (first
      | (refine step_append rfl _ _ 36 36 rfl (by simp [Act.eval, Act.put]) (by simp [Act.eval, Act.put]) HAP1.out ?_; rintro v5 w5 ⟨⟨A5, m5, c5, rfl⟩, ho5, hf5⟩; have HO5 := Lib.hid ho5; have HB5 : Hid (Below w.heap.size w w5) := Lib.hid (fr_new hf5); have HAP2 := Lib.hid (app_w (W := w5) (B := w.heap.size) (xs := [] ++ ws.take i) (ys := ws.drop (i + 1)) (A := some ⟨g, off + (i + 1) * 3, none⟩) (m := n - (i + 1)) (c := c - (i + 1)) (ho := HO5.out) (hB := HB5.out.size) (hl := HDL.out) (hr := fun h0 => HDR.out _ HB5.out h0) (hlim := HLM.out) 36); clear ho5 hf5 HAP1)
      | (refine step_append rfl _ _ 36 36 rfl (by simp [Act.eval, Act.put]) (by simp [Act.eval, Act.put]) HAP2.out ?_; rintro v6 w6 ⟨⟨A6, m6, c6, rfl⟩, ho6, hf6⟩; have HO6 := Lib.hid ho6; have HB6 : Hid (Below w.heap.size w w6) := Lib.hid (fr_own HB5.out HO5.out hf6); clear ho6 hf6))
    all_goals
      go_wp2_with fail
      go_ret
      exact ⟨_, rfl, HO6.out, HB6.out⟩
#print axioms cut_any
theorem with_bV {w X : World} (h : Below w.heap.size w X) (o : Obj) : Below w.heap.size w (X.alloc o).drew := (h.alloc h.size o).drew
theorem with_ba {w X : World} (h : Below w.heap.size w X) (t : Wt) : Below w.heap.size w (X.alloc (.cells #[] 47)).drew := (h.alloc h.size _).drew
theorem with_bb {w X : World} (h : Below w.heap.size w X) (t : Wt) : Below w.heap.size w ((X.alloc (.cells #[] 47)).alloc (.cells #[.int .u64 t.num, .int .i64 t.nd, .int .i64 t.md] 47)).drew := ((h.alloc h.size _).alloc (by have := h.size; simp; omega) _).drew
theorem with_bc {w X : World} (h : Below w.heap.size w X) (t : Wt) : Below w.heap.size w ((X.alloc (.cells #[.int .u64 t.num, .int .i64 t.nd, .int .i64 t.md] 47)).alloc (.cells #[] 47)).drew := ((h.alloc h.size _).alloc (by have := h.size; simp; omega) _).drew
theorem own_e {V : World} {B g : Nat} (hB : B ≤ g) (h : V.heap[g]? = some (.cells #[] 47 (0, 0))) : LOwn V B (.slice (some ⟨g, 0, none⟩) 0 0) [] :=
  ⟨rfl, .inr ⟨g, 0, 0, #[], rfl, hB, h, Nat.le_refl _, Nat.zero_le _, by simp, by simp [wc]⟩⟩
theorem with_ea {w X : World} (h : w.heap.size ≤ X.heap.size) (t : Wt) : LOwn (X.alloc (.cells #[] 47)).drew w.heap.size (.slice (some ⟨X.heap.size, 0, none⟩) 0 0) [] := own_e h (heap_alloc_new X _)
theorem with_eb {w X : World} (h : w.heap.size ≤ X.heap.size) (t : Wt) : LOwn ((X.alloc (.cells #[] 47)).alloc (.cells #[.int .u64 t.num, .int .i64 t.nd, .int .i64 t.md] 47)).drew w.heap.size (.slice (some ⟨X.heap.size, 0, none⟩) 0 0) [] := own_e h ((Below.heap_alloc _ _ _ (by simp)).trans (heap_alloc_new X _))
theorem with_ec {w X : World} (h : w.heap.size ≤ X.heap.size) (t : Wt) : LOwn ((X.alloc (.cells #[.int .u64 t.num, .int .i64 t.nd, .int .i64 t.md] 47)).alloc (.cells #[] 47)).drew w.heap.size (.slice (some ⟨X.heap.size + 1, 0, none⟩) 0 0) [] := own_e (by omega) (by have := heap_alloc_new (X.alloc (.cells #[.int .u64 t.num, .int .i64 t.nd, .int .i64 t.md] 47)) (.cells #[] 47); rw [show (X.alloc (.cells #[.int .u64 t.num, .int .i64 t.nd, .int .i64 t.md] 47)).heap.size = X.heap.size + 1 by simp] at this; exact this)
theorem fr_lown {w V w5 : World} {v : Value} {xs : List Wt} (hb : Below w.heap.size w V) (ho : LOwn V w.heap.size v xs) (hf : Fr (fun g => v.ownBlock = some g) V w5) : Below w.heap.size w w5 := hb.trans (hf.below hb.size fun g _ e => (ho.lt g e).1)
theorem with_tb {X w5 : World} (t : Wt) (hf : Fr (fun g => (Value.slice (some ⟨X.heap.size, 0, none⟩) 0 0).ownBlock = some g) ((X.alloc (.cells #[] 47)).alloc (.cells #[.int .u64 t.num, .int .i64 t.nd, .int .i64 t.md] 47)).drew w5) : w5.heap[X.heap.size + 1]? = some (.cells #[.int .u64 t.num, .int .i64 t.nd, .int .i64 t.md] 47 (0, 0)) := by
  refine hf.blk ?_ fun e => ?_
  · have := heap_alloc_new (X.alloc (.cells #[] 47)) (.cells #[.int .u64 t.num, .int .i64 t.nd, .int .i64 t.md] 47)
    rw [show (X.alloc (.cells #[] 47)).heap.size = X.heap.size + 1 by simp] at this
    exact this
  · have e' : some X.heap.size = some (X.heap.size + 1) := e
    injection e' with e'
    omega
theorem with_tc {X w5 : World} (t : Wt) (hf : Fr (fun g => (Value.slice (some ⟨X.heap.size + 1, 0, none⟩) 0 0).ownBlock = some g) ((X.alloc (.cells #[.int .u64 t.num, .int .i64 t.nd, .int .i64 t.md] 47)).alloc (.cells #[] 47)).drew w5) : w5.heap[X.heap.size]? = some (.cells #[.int .u64 t.num, .int .i64 t.nd, .int .i64 t.md] 47 (0, 0)) := by
  refine hf.blk ?_ fun e => ?_
  · exact (Below.heap_alloc _ _ _ (by simp)).trans (heap_alloc_new X _)
  · have e' : some (X.heap.size + 1) = some X.heap.size := e
    injection e' with e'
    omega
theorem rd_oneW {V : World} {g : Nat} {t : Wt} (h : V.heap[g]? = some (.cells #[.int .u64 t.num, .int .i64 t.nd, .int .i64 t.md] 47 (0, 0))) : ∃ g2 o2, some (⟨g, 0, none⟩ : Addr) = some ⟨g2, o2, none⟩ ∧ ∀ j u, (wc [t])[j]? = some u → V.cell? ⟨g2, o2 + j, none⟩ = some u :=
  ⟨g, 0, rfl, fun j u hu => by
    rw [Nat.zero_add, cell_of_row _ _ _ _ _ _ h]
    simpa [wc, Wt.cs] using hu⟩
theorem LOwn.alloc_ {V : World} {B : Nat} {v : Value} {xs : List Wt} (h : LOwn V B v xs) (o : Obj) : LOwn (V.alloc o) B v xs := Own.alloc h o
theorem with_l {V : World} {B : Nat} {v : Value} {a b : List Wt} {t : Wt} (h : LOwn V B v ([] ++ a ++ [t] ++ b)) : LOwn V B v (a ++ t :: b) := by
  have e : [] ++ a ++ [t] ++ b = a ++ t :: b := by simp
  rw [e] at h
  exact h
set_option maxHeartbeats 8000000 in
theorem with_any {w : World} {B n c i : Nat} {A : Option Addr} {ws : List Wt} (h : Own w B 47 3 (.slice A n c) n (wc ws)) (hn : n = ws.length) (hi : i ≤ n) (hlim : n ≤ 100000) (t : Wt) :
    Calls Try.prog 41 #[.slice A n c, .int .i64 i, .agg #[.int .u64 t.num, .int .i64 t.nd, .int .i64 t.md]] w (ListE w (ws.take i ++ t :: ws.drop i)) := by
  have HW : Hid (n ≤ 100000) := Lib.hid hlim
  have HTL : Hid (i = (ws.take i).length) := Lib.hid (by rw [List.length_take]; omega)
  have HDL : Hid (n - i = (ws.drop i).length) := Lib.hid (by rw [List.length_drop]; omega)
  by_cases hn0 : n = 0
  · have hws : ws = [] := List.eq_nil_of_length_eq_zero (by omega)
    obtain rfl : i = 0 := by omega
    have HTR : Hid (∀ V, Below w.heap.size w V → 0 < 0 → ∃ g2 o2, A = some ⟨g2, o2, none⟩ ∧ ∀ j u, (wc (ws.take 0))[j]? = some u → V.cell? ⟨g2, o2 + j, none⟩ = some u) := Lib.hid (fun V hb h0 => absurd h0 (by omega))
    have hcc : (n : Nat) ≤ c ∧ c ≤ maxLen := by
      obtain ⟨_, _, e, h9, h8⟩ := Own.slice_ h
      injection e with _ _ e
      subst e
      exact ⟨h9, h8⟩
    obtain ⟨_, hc6⟩ := hcc
    unfold maxLen at hc6
    have hsp : A = none ∧ c = 0 ∨ ∃ g off, A = some ⟨g, off, none⟩ := by
      rcases h.2 with ⟨e, _⟩ | ⟨g, off, _, _, e, _⟩
      · injection e with e1 _ e2
        exact .inl ⟨e1, e2⟩
      · injection e with e1 _ _
        exact .inr ⟨g, off, e1⟩
    have HDR : ∀ A2 : Option Addr, Hid (∀ V, Below w.heap.size w V → 0 < n - 0 → ∃ g2 o2, A2 = some ⟨g2, o2, none⟩ ∧ ∀ j u, (wc (ws.drop 0))[j]? = some u → V.cell? ⟨g2, o2 + j, none⟩ = some u) := fun A2 => Lib.hid (fun V hb h0 => absurd h0 (by omega))
    clear h hn hi hws hlim
    subst hn0
    rcases hsp with ⟨rfl, rfl⟩ | ⟨g, off, rfl⟩
    · have HDR := HDR none
      have HLM : Hid (([] : List Wt).length + 0 ≤ 1000000 ∧ ([] ++ ws.take 0).length + 1 ≤ 1000000 ∧ ([] ++ ws.take 0 ++ [t]).length + (0 - 0) ≤ 1000000) := Lib.hid (by have h9 := HW.out; refine ⟨?_, ?_, ?_⟩ <;> simp only [List.nil_append, List.length_append, List.length_take, List.length_nil, List.length_cons] <;> omega)
      go_enter Try.func41, Try.ntmps41
      go_upto_region 1 with fail
      obtain ⟨X, hX⟩ : ∃ X, X = w.alloc (.cells #[.int .u64 t.num, .int .i64 t.nd, .int .i64 t.md] 47) := ⟨_, rfl⟩
      obtain ⟨gb, hgb⟩ : ∃ g, g = w.heap.size := ⟨_, rfl⟩
      rw [← hX, ← hgb]
      have HXB : Hid (Below w.heap.size w X) := Lib.hid (by rw [hX]; exact (Below.refl _ _).alloc (Nat.le_refl _) _)
      have HXS : Hid (w.heap.size ≤ X.heap.size) := Lib.hid HXB.out.size
      have HXR : Hid (X.heap[gb]? = some (.cells #[.int .u64 t.num, .int .i64 t.nd, .int .i64 t.md] 47 (0, 0))) := Lib.hid (by rw [hX, hgb]; exact heap_alloc_new w _)
      have hgl : gb < X.heap.size := (Array.getElem?_eq_some_iff.1 HXR.out).1
      obtain ⟨t0, t1, t2⟩ := row3c HXR.out
      clear hX hgb
      have HTX := Lib.hid (fun V (hb : Below X.heap.size X V) h0 => HTR.out V (HXB.out.trans (hb.mono HXS.out)) h0)
      have HDX := Lib.hid (fun V (hb : Below X.heap.size X V) h0 => HDR.out V (HXB.out.trans (hb.mono HXS.out)) h0)
      have HAP1a := Lib.hid (app_w (W := (X.alloc (.cells #[] 47)).drew) (B := X.heap.size) (v := .slice (some ⟨X.heap.size, 0, none⟩) 0 0) (xs := []) (ys := ws.take 0) (A := none) (m := 0) (c := 0) (ho := with_ea (Nat.le_refl X.heap.size) t) (hB := (with_ba (Below.refl X.heap.size X) t).size) (hl := HTL.out) (hr := fun h0 => HTX.out _ (with_ba (Below.refl X.heap.size X) t) h0) (hlim := HLM.out.1) 36)
      have HAP1b := Lib.hid (app_w (W := ((X.alloc (.cells #[] 47)).alloc (.cells #[.int .u64 t.num, .int .i64 t.nd, .int .i64 t.md] 47)).drew) (B := X.heap.size) (v := .slice (some ⟨X.heap.size, 0, none⟩) 0 0) (xs := []) (ys := ws.take 0) (A := none) (m := 0) (c := 0) (ho := with_eb (Nat.le_refl X.heap.size) t) (hB := (with_bb (Below.refl X.heap.size X) t).size) (hl := HTL.out) (hr := fun h0 => HTX.out _ (with_bb (Below.refl X.heap.size X) t) h0) (hlim := HLM.out.1) 36)
      have HAP1c := Lib.hid (app_w (W := ((X.alloc (.cells #[.int .u64 t.num, .int .i64 t.nd, .int .i64 t.md] 47)).alloc (.cells #[] 47)).drew) (B := X.heap.size) (v := .slice (some ⟨(X.heap.size + 1), 0, none⟩) 0 0) (xs := []) (ys := ws.take 0) (A := none) (m := 0) (c := 0) (ho := with_ec (Nat.le_refl X.heap.size) t) (hB := (with_bc (Below.refl X.heap.size X) t).size) (hl := HTL.out) (hr := fun h0 => HTX.out _ (with_bc (Below.refl X.heap.size X) t) h0) (hlim := HLM.out.1) 36)
      go_region_law (first
        | (refine step_append rfl _ _ 36 36 rfl (by simp [Act.eval, Act.put]) (by simp [Act.eval, Act.put]) HAP1a.out ?_; rintro v5 w5 ⟨⟨A5, m5, c5, rfl⟩, ho5, hf5⟩; have HO5 := Lib.hid ho5; have HB5 : Hid (Below X.heap.size X w5) := Lib.hid (fr_lown (with_ba (Below.refl X.heap.size X) t) (with_ea (Nat.le_refl X.heap.size) t) hf5); have HAP2 := Lib.hid (app_w (W := w5.alloc (.cells #[.int .u64 t.num, .int .i64 t.nd, .int .i64 t.md] 47)) (B := X.heap.size) (xs := [] ++ ws.take 0) (ys := [t]) (A := some ⟨w5.heap.size, 0, none⟩) (m := 1) (c := 1) (ho := HO5.out.alloc_ _) (hB := (HB5.out.alloc HB5.out.size (.cells #[.int .u64 t.num, .int .i64 t.nd, .int .i64 t.md] 47)).size) (hl := rfl) (hr := fun _ => rd_oneW (heap_alloc_new w5 _)) (hlim := HLM.out.2.1) 36); have HB5' := Lib.hid (HB5.out.alloc HB5.out.size (.cells #[.int .u64 t.num, .int .i64 t.nd, .int .i64 t.md] 47)); have HO5' := Lib.hid (HO5.out.alloc_ (.cells #[.int .u64 t.num, .int .i64 t.nd, .int .i64 t.md] 47)); obtain ⟨s0, s1, s2⟩ := row3c (blk_below HXR.out HB5.out); clear ho5 hf5 HAP1a HAP1b HAP1c)
        | (refine step_append rfl _ _ 36 36 rfl (by simp [Act.eval, Act.put]) (by simp [Act.eval, Act.put]) HAP1b.out ?_; rintro v5 w5 ⟨⟨A5, m5, c5, rfl⟩, ho5, hf5⟩; have HO5 := Lib.hid ho5; have HB5 : Hid (Below X.heap.size X w5) := Lib.hid (fr_lown (with_bb (Below.refl X.heap.size X) t) (with_eb (Nat.le_refl X.heap.size) t) hf5); have HAP2 := Lib.hid (app_w (W := w5) (B := X.heap.size) (xs := [] ++ ws.take 0) (ys := [t]) (A := some ⟨(X.heap.size + 1), 0, none⟩) (m := 1) (c := 1) (ho := HO5.out) (hB := HB5.out.size) (hl := rfl) (hr := fun _ => rd_oneW (with_tb t hf5)) (hlim := HLM.out.2.1) 36); have HB5' := HB5; have HO5' := HO5; clear ho5 hf5 HAP1a HAP1b HAP1c)
        | (refine step_append rfl _ _ 36 36 rfl (by simp [Act.eval, Act.put]) (by simp [Act.eval, Act.put]) HAP1c.out ?_; rintro v5 w5 ⟨⟨A5, m5, c5, rfl⟩, ho5, hf5⟩; have HO5 := Lib.hid ho5; have HB5 : Hid (Below X.heap.size X w5) := Lib.hid (fr_lown (with_bc (Below.refl X.heap.size X) t) (with_ec (Nat.le_refl X.heap.size) t) hf5); have HAP2 := Lib.hid (app_w (W := w5) (B := X.heap.size) (xs := [] ++ ws.take 0) (ys := [t]) (A := some ⟨X.heap.size, 0, none⟩) (m := 1) (c := 1) (ho := HO5.out) (hB := HB5.out.size) (hl := rfl) (hr := fun _ => rd_oneW (with_tc t hf5)) (hlim := HLM.out.2.1) 36); have HB5' := HB5; have HO5' := HO5; clear ho5 hf5 HAP1a HAP1b HAP1c)
        | (refine step_append rfl _ _ 36 36 rfl (by simp [Act.eval, Act.put]) (by simp [Act.eval, Act.put]) HAP2.out ?_; rintro v6 w6 ⟨⟨A6, m6, c6, rfl⟩, ho6, hf6⟩; have HO6 := Lib.hid ho6; have HB6 : Hid (Below X.heap.size X w6) := Lib.hid (fr_own HB5'.out HO5'.out hf6); have HAP3 := Lib.hid (app_w (W := w6) (B := X.heap.size) (xs := [] ++ ws.take 0 ++ [t]) (ys := ws.drop 0) (A := none) (m := 0 - 0) (c := 0) (ho := HO6.out) (hB := HB6.out.size) (hl := HDL.out) (hr := fun h0 => HDX.out _ HB6.out h0) (hlim := HLM.out.2.2) 36); clear ho6 hf6 HAP2)
        | (refine step_append rfl _ _ 36 36 rfl (by simp [Act.eval, Act.put]) (by simp [Act.eval, Act.put]) HAP3.out ?_; rintro v7 w7 ⟨⟨A7, m7, c7, rfl⟩, ho7, hf7⟩; have HO7 : Hid (LOwn w7 X.heap.size (.slice A7 m7 c7) (ws.take 0 ++ t :: ws.drop 0)) := Lib.hid (with_l ho7); have HB7 : Hid (Below X.heap.size X w7) := Lib.hid (fr_own HB6.out HO6.out hf7); clear ho7 hf7))
      all_goals
        go_wp2_with fail
        go_ret
        exact ⟨_, rfl, Own.base_ HO7.out (fun g hg => Nat.le_trans HXS.out (HO7.out.lt g hg).1), HXB.out.trans (HB7.out.mono HXS.out)⟩
    · have HDR := HDR (some ⟨g, off, none⟩)
      have HLM : Hid (([] : List Wt).length + 0 ≤ 1000000 ∧ ([] ++ ws.take 0).length + 1 ≤ 1000000 ∧ ([] ++ ws.take 0 ++ [t]).length + (0 - 0) ≤ 1000000) := Lib.hid (by have h9 := HW.out; refine ⟨?_, ?_, ?_⟩ <;> simp only [List.nil_append, List.length_append, List.length_take, List.length_nil, List.length_cons] <;> omega)
      go_enter Try.func41, Try.ntmps41
      go_upto_region 1 with fail
      obtain ⟨X, hX⟩ : ∃ X, X = w.alloc (.cells #[.int .u64 t.num, .int .i64 t.nd, .int .i64 t.md] 47) := ⟨_, rfl⟩
      obtain ⟨gb, hgb⟩ : ∃ g, g = w.heap.size := ⟨_, rfl⟩
      rw [← hX, ← hgb]
      have HXB : Hid (Below w.heap.size w X) := Lib.hid (by rw [hX]; exact (Below.refl _ _).alloc (Nat.le_refl _) _)
      have HXS : Hid (w.heap.size ≤ X.heap.size) := Lib.hid HXB.out.size
      have HXR : Hid (X.heap[gb]? = some (.cells #[.int .u64 t.num, .int .i64 t.nd, .int .i64 t.md] 47 (0, 0))) := Lib.hid (by rw [hX, hgb]; exact heap_alloc_new w _)
      have hgl : gb < X.heap.size := (Array.getElem?_eq_some_iff.1 HXR.out).1
      obtain ⟨t0, t1, t2⟩ := row3c HXR.out
      clear hX hgb
      by_cases hcp : c = 0
      · subst hcp
        have HTX := Lib.hid (fun V (hb : Below X.heap.size X V) h0 => HTR.out V (HXB.out.trans (hb.mono HXS.out)) h0)
        have HDX := Lib.hid (fun V (hb : Below X.heap.size X V) h0 => HDR.out V (HXB.out.trans (hb.mono HXS.out)) h0)
        have HAP1a := Lib.hid (app_w (W := (X.alloc (.cells #[] 47)).drew) (B := X.heap.size) (v := .slice (some ⟨X.heap.size, 0, none⟩) 0 0) (xs := []) (ys := ws.take 0) (A := some ⟨g, off, none⟩) (m := 0) (c := 0) (ho := with_ea (Nat.le_refl X.heap.size) t) (hB := (with_ba (Below.refl X.heap.size X) t).size) (hl := HTL.out) (hr := fun h0 => HTX.out _ (with_ba (Below.refl X.heap.size X) t) h0) (hlim := HLM.out.1) 36)
        have HAP1b := Lib.hid (app_w (W := ((X.alloc (.cells #[] 47)).alloc (.cells #[.int .u64 t.num, .int .i64 t.nd, .int .i64 t.md] 47)).drew) (B := X.heap.size) (v := .slice (some ⟨X.heap.size, 0, none⟩) 0 0) (xs := []) (ys := ws.take 0) (A := some ⟨g, off, none⟩) (m := 0) (c := 0) (ho := with_eb (Nat.le_refl X.heap.size) t) (hB := (with_bb (Below.refl X.heap.size X) t).size) (hl := HTL.out) (hr := fun h0 => HTX.out _ (with_bb (Below.refl X.heap.size X) t) h0) (hlim := HLM.out.1) 36)
        have HAP1c := Lib.hid (app_w (W := ((X.alloc (.cells #[.int .u64 t.num, .int .i64 t.nd, .int .i64 t.md] 47)).alloc (.cells #[] 47)).drew) (B := X.heap.size) (v := .slice (some ⟨(X.heap.size + 1), 0, none⟩) 0 0) (xs := []) (ys := ws.take 0) (A := some ⟨g, off, none⟩) (m := 0) (c := 0) (ho := with_ec (Nat.le_refl X.heap.size) t) (hB := (with_bc (Below.refl X.heap.size X) t).size) (hl := HTL.out) (hr := fun h0 => HTX.out _ (with_bc (Below.refl X.heap.size X) t) h0) (hlim := HLM.out.1) 36)
        go_region_law (first
          | (refine step_append rfl _ _ 36 36 rfl (by simp [Act.eval, Act.put]) (by simp [Act.eval, Act.put]) HAP1a.out ?_; rintro v5 w5 ⟨⟨A5, m5, c5, rfl⟩, ho5, hf5⟩; have HO5 := Lib.hid ho5; have HB5 : Hid (Below X.heap.size X w5) := Lib.hid (fr_lown (with_ba (Below.refl X.heap.size X) t) (with_ea (Nat.le_refl X.heap.size) t) hf5); have HAP2 := Lib.hid (app_w (W := w5.alloc (.cells #[.int .u64 t.num, .int .i64 t.nd, .int .i64 t.md] 47)) (B := X.heap.size) (xs := [] ++ ws.take 0) (ys := [t]) (A := some ⟨w5.heap.size, 0, none⟩) (m := 1) (c := 1) (ho := HO5.out.alloc_ _) (hB := (HB5.out.alloc HB5.out.size (.cells #[.int .u64 t.num, .int .i64 t.nd, .int .i64 t.md] 47)).size) (hl := rfl) (hr := fun _ => rd_oneW (heap_alloc_new w5 _)) (hlim := HLM.out.2.1) 36); have HB5' := Lib.hid (HB5.out.alloc HB5.out.size (.cells #[.int .u64 t.num, .int .i64 t.nd, .int .i64 t.md] 47)); have HO5' := Lib.hid (HO5.out.alloc_ (.cells #[.int .u64 t.num, .int .i64 t.nd, .int .i64 t.md] 47)); obtain ⟨s0, s1, s2⟩ := row3c (blk_below HXR.out HB5.out); clear ho5 hf5 HAP1a HAP1b HAP1c)
          | (refine step_append rfl _ _ 36 36 rfl (by simp [Act.eval, Act.put]) (by simp [Act.eval, Act.put]) HAP1b.out ?_; rintro v5 w5 ⟨⟨A5, m5, c5, rfl⟩, ho5, hf5⟩; have HO5 := Lib.hid ho5; have HB5 : Hid (Below X.heap.size X w5) := Lib.hid (fr_lown (with_bb (Below.refl X.heap.size X) t) (with_eb (Nat.le_refl X.heap.size) t) hf5); have HAP2 := Lib.hid (app_w (W := w5) (B := X.heap.size) (xs := [] ++ ws.take 0) (ys := [t]) (A := some ⟨(X.heap.size + 1), 0, none⟩) (m := 1) (c := 1) (ho := HO5.out) (hB := HB5.out.size) (hl := rfl) (hr := fun _ => rd_oneW (with_tb t hf5)) (hlim := HLM.out.2.1) 36); have HB5' := HB5; have HO5' := HO5; clear ho5 hf5 HAP1a HAP1b HAP1c)
          | (refine step_append rfl _ _ 36 36 rfl (by simp [Act.eval, Act.put]) (by simp [Act.eval, Act.put]) HAP1c.out ?_; rintro v5 w5 ⟨⟨A5, m5, c5, rfl⟩, ho5, hf5⟩; have HO5 := Lib.hid ho5; have HB5 : Hid (Below X.heap.size X w5) := Lib.hid (fr_lown (with_bc (Below.refl X.heap.size X) t) (with_ec (Nat.le_refl X.heap.size) t) hf5); have HAP2 := Lib.hid (app_w (W := w5) (B := X.heap.size) (xs := [] ++ ws.take 0) (ys := [t]) (A := some ⟨X.heap.size, 0, none⟩) (m := 1) (c := 1) (ho := HO5.out) (hB := HB5.out.size) (hl := rfl) (hr := fun _ => rd_oneW (with_tc t hf5)) (hlim := HLM.out.2.1) 36); have HB5' := HB5; have HO5' := HO5; clear ho5 hf5 HAP1a HAP1b HAP1c)
          | (refine step_append rfl _ _ 36 36 rfl (by simp [Act.eval, Act.put]) (by simp [Act.eval, Act.put]) HAP2.out ?_; rintro v6 w6 ⟨⟨A6, m6, c6, rfl⟩, ho6, hf6⟩; have HO6 := Lib.hid ho6; have HB6 : Hid (Below X.heap.size X w6) := Lib.hid (fr_own HB5'.out HO5'.out hf6); have HAP3 := Lib.hid (app_w (W := w6) (B := X.heap.size) (xs := [] ++ ws.take 0 ++ [t]) (ys := ws.drop 0) (A := some ⟨g, off, none⟩) (m := 0 - 0) (c := 0) (ho := HO6.out) (hB := HB6.out.size) (hl := HDL.out) (hr := fun h0 => HDX.out _ HB6.out h0) (hlim := HLM.out.2.2) 36); clear ho6 hf6 HAP2)
          | (refine step_append rfl _ _ 36 36 rfl (by simp [Act.eval, Act.put]) (by simp [Act.eval, Act.put]) HAP3.out ?_; rintro v7 w7 ⟨⟨A7, m7, c7, rfl⟩, ho7, hf7⟩; have HO7 : Hid (LOwn w7 X.heap.size (.slice A7 m7 c7) (ws.take 0 ++ t :: ws.drop 0)) := Lib.hid (with_l ho7); have HB7 : Hid (Below X.heap.size X w7) := Lib.hid (fr_own HB6.out HO6.out hf7); clear ho7 hf7))
        all_goals
          go_wp2_with fail
          go_ret
          exact ⟨_, rfl, Own.base_ HO7.out (fun g hg => Nat.le_trans HXS.out (HO7.out.lt g hg).1), HXB.out.trans (HB7.out.mono HXS.out)⟩
      · have hcp' : ¬ 0 = c := by omega
        have HTX := Lib.hid (fun V (hb : Below X.heap.size X V) h0 => HTR.out V (HXB.out.trans (hb.mono HXS.out)) h0)
        have HDX := Lib.hid (fun V (hb : Below X.heap.size X V) h0 => HDR.out V (HXB.out.trans (hb.mono HXS.out)) h0)
        have HAP1a := Lib.hid (app_w (W := (X.alloc (.cells #[] 47)).drew) (B := X.heap.size) (v := .slice (some ⟨X.heap.size, 0, none⟩) 0 0) (xs := []) (ys := ws.take 0) (A := some ⟨g, off, none⟩) (m := 0) (c := c) (ho := with_ea (Nat.le_refl X.heap.size) t) (hB := (with_ba (Below.refl X.heap.size X) t).size) (hl := HTL.out) (hr := fun h0 => HTX.out _ (with_ba (Below.refl X.heap.size X) t) h0) (hlim := HLM.out.1) 36)
        have HAP1b := Lib.hid (app_w (W := ((X.alloc (.cells #[] 47)).alloc (.cells #[.int .u64 t.num, .int .i64 t.nd, .int .i64 t.md] 47)).drew) (B := X.heap.size) (v := .slice (some ⟨X.heap.size, 0, none⟩) 0 0) (xs := []) (ys := ws.take 0) (A := some ⟨g, off, none⟩) (m := 0) (c := c) (ho := with_eb (Nat.le_refl X.heap.size) t) (hB := (with_bb (Below.refl X.heap.size X) t).size) (hl := HTL.out) (hr := fun h0 => HTX.out _ (with_bb (Below.refl X.heap.size X) t) h0) (hlim := HLM.out.1) 36)
        have HAP1c := Lib.hid (app_w (W := ((X.alloc (.cells #[.int .u64 t.num, .int .i64 t.nd, .int .i64 t.md] 47)).alloc (.cells #[] 47)).drew) (B := X.heap.size) (v := .slice (some ⟨(X.heap.size + 1), 0, none⟩) 0 0) (xs := []) (ys := ws.take 0) (A := some ⟨g, off, none⟩) (m := 0) (c := c) (ho := with_ec (Nat.le_refl X.heap.size) t) (hB := (with_bc (Below.refl X.heap.size X) t).size) (hl := HTL.out) (hr := fun h0 => HTX.out _ (with_bc (Below.refl X.heap.size X) t) h0) (hlim := HLM.out.1) 36)
        go_region_law (first
          | (refine step_append rfl _ _ 36 36 rfl (by simp [Act.eval, Act.put]) (by simp [Act.eval, Act.put]) HAP1a.out ?_; rintro v5 w5 ⟨⟨A5, m5, c5, rfl⟩, ho5, hf5⟩; have HO5 := Lib.hid ho5; have HB5 : Hid (Below X.heap.size X w5) := Lib.hid (fr_lown (with_ba (Below.refl X.heap.size X) t) (with_ea (Nat.le_refl X.heap.size) t) hf5); have HAP2 := Lib.hid (app_w (W := w5.alloc (.cells #[.int .u64 t.num, .int .i64 t.nd, .int .i64 t.md] 47)) (B := X.heap.size) (xs := [] ++ ws.take 0) (ys := [t]) (A := some ⟨w5.heap.size, 0, none⟩) (m := 1) (c := 1) (ho := HO5.out.alloc_ _) (hB := (HB5.out.alloc HB5.out.size (.cells #[.int .u64 t.num, .int .i64 t.nd, .int .i64 t.md] 47)).size) (hl := rfl) (hr := fun _ => rd_oneW (heap_alloc_new w5 _)) (hlim := HLM.out.2.1) 36); have HB5' := Lib.hid (HB5.out.alloc HB5.out.size (.cells #[.int .u64 t.num, .int .i64 t.nd, .int .i64 t.md] 47)); have HO5' := Lib.hid (HO5.out.alloc_ (.cells #[.int .u64 t.num, .int .i64 t.nd, .int .i64 t.md] 47)); obtain ⟨s0, s1, s2⟩ := row3c (blk_below HXR.out HB5.out); clear ho5 hf5 HAP1a HAP1b HAP1c)
          | (refine step_append rfl _ _ 36 36 rfl (by simp [Act.eval, Act.put]) (by simp [Act.eval, Act.put]) HAP1b.out ?_; rintro v5 w5 ⟨⟨A5, m5, c5, rfl⟩, ho5, hf5⟩; have HO5 := Lib.hid ho5; have HB5 : Hid (Below X.heap.size X w5) := Lib.hid (fr_lown (with_bb (Below.refl X.heap.size X) t) (with_eb (Nat.le_refl X.heap.size) t) hf5); have HAP2 := Lib.hid (app_w (W := w5) (B := X.heap.size) (xs := [] ++ ws.take 0) (ys := [t]) (A := some ⟨(X.heap.size + 1), 0, none⟩) (m := 1) (c := 1) (ho := HO5.out) (hB := HB5.out.size) (hl := rfl) (hr := fun _ => rd_oneW (with_tb t hf5)) (hlim := HLM.out.2.1) 36); have HB5' := HB5; have HO5' := HO5; clear ho5 hf5 HAP1a HAP1b HAP1c)
          | (refine step_append rfl _ _ 36 36 rfl (by simp [Act.eval, Act.put]) (by simp [Act.eval, Act.put]) HAP1c.out ?_; rintro v5 w5 ⟨⟨A5, m5, c5, rfl⟩, ho5, hf5⟩; have HO5 := Lib.hid ho5; have HB5 : Hid (Below X.heap.size X w5) := Lib.hid (fr_lown (with_bc (Below.refl X.heap.size X) t) (with_ec (Nat.le_refl X.heap.size) t) hf5); have HAP2 := Lib.hid (app_w (W := w5) (B := X.heap.size) (xs := [] ++ ws.take 0) (ys := [t]) (A := some ⟨X.heap.size, 0, none⟩) (m := 1) (c := 1) (ho := HO5.out) (hB := HB5.out.size) (hl := rfl) (hr := fun _ => rd_oneW (with_tc t hf5)) (hlim := HLM.out.2.1) 36); have HB5' := HB5; have HO5' := HO5; clear ho5 hf5 HAP1a HAP1b HAP1c)
          | (refine step_append rfl _ _ 36 36 rfl (by simp [Act.eval, Act.put]) (by simp [Act.eval, Act.put]) HAP2.out ?_; rintro v6 w6 ⟨⟨A6, m6, c6, rfl⟩, ho6, hf6⟩; have HO6 := Lib.hid ho6; have HB6 : Hid (Below X.heap.size X w6) := Lib.hid (fr_own HB5'.out HO5'.out hf6); have HAP3 := Lib.hid (app_w (W := w6) (B := X.heap.size) (xs := [] ++ ws.take 0 ++ [t]) (ys := ws.drop 0) (A := some ⟨g, off, none⟩) (m := 0 - 0) (c := c) (ho := HO6.out) (hB := HB6.out.size) (hl := HDL.out) (hr := fun h0 => HDX.out _ HB6.out h0) (hlim := HLM.out.2.2) 36); clear ho6 hf6 HAP2)
          | (refine step_append rfl _ _ 36 36 rfl (by simp [Act.eval, Act.put]) (by simp [Act.eval, Act.put]) HAP3.out ?_; rintro v7 w7 ⟨⟨A7, m7, c7, rfl⟩, ho7, hf7⟩; have HO7 : Hid (LOwn w7 X.heap.size (.slice A7 m7 c7) (ws.take 0 ++ t :: ws.drop 0)) := Lib.hid (with_l ho7); have HB7 : Hid (Below X.heap.size X w7) := Lib.hid (fr_own HB6.out HO6.out hf7); clear ho7 hf7))
        all_goals
          go_wp2_with fail
          go_ret
          exact ⟨_, rfl, Own.base_ HO7.out (fun g hg => Nat.le_trans HXS.out (HO7.out.lt g hg).1), HXB.out.trans (HB7.out.mono HXS.out)⟩
  obtain ⟨g, off, cap, cur, hv, _, hg, h1, h2, _⟩ := h.form (by omega)
  injection hv with e1 e0 e2
  clear e0
  subst e1 e2
  have hrd := h.rd
  have HTR : Hid (∀ V, Below w.heap.size w V → 0 < i → ∃ g2 o2, some (⟨g, off, none⟩ : Addr) = some ⟨g2, o2, none⟩ ∧ ∀ j u, (wc (ws.take i))[j]? = some u → V.cell? ⟨g2, o2 + j, none⟩ = some u) := Lib.hid (fun V hb _ => ⟨g, off, rfl, fun j u hu => rd_take_at (hrd.below hb) (by omega) (by omega) hu⟩)
  have i0 : (0 : Int) ≤ (i : Int) := by omega
  have i1 : (i : Int) ≤ (c : Int) := by omega
  have i2 : (i : Int) ≤ (n : Int) := by omega
  have i4 : (n : Int) ≤ (c : Int) := by omega
  have hc6 : c ≤ 2 ^ 63 - 1 := h2
  have HLM : Hid (([] : List Wt).length + i ≤ 1000000 ∧ ([] ++ ws.take i).length + 1 ≤ 1000000 ∧ ([] ++ ws.take i ++ [t]).length + (n - i) ≤ 1000000) := Lib.hid (by have h9 := HW.out; refine ⟨?_, ?_, ?_⟩ <;> simp only [List.nil_append, List.length_append, List.length_take, List.length_nil, List.length_cons] <;> omega)
  by_cases hcp : c = i
  · have HDR : Hid (∀ V, Below w.heap.size w V → 0 < n - i → ∃ g2 o2, some (⟨g, off, none⟩ : Addr) = some ⟨g2, o2, none⟩ ∧ ∀ j u, (wc (ws.drop i))[j]? = some u → V.cell? ⟨g2, o2 + j, none⟩ = some u) := Lib.hid (fun V hb h0 => absurd h0 (by omega))
    clear hrd h hn hg hlim
    obtain rfl : n = i := by omega
    subst hcp
    go_enter Try.func41, Try.ntmps41
    go_upto_region 1 with fail
    obtain ⟨X, hX⟩ : ∃ X, X = w.alloc (.cells #[.int .u64 t.num, .int .i64 t.nd, .int .i64 t.md] 47) := ⟨_, rfl⟩
    obtain ⟨gb, hgb⟩ : ∃ g, g = w.heap.size := ⟨_, rfl⟩
    rw [← hX, ← hgb]
    have HXB : Hid (Below w.heap.size w X) := Lib.hid (by rw [hX]; exact (Below.refl _ _).alloc (Nat.le_refl _) _)
    have HXS : Hid (w.heap.size ≤ X.heap.size) := Lib.hid HXB.out.size
    have HXR : Hid (X.heap[gb]? = some (.cells #[.int .u64 t.num, .int .i64 t.nd, .int .i64 t.md] 47 (0, 0))) := Lib.hid (by rw [hX, hgb]; exact heap_alloc_new w _)
    have hgl : gb < X.heap.size := (Array.getElem?_eq_some_iff.1 HXR.out).1
    obtain ⟨t0, t1, t2⟩ := row3c HXR.out
    clear hX hgb
    have HTX := Lib.hid (fun V (hb : Below X.heap.size X V) h0 => HTR.out V (HXB.out.trans (hb.mono HXS.out)) h0)
    have HDX := Lib.hid (fun V (hb : Below X.heap.size X V) h0 => HDR.out V (HXB.out.trans (hb.mono HXS.out)) h0)
    have HAP1a := Lib.hid (app_w (W := (X.alloc (.cells #[] 47)).drew) (B := X.heap.size) (v := .slice (some ⟨X.heap.size, 0, none⟩) 0 0) (xs := []) (ys := ws.take c) (A := some ⟨g, off, none⟩) (m := c) (c := c) (ho := with_ea (Nat.le_refl X.heap.size) t) (hB := (with_ba (Below.refl X.heap.size X) t).size) (hl := HTL.out) (hr := fun h0 => HTX.out _ (with_ba (Below.refl X.heap.size X) t) h0) (hlim := HLM.out.1) 36)
    have HAP1b := Lib.hid (app_w (W := ((X.alloc (.cells #[] 47)).alloc (.cells #[.int .u64 t.num, .int .i64 t.nd, .int .i64 t.md] 47)).drew) (B := X.heap.size) (v := .slice (some ⟨X.heap.size, 0, none⟩) 0 0) (xs := []) (ys := ws.take c) (A := some ⟨g, off, none⟩) (m := c) (c := c) (ho := with_eb (Nat.le_refl X.heap.size) t) (hB := (with_bb (Below.refl X.heap.size X) t).size) (hl := HTL.out) (hr := fun h0 => HTX.out _ (with_bb (Below.refl X.heap.size X) t) h0) (hlim := HLM.out.1) 36)
    have HAP1c := Lib.hid (app_w (W := ((X.alloc (.cells #[.int .u64 t.num, .int .i64 t.nd, .int .i64 t.md] 47)).alloc (.cells #[] 47)).drew) (B := X.heap.size) (v := .slice (some ⟨(X.heap.size + 1), 0, none⟩) 0 0) (xs := []) (ys := ws.take c) (A := some ⟨g, off, none⟩) (m := c) (c := c) (ho := with_ec (Nat.le_refl X.heap.size) t) (hB := (with_bc (Below.refl X.heap.size X) t).size) (hl := HTL.out) (hr := fun h0 => HTX.out _ (with_bc (Below.refl X.heap.size X) t) h0) (hlim := HLM.out.1) 36)
    go_region_law (first
      | (refine step_append rfl _ _ 36 36 rfl (by simp [Act.eval, Act.put]) (by simp [Act.eval, Act.put]) HAP1a.out ?_; rintro v5 w5 ⟨⟨A5, m5, c5, rfl⟩, ho5, hf5⟩; have HO5 := Lib.hid ho5; have HB5 : Hid (Below X.heap.size X w5) := Lib.hid (fr_lown (with_ba (Below.refl X.heap.size X) t) (with_ea (Nat.le_refl X.heap.size) t) hf5); have HAP2 := Lib.hid (app_w (W := w5.alloc (.cells #[.int .u64 t.num, .int .i64 t.nd, .int .i64 t.md] 47)) (B := X.heap.size) (xs := [] ++ ws.take c) (ys := [t]) (A := some ⟨w5.heap.size, 0, none⟩) (m := 1) (c := 1) (ho := HO5.out.alloc_ _) (hB := (HB5.out.alloc HB5.out.size (.cells #[.int .u64 t.num, .int .i64 t.nd, .int .i64 t.md] 47)).size) (hl := rfl) (hr := fun _ => rd_oneW (heap_alloc_new w5 _)) (hlim := HLM.out.2.1) 36); have HB5' := Lib.hid (HB5.out.alloc HB5.out.size (.cells #[.int .u64 t.num, .int .i64 t.nd, .int .i64 t.md] 47)); have HO5' := Lib.hid (HO5.out.alloc_ (.cells #[.int .u64 t.num, .int .i64 t.nd, .int .i64 t.md] 47)); obtain ⟨s0, s1, s2⟩ := row3c (blk_below HXR.out HB5.out); clear ho5 hf5 HAP1a HAP1b HAP1c)
      | (refine step_append rfl _ _ 36 36 rfl (by simp [Act.eval, Act.put]) (by simp [Act.eval, Act.put]) HAP1b.out ?_; rintro v5 w5 ⟨⟨A5, m5, c5, rfl⟩, ho5, hf5⟩; have HO5 := Lib.hid ho5; have HB5 : Hid (Below X.heap.size X w5) := Lib.hid (fr_lown (with_bb (Below.refl X.heap.size X) t) (with_eb (Nat.le_refl X.heap.size) t) hf5); have HAP2 := Lib.hid (app_w (W := w5) (B := X.heap.size) (xs := [] ++ ws.take c) (ys := [t]) (A := some ⟨(X.heap.size + 1), 0, none⟩) (m := 1) (c := 1) (ho := HO5.out) (hB := HB5.out.size) (hl := rfl) (hr := fun _ => rd_oneW (with_tb t hf5)) (hlim := HLM.out.2.1) 36); have HB5' := HB5; have HO5' := HO5; clear ho5 hf5 HAP1a HAP1b HAP1c)
      | (refine step_append rfl _ _ 36 36 rfl (by simp [Act.eval, Act.put]) (by simp [Act.eval, Act.put]) HAP1c.out ?_; rintro v5 w5 ⟨⟨A5, m5, c5, rfl⟩, ho5, hf5⟩; have HO5 := Lib.hid ho5; have HB5 : Hid (Below X.heap.size X w5) := Lib.hid (fr_lown (with_bc (Below.refl X.heap.size X) t) (with_ec (Nat.le_refl X.heap.size) t) hf5); have HAP2 := Lib.hid (app_w (W := w5) (B := X.heap.size) (xs := [] ++ ws.take c) (ys := [t]) (A := some ⟨X.heap.size, 0, none⟩) (m := 1) (c := 1) (ho := HO5.out) (hB := HB5.out.size) (hl := rfl) (hr := fun _ => rd_oneW (with_tc t hf5)) (hlim := HLM.out.2.1) 36); have HB5' := HB5; have HO5' := HO5; clear ho5 hf5 HAP1a HAP1b HAP1c)
      | (refine step_append rfl _ _ 36 36 rfl (by simp [Act.eval, Act.put]) (by simp [Act.eval, Act.put]) HAP2.out ?_; rintro v6 w6 ⟨⟨A6, m6, c6, rfl⟩, ho6, hf6⟩; have HO6 := Lib.hid ho6; have HB6 : Hid (Below X.heap.size X w6) := Lib.hid (fr_own HB5'.out HO5'.out hf6); have HAP3 := Lib.hid (app_w (W := w6) (B := X.heap.size) (xs := [] ++ ws.take c ++ [t]) (ys := ws.drop c) (A := some ⟨g, off, none⟩) (m := c - c) (c := c - c) (ho := HO6.out) (hB := HB6.out.size) (hl := HDL.out) (hr := fun h0 => HDX.out _ HB6.out h0) (hlim := HLM.out.2.2) 36); clear ho6 hf6 HAP2)
      | (refine step_append rfl _ _ 36 36 rfl (by simp [Act.eval, Act.put]) (by simp [Act.eval, Act.put]) HAP3.out ?_; rintro v7 w7 ⟨⟨A7, m7, c7, rfl⟩, ho7, hf7⟩; have HO7 : Hid (LOwn w7 X.heap.size (.slice A7 m7 c7) (ws.take c ++ t :: ws.drop c)) := Lib.hid (with_l ho7); have HB7 : Hid (Below X.heap.size X w7) := Lib.hid (fr_own HB6.out HO6.out hf7); clear ho7 hf7))
    all_goals
      go_wp2_with fail
      go_ret
      exact ⟨_, rfl, Own.base_ HO7.out (fun g hg => Nat.le_trans HXS.out (HO7.out.lt g hg).1), HXB.out.trans (HB7.out.mono HXS.out)⟩
  · have HDR : Hid (∀ V, Below w.heap.size w V → 0 < n - i → ∃ g2 o2, some (⟨g, off + i * 3, none⟩ : Addr) = some ⟨g2, o2, none⟩ ∧ ∀ j u, (wc (ws.drop i))[j]? = some u → V.cell? ⟨g2, o2 + j, none⟩ = some u) := Lib.hid (fun V hb _ => ⟨g, _, rfl, fun j u hu => rd_drop_at (hrd.below hb) (by omega) hu⟩)
    have hcp' : ¬ c ≤ i := by omega
    clear hrd h hn hg hlim
    go_enter Try.func41, Try.ntmps41
    go_upto_region 1 with fail
    obtain ⟨X, hX⟩ : ∃ X, X = w.alloc (.cells #[.int .u64 t.num, .int .i64 t.nd, .int .i64 t.md] 47) := ⟨_, rfl⟩
    obtain ⟨gb, hgb⟩ : ∃ g, g = w.heap.size := ⟨_, rfl⟩
    rw [← hX, ← hgb]
    have HXB : Hid (Below w.heap.size w X) := Lib.hid (by rw [hX]; exact (Below.refl _ _).alloc (Nat.le_refl _) _)
    have HXS : Hid (w.heap.size ≤ X.heap.size) := Lib.hid HXB.out.size
    have HXR : Hid (X.heap[gb]? = some (.cells #[.int .u64 t.num, .int .i64 t.nd, .int .i64 t.md] 47 (0, 0))) := Lib.hid (by rw [hX, hgb]; exact heap_alloc_new w _)
    have hgl : gb < X.heap.size := (Array.getElem?_eq_some_iff.1 HXR.out).1
    obtain ⟨t0, t1, t2⟩ := row3c HXR.out
    clear hX hgb
    have HTX := Lib.hid (fun V (hb : Below X.heap.size X V) h0 => HTR.out V (HXB.out.trans (hb.mono HXS.out)) h0)
    have HDX := Lib.hid (fun V (hb : Below X.heap.size X V) h0 => HDR.out V (HXB.out.trans (hb.mono HXS.out)) h0)
    have HAP1a := Lib.hid (app_w (W := (X.alloc (.cells #[] 47)).drew) (B := X.heap.size) (v := .slice (some ⟨X.heap.size, 0, none⟩) 0 0) (xs := []) (ys := ws.take i) (A := some ⟨g, off, none⟩) (m := i) (c := c) (ho := with_ea (Nat.le_refl X.heap.size) t) (hB := (with_ba (Below.refl X.heap.size X) t).size) (hl := HTL.out) (hr := fun h0 => HTX.out _ (with_ba (Below.refl X.heap.size X) t) h0) (hlim := HLM.out.1) 36)
    have HAP1b := Lib.hid (app_w (W := ((X.alloc (.cells #[] 47)).alloc (.cells #[.int .u64 t.num, .int .i64 t.nd, .int .i64 t.md] 47)).drew) (B := X.heap.size) (v := .slice (some ⟨X.heap.size, 0, none⟩) 0 0) (xs := []) (ys := ws.take i) (A := some ⟨g, off, none⟩) (m := i) (c := c) (ho := with_eb (Nat.le_refl X.heap.size) t) (hB := (with_bb (Below.refl X.heap.size X) t).size) (hl := HTL.out) (hr := fun h0 => HTX.out _ (with_bb (Below.refl X.heap.size X) t) h0) (hlim := HLM.out.1) 36)
    have HAP1c := Lib.hid (app_w (W := ((X.alloc (.cells #[.int .u64 t.num, .int .i64 t.nd, .int .i64 t.md] 47)).alloc (.cells #[] 47)).drew) (B := X.heap.size) (v := .slice (some ⟨(X.heap.size + 1), 0, none⟩) 0 0) (xs := []) (ys := ws.take i) (A := some ⟨g, off, none⟩) (m := i) (c := c) (ho := with_ec (Nat.le_refl X.heap.size) t) (hB := (with_bc (Below.refl X.heap.size X) t).size) (hl := HTL.out) (hr := fun h0 => HTX.out _ (with_bc (Below.refl X.heap.size X) t) h0) (hlim := HLM.out.1) 36)
    go_region_law (first
      | (refine step_append rfl _ _ 36 36 rfl (by simp [Act.eval, Act.put]) (by simp [Act.eval, Act.put]) HAP1a.out ?_; rintro v5 w5 ⟨⟨A5, m5, c5, rfl⟩, ho5, hf5⟩; have HO5 := Lib.hid ho5; have HB5 : Hid (Below X.heap.size X w5) := Lib.hid (fr_lown (with_ba (Below.refl X.heap.size X) t) (with_ea (Nat.le_refl X.heap.size) t) hf5); have HAP2 := Lib.hid (app_w (W := w5.alloc (.cells #[.int .u64 t.num, .int .i64 t.nd, .int .i64 t.md] 47)) (B := X.heap.size) (xs := [] ++ ws.take i) (ys := [t]) (A := some ⟨w5.heap.size, 0, none⟩) (m := 1) (c := 1) (ho := HO5.out.alloc_ _) (hB := (HB5.out.alloc HB5.out.size (.cells #[.int .u64 t.num, .int .i64 t.nd, .int .i64 t.md] 47)).size) (hl := rfl) (hr := fun _ => rd_oneW (heap_alloc_new w5 _)) (hlim := HLM.out.2.1) 36); have HB5' := Lib.hid (HB5.out.alloc HB5.out.size (.cells #[.int .u64 t.num, .int .i64 t.nd, .int .i64 t.md] 47)); have HO5' := Lib.hid (HO5.out.alloc_ (.cells #[.int .u64 t.num, .int .i64 t.nd, .int .i64 t.md] 47)); obtain ⟨s0, s1, s2⟩ := row3c (blk_below HXR.out HB5.out); clear ho5 hf5 HAP1a HAP1b HAP1c)
      | (refine step_append rfl _ _ 36 36 rfl (by simp [Act.eval, Act.put]) (by simp [Act.eval, Act.put]) HAP1b.out ?_; rintro v5 w5 ⟨⟨A5, m5, c5, rfl⟩, ho5, hf5⟩; have HO5 := Lib.hid ho5; have HB5 : Hid (Below X.heap.size X w5) := Lib.hid (fr_lown (with_bb (Below.refl X.heap.size X) t) (with_eb (Nat.le_refl X.heap.size) t) hf5); have HAP2 := Lib.hid (app_w (W := w5) (B := X.heap.size) (xs := [] ++ ws.take i) (ys := [t]) (A := some ⟨(X.heap.size + 1), 0, none⟩) (m := 1) (c := 1) (ho := HO5.out) (hB := HB5.out.size) (hl := rfl) (hr := fun _ => rd_oneW (with_tb t hf5)) (hlim := HLM.out.2.1) 36); have HB5' := HB5; have HO5' := HO5; clear ho5 hf5 HAP1a HAP1b HAP1c)
      | (refine step_append rfl _ _ 36 36 rfl (by simp [Act.eval, Act.put]) (by simp [Act.eval, Act.put]) HAP1c.out ?_; rintro v5 w5 ⟨⟨A5, m5, c5, rfl⟩, ho5, hf5⟩; have HO5 := Lib.hid ho5; have HB5 : Hid (Below X.heap.size X w5) := Lib.hid (fr_lown (with_bc (Below.refl X.heap.size X) t) (with_ec (Nat.le_refl X.heap.size) t) hf5); have HAP2 := Lib.hid (app_w (W := w5) (B := X.heap.size) (xs := [] ++ ws.take i) (ys := [t]) (A := some ⟨X.heap.size, 0, none⟩) (m := 1) (c := 1) (ho := HO5.out) (hB := HB5.out.size) (hl := rfl) (hr := fun _ => rd_oneW (with_tc t hf5)) (hlim := HLM.out.2.1) 36); have HB5' := HB5; have HO5' := HO5; clear ho5 hf5 HAP1a HAP1b HAP1c)
      | (refine step_append rfl _ _ 36 36 rfl (by simp [Act.eval, Act.put]) (by simp [Act.eval, Act.put]) HAP2.out ?_; rintro v6 w6 ⟨⟨A6, m6, c6, rfl⟩, ho6, hf6⟩; have HO6 := Lib.hid ho6; have HB6 : Hid (Below X.heap.size X w6) := Lib.hid (fr_own HB5'.out HO5'.out hf6); have HAP3 := Lib.hid (app_w (W := w6) (B := X.heap.size) (xs := [] ++ ws.take i ++ [t]) (ys := ws.drop i) (A := some ⟨g, off + i * 3, none⟩) (m := n - i) (c := c - i) (ho := HO6.out) (hB := HB6.out.size) (hl := HDL.out) (hr := fun h0 => HDX.out _ HB6.out h0) (hlim := HLM.out.2.2) 36); clear ho6 hf6 HAP2)
      | (refine step_append rfl _ _ 36 36 rfl (by simp [Act.eval, Act.put]) (by simp [Act.eval, Act.put]) HAP3.out ?_; rintro v7 w7 ⟨⟨A7, m7, c7, rfl⟩, ho7, hf7⟩; have HO7 : Hid (LOwn w7 X.heap.size (.slice A7 m7 c7) (ws.take i ++ t :: ws.drop i)) := Lib.hid (with_l ho7); have HB7 : Hid (Below X.heap.size X w7) := Lib.hid (fr_own HB6.out HO6.out hf7); clear ho7 hf7))
    all_goals
      go_wp2_with fail
      go_ret
      exact ⟨_, rfl, Own.base_ HO7.out (fun g hg => Nat.le_trans HXS.out (HO7.out.lt g hg).1), HXB.out.trans (HB7.out.mono HXS.out)⟩
#print axioms with_any
end Go.Proofs.Ytcceankldiafpaa.Lock
