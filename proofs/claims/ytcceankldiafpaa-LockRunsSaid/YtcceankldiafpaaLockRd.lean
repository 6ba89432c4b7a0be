/- The law's give. -/
import Derived.Test.YtcceankldiafpaaLockRc
set_option linter.unusedVariables false
set_option linter.unusedSimpArgs false
set_option linter.unusedSectionVars false
set_option maxRecDepth 100000
namespace Go.Proofs.Ytcceankldiafpaa.Lock
open Go.RowKit Go.WideShapes Go.Deep Go.Proofs.Ytcceankldiafpaa.Mem Go.Proofs.Ytcceankldiafpaa.Open Go.Proofs.Ytcceankldiafpaa.Maps
/-- A lock more, as the law has it. -/
def giveW (has : List Wt) (t : Wt) : List Wt := match has.findIdx? (fun u => sameT u t.tid) with
  | some i => has.set i t
  | none => has.take (has.findIdx fun u => !elder u.tid t.tid) ++ t :: has.drop (has.findIdx fun u => !elder u.tid t.tid)
theorem giveW_new {has : List Wt} {t : Wt} (h : has.findIdx? (fun u => sameT u t.tid) = none) : giveW has t = has.take (has.findIdx fun u => !elder u.tid t.tid) ++ t :: has.drop (has.findIdx fun u => !elder u.tid t.tid) := by unfold giveW; rw [h]
theorem giveW_old {has : List Wt} {t : Wt} {i : Nat} (h : has.findIdx? (fun u => sameT u t.tid) = some i) : giveW has t = has.set i t := by unfold giveW; rw [h]
theorem line_free {w : World} {g : Nat} {cs : Array Value} {t : TypeId} (h : w.heap[g]? = some (.cells cs t (0, 0))) : w.frozen? ⟨g, 0, none⟩ = false ∧ w.frozen? ⟨g, 1, none⟩ = false ∧ w.frozen? ⟨g, 2, none⟩ = false := by
  unfold World.frozen?
  rw [h]
  exact ⟨rfl, rfl, rfl⟩
theorem row3_set {w : World} {g : Nat} {a b c d e f : Value} {t : TypeId} (h : w.heap[g]? = some (.cells #[a, b, c] t (0, 0))) :
    (((w.setCell ⟨g, 0, none⟩ d).setCell ⟨g, 1, none⟩ e).setCell ⟨g, 2, none⟩ f).heap[g]? = some (.cells #[d, e, f] t (0, 0)) := by
  have h1 := heap_setCell_same w g 0 _ t d h
  have h2 := heap_setCell_same _ g 1 _ t e h1
  have h3 := heap_setCell_same _ g 2 _ t f h2
  exact h3
def GiveE (w : World) (k : S) (wv : Value) (L : List Wt) (e : Ending) (w' : World) : Prop := ∃ v, e = .returned (.agg #[.string k, v, wv]) ∧ LOwn w' w.heap.size v L ∧ Below w.heap.size w w'
theorem give_res {w X Z : World} {k : S} {wv v a b c : Value} {L : List Wt} {gl gr : Nat} (ho : LOwn Z X.heap.size v L) (hf : Fr (fun g => g = gl) X Z) (hb : Below w.heap.size w X) (h1 : w.heap.size ≤ gl) (h2 : w.heap.size ≤ gr) (h3 : gl < X.heap.size) (h4 : gr < X.heap.size) (h5 : w.heap.size ≤ X.heap.size) :
    GiveE w k wv L (.returned (.agg #[.string k, v, wv])) (((Z.setCell ⟨gr, 0, none⟩ a).setCell ⟨gr, 1, none⟩ b).setCell ⟨gr, 2, none⟩ c) := by
  have hz : Fr (fun g => g = gl ∨ g = gr) X (((Z.setCell ⟨gr, 0, none⟩ a).setCell ⟨gr, 1, none⟩ b).setCell ⟨gr, 2, none⟩ c) := (((hf.mono (T := fun g => g = gl ∨ g = gr) (fun i _ h => .inl h)).setCell (.inl (.inr rfl)) _).setCell (.inl (.inr rfl)) _).setCell (.inl (.inr rfl)) _
  have hz2 : Fr (fun g => g = gr) Z (((Z.setCell ⟨gr, 0, none⟩ a).setCell ⟨gr, 1, none⟩ b).setCell ⟨gr, 2, none⟩ c) := (((Fr.refl (fun g => g = gr) Z).setCell (.inl rfl) _).setCell (.inl rfl) _).setCell (.inl rfl) _
  refine ⟨v, rfl, ?_, hb.trans (hz.below h5 (fun i _ h => by rcases h with rfl | rfl <;> assumption))⟩
  have h9 : LOwn _ X.heap.size v L := Own.fr ho hz2 (fun g hg e => by have := (ho.lt g hg).1; omega)
  exact Own.base_ h9 (fun g hg => by have := (h9.lt g hg).1; omega)
set_option maxHeartbeats 20000000 in
theorem giveW_any {w : World} {B nh ch nw cw : Nat} {k : S} {Ah Aw : Option Addr} {has : List Wt} (h : Own w B 47 3 (.slice Ah nh ch) nh (wc has)) (hn : nh = has.length) (hlim : nh ≤ 100000) (t : Wt) :
    Calls Try.prog 40 #[.agg #[.string k, .slice Ah nh ch, .slice Aw nw cw], .agg #[.int .u64 t.num, .int .i64 t.nd, .int .i64 t.md]] w (GiveE w k (.slice Aw nw cw) (giveW has t)) := by
  have H := Lib.hid h
  have HNH := Lib.hid hn
  clear h hn
  go_enter Try.func40, Try.ntmps40
  go_upto_region 1 with fail
  obtain ⟨gl, hgl'⟩ : ∃ g, g = w.heap.size := ⟨_, rfl⟩
  obtain ⟨gt, hgt'⟩ : ∃ g, g = w.heap.size + 1 := ⟨_, rfl⟩
  obtain ⟨gr, hgr'⟩ : ∃ g, g = w.heap.size + 1 + 1 := ⟨_, rfl⟩
  obtain ⟨X, hX⟩ : ∃ X, X = ((w.alloc (.cells #[.string k, .slice Ah nh ch, .slice Aw nw cw] 52)).alloc (.cells #[.int .u64 t.num, .int .i64 t.nd, .int .i64 t.md] 47)).alloc (.cells #[.string ⟨#[]⟩, .slice none 0 0, .slice none 0 0] 52) := ⟨_, rfl⟩
  rw [← hX, ← hgr', ← hgt', ← hgl']
  have hs1 : (w.alloc (.cells #[.string k, .slice Ah nh ch, .slice Aw nw cw] 52)).heap.size = w.heap.size + 1 := by simp
  have hs2 : ((w.alloc (.cells #[.string k, .slice Ah nh ch, .slice Aw nw cw] 52)).alloc (.cells #[.int .u64 t.num, .int .i64 t.nd, .int .i64 t.md] 47)).heap.size = w.heap.size + 1 + 1 := by simp
  have hs3 : X.heap.size = w.heap.size + 1 + 1 + 1 := by rw [hX]; simp
  have HXB : Hid (Below w.heap.size w X) := Lib.hid (by rw [hX]; exact (((Below.refl _ _).alloc (Nat.le_refl _) _).alloc (by omega) _).alloc (by omega) _)
  have HXL : Hid (X.heap[gl]? = some (.cells #[.string k, .slice Ah nh ch, .slice Aw nw cw] 52 (0, 0))) := Lib.hid (by rw [hX, hgl']; exact (Below.heap_alloc _ _ _ (by omega)).trans ((Below.heap_alloc _ _ _ (by omega)).trans (heap_alloc_new w _)))
  have HXT : Hid (X.heap[gt]? = some (.cells #[.int .u64 t.num, .int .i64 t.nd, .int .i64 t.md] 47 (0, 0))) := Lib.hid (by rw [hX, hgt']; have h9 := heap_alloc_new (w.alloc (.cells #[.string k, .slice Ah nh ch, .slice Aw nw cw] 52)) (.cells #[.int .u64 t.num, .int .i64 t.nd, .int .i64 t.md] 47); rw [hs1] at h9; exact (Below.heap_alloc _ _ _ (by omega)).trans h9)
  have HXR : Hid (X.heap[gr]? = some (.cells #[.string ⟨#[]⟩, .slice none 0 0, .slice none 0 0] 52 (0, 0))) := Lib.hid (by rw [hX, hgr']; have h9 := heap_alloc_new ((w.alloc (.cells #[.string k, .slice Ah nh ch, .slice Aw nw cw] 52)).alloc (.cells #[.int .u64 t.num, .int .i64 t.nd, .int .i64 t.md] 47)) (.cells #[.string ⟨#[]⟩, .slice none 0 0, .slice none 0 0] 52); rw [hs2] at h9; exact h9)
  have HOX : Hid (Own X B 47 3 (.slice Ah nh ch) nh (wc has)) := Lib.hid (H.out.below HXB.out)
  have hgl0 : w.heap.size ≤ gl := by omega
  have hgr0 : w.heap.size ≤ gr := by omega
  have hgl : gl < X.heap.size := by omega
  have hgr : gr < X.heap.size := by omega
  have hgtl : gt < X.heap.size := by omega
  have hlt3 : w.heap.size ≤ X.heap.size := by omega
  have hne1 : gl ≠ gr := by omega
  have hne2 : gr ≠ gl := by omega
  have hne3 : gl ≠ gt := by omega
  have hne4 : gt ≠ gl := by omega
  have hne5 : gr ≠ gt := by omega
  have hne6 : gt ≠ gr := by omega
  clear hX hgr' hgt' hgl' hs1 hs2 hs3
  have HC : Hid (∀ V, Below X.heap.size X V → (V.cell? ⟨gl, 0, none⟩ = some (.string k) ∧ V.cell? ⟨gl, 1, none⟩ = some (.slice Ah nh ch) ∧ V.cell? ⟨gl, 2, none⟩ = some (.slice Aw nw cw)) ∧ V.cell? ⟨gt, 0, none⟩ = some (.int .u64 t.num) ∧ V.cell? ⟨gt, 1, none⟩ = some (.int .i64 t.nd) ∧ V.cell? ⟨gt, 2, none⟩ = some (.int .i64 t.md)) := Lib.hid (fun V hb => ⟨row3c (blk_below HXL.out hb), row3c (blk_below HXT.out hb)⟩)
  obtain ⟨⟨s0, s1, s2⟩, s3, s4, s5⟩ := HC.out X (Below.refl _ _)
  have HF := Lib.hid (findL_any HNH.out (HOX.out.rd) t.tid)
  cases hf : has.findIdx? (fun u => sameT u t.tid) with
  | some i =>
    obtain ⟨u, hu, he⟩ := find_some hf
    have HFI := Lib.hid hf
    have HU := Lib.hid hu
    have HET := Lib.hid he
    have hfz : firstZ (fun u => sameT u t.tid) has = (i : Int) := by unfold firstZ; rw [hf]
    rw [hfz] at HF
    have hil : i < nh := by rw [HNH.out]; exact (List.getElem?_eq_some_iff.1 hu).1
    clear hfz hf hu he
    have hz : (0 : Int) ≤ (i : Int) := by omega
    have hz1 : (i : Int) < (nh : Int) := by omega
    go_upto_region 3 with (go_at_call 20; refine HF.out.mono ?_; rintro e w1 ⟨rfl, hb1⟩; have HB1 := Lib.hid hb1; clear hb1)
    clear s0 s1 s2 s3 s4 s5 HF
    have hxs := HB1.out.size
    have HRD := Lib.hid ((HOX.out.below HB1.out).rd)
    have HB1' : Hid (Below X.heap.size X (w1.alloc (.cells #[] 47))) := Lib.hid (HB1.out.alloc HB1.out.size _)
    obtain ⟨⟨s0, s1, s2⟩, s3, s4, s5⟩ := HC.out _ HB1'.out
    have HAP := Lib.hid (app_w (W := w1.alloc (.cells #[] 47)) (B := X.heap.size) (v := .slice (some ⟨w1.heap.size, 0, none⟩) 0 0) (xs := []) (ys := has) (A := Ah) (m := nh) (c := ch) (ho := own_e hxs (heap_alloc_new w1 _)) (hB := HB1'.out.size) (hl := HNH.out) (hr := fun h0 => by
      obtain ⟨g, off, c, e, _, _, _, hx⟩ := ((HOX.out.below HB1'.out).rd).cells h0
      injection e with e _ _
      exact ⟨g, off, e, hx⟩) (hlim := by simp; omega) 36)
    go_upto_region 4 with (at_builtin; refine wpL_append rfl _ _ 36 36 rfl rfl rfl HAP.out ?_; rintro v5 w5 ⟨_, ho5, hf5⟩; have ho5 : LOwn w5 X.heap.size v5 has := ho5; obtain ⟨A5, c5, e5, _⟩ := LOwn.form_ ho5; obtain ⟨m5, hm5⟩ : ∃ m, m = (has).length := ⟨_, rfl⟩; rw [← hm5] at e5; subst e5; have HM5 := Lib.hid hm5; clear hm5; have HO5 := Lib.hid ho5; have HB5 : Hid (Below X.heap.size X w5) := Lib.hid (HB1'.out.trans (hf5.below HB1'.out.size (fun g _ e => by have e' : some w1.heap.size = some g := e; injection e' with e'; omega))); obtain ⟨hgl50, hgl51, hgl52⟩ := line_free (blk_below HXL.out HB5.out); obtain ⟨hcl50, hcl51, hcl52⟩ := row3c (blk_below HXL.out HB5.out); clear ho5 hf5)
    obtain ⟨Z, hZ⟩ : ∃ Z, Z = w5.setCell ⟨gl, 1, none⟩ (.slice A5 m5 c5) := ⟨_, rfl⟩
    rw [← hZ]
    have HZL : Hid (Z.heap[gl]? = some (.cells #[.string k, .slice A5 m5 c5, .slice Aw nw cw] 52 (0, 0))) := Lib.hid (by rw [hZ]; have h := heap_setCell_same w5 gl 1 _ 52 (.slice A5 m5 c5) (blk_below HXL.out HB5.out); exact h)
    have HZO : Hid (LOwn Z X.heap.size (.slice A5 m5 c5) has) := Lib.hid (by rw [hZ]; exact Own.fr HO5.out ((Fr.refl (fun g => g = gl) w5).setCell (.inl rfl) _) (fun g hg e => by have := (HO5.out.lt g hg).1; omega))
    have HZR : Hid (Z.heap[gr]? = some (.cells #[.string ⟨#[]⟩, .slice none 0 0, .slice none 0 0] 52 (0, 0))) := Lib.hid (by rw [hZ]; exact ((Fr.refl (fun g => g = gl) w5).setCell (p := ⟨gl, 1, none⟩) (.inl rfl) (.slice A5 m5 c5)).blk (blk_below HXR.out HB5.out) (fun e => by omega))
    have HZT : Hid (Z.heap[gt]? = some (.cells #[.int .u64 t.num, .int .i64 t.nd, .int .i64 t.md] 47 (0, 0))) := Lib.hid (by rw [hZ]; exact ((Fr.refl (fun g => g = gl) w5).setCell (p := ⟨gl, 1, none⟩) (.inl rfl) (.slice A5 m5 c5)).blk (blk_below HXT.out HB5.out) (fun e => by omega))
    have HZB : Hid (Fr (fun g => g = gl) X Z) := Lib.hid (by rw [hZ]; exact (Fr.of_below HB5.out (fun g => g = gl)).setCell (p := ⟨gl, 1, none⟩) (.inl rfl) _)
    clear hZ hgl50 hgl51 hgl52 hcl50 hcl51 hcl52 s0 s1 s2 s3 s4 s5
    have HZO' : Hid (Own Z X.heap.size 47 3 (.slice A5 m5 c5) m5 (wc has)) := Lib.hid (by have h := HZO.out; unfold LOwn at h; rw [← HM5.out] at h; exact h)
    have hm5 : m5 = nh := by rw [HM5.out, HNH.out]
    obtain ⟨g5, o5, cap5, cur5, e5, hg5, hcu5, hn5, _, hsz5, hta5⟩ := HZO'.out.form (by omega)
    injection e5 with e51 _ e52
    subst e51 e52
    have hg5s : g5 < Z.heap.size := (Array.getElem?_eq_some_iff.1 hcu5).1
    have hga : g5 ≠ gl := by omega
    have hgb : gl ≠ g5 := by omega
    have hgc : g5 ≠ gr := by omega
    have hgd : gr ≠ g5 := by omega
    have hge : g5 ≠ gt := by omega
    have hgf : gt ≠ g5 := by omega
    obtain ⟨g9, o9, e9, _, w0, w1', w2⟩ := want_cells HZO'.out.rd HU.out (by omega)
    injection e9 with e9
    injection e9 with e91 e92 _
    subst e91 e92
    have hf5 : Z.frozen? ⟨g5, o5 + i * 3 + 2, none⟩ = false := HZO'.out.frozen (g := g5) rfl _
    obtain ⟨z0, z1, z2⟩ := row3c HZL.out
    obtain ⟨t0, t1, t2⟩ := row3c HZT.out
    have hi5 : (i : Int) < (m5 : Int) := by omega
    have hc63 : m5 ≤ 100000 := by omega
    clear hcu5 hta5
    clear hm5
    go_upto_region 5 with fail
    obtain ⟨Y, hY⟩ : ∃ Y, Y = Z.setCell ⟨g5, o5 + i * 3 + 2, none⟩ (.int .i64 t.md) := ⟨_, rfl⟩
    rw [← hY]
    have HFY : Hid (Fr (fun g => g = g5) Z Y) := Lib.hid (by rw [hY]; exact (Fr.refl (fun g => g = g5) Z).setCell (p := ⟨g5, o5 + i * 3 + 2, none⟩) (.inl rfl) _)
    have HYO : Hid (LOwn Y X.heap.size (.slice (some ⟨g5, o5, none⟩) m5 c5) (giveW has t)) := Lib.hid (by
      have h1 := HZO'.out.set (i * 3 + 2) (.int .i64 t.md)
      rw [wc_set _ _ _ _ HU.out] at h1
      have h2 : (⟨u.num, u.nd, t.md⟩ : Wt) = t := by
        have := HET.out
        unfold Wt.tid at this
        injection this with this1 this2
        rw [this1, this2]
      rw [h2, ← Nat.add_assoc, ← hY] at h1
      unfold LOwn
      rw [giveW_old HFI.out, List.length_set, ← HM5.out]
      exact h1)
    have HYL := Lib.hid (HFY.out.blk HZL.out (fun e => by omega))
    have HYR := Lib.hid (HFY.out.blk HZR.out (fun e => by omega))
    have HYB : Hid (Fr (fun g => g = gl) X Y) := Lib.hid (HZB.out.trans HFY.out (fun i hi e => by omega))
    clear hY z0 z1 z2 t0 t1 t2 w0 w1' w2 hf5 hn5 hsz5
    obtain ⟨z0, z1, z2⟩ := row3c HYL.out
    obtain ⟨y0, y1, y2⟩ := row3c HYR.out
    obtain ⟨x0, x1, x2⟩ := line_free HYR.out
    go_wp2_with fail
    refine bodyPost_ret (results_cell_row rfl _ _ gr 52 _ (0, 0) _ rfl (row3_set HYR.out) Try.underlying52 rfl rfl) rfl ?_
    exact give_res HYO.out HYB.out HXB.out hgl0 hgr0 hgl hgr hlt3
  | none =>
    have HNO := Lib.hid hf
    have hfz : firstZ (fun u => sameT u t.tid) has = -1 := by unfold firstZ; rw [hf]
    rw [hfz] at HF
    clear hfz hf
    go_upto_region 7 with (go_at_call 20; refine HF.out.mono ?_; rintro e w1 ⟨rfl, hb1⟩; have HB1 := Lib.hid hb1; clear hb1)
    clear s0 s1 s2 s3 s4 s5 HF
    go_loopw [6] (fun v wr => ∃ j : Nat, j ≤ nh ∧ v = .int .i64 j ∧ (∀ (i : Nat) (u : Wt), i < j → has[i]? = some u → (!elder u.tid t.tid) = false) ∧ Below X.heap.size X wr) (fun v _ => nh - (intOf v).toNat)
    case atStart => exact ⟨0, Nat.zero_le _, rfl, fun i u h => absurd h (by omega), HB1.out⟩
    case round =>
      obtain ⟨j, hj, rfl, hall, hbl⟩ := hrel
      have HBL := Lib.hid hbl
      have HALL := Lib.hid hall
      have hszr := hbl.size
      clear hall hbl
      by_cases hlt : j < nh
      · obtain ⟨u, hu⟩ : ∃ u, has[j]? = some u := ⟨has[j]'(by rw [← HNH.out]; omega), List.getElem?_eq_getElem _⟩
        have i0 : (0 : Int) ≤ (j : Int) := by omega
        have i1 : (j : Int) < (nh : Int) := by omega
        obtain ⟨gh, offh, rfl, hgh, _⟩ := want_cells HOX.out.rd hu (by omega)
        have HSC : Hid (∀ V, Below X.heap.size X V → V.cell? ⟨gh, offh + j * 3, none⟩ = some (.int .u64 u.num) ∧ V.cell? ⟨gh, offh + j * 3 + 1, none⟩ = some (.int .i64 u.nd)) := Lib.hid (fun V hb => by
          obtain ⟨g', off', e, _, c0, c1, _⟩ := want_cells (HOX.out.rd.below hb) hu (by omega)
          injection e with e
          injection e with e1 e2 _
          subst e1 e2
          exact ⟨c0, c1⟩)
        obtain ⟨re, hre⟩ : ∃ r, r = elder u.tid t.tid := ⟨_, rfl⟩
        have HRE := Lib.hid hre
        have HF2 : Hid (∀ V, Below X.heap.size X V → Calls Try.prog 11 #[.agg #[.int .u64 u.num, .int .i64 u.nd], .agg #[.int .u64 t.num, .int .i64 t.nd]] V fun e w' => e = .returned (.bool re) ∧ Below X.heap.size X w') := Lib.hid (fun V hb => by
          rw [hre]
          exact (elderL_any V u.tid t.tid).mono fun e w' h => ⟨h.1, hb.trans (h.2.mono hb.size)⟩)
        have HUE := Lib.hid hu
        clear hre hu
        go_upto_region 7 with fail
        go_region_held3 (fun V => ((V.cell? ⟨gl, 0, none⟩ = some (.string k) ∧ V.cell? ⟨gl, 1, none⟩ = some (.slice (some ⟨gh, offh, none⟩) nh ch) ∧ V.cell? ⟨gl, 2, none⟩ = some (.slice Aw nw cw)) ∧ V.cell? ⟨gt, 0, none⟩ = some (.int .u64 t.num) ∧ V.cell? ⟨gt, 1, none⟩ = some (.int .i64 t.nd) ∧ V.cell? ⟨gt, 2, none⟩ = some (.int .i64 t.md)) ∧ V.cell? ⟨gh, offh + j * 3, none⟩ = some (.int .u64 u.num) ∧ V.cell? ⟨gh, offh + j * 3 + 1, none⟩ = some (.int .i64 u.nd))
          ((first | (refine both2 HC.out HSC.out ?_; repeat (first | with_reducible exact Below.refl _ _ | exact HBL.out | exact HB2.out | with_reducible refine Below.drew ?_))))
          ((first | (go_at_call 11; refine (HF2.out _ ?_).mono ?_; (repeat (first | with_reducible exact Below.refl _ _ | exact HBL.out | with_reducible refine Below.drew ?_)); rintro e w2 ⟨rfl, hb2⟩; have HB2 := Lib.hid hb2; clear hb2)))
        rename_i hheld
        clear hheld
        cases re with
        | true =>
          go_wp2_with fail
          go_roundw
          case rel => exact ⟨j + 1, by omega, by go_num, fun i v hi hv => by
            by_cases e : i = j
            · subst e
              have : some u = some v := HUE.out.symm.trans hv
              injection this with this
              rw [← this, ← HRE.out]
              rfl
            · exact HALL.out i v (by omega) hv, HB2.out⟩
          case measure => simp [intOf]; omega
        | false =>
          have HIX : Hid (has.findIdx (fun u => !elder u.tid t.tid) = j) := Lib.hid (findIdx_at (by rw [← HNH.out]; omega) HALL.out (.inr ⟨u, HUE.out, by rw [← HRE.out]; rfl⟩))
          have HV := HB2
          obtain ⟨V, hV⟩ : ∃ V, V = w2 := ⟨_, rfl⟩
          rw [← hV] at HV ⊢
          clear HB2 HSC HF2 hV
          go_upto_region 9 with fail
          have HPL : Hid (giveW has t = has.take j ++ t :: has.drop j) := Lib.hid (by rw [giveW_new HNO.out, HIX.out])
          have HOV := Lib.hid (HOX.out.below HV.out)
          have HWI := Lib.hid (with_any HOV.out HNH.out hj (by omega) t)
          rw [← HPL.out] at HWI
          obtain ⟨⟨s0, s1, s2⟩, s3, s4, s5⟩ := HC.out V HV.out
          go_upto_region 10 with (go_at_call 41; refine HWI.out.mono ?_; rintro e w5 ⟨v5, rfl, ho5, hb5⟩; obtain ⟨A5, c5, e5, _⟩ := LOwn.form_ ho5; obtain ⟨m5, hm5⟩ : ∃ m, m = (giveW has t).length := ⟨_, rfl⟩; rw [← hm5] at e5; subst e5; have HM5 := Lib.hid hm5; clear hm5; have HO5 := Lib.hid ho5; have HB5 : Hid (Below X.heap.size X w5) := Lib.hid (HV.out.trans (hb5.mono HV.out.size)); have hb0 := HB5.out; have hgl5 := line_free (blk_below HXL.out hb0); have hcl5 := row3c (blk_below HXL.out hb0); obtain ⟨hcl50, hcl51, hcl52⟩ := hcl5; clear ho5 hb5 hb0)
          clear s0 s1 s2 s3 s4 s5
          have HSZ : Hid (X.heap.size ≤ V.heap.size) := Lib.hid HV.out.size
          have HOW : Hid (LOwn w5 X.heap.size (.slice A5 m5 c5) (giveW has t)) := Lib.hid (Own.base_ HO5.out (fun g hg => Nat.le_trans HSZ.out (HO5.out.lt g hg).1))
          obtain ⟨Z, hZ⟩ : ∃ Z, Z = w5.setCell ⟨gl, 1, none⟩ (.slice A5 m5 c5) := ⟨_, rfl⟩
          rw [← hZ]
          have HZL : Hid (Z.heap[gl]? = some (.cells #[.string k, .slice A5 m5 c5, .slice Aw nw cw] 52 (0, 0))) := Lib.hid (by rw [hZ]; have h := heap_setCell_same w5 gl 1 _ 52 (.slice A5 m5 c5) (blk_below HXL.out HB5.out); exact h)
          have HZO : Hid (LOwn Z X.heap.size (.slice A5 m5 c5) (giveW has t)) := Lib.hid (by rw [hZ]; exact Own.fr HOW.out ((Fr.refl (fun g => g = gl) w5).setCell (.inl rfl) _) (fun g hg e => by have := (HOW.out.lt g hg).1; omega))
          have HZR : Hid (Z.heap[gr]? = some (.cells #[.string ⟨#[]⟩, .slice none 0 0, .slice none 0 0] 52 (0, 0))) := Lib.hid (by rw [hZ]; exact ((Fr.refl (fun g => g = gl) w5).setCell (p := ⟨gl, 1, none⟩) (.inl rfl) (.slice A5 m5 c5)).blk (blk_below HXR.out HB5.out) (fun e => by omega))
          have HZB : Hid (Fr (fun g => g = gl) X Z) := Lib.hid (by rw [hZ]; exact (Fr.of_below HB5.out (fun g => g = gl)).setCell (p := ⟨gl, 1, none⟩) (.inl rfl) _)
          clear hZ hgl5 hcl50 hcl51 hcl52
          obtain ⟨z0, z1, z2⟩ := row3c HZL.out
          obtain ⟨y0, y1, y2⟩ := row3c HZR.out
          obtain ⟨x0, x1, x2⟩ := line_free HZR.out
          go_wp2_with fail
          refine bodyPost_ret (results_cell_row rfl _ _ gr 52 _ (0, 0) _ rfl (row3_set HZR.out) Try.underlying52 rfl rfl) rfl ?_
          exact give_res HZO.out HZB.out HXB.out hgl0 hgr0 hgl hgr hlt3
      · have i1 : ¬ ((j : Int) < (nh : Int)) := by omega
        have i2 : (nh : Int) ≤ (j : Int) := by omega
        have HIX : Hid (has.findIdx (fun u => !elder u.tid t.tid) = j) := Lib.hid (findIdx_at (by rw [← HNH.out]; omega) HALL.out (.inl (by rw [← HNH.out]; omega)))
        obtain ⟨⟨s0, s1, s2⟩, s3, s4, s5⟩ := HC.out wr HBL.out
        go_upto_region 7 with fail
        go_quiet (fail)
        clear s0 s1 s2 s3 s4 s5
        obtain ⟨V, hV⟩ : ∃ V, V = wr.drewN nq := ⟨_, rfl⟩
        have HV : Hid (Below X.heap.size X V) := Lib.hid (by rw [hV]; exact below_drewN HBL.out _)
        rw [← hV]
        clear hV
        go_upto_region 9 with fail
        have HPL : Hid (giveW has t = has.take j ++ t :: has.drop j) := Lib.hid (by rw [giveW_new HNO.out, HIX.out])
        have HOV := Lib.hid (HOX.out.below HV.out)
        have HWI := Lib.hid (with_any HOV.out HNH.out hj (by omega) t)
        rw [← HPL.out] at HWI
        obtain ⟨⟨s0, s1, s2⟩, s3, s4, s5⟩ := HC.out V HV.out
        go_upto_region 10 with (go_at_call 41; refine HWI.out.mono ?_; rintro e w5 ⟨v5, rfl, ho5, hb5⟩; obtain ⟨A5, c5, e5, _⟩ := LOwn.form_ ho5; obtain ⟨m5, hm5⟩ : ∃ m, m = (giveW has t).length := ⟨_, rfl⟩; rw [← hm5] at e5; subst e5; have HM5 := Lib.hid hm5; clear hm5; have HO5 := Lib.hid ho5; have HB5 : Hid (Below X.heap.size X w5) := Lib.hid (HV.out.trans (hb5.mono HV.out.size)); have hb0 := HB5.out; have hgl5 := line_free (blk_below HXL.out hb0); have hcl5 := row3c (blk_below HXL.out hb0); obtain ⟨hcl50, hcl51, hcl52⟩ := hcl5; clear ho5 hb5 hb0)
        clear s0 s1 s2 s3 s4 s5
        have HSZ : Hid (X.heap.size ≤ V.heap.size) := Lib.hid HV.out.size
        have HOW : Hid (LOwn w5 X.heap.size (.slice A5 m5 c5) (giveW has t)) := Lib.hid (Own.base_ HO5.out (fun g hg => Nat.le_trans HSZ.out (HO5.out.lt g hg).1))
        obtain ⟨Z, hZ⟩ : ∃ Z, Z = w5.setCell ⟨gl, 1, none⟩ (.slice A5 m5 c5) := ⟨_, rfl⟩
        rw [← hZ]
        have HZL : Hid (Z.heap[gl]? = some (.cells #[.string k, .slice A5 m5 c5, .slice Aw nw cw] 52 (0, 0))) := Lib.hid (by rw [hZ]; have h := heap_setCell_same w5 gl 1 _ 52 (.slice A5 m5 c5) (blk_below HXL.out HB5.out); exact h)
        have HZO : Hid (LOwn Z X.heap.size (.slice A5 m5 c5) (giveW has t)) := Lib.hid (by rw [hZ]; exact Own.fr HOW.out ((Fr.refl (fun g => g = gl) w5).setCell (.inl rfl) _) (fun g hg e => by have := (HOW.out.lt g hg).1; omega))
        have HZR : Hid (Z.heap[gr]? = some (.cells #[.string ⟨#[]⟩, .slice none 0 0, .slice none 0 0] 52 (0, 0))) := Lib.hid (by rw [hZ]; exact ((Fr.refl (fun g => g = gl) w5).setCell (p := ⟨gl, 1, none⟩) (.inl rfl) (.slice A5 m5 c5)).blk (blk_below HXR.out HB5.out) (fun e => by omega))
        have HZB : Hid (Fr (fun g => g = gl) X Z) := Lib.hid (by rw [hZ]; exact (Fr.of_below HB5.out (fun g => g = gl)).setCell (p := ⟨gl, 1, none⟩) (.inl rfl) _)
        clear hZ hgl5 hcl50 hcl51 hcl52
        obtain ⟨z0, z1, z2⟩ := row3c HZL.out
        obtain ⟨y0, y1, y2⟩ := row3c HZR.out
        obtain ⟨x0, x1, x2⟩ := line_free HZR.out
        go_wp2_with fail
        refine bodyPost_ret (results_cell_row rfl _ _ gr 52 _ (0, 0) _ rfl (row3_set HZR.out) Try.underlying52 rfl rfl) rfl ?_
        exact give_res HZO.out HZB.out HXB.out hgl0 hgr0 hgl hgr hlt3
#print axioms giveW_any
end Go.Proofs.Ytcceankldiafpaa.Lock
