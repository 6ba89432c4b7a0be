/- The law's ask. -/
import Derived.Test.YtcceankldiafpaaLockRd
set_option linter.unusedVariables false
set_option linter.unusedSimpArgs false
set_option linter.unusedSectionVars false
set_option maxRecDepth 100000
namespace Go.Proofs.Ytcceankldiafpaa.Lock
open Go.RowKit Go.WideShapes Go.Deep Go.Proofs.Ytcceankldiafpaa.Mem Go.Proofs.Ytcceankldiafpaa.Open Go.Proofs.Ytcceankldiafpaa.Maps
def hasW (has : List Wt) (p : Int × Int) (m : Int) : Bool := match has.findIdx? (fun t => sameT t p) with
  | some i => decide ((has.getD i ⟨0, 0, 0⟩).md = 2 ∨ (has.getD i ⟨0, 0, 0⟩).md = m)
  | none => false
/-- What Ask does to a line, as the law has it. -/
def askW (l : Line) (p : Int × Int) (m : Int) : Line × Int :=
  if hasW l.1 p m then (l, 1) else
  if hasT l.2 p then (l, 2) else
  if (l.2.drop (placeL l p)).any (youngB m p) then (l, 3) else
  if blocksL l p m = [] then ((giveW l.1 ⟨p.1, p.2, m⟩, l.2), 1) else
  if (blocksL l p m).any (notYoung p) then (l, 3) else
  ((l.1, l.2.take (placeL l p) ++ ⟨p.1, p.2, m⟩ :: l.2.drop (placeL l p)), 2)
def blkB (p : Int × Int) (m : Int) (u : Wt) : Bool := !sameT u p && against u.md m
theorem blk_any (l : Line) (p : Int × Int) (m : Int) : (l.1 ++ l.2.take (placeL l p)).any (blkB p m) = !decide (blocksL l p m = []) := by
  have e : blocksL l p m = (l.1 ++ l.2.take (placeL l p)).filter (blkB p m) := rfl
  rw [e]
  cases h : (l.1 ++ l.2.take (placeL l p)).any (blkB p m) with
  | true =>
    obtain ⟨u, hu, hb⟩ := List.any_eq_true.1 h
    rw [decide_eq_false (fun e => by have := List.mem_filter.2 ⟨hu, hb⟩; rw [e] at this; cases this)]
    rfl
  | false =>
    rw [decide_eq_true (List.filter_eq_nil_iff.2 (fun u hu hb => by have := List.any_eq_true.2 ⟨u, hu, hb⟩; rw [h] at this; cases this))]
    rfl
theorem blk_any2 (l : Line) (p : Int × Int) (m : Int) : (l.1 ++ l.2.take (placeL l p)).any (fun u => blkB p m u && notYoung p u) = (blocksL l p m).any (notYoung p) := by
  have e : blocksL l p m = (l.1 ++ l.2.take (placeL l p)).filter (blkB p m) := rfl
  rw [e, List.any_filter]
theorem LOwn.below_ {X V : World} {B : Nat} {v : Value} {ws : List Wt} (h : LOwn X B v ws) (hb : Below X.heap.size X V) : LOwn V B v ws := Own.below h hb
theorem findL_of {X : World} {B nh ch : Nat} {Ah : Option Addr} {has : List Wt} (hn : nh = has.length) (h : Own X B 47 3 (.slice Ah nh ch) nh (wc has)) (a b : Int) {V : World} (hb : Below X.heap.size X V) {rz : Int} (hr : rz = firstZ (fun u => sameT u (a, b)) has) :
    Calls Try.prog 20 #[.slice Ah nh ch, .agg #[.int .u64 a, .int .i64 b]] V fun e w' => e = .returned (.int .i64 rz) ∧ Below X.heap.size X w' := by
  have h9 := findL_any hn (Own.below h hb).rd (a, b)
  rw [← hr] at h9
  exact h9.mono fun e w' h => ⟨h.1, hb.trans (h.2.mono hb.size)⟩
/-- The rows that a line had. -/
def OldB (a b : Value) (g : Nat) : Prop := a.ownBlock = some g ∨ b.ownBlock = some g
def AskL (O : Nat → Prop) (w : World) (B : Nat) (k : S) (r : Line × Int) (e : Ending) (w' : World) : Prop := ∃ hv wv, e = .returned (.tuple #[.agg #[.string k, hv, wv], .int .i64 r.2]) ∧ LOwn w' B hv r.1.1 ∧ LOwn w' B wv r.1.2 ∧ Below w.heap.size w w' ∧ (∀ g, hv.ownBlock = some g → O g ∨ w.heap.size ≤ g) ∧ (∀ g, wv.ownBlock = some g → O g ∨ w.heap.size ≤ g)
theorem ask_res {O : Nat → Prop} {w X Z : World} {B : Nat} {k : S} {hv wv a b c : Value} {l : Line} {z : Int} {gl gr : Nat} (h1 : LOwn Z B hv l.1) (h2 : LOwn Z B wv l.2) (hf : Fr (fun g => g = gl) X Z) (hb : Below w.heap.size w X) (k1 : w.heap.size ≤ gl) (k2 : w.heap.size ≤ gr) (k3 : gl < X.heap.size) (k4 : gr < X.heap.size) (k5 : w.heap.size ≤ X.heap.size)
    (hO : ∀ g, O g → g < w.heap.size) (a1 : ∀ g, hv.ownBlock = some g → O g ∨ X.heap.size ≤ g) (a2 : ∀ g, wv.ownBlock = some g → O g ∨ X.heap.size ≤ g) :
    AskL O w B k (l, z) (.returned (.tuple #[.agg #[.string k, hv, wv], .int .i64 z])) (((Z.setCell ⟨gr, 0, none⟩ a).setCell ⟨gr, 1, none⟩ b).setCell ⟨gr, 2, none⟩ c) := by
  have hz : Fr (fun g => g = gl ∨ g = gr) X (((Z.setCell ⟨gr, 0, none⟩ a).setCell ⟨gr, 1, none⟩ b).setCell ⟨gr, 2, none⟩ c) := (((hf.mono (T := fun g => g = gl ∨ g = gr) (fun i _ h => .inl h)).setCell (.inl (.inr rfl)) _).setCell (.inl (.inr rfl)) _).setCell (.inl (.inr rfl)) _
  have hz2 : Fr (fun g => g = gr) Z (((Z.setCell ⟨gr, 0, none⟩ a).setCell ⟨gr, 1, none⟩ b).setCell ⟨gr, 2, none⟩ c) := (((Fr.refl (fun g => g = gr) Z).setCell (.inl rfl) _).setCell (.inl rfl) _).setCell (.inl rfl) _
  exact ⟨hv, wv, rfl, Own.fr h1 hz2 (fun g hg e => by rcases a1 g hg with h | h; (have := hO g h; omega); omega), Own.fr h2 hz2 (fun g hg e => by rcases a2 g hg with h | h; (have := hO g h; omega); omega), hb.trans (hz.below k5 (fun i _ h => by rcases h with rfl | rfl <;> assumption)), fun g hg => (a1 g hg).imp id (Nat.le_trans k5), fun g hg => (a2 g hg).imp id (Nat.le_trans k5)⟩
set_option maxHeartbeats 20000000 in
theorem askW_any {w : World} {B nh ch nw cw : Nat} {k : S} {Ah Aw : Option Addr} {has waits : List Wt} (h1 : Own w B 47 3 (.slice Ah nh ch) nh (wc has)) (hn1 : nh = has.length) (h2 : Own w B 47 3 (.slice Aw nw cw) nw (wc waits)) (hn2 : nw = waits.length) (hlim : nh + nw ≤ 50000) (hB : B ≤ w.heap.size) (p : Int × Int) (m : Int) :
    Calls Try.prog 19 #[.agg #[.string k, .slice Ah nh ch, .slice Aw nw cw], .agg #[.int .u64 p.1, .int .i64 p.2], .int .i64 m] w (AskL (OldB (.slice Ah nh ch) (.slice Aw nw cw)) w B k (askW (has, waits) p m)) := by
  obtain ⟨r, hr⟩ : ∃ r, r = askW (has, waits) p m := ⟨_, rfl⟩
  rw [← hr]
  have HR := Lib.hid hr
  have H1 := Lib.hid h1
  have H2 := Lib.hid h2
  have HNH := Lib.hid hn1
  have HNW := Lib.hid hn2
  clear hr hn1 hn2
  have HCW : Hid (nw ≤ cw ∧ cw ≤ maxLen) := Lib.hid (by
    obtain ⟨_, _, e, h9, h8⟩ := Own.slice_ h2
    injection e with _ _ e
    subst e
    exact ⟨h9, h8⟩)
  clear h1 h2
  go_enter Try.func19, Try.ntmps19
  go_upto_region 1 with fail
  obtain ⟨gl, hgl'⟩ : ∃ g, g = w.heap.size := ⟨_, rfl⟩
  obtain ⟨gt, hgt'⟩ : ∃ g, g = w.heap.size + 1 := ⟨_, rfl⟩
  obtain ⟨gr, hgr'⟩ : ∃ g, g = w.heap.size + 1 + 1 := ⟨_, rfl⟩
  obtain ⟨X, hX⟩ : ∃ X, X = ((w.alloc (.cells #[.string k, .slice Ah nh ch, .slice Aw nw cw] 52)).alloc (.cells #[.int .u64 p.1, .int .i64 p.2] 24)).alloc (.cells #[.string ⟨#[]⟩, .slice none 0 0, .slice none 0 0] 52) := ⟨_, rfl⟩
  rw [← hX, ← hgr', ← hgt', ← hgl']
  have hs1 : (w.alloc (.cells #[.string k, .slice Ah nh ch, .slice Aw nw cw] 52)).heap.size = w.heap.size + 1 := by simp
  have hs2 : ((w.alloc (.cells #[.string k, .slice Ah nh ch, .slice Aw nw cw] 52)).alloc (.cells #[.int .u64 p.1, .int .i64 p.2] 24)).heap.size = w.heap.size + 1 + 1 := by simp
  have hs3 : X.heap.size = w.heap.size + 1 + 1 + 1 := by rw [hX]; simp
  have HXB : Hid (Below w.heap.size w X) := Lib.hid (by rw [hX]; exact (((Below.refl _ _).alloc (Nat.le_refl _) _).alloc (by omega) _).alloc (by omega) _)
  have HXL : Hid (X.heap[gl]? = some (.cells #[.string k, .slice Ah nh ch, .slice Aw nw cw] 52 (0, 0))) := Lib.hid (by rw [hX, hgl']; exact (Below.heap_alloc _ _ _ (by omega)).trans ((Below.heap_alloc _ _ _ (by omega)).trans (heap_alloc_new w _)))
  have HXT : Hid (X.heap[gt]? = some (.cells #[.int .u64 p.1, .int .i64 p.2] 24 (0, 0))) := Lib.hid (by rw [hX, hgt']; have h9 := heap_alloc_new (w.alloc (.cells #[.string k, .slice Ah nh ch, .slice Aw nw cw] 52)) (.cells #[.int .u64 p.1, .int .i64 p.2] 24); rw [hs1] at h9; exact (Below.heap_alloc _ _ _ (by omega)).trans h9)
  have HXR : Hid (X.heap[gr]? = some (.cells #[.string ⟨#[]⟩, .slice none 0 0, .slice none 0 0] 52 (0, 0))) := Lib.hid (by rw [hX, hgr']; have h9 := heap_alloc_new ((w.alloc (.cells #[.string k, .slice Ah nh ch, .slice Aw nw cw] 52)).alloc (.cells #[.int .u64 p.1, .int .i64 p.2] 24)) (.cells #[.string ⟨#[]⟩, .slice none 0 0, .slice none 0 0] 52); rw [hs2] at h9; exact h9)
  have HAP : Hid ((∀ g, (Value.slice Ah nh ch).ownBlock = some g → g < w.heap.size ∨ X.heap.size ≤ g) ∧ (∀ g, (Value.slice Aw nw cw).ownBlock = some g → g < w.heap.size ∨ X.heap.size ≤ g)) := Lib.hid ⟨fun g hg => .inl (H1.out.lt g hg).2, fun g hg => .inl (H2.out.lt g hg).2⟩
  have HAO : Hid ((∀ g, OldB (.slice Ah nh ch) (.slice Aw nw cw) g → g < w.heap.size) ∧ (∀ g, (Value.slice Ah nh ch).ownBlock = some g → OldB (.slice Ah nh ch) (.slice Aw nw cw) g ∨ X.heap.size ≤ g) ∧ (∀ g, (Value.slice Aw nw cw).ownBlock = some g → OldB (.slice Ah nh ch) (.slice Aw nw cw) g ∨ X.heap.size ≤ g)) := Lib.hid ⟨fun g hg => by rcases hg with h | h; exact (H1.out.lt g h).2; exact (H2.out.lt g h).2, fun g hg => .inl (.inl hg), fun g hg => .inl (.inr hg)⟩
  have HOH : Hid (Own X B 47 3 (.slice Ah nh ch) nh (wc has)) := Lib.hid (H1.out.below HXB.out)
  have HOW : Hid (Own X B 47 3 (.slice Aw nw cw) nw (wc waits)) := Lib.hid (H2.out.below HXB.out)
  have HLH : Hid (LOwn X B (.slice Ah nh ch) has) := Lib.hid (by unfold LOwn; rw [← HNH.out]; exact HOH.out)
  have HLW : Hid (LOwn X B (.slice Aw nw cw) waits) := Lib.hid (by unfold LOwn; rw [← HNW.out]; exact HOW.out)
  have hgl0 : w.heap.size ≤ gl := by omega
  have hgr0 : w.heap.size ≤ gr := by omega
  have hgl : gl < X.heap.size := by omega
  have hgr : gr < X.heap.size := by omega
  have hgtl : gt < X.heap.size := by omega
  have hlt3 : w.heap.size ≤ X.heap.size := by omega
  have hne1 : gl ≠ gr := by omega
  have hne2 : gr ≠ gl := by omega
  have hne3 : gl ≠ gt := by omega
  have hne4 : gt ≠ gl := by omega
  have hne5 : gr ≠ gt := by omega
  have hne6 : gt ≠ gr := by omega
  clear hX hgr' hgt' hgl' hs1 hs2 hs3
  have HC : Hid (∀ V, Below X.heap.size X V → (V.cell? ⟨gl, 0, none⟩ = some (.string k) ∧ V.cell? ⟨gl, 1, none⟩ = some (.slice Ah nh ch) ∧ V.cell? ⟨gl, 2, none⟩ = some (.slice Aw nw cw)) ∧ V.cell? ⟨gt, 0, none⟩ = some (.int .u64 p.1) ∧ V.cell? ⟨gt, 1, none⟩ = some (.int .i64 p.2)) := Lib.hid (fun V hb => ⟨row3c (blk_below HXL.out hb), row2c (blk_below HXT.out hb)⟩)
  obtain ⟨⟨s0, s1, s2⟩, s3, s4⟩ := HC.out X (Below.refl _ _)
  have HF := Lib.hid (findL_any HNH.out (HOH.out.rd) p)
  cases hf : has.findIdx? (fun u => sameT u p) with
  | some i =>
    obtain ⟨u, hu, he⟩ := find_some hf
    have HU := Lib.hid hu
    have hfz : firstZ (fun u => sameT u p) has = (i : Int) := by unfold firstZ; rw [hf]
    rw [hfz] at HF
    have HHT : Hid (hasT has p = true) := Lib.hid (by unfold hasT; rw [any_first, hfz]; exact decide_eq_true (by omega))
    have hil : i < nh := by rw [HNH.out]; exact (List.getElem?_eq_some_iff.1 hu).1
    have HHS : Hid (hasW has p m = decide (u.md = 2 ∨ u.md = m)) := Lib.hid (by unfold hasW; rw [hf]; simp [List.getD_eq_getElem?_getD, hu])
    clear hfz hu he hf
    have hz : (0 : Int) ≤ (i : Int) := by omega
    have hz1 : (i : Int) < (nh : Int) := by omega
    go_upto_region 2 with (go_at_call 20; refine HF.out.mono ?_; rintro e w1 ⟨rfl, hb1⟩; have HB1 := Lib.hid hb1; clear hb1)
    clear s0 s1 s2 s3 s4 HF
    obtain ⟨g1, o1, e1, _, a0, a1, a2⟩ := want_cells (HOH.out.rd.below HB1.out) HU.out (by omega)
    subst e1
    obtain ⟨⟨s0, s1, s2⟩, s3, s4⟩ := HC.out w1 HB1.out
    obtain ⟨y0, y1, y2⟩ := row3c (blk_below HXR.out HB1.out)
    obtain ⟨x0, x1, x2⟩ := line_free (blk_below HXR.out HB1.out)
    by_cases hm2 : u.md = 2
    · have m2 : (u.md == 2) = true := by simp [hm2]
      have HRET : Hid (r = ((has, waits), 1)) := Lib.hid (by rw [HR.out]; unfold askW; rw [if_pos (by rw [HHS.out]; simp [hm2])])
      clear hm2 s0 s1 s2 s3 s4 y0 y1 y2 x0 x1 x2
      obtain ⟨⟨s0, s1, s2⟩, s3, s4⟩ := HC.out w1 HB1.out
      obtain ⟨y0, y1, y2⟩ := row3c (blk_below HXR.out HB1.out)
      obtain ⟨x0, x1, x2⟩ := line_free (blk_below HXR.out HB1.out)
      go_wp2_with fail
      refine bodyPost_ret (Res.results_row_tmp rfl _ _ (row3_set (blk_below HXR.out HB1.out)) rfl Try.underlying52 rfl rfl) rfl ?_
      rw [HRET.out]
      exact ask_res (HLH.out.below_ HB1.out) (HLW.out.below_ HB1.out) (Fr.of_below HB1.out _) HXB.out hgl0 hgr0 hgl hgr hlt3 HAO.out.1 HAO.out.2.1 HAO.out.2.2
    by_cases hmm : u.md = m
    · have m2 : (u.md == 2) = false := by simp [hm2]
      have m3 : (u.md == m) = true := by simp [hmm]
      have HRET : Hid (r = ((has, waits), 1)) := Lib.hid (by rw [HR.out]; unfold askW; rw [if_pos (by rw [HHS.out]; simp [hmm])])
      clear hm2 hmm s0 s1 s2 s3 s4 y0 y1 y2 x0 x1 x2
      obtain ⟨⟨s0, s1, s2⟩, s3, s4⟩ := HC.out w1 HB1.out
      obtain ⟨y0, y1, y2⟩ := row3c (blk_below HXR.out HB1.out)
      obtain ⟨x0, x1, x2⟩ := line_free (blk_below HXR.out HB1.out)
      go_wp2_with fail
      refine bodyPost_ret (Res.results_row_tmp rfl _ _ (row3_set (blk_below HXR.out HB1.out)) rfl Try.underlying52 rfl rfl) rfl ?_
      rw [HRET.out]
      exact ask_res (HLH.out.below_ HB1.out) (HLW.out.below_ HB1.out) (Fr.of_below HB1.out _) HXB.out hgl0 hgr0 hgl hgr hlt3 HAO.out.1 HAO.out.2.1 HAO.out.2.2
    have m2 : (u.md == 2) = false := by simp [hm2]
    have m3 : (u.md == m) = false := by simp [hmm]
    have HNS : Hid (hasW has p m = false) := Lib.hid (by rw [HHS.out]; simp [hm2, hmm])
    clear hm2 hmm
    go_upto_region 4 with fail
    have HFW := Lib.hid (findL_any HNW.out (HOW.out.below HB1.out).rd p)
    obtain ⟨rw', hrw⟩ : ∃ r, r = firstZ (fun u => sameT u p) waits := ⟨_, rfl⟩
    rw [← hrw] at HFW
    have HHW : Hid (hasT waits p = decide (0 ≤ rw')) := Lib.hid (by unfold hasT; rw [any_first, hrw])
    clear hrw
    go_upto_region 4 with fail
    by_cases hwt : 0 ≤ rw'
    · have HRET : Hid (r = ((has, waits), 2)) := Lib.hid (by rw [HR.out]; unfold askW; rw [if_neg (by rw [HNS.out]; simp), if_pos (by rw [HHW.out]; exact decide_eq_true hwt)])
      clear y0 y1 y2 x0 x1 x2
      go_upto_region 5 with (go_at_call 20; refine HFW.out.mono ?_; rintro e w2 ⟨rfl, hb2⟩; have HB2 : Hid (Below X.heap.size X w2) := Lib.hid (HB1.out.trans (hb2.mono HB1.out.size)); clear hb2)
      clear s0 s1 s2 s3 s4
      obtain ⟨⟨s0, s1, s2⟩, s3, s4⟩ := HC.out w2 HB2.out
      obtain ⟨y0, y1, y2⟩ := row3c (blk_below HXR.out HB2.out)
      obtain ⟨x0, x1, x2⟩ := line_free (blk_below HXR.out HB2.out)
      go_wp2_with fail
      refine bodyPost_ret (Res.results_row_tmp rfl _ _ (row3_set (blk_below HXR.out HB2.out)) rfl Try.underlying52 rfl rfl) rfl ?_
      rw [HRET.out]
      exact ask_res (HLH.out.below_ HB2.out) (HLW.out.below_ HB2.out) (Fr.of_below HB2.out _) HXB.out hgl0 hgr0 hgl hgr hlt3 HAO.out.1 HAO.out.2.1 HAO.out.2.2
    have hwt' : ¬ 0 ≤ rw' := hwt
    have hwt2 : rw' < 0 := by omega
    have HNT : Hid (¬ hasT waits p = true) := Lib.hid (by rw [HHW.out, decide_eq_false hwt]; simp)
    clear y0 y1 y2 x0 x1 x2
    go_upto_region 6 with (go_at_call 20; refine HFW.out.mono ?_; rintro e w2 ⟨rfl, hb2⟩; have HB2 : Hid (Below X.heap.size X w2) := Lib.hid (HB1.out.trans (hb2.mono HB1.out.size)); clear hb2)
    clear HB1 HFW s0 s1 s2 s3 s4
    have HB1 := HB2
    clear HB2
    obtain ⟨⟨s0, s1, s2⟩, s3, s4⟩ := HC.out w2 HB1.out
    obtain ⟨y0, y1, y2⟩ := row3c (blk_below HXR.out HB1.out)
    obtain ⟨x0, x1, x2⟩ := line_free (blk_below HXR.out HB1.out)
    obtain ⟨pl, hpl⟩ : ∃ q, q = placeL (has, waits) p := ⟨_, rfl⟩
    have hple : pl ≤ nw := by rw [hpl, HNW.out]; exact place_le _ _
    have HPLD : Hid (pl = if hasT has p = true then waits.findIdx (fun t => !hasT has t.tid) else waits.length) := Lib.hid (by rw [hpl]; rfl)
    have HPL := Lib.hid hpl
    clear hpl
    obtain ⟨nd, hnd⟩ : ∃ n, n = nw - pl := ⟨_, rfl⟩
    have HND := Lib.hid hnd
    clear hnd
    obtain ⟨L2, hL2⟩ : ∃ L, L = has ++ waits.take pl := ⟨_, rfl⟩
    have HL2D := Lib.hid hL2
    have HL2 : Hid (L2.length = nh + pl) := Lib.hid (by have h9 := hple; rw [HNW.out] at h9; rw [hL2, List.length_append, List.length_take, HNH.out]; omega)
    clear hL2
    have HFA := Lib.hid (fun (a b : Int) (V : World) (hb : Below X.heap.size X V) => findL_of HNH.out HOH.out a b hb rfl)
    go_upto_if 52 with fail
    go_cut [9] from 53 to 71 (fun v9 wx => v9 = .int .i64 pl ∧ Below X.heap.size X wx)
    case first =>
      go_upto_region 9 with fail
      clear s0 s1 s2 s3 s4 y0 y1 y2 x0 x1 x2 hwt hwt' hwt2
      go_loopw [9] (fun v wr => ∃ j : Nat, j ≤ nw ∧ v = .int .i64 j ∧ (∀ (i : Nat) (u : Wt), i < j → waits[i]? = some u → (!hasT has u.tid) = false) ∧ Below X.heap.size X wr) (fun v _ => nw - (intOf v).toNat)
      case atStart => exact ⟨0, Nat.zero_le _, rfl, (fun i u h => absurd h (by omega)), HB1.out⟩
      case round =>
        obtain ⟨j, hj, rfl, hall, hbl⟩ := hrel
        have HBL := Lib.hid hbl
        have HALL := Lib.hid hall
        clear hall hbl
        by_cases hlt : j < nw
        · obtain ⟨t, ht⟩ : ∃ u, waits[j]? = some u := ⟨waits[j]'(by rw [← HNW.out]; omega), List.getElem?_eq_getElem _⟩
          have i0 : (0 : Int) ≤ (j : Int) := by omega
          have i1 : (j : Int) < (nw : Int) := by omega
          obtain ⟨gw, offw, ewa, hgw, _⟩ := want_cells HOW.out.rd ht (by omega)
          subst ewa
          have HSC : Hid (∀ V, Below X.heap.size X V → V.cell? ⟨gw, offw + j * 3, none⟩ = some (.int .u64 t.num) ∧ V.cell? ⟨gw, offw + j * 3 + 1, none⟩ = some (.int .i64 t.nd)) := Lib.hid (fun V hb => by
            obtain ⟨g', off', e, _, c0, c1, _⟩ := want_cells (HOW.out.rd.below hb) ht (by omega)
            injection e with e
            injection e with e1 e2 _
            subst e1 e2
            exact ⟨c0, c1⟩)
          obtain ⟨rz, hrz⟩ : ∃ r, r = firstZ (fun u => sameT u t.tid) has := ⟨_, rfl⟩
          have HRZ : Hid (hasT has t.tid = decide (0 ≤ rz)) := Lib.hid (by unfold hasT; rw [any_first, hrz])
          have HRZ0 : Hid (rz = firstZ (fun u => sameT u (t.num, t.nd)) has) := Lib.hid hrz
          have HTE := Lib.hid ht
          clear hrz ht
          go_upto_region 9 with fail
          go_region_held3 (fun V => ((V.cell? ⟨gl, 0, none⟩ = some (.string k) ∧ V.cell? ⟨gl, 1, none⟩ = some (.slice (some ⟨g1, o1, none⟩) nh ch) ∧ V.cell? ⟨gl, 2, none⟩ = some (.slice (some ⟨gw, offw, none⟩) nw cw)) ∧ V.cell? ⟨gt, 0, none⟩ = some (.int .u64 p.1) ∧ V.cell? ⟨gt, 1, none⟩ = some (.int .i64 p.2)) ∧ V.cell? ⟨gw, offw + j * 3, none⟩ = some (.int .u64 t.num) ∧ V.cell? ⟨gw, offw + j * 3 + 1, none⟩ = some (.int .i64 t.nd))
            ((first | (refine both2 HC.out HSC.out ?_; repeat (first | with_reducible exact Below.refl _ _ | exact HBL.out | exact HB2.out | with_reducible refine Below.drew ?_))))
            ((first | (go_at_call 20; refine (HFA.out _ _ _ ?_).mono ?_; (repeat (first | with_reducible exact Below.refl _ _ | exact HBL.out | with_reducible refine Below.drew ?_)); rintro e w2 ⟨e2, hb2⟩; rw [← HRZ0.out] at e2; subst e2; have HB2 := Lib.hid hb2; clear hb2)))
          rename_i hheld
          clear hheld
          by_cases hr2 : rz < 0
          · have HR2 := Lib.hid hr2
            have hr2' : ¬ 0 ≤ rz := by omega
            go_wp2_with fail
            go_meet
            case rel =>
              refine ⟨?_, HB2.out⟩
              rw [HPLD.out, if_pos HHT.out, findIdx_at (j := j) (by rw [← HNW.out]; omega) HALL.out (.inr ⟨t, HTE.out, by rw [HRZ.out, decide_eq_false (by have := HR2.out; omega)]; rfl⟩)]
          · have hr2' : 0 ≤ rz := by omega
            have HR2 := Lib.hid hr2'
            go_wp2_with fail
            go_roundw
            case rel => exact ⟨j + 1, by omega, by go_num, (fun i u hi hu => by
              by_cases e : i = j
              · subst e
                have : some t = some u := HTE.out.symm.trans hu
                injection this with this
                rw [← this, HRZ.out, decide_eq_true HR2.out]
                rfl
              · exact HALL.out i u (by omega) hu), HB2.out⟩
            case measure => simp [intOf]; omega
        · have i1 : ¬ ((j : Int) < (nw : Int)) := by omega
          obtain ⟨⟨s0, s1, s2⟩, s3, s4⟩ := HC.out wr HBL.out
          go_upto_region 9 with fail
          go_quiet (fail)
          go_wp2_with fail
          go_meet
          case rel =>
            refine ⟨?_, below_drewN HBL.out _⟩
            rw [HPLD.out, if_pos HHT.out, findIdx_at (j := j) (by rw [← HNW.out]; omega) HALL.out (.inl (by rw [← HNW.out]; omega))]
    case rest =>
      obtain ⟨rfl, hb1⟩ := hcut
      obtain ⟨V1, hV1⟩ : ∃ V, V = wc := ⟨_, rfl⟩
      rw [← hV1] at hb1 ⊢
      have HV1 := Lib.hid hb1
      clear hb1 hV1 wc
      go_upto_region 14 with fail
      go_loopw [10, 11, 12] (fun v10 v11 v12 w2 => ∃ (i : Nat) (kp dp : Bool), i ≤ nh + pl ∧ v12 = .int .i64 i ∧ v10 = .bool kp ∧ v11 = .bool dp ∧ kp = (L2.take i).any (blkB p m) ∧ dp = (L2.take i).any (fun u => blkB p m u && notYoung p u) ∧ Below X.heap.size X w2) (fun _ _ v12 _ => nh + pl - (intOf v12).toNat)
      case atStart => exact ⟨0, false, false, Nat.zero_le _, rfl, rfl, rfl, rfl, rfl, HV1.out⟩
      case round =>
        obtain ⟨i, kp, dp, hi, rfl, rfl, rfl, hkp, hdp, hb2⟩ := hrel
        have HKP := Lib.hid hkp
        have HDP := Lib.hid hdp
        have HB2 := Lib.hid hb2
        have hsz2 := hb2.size
        clear hkp hdp hb2
        obtain ⟨⟨s0, s1, s2⟩, s3, s4⟩ := HC.out wr HB2.out
        obtain ⟨y0, y1, y2⟩ := row3c (blk_below HXR.out HB2.out)
        obtain ⟨x0, x1, x2⟩ := line_free (blk_below HXR.out HB2.out)
        by_cases hli : i < nh + pl
        · obtain ⟨u, hu⟩ : ∃ u, L2[i]? = some u := ⟨L2[i]'(by rw [HL2.out]; omega), List.getElem?_eq_getElem _⟩
          have i0 : (0 : Int) ≤ (i : Int) := by omega
          have i1 : (i : Int) < (nh : Int) + (pl : Int) := by omega
          have HTK : Hid (L2.take (i + 1) = L2.take i ++ [u]) := Lib.hid (by rw [List.take_add_one, hu]; rfl)
          have HU := Lib.hid hu
          clear hu
          obtain ⟨gz, hgz⟩ : ∃ g, g = wr.heap.size := ⟨_, rfl⟩
          obtain ⟨Z0, hZ0⟩ : ∃ Y, Y = wr.alloc (.cells #[.int .u64 0, .int .i64 0, .int .i64 0] 47) := ⟨_, rfl⟩
          have HZ0B : Hid (Below wr.heap.size wr Z0) := Lib.hid (by rw [hZ0]; exact (Below.refl _ _).alloc (Nat.le_refl _) _)
          have HZ0R : Hid (Z0.heap[gz]? = some (.cells #[.int .u64 0, .int .i64 0, .int .i64 0] 47 (0, 0))) := Lib.hid (by rw [hZ0, hgz]; exact heap_alloc_new wr _)
          go_upto_region 17 with fail
          rw [← hZ0, ← hgz]
          have HZ0X : Hid (Below X.heap.size X Z0) := Lib.hid (HB2.out.trans (HZ0B.out.mono hsz2))
          have hgzX : X.heap.size ≤ gz := by omega
          obtain ⟨Z, hZ⟩ : ∃ Z, Z = ((Z0.setCell ⟨gz, 0, none⟩ (.int .u64 u.num)).setCell ⟨gz, 1, none⟩ (.int .i64 u.nd)).setCell ⟨gz, 2, none⟩ (.int .i64 u.md) := ⟨_, rfl⟩
          have HZR : Hid (Z.heap[gz]? = some (.cells #[.int .u64 u.num, .int .i64 u.nd, .int .i64 u.md] 47 (0, 0))) := Lib.hid (by rw [hZ]; exact row3_set HZ0R.out)
          have HZX : Hid (Below X.heap.size X Z) := Lib.hid (by rw [hZ]; exact ((((Fr.of_below HZ0X.out (fun g => g = gz)).setCell (p := ⟨gz, 0, none⟩) (.inl rfl) _).setCell (p := ⟨gz, 1, none⟩) (.inl rfl) _).setCell (p := ⟨gz, 2, none⟩) (.inl rfl) _).below (Nat.le_refl _) (fun i hi e => by omega))
          have HZE := Lib.hid hZ
          clear hZ0 hgz hZ s0 s1 s2 s3 s4 y0 y1 y2 x0 x1 x2
          obtain ⟨⟨s0, s1, s2⟩, s3, s4⟩ := HC.out Z0 HZ0X.out
          obtain ⟨y0, y1, y2⟩ := row3c (blk_below HXR.out HZ0X.out)
          obtain ⟨x0, x1, x2⟩ := line_free (blk_below HXR.out HZ0X.out)
          obtain ⟨q0, q1, q2⟩ := row3c HZ0R.out
          obtain ⟨f0, f1, f2⟩ := line_free HZ0R.out
          have hgz1 : gz ≠ gl := by omega
          have hgz2 : gl ≠ gz := by omega
          go_upto_if 86 with fail
          go_cut [9] from 82 to 100 (fun v9 wx => v9 = .int .i64 pl ∧ wx = Z)
          case first =>
            by_cases hih : i < nh
            · have i2 : (i : Int) < (nh : Int) := by omega
              have hu2 : has[i]? = some u := by have h := HU.out; rw [HL2D.out, List.getElem?_append_left (by rw [← HNH.out]; exact hih)] at h; exact h
              obtain ⟨g2, o2, e1, _, a0, a1, a2⟩ := want_cells (HOH.out.rd.below HZ0X.out) hu2 (by omega)
              first | subst e1 | (injection e1 with e1; injection e1 with e11 e12 _; subst e11 e12)
              clear hu2
              go_wp2_with fail
              go_meet
              case rel => exact ⟨rfl, by rw [HZE.out]⟩
            · have i2 : ¬ ((i : Int) < (nh : Int)) := by omega
              have hu2 : waits[i - nh]? = some u := by
                have h := HU.out
                rw [HL2D.out, List.getElem?_append_right (by rw [← HNH.out]; omega), ← HNH.out, List.getElem?_take] at h
                split at h
                · exact h
                · cases h
              obtain ⟨g2, o2, e1, _, a0, a1, a2⟩ := want_cells (HOW.out.rd.below HZ0X.out) hu2 (by omega)
              first | subst e1 | (injection e1 with e1; injection e1 with e11 e12 _; subst e11 e12)
              obtain ⟨q, hq⟩ : ∃ q, q = i - nh := ⟨_, rfl⟩
              rw [← hq] at a0 a1 a2
              have hiq : (i : Int) - (nh : Int) = (q : Int) := by omega
              have hq0 : (0 : Int) ≤ (q : Int) := by omega
              have hq1 : (q : Int) < (nw : Int) := by omega
              clear hu2 hq
              go_wp2_with fail
              go_meet
              case rel => exact ⟨rfl, by rw [HZE.out]⟩
          case rest =>
            obtain ⟨rfl, hwz⟩ := hcut
            rw [hwz]
            clear hwz wc q0 q1 q2 f0 f1 f2 s0 s1 s2 s3 s4 y0 y1 y2 x0 x1 x2
            obtain ⟨d0, d1, d2⟩ := row3c HZR.out
            obtain ⟨⟨s0, s1, s2⟩, s3, s4⟩ := HC.out Z HZX.out
            obtain ⟨y0, y1, y2⟩ := row3c (blk_below HXR.out HZX.out)
            obtain ⟨x0, x1, x2⟩ := line_free (blk_below HXR.out HZX.out)
            obtain ⟨bu, hbu⟩ : ∃ b, b = blkB p m u := ⟨_, rfl⟩
            have HBU : Hid (blkB p m u = bu) := Lib.hid hbu.symm
            clear hbu
            go_upto_region 20 with fail
            go_cut [113] from 101 to 113 (fun v113 wx => v113 = .bool bu ∧ wx = Z)
            case first =>
              by_cases e1 : u.num = p.1
              · by_cases e2 : u.nd = p.2
                · have q1 : (u.num == p.1) = true := by simp [e1]
                  have q2 : (u.nd == p.2) = true := by simp [e2]
                  have hb : bu = false := by rw [← HBU.out]; simp [blkB, sameT, e1, e2]
                  have HB := Lib.hid hb
                  clear e1 e2 hb
                  go_wp2_with fail
                  go_meet
                  case rel => exact ⟨by rw [HB.out], rfl⟩
                · have q1 : (u.num == p.1) = true := by simp [e1]
                  have q2 : (u.nd == p.2) = false := by simp [e2]
                  have hs : sameT u p = false := by simp [sameT, e2]
                  clear e1 e2
                  by_cases hv2 : u.md = 2
                  · have hb : bu = true := by rw [← HBU.out]; simp [blkB, hs, against, hv2]
                    have HB := Lib.hid hb
                    have m2 : (u.md == 2) = true := by simp [hv2]
                    clear hv2 hb hs
                    go_wp2_with fail
                    go_meet
                    case rel => exact ⟨by rw [HB.out], rfl⟩
                  · have m2 : (u.md == 2) = false := by simp [hv2]
                    by_cases hm2 : m = 2
                    · have hb : bu = true := by rw [← HBU.out]; simp [blkB, hs, against, hm2]
                      have HB := Lib.hid hb
                      have m1 : (m == 2) = true := by simp [hm2]
                      clear hv2 hm2 hb hs
                      go_wp2_with fail
                      go_meet
                      case rel => exact ⟨by rw [HB.out], rfl⟩
                    · have hb : bu = false := by rw [← HBU.out]; simp [blkB, hs, against, hv2, hm2]
                      have HB := Lib.hid hb
                      have m1 : (m == 2) = false := by simp [hm2]
                      clear hv2 hm2 hb hs
                      go_wp2_with fail
                      go_meet
                      case rel => exact ⟨by rw [HB.out], rfl⟩
              · have q1 : (u.num == p.1) = false := by simp [e1]
                have hs : sameT u p = false := by simp [sameT, e1]
                clear e1
                by_cases hv2 : u.md = 2
                · have hb : bu = true := by rw [← HBU.out]; simp [blkB, hs, against, hv2]
                  have HB := Lib.hid hb
                  have m2 : (u.md == 2) = true := by simp [hv2]
                  clear hv2 hb hs
                  go_wp2_with fail
                  go_meet
                  case rel => exact ⟨by rw [HB.out], rfl⟩
                · have m2 : (u.md == 2) = false := by simp [hv2]
                  by_cases hm2 : m = 2
                  · have hb : bu = true := by rw [← HBU.out]; simp [blkB, hs, against, hm2]
                    have HB := Lib.hid hb
                    have m1 : (m == 2) = true := by simp [hm2]
                    clear hv2 hm2 hb hs
                    go_wp2_with fail
                    go_meet
                    case rel => exact ⟨by rw [HB.out], rfl⟩
                  · have hb : bu = false := by rw [← HBU.out]; simp [blkB, hs, against, hv2, hm2]
                    have HB := Lib.hid hb
                    have m1 : (m == 2) = false := by simp [hm2]
                    clear hv2 hm2 hb hs
                    go_wp2_with fail
                    go_meet
                    case rel => exact ⟨by rw [HB.out], rfl⟩
            case rest =>
              obtain ⟨rfl, hwz⟩ := hcut
              rw [hwz]
              clear hwz wc
              cases bu with
              | false =>
                go_wp2_with fail
                go_roundw
                case rel => exact ⟨i + 1, kp, dp, by omega, by go_num, rfl, rfl, (by rw [HTK.out, List.any_append, ← HKP.out]; simp [HBU.out]), (by rw [HTK.out, List.any_append, ← HDP.out]; simp [HBU.out]), HZX.out⟩
                case measure => simp [intOf]; omega
              | true =>
                cases dp with
                | true =>
                  go_wp2_with fail
                  go_roundw
                  case rel => exact ⟨i + 1, true, true, by omega, by go_num, rfl, rfl, (by rw [HTK.out, List.any_append]; simp [HBU.out]), (by rw [HTK.out, List.any_append, ← HDP.out]; simp), HZX.out⟩
                  case measure => simp [intOf]; omega
                | false =>
                  obtain ⟨el, hel⟩ : ∃ x, x = elder p u.tid := ⟨_, rfl⟩
                  have HEL : Hid (notYoung p u = !el) := Lib.hid (by rw [hel]; rfl)
                  have HE := Lib.hid (elderL_any Z p u.tid)
                  rw [← hel] at HE
                  unfold Wt.tid at HE
                  dsimp only at HE
                  clear hel
                  go_wp2_with (go_at_call 11; refine HE.out.mono ?_; rintro e w3 ⟨rfl, hb3⟩; have HB3 : Hid (Below X.heap.size X w3) := Lib.hid (HZX.out.trans (hb3.mono HZX.out.size)); clear hb3)
                  go_roundw
                  case rel => exact ⟨i + 1, true, (!el), by omega, by go_num, rfl, rfl, (by rw [HTK.out, List.any_append]; simp [HBU.out]), (by rw [HTK.out, List.any_append, ← HDP.out]; simp [HBU.out, HEL.out]), HB3.out⟩
                  case measure => simp [intOf]; omega
        · obtain rfl : i = nh + pl := by omega
          have HKB : Hid (kp = !decide (blocksL (has, waits) p m = [])) := Lib.hid (by rw [HKP.out, List.take_of_length_le (by rw [HL2.out]; omega), HL2D.out, HPL.out]; exact blk_any (has, waits) p m)
          have HDB : Hid (dp = (blocksL (has, waits) p m).any (notYoung p)) := Lib.hid (by rw [HDP.out, List.take_of_length_le (by rw [HL2.out]; omega), HL2D.out, HPL.out]; exact blk_any2 (has, waits) p m)
          have i1 : ¬ ((nh : Int) + (pl : Int) < (nh : Int) + (pl : Int)) := by omega
          obtain ⟨V, hV⟩ : ∃ V, V = wr := ⟨_, rfl⟩
          rw [← hV] at HB2 ⊢
          rw [← hV] at s0 s1 s2 s3 s4 y0 y1 y2
          clear hV HKP HDP hsz2 x0 x1 x2
          go_upto_region 23 with fail
          go_cut [125, 126, 127] from 122 to 127 (fun v125 v126 v127 wx => (∃ A' c', v125 = .slice A' nd c' ∧ Rd X X.heap.size 3 (.slice A' nd c') nd (wc (waits.drop pl))) ∧ v126 = .int .i64 nd ∧ v127 = .int .i64 0 ∧ wx = V)
          case first =>
            have j1 : (pl : Int) ≤ (nw : Int) := by omega
            have j0 : (0 : Int) ≤ (pl : Int) := by omega
            obtain ⟨hcw, hcm⟩ := HCW.out
            have j2 : (nw : Int) ≤ (cw : Int) := by omega
            by_cases hpn : pl < nw
            · obtain ⟨gw, offw, ewa, _, _⟩ : ∃ g off, Aw = some ⟨g, off, none⟩ ∧ True ∧ True := by
                obtain ⟨g, off, c, e, _⟩ := HOW.out.rd.cells (by omega)
                injection e with e1 _ _
                exact ⟨g, off, e1, trivial, trivial⟩
              subst ewa
              have HRD := Lib.hid (rd_drop HOW.out.rd HNW.out hpn)
              have hcp : ¬ cw = pl := by omega
              have hcp' : ¬ cw ≤ pl := by omega
              have hnd : nw - pl = nd := HND.out.symm
              rw [hnd] at HRD
              go_wp2_with fail
              go_meet
              case rel => exact ⟨⟨_, _, by rw [HND.out], HRD.out⟩, by go_num, rfl, rfl⟩
            · have hpe : nw = pl := by omega
              have HDN : Hid (waits.drop pl = []) := Lib.hid (List.drop_of_length_le (by rw [← HNW.out]; omega))
              have HND0 : Hid (nd = 0) := Lib.hid (by rw [HND.out]; omega)
              clear hpn
              subst hpe
              have hspl : Aw = none ∧ cw = 0 ∧ nw = 0 ∨ ∃ g off, Aw = some ⟨g, off, none⟩ := by
                rcases HOW.out.2 with ⟨e, e0⟩ | ⟨g, off, _, _, e, _⟩
                · injection e with e1 _ e2
                  exact .inl ⟨e1, e2, e0⟩
                · injection e with e1 _ _
                  exact .inr ⟨g, off, e1⟩
              rcases hspl with ⟨rfl, rfl, rfl⟩ | ⟨gw, offw, rfl⟩
              · go_wp2_with fail
                go_meet
                case rel => exact ⟨⟨none, 0, by rw [HND0.out], by rw [HND0.out, HDN.out]; exact rd_none _ (by unfold maxLen; omega)⟩, by rw [HND0.out] <;> rfl, rfl, rfl⟩
              · by_cases hcp : cw = nw
                · subst hcp
                  go_wp2_with fail
                  go_meet
                  case rel => exact ⟨⟨some ⟨gw, offw, none⟩, 0, by rw [HND0.out] <;> simp, by rw [HND0.out, HDN.out]; exact rd_none _ (by unfold maxLen; omega)⟩, by rw [HND0.out] <;> simp, rfl, rfl⟩
                · have hcp' : ¬ cw ≤ nw := by omega
                  unfold maxLen at hcm
                  go_wp2_with fail
                  go_meet
                  case rel => exact ⟨⟨some ⟨gw, offw + nw * 3, none⟩, cw - nw, by rw [HND0.out] <;> simp, by rw [HND0.out, HDN.out]; exact rd_none _ (by unfold maxLen; omega)⟩, by rw [HND0.out] <;> simp, rfl, rfl⟩
          case rest =>
            obtain ⟨⟨A3, c3, rfl, hr3⟩, rfl, rfl, hwz⟩ := hcut
            rw [hwz]
            have HR3 := Lib.hid hr3
            have HDL : Hid (nd = (waits.drop pl).length) := Lib.hid (by rw [HND.out, List.length_drop, HNW.out])
            have hnd5 : nd ≤ 50000 := by rw [HND.out]; omega
            clear hr3 hwz wc s0 s1 s2 s3 s4 y0 y1 y2
            go_upto_region 24 with fail
            go_loopw [127] (fun v wr => ∃ j : Nat, j ≤ nd ∧ v = .int .i64 j ∧ (∀ (i : Nat) (u : Wt), i < j → (waits.drop pl)[i]? = some u → youngB m p u = false) ∧ Below X.heap.size X wr) (fun v _ => nd - (intOf v).toNat)
            case atStart => exact ⟨0, Nat.zero_le _, rfl, (fun i u h => absurd h (by omega)), HB2.out⟩
            case round =>
              clear HB2 i1
              obtain ⟨j, hj, rfl, hall, hbl⟩ := hrel
              have HBL := Lib.hid hbl
              have HALL := Lib.hid hall
              have hszr := hbl.size
              clear hall
              by_cases hlt : j < nd
              · obtain ⟨u, hu⟩ : ∃ u, (waits.drop pl)[j]? = some u := ⟨(waits.drop pl)[j]'(by rw [← HDL.out]; omega), List.getElem?_eq_getElem _⟩
                have j0 : (0 : Int) ≤ (j : Int) := by omega
                have j1 : (j : Int) < (nd : Int) := by omega
                obtain ⟨g3, o3, e3, _, a0, a1, a2⟩ := want_cells (HR3.out.below hbl) hu (by omega)
                subst e3
                have HUE := Lib.hid hu
                clear hu hbl
                obtain ⟨gy, hgy⟩ : ∃ g, g = wr.heap.size := ⟨_, rfl⟩
                obtain ⟨Y, hY⟩ : ∃ Y, Y = wr.alloc (.cells #[.int .u64 u.num, .int .i64 u.nd, .int .i64 u.md] 47) := ⟨_, rfl⟩
                have HYB : Hid (Below wr.heap.size wr Y) := Lib.hid (by rw [hY]; exact (Below.refl _ _).alloc (Nat.le_refl _) _)
                have HYR : Hid (Y.heap[gy]? = some (.cells #[.int .u64 u.num, .int .i64 u.nd, .int .i64 u.md] 47 (0, 0))) := Lib.hid (by rw [hY, hgy]; exact heap_alloc_new wr _)
                go_upto_region 26 with fail
                rw [← hY, ← hgy]
                clear hY hgy a0 a1 a2
                have HYX : Hid (Below X.heap.size X Y) := Lib.hid (HBL.out.trans (HYB.out.mono hszr))
                obtain ⟨d0, d1, d2⟩ := row3c HYR.out
                obtain ⟨⟨s0, s1, s2⟩, s3, s4⟩ := HC.out Y HYX.out
                obtain ⟨y0, y1, y2⟩ := row3c (blk_below HXR.out HYX.out)
                obtain ⟨x0, x1, x2⟩ := line_free (blk_below HXR.out HYX.out)
                obtain ⟨el, hel⟩ : ∃ x, x = elder u.tid p := ⟨_, rfl⟩
                have HEL := Lib.hid hel
                have HE := Lib.hid (elderL_any Y u.tid p)
                rw [← hel] at HE
                unfold Wt.tid at HE
                dsimp only at HE
                clear hel
                by_cases hv2 : u.md = 2
                · have m2 : (u.md == 2) = true := by simp [hv2]
                  have HAG : Hid (against u.md m = true ∧ against m u.md = true) := Lib.hid (by simp [against, hv2])
                  clear hv2
                  cases el with
                  | false =>
                    have HRET : Hid (r = ((has, waits), 3)) := Lib.hid (by
                      rw [HR.out]
                      unfold askW
                      rw [if_neg (by rw [HNS.out]; simp), if_neg HNT.out, ← HPL.out, if_pos (List.any_eq_true.2 ⟨u, List.mem_of_getElem? HUE.out, by unfold youngB; rw [← HEL.out, HAG.out.1]; rfl⟩)])
                    go_upto_region 27 with (go_at_call 11; refine HE.out.mono ?_; rintro e w3 ⟨rfl, hb3⟩; have HB3 : Hid (Below X.heap.size X w3) := Lib.hid (HYX.out.trans (hb3.mono HYX.out.size)); clear hb3)
                    clear s0 s1 s2 s3 s4 y0 y1 y2 x0 x1 x2 d0 d1 d2
                    obtain ⟨⟨s0, s1, s2⟩, s3, s4⟩ := HC.out w3 HB3.out
                    obtain ⟨y0, y1, y2⟩ := row3c (blk_below HXR.out HB3.out)
                    obtain ⟨x0, x1, x2⟩ := line_free (blk_below HXR.out HB3.out)
                    go_wp2_with fail
                    refine bodyPost_ret (Res.results_row_tmp rfl _ _ (row3_set (blk_below HXR.out HB3.out)) rfl Try.underlying52 rfl rfl) rfl ?_
                    rw [HRET.out]
                    exact ask_res (HLH.out.below_ HB3.out) (HLW.out.below_ HB3.out) (Fr.of_below HB3.out _) HXB.out hgl0 hgr0 hgl hgr hlt3 HAO.out.1 HAO.out.2.1 HAO.out.2.2
                  | true =>
                    go_wp2_with (go_at_call 11; refine HE.out.mono ?_; rintro e w3 ⟨rfl, hb3⟩; have HB3 : Hid (Below X.heap.size X w3) := Lib.hid (HYX.out.trans (hb3.mono HYX.out.size)); clear hb3)
                    go_roundw
                    case rel => exact ⟨j + 1, by omega, by go_num, (fun i v hi hv => by
                      by_cases e : i = j
                      · subst e
                        have : some u = some v := HUE.out.symm.trans hv
                        injection this with this
                        rw [← this]; unfold youngB; rw [← HEL.out]; simp
                      · exact HALL.out i v (by omega) hv), HB3.out⟩
                    case measure => simp [intOf]; omega
                · have m2 : (u.md == 2) = false := by simp [hv2]
                  by_cases hm2 : m = 2
                  · have m1 : (m == 2) = true := by simp [hm2]
                    have HAG : Hid (against u.md m = true ∧ against m u.md = true) := Lib.hid (by simp [against, hm2])
                    clear hv2 hm2
                    cases el with
                    | false =>
                      have HRET : Hid (r = ((has, waits), 3)) := Lib.hid (by
                        rw [HR.out]
                        unfold askW
                        rw [if_neg (by rw [HNS.out]; simp), if_neg HNT.out, ← HPL.out, if_pos (List.any_eq_true.2 ⟨u, List.mem_of_getElem? HUE.out, by unfold youngB; rw [← HEL.out, HAG.out.1]; rfl⟩)])
                      go_upto_region 27 with (go_at_call 11; refine HE.out.mono ?_; rintro e w3 ⟨rfl, hb3⟩; have HB3 : Hid (Below X.heap.size X w3) := Lib.hid (HYX.out.trans (hb3.mono HYX.out.size)); clear hb3)
                      clear s0 s1 s2 s3 s4 y0 y1 y2 x0 x1 x2 d0 d1 d2
                      obtain ⟨⟨s0, s1, s2⟩, s3, s4⟩ := HC.out w3 HB3.out
                      obtain ⟨y0, y1, y2⟩ := row3c (blk_below HXR.out HB3.out)
                      obtain ⟨x0, x1, x2⟩ := line_free (blk_below HXR.out HB3.out)
                      go_wp2_with fail
                      refine bodyPost_ret (Res.results_row_tmp rfl _ _ (row3_set (blk_below HXR.out HB3.out)) rfl Try.underlying52 rfl rfl) rfl ?_
                      rw [HRET.out]
                      exact ask_res (HLH.out.below_ HB3.out) (HLW.out.below_ HB3.out) (Fr.of_below HB3.out _) HXB.out hgl0 hgr0 hgl hgr hlt3 HAO.out.1 HAO.out.2.1 HAO.out.2.2
                    | true =>
                      go_wp2_with (go_at_call 11; refine HE.out.mono ?_; rintro e w3 ⟨rfl, hb3⟩; have HB3 : Hid (Below X.heap.size X w3) := Lib.hid (HYX.out.trans (hb3.mono HYX.out.size)); clear hb3)
                      go_roundw
                      case rel => exact ⟨j + 1, by omega, by go_num, (fun i v hi hv => by
                        by_cases e : i = j
                        · subst e
                          have : some u = some v := HUE.out.symm.trans hv
                          injection this with this
                          rw [← this]; unfold youngB; rw [← HEL.out]; simp
                        · exact HALL.out i v (by omega) hv), HB3.out⟩
                      case measure => simp [intOf]; omega
                  · have m1 : (m == 2) = false := by simp [hm2]
                    have HAG : Hid (youngB m p u = false) := Lib.hid (by simp [youngB, against, hv2, hm2])
                    clear hv2 hm2
                    go_wp2_with fail
                    go_roundw
                    case rel => exact ⟨j + 1, by omega, by go_num, (fun i v hi hv => by
                      by_cases e : i = j
                      · subst e
                        have : some u = some v := HUE.out.symm.trans hv
                        injection this with this
                        rw [← this]; exact HAG.out
                      · exact HALL.out i v (by omega) hv), HYX.out⟩
                    case measure => simp [intOf]; omega
              · have j1 : ¬ ((j : Int) < (nd : Int)) := by omega
                have HNY : Hid (¬ (waits.drop pl).any (youngB m p) = true) := Lib.hid (fun h => by
                  obtain ⟨u, hu, e⟩ := List.any_eq_true.1 h
                  obtain ⟨i, hi⟩ := List.getElem?_of_mem hu
                  have := HALL.out i u (by have := (List.getElem?_eq_some_iff.1 hi).1; rw [← HDL.out] at this; omega) hi
                  rw [this] at e
                  cases e)
                clear hbl
                obtain ⟨V3, hV3⟩ : ∃ V, V = wr := ⟨_, rfl⟩
                rw [← hV3] at HBL ⊢
                clear hV3 HALL hszr
                have HBS : Hid (X.heap.size ≤ V3.heap.size) := Lib.hid HBL.out.size
                obtain ⟨⟨s0, s1, s2⟩, s3, s4⟩ := HC.out V3 HBL.out
                obtain ⟨y0, y1, y2⟩ := row3c (blk_below HXR.out HBL.out)
                obtain ⟨x0, x1, x2⟩ := line_free (blk_below HXR.out HBL.out)
                have HBE : Hid (blocksL (has, waits) p m = [] ↔ kp = false) := Lib.hid (by rw [HKB.out]; simp)
                cases kp with
                | false =>
                  have HRET : Hid (r = ((giveW has ⟨p.1, p.2, m⟩, waits), 1)) := Lib.hid (by
                    rw [HR.out]
                    unfold askW
                    rw [if_neg (by rw [HNS.out]; simp), if_neg HNT.out, ← HPL.out, if_neg HNY.out, if_pos (HBE.out.2 rfl)])
                  have HGV := Lib.hid (giveW_any (k := k) (Aw := Aw) (nw := nw) (cw := cw) (HOH.out.below HBL.out) HNH.out (by omega) ⟨p.1, p.2, m⟩)
                  dsimp only at HGV
                  obtain ⟨L, hL⟩ : ∃ L, L = giveW has ⟨p.1, p.2, m⟩ := ⟨_, rfl⟩
                  rw [← hL] at HGV HRET
                  clear hL
                  go_wp2_with (go_at_call 40; refine HGV.out.mono ?_; rintro e w5 ⟨v5, rfl, ho5, hb5⟩; obtain ⟨A5, c5, e5, _⟩ := LOwn.form_ ho5; obtain ⟨m5, hm5⟩ : ∃ m, m = L.length := ⟨_, rfl⟩; rw [← hm5] at e5; subst e5; clear hm5; have HO5 := Lib.hid ho5; have HB5 : Hid (Below X.heap.size X w5) := Lib.hid (HBL.out.trans (hb5.mono HBL.out.size)); obtain ⟨z0, z1, z2⟩ := row3c (blk_below HXR.out HB5.out); obtain ⟨b0, b1, b2⟩ := line_free (blk_below HXR.out HB5.out); clear ho5 hb5 HGV)
                  refine bodyPost_ret (Res.results_row_tmp rfl _ _ (row3_set (blk_below HXR.out HB5.out)) rfl Try.underlying52 rfl rfl) rfl ?_
                  rw [HRET.out]
                  exact ask_res (l := (L, waits)) (Own.base_ HO5.out (fun g hg => by have := (HO5.out.lt g hg).1; have := HBS.out; omega)) (HLW.out.below_ HB5.out) (Fr.of_below HB5.out _) HXB.out hgl0 hgr0 hgl hgr hlt3 HAO.out.1 (fun g hg => .inr (Nat.le_trans HBS.out (HO5.out.lt g hg).1)) HAO.out.2.2
                | true =>
                  have HBN : Hid (¬ blocksL (has, waits) p m = []) := Lib.hid (fun h => by have := HBE.out.1 h; cases this)
                  cases dp with
                  | true =>
                    have HRET : Hid (r = ((has, waits), 3)) := Lib.hid (by
                      rw [HR.out]
                      unfold askW
                      rw [if_neg (by rw [HNS.out]; simp), if_neg HNT.out, ← HPL.out, if_neg HNY.out, if_neg HBN.out, if_pos HDB.out.symm])
                    clear s0 s1 s2 s3 s4 y0 y1 y2 x0 x1 x2
                    obtain ⟨⟨s0, s1, s2⟩, s3, s4⟩ := HC.out V3 HBL.out
                    obtain ⟨y0, y1, y2⟩ := row3c (blk_below HXR.out HBL.out)
                    obtain ⟨x0, x1, x2⟩ := line_free (blk_below HXR.out HBL.out)
                    go_wp2_with fail
                    refine bodyPost_ret (Res.results_row_tmp rfl _ _ (row3_set (blk_below HXR.out HBL.out)) rfl Try.underlying52 rfl rfl) rfl ?_
                    rw [HRET.out]
                    exact ask_res (HLH.out.below_ HBL.out) (HLW.out.below_ HBL.out) (Fr.of_below HBL.out _) HXB.out hgl0 hgr0 hgl hgr hlt3 HAO.out.1 HAO.out.2.1 HAO.out.2.2
                  | false =>
                    have HRET : Hid (r = ((has, waits.take pl ++ ⟨p.1, p.2, m⟩ :: waits.drop pl), 2)) := Lib.hid (by
                      rw [HR.out]
                      unfold askW
                      rw [if_neg (by rw [HNS.out]; simp), if_neg HNT.out, ← HPL.out, if_neg HNY.out, if_neg HBN.out, if_neg (by rw [← HDB.out]; simp)])
                    have HWI := Lib.hid (with_any (HOW.out.below HBL.out) HNW.out hple (by omega) ⟨p.1, p.2, m⟩)
                    dsimp only at HWI
                    obtain ⟨L, hL⟩ : ∃ L, L = waits.take pl ++ ⟨p.1, p.2, m⟩ :: waits.drop pl := ⟨_, rfl⟩
                    rw [← hL] at HWI HRET
                    clear hL
                    go_upto_region 34 with (go_at_call 41; refine HWI.out.mono ?_; rintro e w5 ⟨v5, rfl, ho5, hb5⟩; obtain ⟨A5, c5, e5, _⟩ := LOwn.form_ ho5; obtain ⟨m5, hm5⟩ : ∃ m, m = L.length := ⟨_, rfl⟩; rw [← hm5] at e5; subst e5; clear hm5; have HO5 := Lib.hid ho5; have HB5 : Hid (Below X.heap.size X w5) := Lib.hid (HBL.out.trans (hb5.mono HBL.out.size)); obtain ⟨z0, z1, z2⟩ := row3c (blk_below HXL.out HB5.out); obtain ⟨b0, b1, b2⟩ := line_free (blk_below HXL.out HB5.out); clear ho5 hb5 HWI)
                    clear s0 s1 s2 s3 s4 y0 y1 y2 x0 x1 x2
                    obtain ⟨Z, hZ⟩ : ∃ Z, Z = w5.setCell ⟨gl, 2, none⟩ (.slice A5 m5 c5) := ⟨_, rfl⟩
                    rw [← hZ]
                    have HFZ : Hid (Fr (fun g => g = gl) w5 Z) := Lib.hid (by rw [hZ]; exact (Fr.refl (fun g => g = gl) w5).setCell (p := ⟨gl, 2, none⟩) (.inl rfl) _)
                    have HZL : Hid (Z.heap[gl]? = some (.cells #[.string k, .slice (some ⟨g1, o1, none⟩) nh ch, .slice A5 m5 c5] 52 (0, 0))) := Lib.hid (by rw [hZ]; have h := heap_setCell_same w5 gl 2 _ 52 (.slice A5 m5 c5) (blk_below HXL.out HB5.out); exact h)
                    have HZR := Lib.hid (HFZ.out.blk (blk_below HXR.out HB5.out) (fun e => by omega))
                    have HZB : Hid (Fr (fun g => g = gl) X Z) := Lib.hid ((Fr.of_below HB5.out _).trans HFZ.out (fun i hi e => e))
                    have HZO : Hid (LOwn Z B (.slice A5 m5 c5) L) := Lib.hid (Own.base_ (Own.fr HO5.out HFZ.out (fun g hg e => by have := (HO5.out.lt g hg).1; have := HBS.out; omega)) (fun g hg => by have := (HO5.out.lt g hg).1; have := HBS.out; omega))
                    have HZH : Hid (LOwn Z B (.slice (some ⟨g1, o1, none⟩) nh ch) has) := Lib.hid (Own.fr (HLH.out.below_ HB5.out) HFZ.out (fun g hg e => by have := HAP.out.1 g hg; omega))
                    clear hZ z0 z1 z2 b0 b1 b2
                    obtain ⟨z0, z1, z2⟩ := row3c HZL.out
                    obtain ⟨y0, y1, y2⟩ := row3c HZR.out
                    obtain ⟨x0, x1, x2⟩ := line_free HZR.out
                    go_wp2_with fail
                    refine bodyPost_ret (Res.results_row_tmp rfl _ _ (row3_set HZR.out) rfl Try.underlying52 rfl rfl) rfl ?_
                    rw [HRET.out]
                    exact ask_res (l := (has, L)) HZH.out HZO.out HZB.out HXB.out hgl0 hgr0 hgl hgr hlt3 HAO.out.1 HAO.out.2.1 (fun g hg => .inr (Nat.le_trans HBS.out (HO5.out.lt g hg).1))
  | none =>
    have hfz : firstZ (fun u => sameT u p) has = -1 := by unfold firstZ; rw [hf]
    rw [hfz] at HF
    have HHT : Hid (hasT has p = false) := Lib.hid (by unfold hasT; rw [any_first, hfz]; rfl)
    have HNS : Hid (hasW has p m = false) := Lib.hid (by unfold hasW; rw [hf])
    clear hfz hf
    go_upto_region 4 with (go_at_call 20; refine HF.out.mono ?_; rintro e w1 ⟨rfl, hb1⟩; have HB1 := Lib.hid hb1; clear hb1)
    clear s0 s1 s2 s3 s4 HF
    obtain ⟨⟨s0, s1, s2⟩, s3, s4⟩ := HC.out w1 HB1.out
    obtain ⟨y0, y1, y2⟩ := row3c (blk_below HXR.out HB1.out)
    obtain ⟨x0, x1, x2⟩ := line_free (blk_below HXR.out HB1.out)
    go_upto_region 4 with fail
    have HFW := Lib.hid (findL_any HNW.out (HOW.out.below HB1.out).rd p)
    obtain ⟨rw', hrw⟩ : ∃ r, r = firstZ (fun u => sameT u p) waits := ⟨_, rfl⟩
    rw [← hrw] at HFW
    have HHW : Hid (hasT waits p = decide (0 ≤ rw')) := Lib.hid (by unfold hasT; rw [any_first, hrw])
    clear hrw
    go_upto_region 4 with fail
    by_cases hwt : 0 ≤ rw'
    · have HRET : Hid (r = ((has, waits), 2)) := Lib.hid (by rw [HR.out]; unfold askW; rw [if_neg (by rw [HNS.out]; simp), if_pos (by rw [HHW.out]; exact decide_eq_true hwt)])
      clear y0 y1 y2 x0 x1 x2
      go_upto_region 5 with (go_at_call 20; refine HFW.out.mono ?_; rintro e w2 ⟨rfl, hb2⟩; have HB2 : Hid (Below X.heap.size X w2) := Lib.hid (HB1.out.trans (hb2.mono HB1.out.size)); clear hb2)
      clear s0 s1 s2 s3 s4
      obtain ⟨⟨s0, s1, s2⟩, s3, s4⟩ := HC.out w2 HB2.out
      obtain ⟨y0, y1, y2⟩ := row3c (blk_below HXR.out HB2.out)
      obtain ⟨x0, x1, x2⟩ := line_free (blk_below HXR.out HB2.out)
      go_wp2_with fail
      refine bodyPost_ret (Res.results_row_tmp rfl _ _ (row3_set (blk_below HXR.out HB2.out)) rfl Try.underlying52 rfl rfl) rfl ?_
      rw [HRET.out]
      exact ask_res (HLH.out.below_ HB2.out) (HLW.out.below_ HB2.out) (Fr.of_below HB2.out _) HXB.out hgl0 hgr0 hgl hgr hlt3 HAO.out.1 HAO.out.2.1 HAO.out.2.2
    have hwt' : ¬ 0 ≤ rw' := hwt
    have hwt2 : rw' < 0 := by omega
    have HNT : Hid (¬ hasT waits p = true) := Lib.hid (by rw [HHW.out, decide_eq_false hwt]; simp)
    clear y0 y1 y2 x0 x1 x2
    go_upto_region 6 with (go_at_call 20; refine HFW.out.mono ?_; rintro e w2 ⟨rfl, hb2⟩; have HB2 : Hid (Below X.heap.size X w2) := Lib.hid (HB1.out.trans (hb2.mono HB1.out.size)); clear hb2)
    clear HB1 HFW s0 s1 s2 s3 s4
    have HB1 := HB2
    clear HB2
    obtain ⟨⟨s0, s1, s2⟩, s3, s4⟩ := HC.out w2 HB1.out
    obtain ⟨y0, y1, y2⟩ := row3c (blk_below HXR.out HB1.out)
    obtain ⟨x0, x1, x2⟩ := line_free (blk_below HXR.out HB1.out)
    obtain ⟨pl, hpl⟩ : ∃ q, q = placeL (has, waits) p := ⟨_, rfl⟩
    have hple : pl ≤ nw := by rw [hpl, HNW.out]; exact place_le _ _
    have HPLD : Hid (pl = if hasT has p = true then waits.findIdx (fun t => !hasT has t.tid) else waits.length) := Lib.hid (by rw [hpl]; rfl)
    have HPL := Lib.hid hpl
    clear hpl
    obtain ⟨nd, hnd⟩ : ∃ n, n = nw - pl := ⟨_, rfl⟩
    have HND := Lib.hid hnd
    clear hnd
    obtain ⟨L2, hL2⟩ : ∃ L, L = has ++ waits.take pl := ⟨_, rfl⟩
    have HL2D := Lib.hid hL2
    have HL2 : Hid (L2.length = nh + pl) := Lib.hid (by have h9 := hple; rw [HNW.out] at h9; rw [hL2, List.length_append, List.length_take, HNH.out]; omega)
    clear hL2
    have HFA := Lib.hid (fun (a b : Int) (V : World) (hb : Below X.heap.size X V) => findL_of HNH.out HOH.out a b hb rfl)
    go_upto_if 52 with fail
    go_cut [9] from 53 to 71 (fun v9 wx => v9 = .int .i64 pl ∧ Below X.heap.size X wx)
    case first =>
      go_wp2_with fail
      go_meet
      case rel => exact ⟨by rw [HPLD.out, HHT.out, HNW.out]; rfl, HB1.out⟩
    case rest =>
      obtain ⟨rfl, hb1⟩ := hcut
      obtain ⟨V1, hV1⟩ : ∃ V, V = wc := ⟨_, rfl⟩
      rw [← hV1] at hb1 ⊢
      have HV1 := Lib.hid hb1
      clear hb1 hV1 wc
      go_upto_region 14 with fail
      go_loopw [10, 11, 12] (fun v10 v11 v12 w2 => ∃ (i : Nat) (kp dp : Bool), i ≤ nh + pl ∧ v12 = .int .i64 i ∧ v10 = .bool kp ∧ v11 = .bool dp ∧ kp = (L2.take i).any (blkB p m) ∧ dp = (L2.take i).any (fun u => blkB p m u && notYoung p u) ∧ Below X.heap.size X w2) (fun _ _ v12 _ => nh + pl - (intOf v12).toNat)
      case atStart => exact ⟨0, false, false, Nat.zero_le _, rfl, rfl, rfl, rfl, rfl, HV1.out⟩
      case round =>
        obtain ⟨i, kp, dp, hi, rfl, rfl, rfl, hkp, hdp, hb2⟩ := hrel
        have HKP := Lib.hid hkp
        have HDP := Lib.hid hdp
        have HB2 := Lib.hid hb2
        have hsz2 := hb2.size
        clear hkp hdp hb2
        obtain ⟨⟨s0, s1, s2⟩, s3, s4⟩ := HC.out wr HB2.out
        obtain ⟨y0, y1, y2⟩ := row3c (blk_below HXR.out HB2.out)
        obtain ⟨x0, x1, x2⟩ := line_free (blk_below HXR.out HB2.out)
        by_cases hli : i < nh + pl
        · obtain ⟨u, hu⟩ : ∃ u, L2[i]? = some u := ⟨L2[i]'(by rw [HL2.out]; omega), List.getElem?_eq_getElem _⟩
          have i0 : (0 : Int) ≤ (i : Int) := by omega
          have i1 : (i : Int) < (nh : Int) + (pl : Int) := by omega
          have HTK : Hid (L2.take (i + 1) = L2.take i ++ [u]) := Lib.hid (by rw [List.take_add_one, hu]; rfl)
          have HU := Lib.hid hu
          clear hu
          obtain ⟨gz, hgz⟩ : ∃ g, g = wr.heap.size := ⟨_, rfl⟩
          obtain ⟨Z0, hZ0⟩ : ∃ Y, Y = wr.alloc (.cells #[.int .u64 0, .int .i64 0, .int .i64 0] 47) := ⟨_, rfl⟩
          have HZ0B : Hid (Below wr.heap.size wr Z0) := Lib.hid (by rw [hZ0]; exact (Below.refl _ _).alloc (Nat.le_refl _) _)
          have HZ0R : Hid (Z0.heap[gz]? = some (.cells #[.int .u64 0, .int .i64 0, .int .i64 0] 47 (0, 0))) := Lib.hid (by rw [hZ0, hgz]; exact heap_alloc_new wr _)
          go_upto_region 17 with fail
          rw [← hZ0, ← hgz]
          have HZ0X : Hid (Below X.heap.size X Z0) := Lib.hid (HB2.out.trans (HZ0B.out.mono hsz2))
          have hgzX : X.heap.size ≤ gz := by omega
          obtain ⟨Z, hZ⟩ : ∃ Z, Z = ((Z0.setCell ⟨gz, 0, none⟩ (.int .u64 u.num)).setCell ⟨gz, 1, none⟩ (.int .i64 u.nd)).setCell ⟨gz, 2, none⟩ (.int .i64 u.md) := ⟨_, rfl⟩
          have HZR : Hid (Z.heap[gz]? = some (.cells #[.int .u64 u.num, .int .i64 u.nd, .int .i64 u.md] 47 (0, 0))) := Lib.hid (by rw [hZ]; exact row3_set HZ0R.out)
          have HZX : Hid (Below X.heap.size X Z) := Lib.hid (by rw [hZ]; exact ((((Fr.of_below HZ0X.out (fun g => g = gz)).setCell (p := ⟨gz, 0, none⟩) (.inl rfl) _).setCell (p := ⟨gz, 1, none⟩) (.inl rfl) _).setCell (p := ⟨gz, 2, none⟩) (.inl rfl) _).below (Nat.le_refl _) (fun i hi e => by omega))
          have HZE := Lib.hid hZ
          clear hZ0 hgz hZ s0 s1 s2 s3 s4 y0 y1 y2 x0 x1 x2
          obtain ⟨⟨s0, s1, s2⟩, s3, s4⟩ := HC.out Z0 HZ0X.out
          obtain ⟨y0, y1, y2⟩ := row3c (blk_below HXR.out HZ0X.out)
          obtain ⟨x0, x1, x2⟩ := line_free (blk_below HXR.out HZ0X.out)
          obtain ⟨q0, q1, q2⟩ := row3c HZ0R.out
          obtain ⟨f0, f1, f2⟩ := line_free HZ0R.out
          have hgz1 : gz ≠ gl := by omega
          have hgz2 : gl ≠ gz := by omega
          go_upto_if 86 with fail
          go_cut [9] from 82 to 100 (fun v9 wx => v9 = .int .i64 pl ∧ wx = Z)
          case first =>
            by_cases hih : i < nh
            · have i2 : (i : Int) < (nh : Int) := by omega
              have hu2 : has[i]? = some u := by have h := HU.out; rw [HL2D.out, List.getElem?_append_left (by rw [← HNH.out]; exact hih)] at h; exact h
              obtain ⟨g2, o2, e1, _, a0, a1, a2⟩ := want_cells (HOH.out.rd.below HZ0X.out) hu2 (by omega)
              first | subst e1 | (injection e1 with e1; injection e1 with e11 e12 _; subst e11 e12)
              clear hu2
              go_wp2_with fail
              go_meet
              case rel => exact ⟨rfl, by rw [HZE.out]⟩
            · have i2 : ¬ ((i : Int) < (nh : Int)) := by omega
              have hu2 : waits[i - nh]? = some u := by
                have h := HU.out
                rw [HL2D.out, List.getElem?_append_right (by rw [← HNH.out]; omega), ← HNH.out, List.getElem?_take] at h
                split at h
                · exact h
                · cases h
              obtain ⟨g2, o2, e1, _, a0, a1, a2⟩ := want_cells (HOW.out.rd.below HZ0X.out) hu2 (by omega)
              first | subst e1 | (injection e1 with e1; injection e1 with e11 e12 _; subst e11 e12)
              obtain ⟨q, hq⟩ : ∃ q, q = i - nh := ⟨_, rfl⟩
              rw [← hq] at a0 a1 a2
              have hiq : (i : Int) - (nh : Int) = (q : Int) := by omega
              have hq0 : (0 : Int) ≤ (q : Int) := by omega
              have hq1 : (q : Int) < (nw : Int) := by omega
              clear hu2 hq
              go_wp2_with fail
              go_meet
              case rel => exact ⟨rfl, by rw [HZE.out]⟩
          case rest =>
            obtain ⟨rfl, hwz⟩ := hcut
            rw [hwz]
            clear hwz wc q0 q1 q2 f0 f1 f2 s0 s1 s2 s3 s4 y0 y1 y2 x0 x1 x2
            obtain ⟨d0, d1, d2⟩ := row3c HZR.out
            obtain ⟨⟨s0, s1, s2⟩, s3, s4⟩ := HC.out Z HZX.out
            obtain ⟨y0, y1, y2⟩ := row3c (blk_below HXR.out HZX.out)
            obtain ⟨x0, x1, x2⟩ := line_free (blk_below HXR.out HZX.out)
            obtain ⟨bu, hbu⟩ : ∃ b, b = blkB p m u := ⟨_, rfl⟩
            have HBU : Hid (blkB p m u = bu) := Lib.hid hbu.symm
            clear hbu
            go_upto_region 20 with fail
            go_cut [113] from 101 to 113 (fun v113 wx => v113 = .bool bu ∧ wx = Z)
            case first =>
              by_cases e1 : u.num = p.1
              · by_cases e2 : u.nd = p.2
                · have q1 : (u.num == p.1) = true := by simp [e1]
                  have q2 : (u.nd == p.2) = true := by simp [e2]
                  have hb : bu = false := by rw [← HBU.out]; simp [blkB, sameT, e1, e2]
                  have HB := Lib.hid hb
                  clear e1 e2 hb
                  go_wp2_with fail
                  go_meet
                  case rel => exact ⟨by rw [HB.out], rfl⟩
                · have q1 : (u.num == p.1) = true := by simp [e1]
                  have q2 : (u.nd == p.2) = false := by simp [e2]
                  have hs : sameT u p = false := by simp [sameT, e2]
                  clear e1 e2
                  by_cases hv2 : u.md = 2
                  · have hb : bu = true := by rw [← HBU.out]; simp [blkB, hs, against, hv2]
                    have HB := Lib.hid hb
                    have m2 : (u.md == 2) = true := by simp [hv2]
                    clear hv2 hb hs
                    go_wp2_with fail
                    go_meet
                    case rel => exact ⟨by rw [HB.out], rfl⟩
                  · have m2 : (u.md == 2) = false := by simp [hv2]
                    by_cases hm2 : m = 2
                    · have hb : bu = true := by rw [← HBU.out]; simp [blkB, hs, against, hm2]
                      have HB := Lib.hid hb
                      have m1 : (m == 2) = true := by simp [hm2]
                      clear hv2 hm2 hb hs
                      go_wp2_with fail
                      go_meet
                      case rel => exact ⟨by rw [HB.out], rfl⟩
                    · have hb : bu = false := by rw [← HBU.out]; simp [blkB, hs, against, hv2, hm2]
                      have HB := Lib.hid hb
                      have m1 : (m == 2) = false := by simp [hm2]
                      clear hv2 hm2 hb hs
                      go_wp2_with fail
                      go_meet
                      case rel => exact ⟨by rw [HB.out], rfl⟩
              · have q1 : (u.num == p.1) = false := by simp [e1]
                have hs : sameT u p = false := by simp [sameT, e1]
                clear e1
                by_cases hv2 : u.md = 2
                · have hb : bu = true := by rw [← HBU.out]; simp [blkB, hs, against, hv2]
                  have HB := Lib.hid hb
                  have m2 : (u.md == 2) = true := by simp [hv2]
                  clear hv2 hb hs
                  go_wp2_with fail
                  go_meet
                  case rel => exact ⟨by rw [HB.out], rfl⟩
                · have m2 : (u.md == 2) = false := by simp [hv2]
                  by_cases hm2 : m = 2
                  · have hb : bu = true := by rw [← HBU.out]; simp [blkB, hs, against, hm2]
                    have HB := Lib.hid hb
                    have m1 : (m == 2) = true := by simp [hm2]
                    clear hv2 hm2 hb hs
                    go_wp2_with fail
                    go_meet
                    case rel => exact ⟨by rw [HB.out], rfl⟩
                  · have hb : bu = false := by rw [← HBU.out]; simp [blkB, hs, against, hv2, hm2]
                    have HB := Lib.hid hb
                    have m1 : (m == 2) = false := by simp [hm2]
                    clear hv2 hm2 hb hs
                    go_wp2_with fail
                    go_meet
                    case rel => exact ⟨by rw [HB.out], rfl⟩
            case rest =>
              obtain ⟨rfl, hwz⟩ := hcut
              rw [hwz]
              clear hwz wc
              cases bu with
              | false =>
                go_wp2_with fail
                go_roundw
                case rel => exact ⟨i + 1, kp, dp, by omega, by go_num, rfl, rfl, (by rw [HTK.out, List.any_append, ← HKP.out]; simp [HBU.out]), (by rw [HTK.out, List.any_append, ← HDP.out]; simp [HBU.out]), HZX.out⟩
                case measure => simp [intOf]; omega
              | true =>
                cases dp with
                | true =>
                  go_wp2_with fail
                  go_roundw
                  case rel => exact ⟨i + 1, true, true, by omega, by go_num, rfl, rfl, (by rw [HTK.out, List.any_append]; simp [HBU.out]), (by rw [HTK.out, List.any_append, ← HDP.out]; simp), HZX.out⟩
                  case measure => simp [intOf]; omega
                | false =>
                  obtain ⟨el, hel⟩ : ∃ x, x = elder p u.tid := ⟨_, rfl⟩
                  have HEL : Hid (notYoung p u = !el) := Lib.hid (by rw [hel]; rfl)
                  have HE := Lib.hid (elderL_any Z p u.tid)
                  rw [← hel] at HE
                  unfold Wt.tid at HE
                  dsimp only at HE
                  clear hel
                  go_wp2_with (go_at_call 11; refine HE.out.mono ?_; rintro e w3 ⟨rfl, hb3⟩; have HB3 : Hid (Below X.heap.size X w3) := Lib.hid (HZX.out.trans (hb3.mono HZX.out.size)); clear hb3)
                  go_roundw
                  case rel => exact ⟨i + 1, true, (!el), by omega, by go_num, rfl, rfl, (by rw [HTK.out, List.any_append]; simp [HBU.out]), (by rw [HTK.out, List.any_append, ← HDP.out]; simp [HBU.out, HEL.out]), HB3.out⟩
                  case measure => simp [intOf]; omega
        · obtain rfl : i = nh + pl := by omega
          have HKB : Hid (kp = !decide (blocksL (has, waits) p m = [])) := Lib.hid (by rw [HKP.out, List.take_of_length_le (by rw [HL2.out]; omega), HL2D.out, HPL.out]; exact blk_any (has, waits) p m)
          have HDB : Hid (dp = (blocksL (has, waits) p m).any (notYoung p)) := Lib.hid (by rw [HDP.out, List.take_of_length_le (by rw [HL2.out]; omega), HL2D.out, HPL.out]; exact blk_any2 (has, waits) p m)
          have i1 : ¬ ((nh : Int) + (pl : Int) < (nh : Int) + (pl : Int)) := by omega
          obtain ⟨V, hV⟩ : ∃ V, V = wr := ⟨_, rfl⟩
          rw [← hV] at HB2 ⊢
          rw [← hV] at s0 s1 s2 s3 s4 y0 y1 y2
          clear hV HKP HDP hsz2 x0 x1 x2
          go_upto_region 23 with fail
          go_cut [125, 126, 127] from 122 to 127 (fun v125 v126 v127 wx => (∃ A' c', v125 = .slice A' nd c' ∧ Rd X X.heap.size 3 (.slice A' nd c') nd (wc (waits.drop pl))) ∧ v126 = .int .i64 nd ∧ v127 = .int .i64 0 ∧ wx = V)
          case first =>
            have j1 : (pl : Int) ≤ (nw : Int) := by omega
            have j0 : (0 : Int) ≤ (pl : Int) := by omega
            obtain ⟨hcw, hcm⟩ := HCW.out
            have j2 : (nw : Int) ≤ (cw : Int) := by omega
            by_cases hpn : pl < nw
            · obtain ⟨gw, offw, ewa, _, _⟩ : ∃ g off, Aw = some ⟨g, off, none⟩ ∧ True ∧ True := by
                obtain ⟨g, off, c, e, _⟩ := HOW.out.rd.cells (by omega)
                injection e with e1 _ _
                exact ⟨g, off, e1, trivial, trivial⟩
              subst ewa
              have HRD := Lib.hid (rd_drop HOW.out.rd HNW.out hpn)
              have hcp : ¬ cw = pl := by omega
              have hcp' : ¬ cw ≤ pl := by omega
              have hnd : nw - pl = nd := HND.out.symm
              rw [hnd] at HRD
              go_wp2_with fail
              go_meet
              case rel => exact ⟨⟨_, _, by rw [HND.out], HRD.out⟩, by go_num, rfl, rfl⟩
            · have hpe : nw = pl := by omega
              have HDN : Hid (waits.drop pl = []) := Lib.hid (List.drop_of_length_le (by rw [← HNW.out]; omega))
              have HND0 : Hid (nd = 0) := Lib.hid (by rw [HND.out]; omega)
              clear hpn
              subst hpe
              have hspl : Aw = none ∧ cw = 0 ∧ nw = 0 ∨ ∃ g off, Aw = some ⟨g, off, none⟩ := by
                rcases HOW.out.2 with ⟨e, e0⟩ | ⟨g, off, _, _, e, _⟩
                · injection e with e1 _ e2
                  exact .inl ⟨e1, e2, e0⟩
                · injection e with e1 _ _
                  exact .inr ⟨g, off, e1⟩
              rcases hspl with ⟨rfl, rfl, rfl⟩ | ⟨gw, offw, rfl⟩
              · go_wp2_with fail
                go_meet
                case rel => exact ⟨⟨none, 0, by rw [HND0.out], by rw [HND0.out, HDN.out]; exact rd_none _ (by unfold maxLen; omega)⟩, by rw [HND0.out] <;> rfl, rfl, rfl⟩
              · by_cases hcp : cw = nw
                · subst hcp
                  go_wp2_with fail
                  go_meet
                  case rel => exact ⟨⟨some ⟨gw, offw, none⟩, 0, by rw [HND0.out] <;> simp, by rw [HND0.out, HDN.out]; exact rd_none _ (by unfold maxLen; omega)⟩, by rw [HND0.out] <;> simp, rfl, rfl⟩
                · have hcp' : ¬ cw ≤ nw := by omega
                  unfold maxLen at hcm
                  go_wp2_with fail
                  go_meet
                  case rel => exact ⟨⟨some ⟨gw, offw + nw * 3, none⟩, cw - nw, by rw [HND0.out] <;> simp, by rw [HND0.out, HDN.out]; exact rd_none _ (by unfold maxLen; omega)⟩, by rw [HND0.out] <;> simp, rfl, rfl⟩
          case rest =>
            obtain ⟨⟨A3, c3, rfl, hr3⟩, rfl, rfl, hwz⟩ := hcut
            rw [hwz]
            have HR3 := Lib.hid hr3
            have HDL : Hid (nd = (waits.drop pl).length) := Lib.hid (by rw [HND.out, List.length_drop, HNW.out])
            have hnd5 : nd ≤ 50000 := by rw [HND.out]; omega
            clear hr3 hwz wc s0 s1 s2 s3 s4 y0 y1 y2
            go_upto_region 24 with fail
            go_loopw [127] (fun v wr => ∃ j : Nat, j ≤ nd ∧ v = .int .i64 j ∧ (∀ (i : Nat) (u : Wt), i < j → (waits.drop pl)[i]? = some u → youngB m p u = false) ∧ Below X.heap.size X wr) (fun v _ => nd - (intOf v).toNat)
            case atStart => exact ⟨0, Nat.zero_le _, rfl, (fun i u h => absurd h (by omega)), HB2.out⟩
            case round =>
              clear HB2 i1
              obtain ⟨j, hj, rfl, hall, hbl⟩ := hrel
              have HBL := Lib.hid hbl
              have HALL := Lib.hid hall
              have hszr := hbl.size
              clear hall
              by_cases hlt : j < nd
              · obtain ⟨u, hu⟩ : ∃ u, (waits.drop pl)[j]? = some u := ⟨(waits.drop pl)[j]'(by rw [← HDL.out]; omega), List.getElem?_eq_getElem _⟩
                have j0 : (0 : Int) ≤ (j : Int) := by omega
                have j1 : (j : Int) < (nd : Int) := by omega
                obtain ⟨g3, o3, e3, _, a0, a1, a2⟩ := want_cells (HR3.out.below hbl) hu (by omega)
                subst e3
                have HUE := Lib.hid hu
                clear hu hbl
                obtain ⟨gy, hgy⟩ : ∃ g, g = wr.heap.size := ⟨_, rfl⟩
                obtain ⟨Y, hY⟩ : ∃ Y, Y = wr.alloc (.cells #[.int .u64 u.num, .int .i64 u.nd, .int .i64 u.md] 47) := ⟨_, rfl⟩
                have HYB : Hid (Below wr.heap.size wr Y) := Lib.hid (by rw [hY]; exact (Below.refl _ _).alloc (Nat.le_refl _) _)
                have HYR : Hid (Y.heap[gy]? = some (.cells #[.int .u64 u.num, .int .i64 u.nd, .int .i64 u.md] 47 (0, 0))) := Lib.hid (by rw [hY, hgy]; exact heap_alloc_new wr _)
                go_upto_region 26 with fail
                rw [← hY, ← hgy]
                clear hY hgy a0 a1 a2
                have HYX : Hid (Below X.heap.size X Y) := Lib.hid (HBL.out.trans (HYB.out.mono hszr))
                obtain ⟨d0, d1, d2⟩ := row3c HYR.out
                obtain ⟨⟨s0, s1, s2⟩, s3, s4⟩ := HC.out Y HYX.out
                obtain ⟨y0, y1, y2⟩ := row3c (blk_below HXR.out HYX.out)
                obtain ⟨x0, x1, x2⟩ := line_free (blk_below HXR.out HYX.out)
                obtain ⟨el, hel⟩ : ∃ x, x = elder u.tid p := ⟨_, rfl⟩
                have HEL := Lib.hid hel
                have HE := Lib.hid (elderL_any Y u.tid p)
                rw [← hel] at HE
                unfold Wt.tid at HE
                dsimp only at HE
                clear hel
                by_cases hv2 : u.md = 2
                · have m2 : (u.md == 2) = true := by simp [hv2]
                  have HAG : Hid (against u.md m = true ∧ against m u.md = true) := Lib.hid (by simp [against, hv2])
                  clear hv2
                  cases el with
                  | false =>
                    have HRET : Hid (r = ((has, waits), 3)) := Lib.hid (by
                      rw [HR.out]
                      unfold askW
                      rw [if_neg (by rw [HNS.out]; simp), if_neg HNT.out, ← HPL.out, if_pos (List.any_eq_true.2 ⟨u, List.mem_of_getElem? HUE.out, by unfold youngB; rw [← HEL.out, HAG.out.1]; rfl⟩)])
                    go_upto_region 27 with (go_at_call 11; refine HE.out.mono ?_; rintro e w3 ⟨rfl, hb3⟩; have HB3 : Hid (Below X.heap.size X w3) := Lib.hid (HYX.out.trans (hb3.mono HYX.out.size)); clear hb3)
                    clear s0 s1 s2 s3 s4 y0 y1 y2 x0 x1 x2 d0 d1 d2
                    obtain ⟨⟨s0, s1, s2⟩, s3, s4⟩ := HC.out w3 HB3.out
                    obtain ⟨y0, y1, y2⟩ := row3c (blk_below HXR.out HB3.out)
                    obtain ⟨x0, x1, x2⟩ := line_free (blk_below HXR.out HB3.out)
                    go_wp2_with fail
                    refine bodyPost_ret (Res.results_row_tmp rfl _ _ (row3_set (blk_below HXR.out HB3.out)) rfl Try.underlying52 rfl rfl) rfl ?_
                    rw [HRET.out]
                    exact ask_res (HLH.out.below_ HB3.out) (HLW.out.below_ HB3.out) (Fr.of_below HB3.out _) HXB.out hgl0 hgr0 hgl hgr hlt3 HAO.out.1 HAO.out.2.1 HAO.out.2.2
                  | true =>
                    go_wp2_with (go_at_call 11; refine HE.out.mono ?_; rintro e w3 ⟨rfl, hb3⟩; have HB3 : Hid (Below X.heap.size X w3) := Lib.hid (HYX.out.trans (hb3.mono HYX.out.size)); clear hb3)
                    go_roundw
                    case rel => exact ⟨j + 1, by omega, by go_num, (fun i v hi hv => by
                      by_cases e : i = j
                      · subst e
                        have : some u = some v := HUE.out.symm.trans hv
                        injection this with this
                        rw [← this]; unfold youngB; rw [← HEL.out]; simp
                      · exact HALL.out i v (by omega) hv), HB3.out⟩
                    case measure => simp [intOf]; omega
                · have m2 : (u.md == 2) = false := by simp [hv2]
                  by_cases hm2 : m = 2
                  · have m1 : (m == 2) = true := by simp [hm2]
                    have HAG : Hid (against u.md m = true ∧ against m u.md = true) := Lib.hid (by simp [against, hm2])
                    clear hv2 hm2
                    cases el with
                    | false =>
                      have HRET : Hid (r = ((has, waits), 3)) := Lib.hid (by
                        rw [HR.out]
                        unfold askW
                        rw [if_neg (by rw [HNS.out]; simp), if_neg HNT.out, ← HPL.out, if_pos (List.any_eq_true.2 ⟨u, List.mem_of_getElem? HUE.out, by unfold youngB; rw [← HEL.out, HAG.out.1]; rfl⟩)])
                      go_upto_region 27 with (go_at_call 11; refine HE.out.mono ?_; rintro e w3 ⟨rfl, hb3⟩; have HB3 : Hid (Below X.heap.size X w3) := Lib.hid (HYX.out.trans (hb3.mono HYX.out.size)); clear hb3)
                      clear s0 s1 s2 s3 s4 y0 y1 y2 x0 x1 x2 d0 d1 d2
                      obtain ⟨⟨s0, s1, s2⟩, s3, s4⟩ := HC.out w3 HB3.out
                      obtain ⟨y0, y1, y2⟩ := row3c (blk_below HXR.out HB3.out)
                      obtain ⟨x0, x1, x2⟩ := line_free (blk_below HXR.out HB3.out)
                      go_wp2_with fail
                      refine bodyPost_ret (Res.results_row_tmp rfl _ _ (row3_set (blk_below HXR.out HB3.out)) rfl Try.underlying52 rfl rfl) rfl ?_
                      rw [HRET.out]
                      exact ask_res (HLH.out.below_ HB3.out) (HLW.out.below_ HB3.out) (Fr.of_below HB3.out _) HXB.out hgl0 hgr0 hgl hgr hlt3 HAO.out.1 HAO.out.2.1 HAO.out.2.2
                    | true =>
                      go_wp2_with (go_at_call 11; refine HE.out.mono ?_; rintro e w3 ⟨rfl, hb3⟩; have HB3 : Hid (Below X.heap.size X w3) := Lib.hid (HYX.out.trans (hb3.mono HYX.out.size)); clear hb3)
                      go_roundw
                      case rel => exact ⟨j + 1, by omega, by go_num, (fun i v hi hv => by
                        by_cases e : i = j
                        · subst e
                          have : some u = some v := HUE.out.symm.trans hv
                          injection this with this
                          rw [← this]; unfold youngB; rw [← HEL.out]; simp
                        · exact HALL.out i v (by omega) hv), HB3.out⟩
                      case measure => simp [intOf]; omega
                  · have m1 : (m == 2) = false := by simp [hm2]
                    have HAG : Hid (youngB m p u = false) := Lib.hid (by simp [youngB, against, hv2, hm2])
                    clear hv2 hm2
                    go_wp2_with fail
                    go_roundw
                    case rel => exact ⟨j + 1, by omega, by go_num, (fun i v hi hv => by
                      by_cases e : i = j
                      · subst e
                        have : some u = some v := HUE.out.symm.trans hv
                        injection this with this
                        rw [← this]; exact HAG.out
                      · exact HALL.out i v (by omega) hv), HYX.out⟩
                    case measure => simp [intOf]; omega
              · have j1 : ¬ ((j : Int) < (nd : Int)) := by omega
                have HNY : Hid (¬ (waits.drop pl).any (youngB m p) = true) := Lib.hid (fun h => by
                  obtain ⟨u, hu, e⟩ := List.any_eq_true.1 h
                  obtain ⟨i, hi⟩ := List.getElem?_of_mem hu
                  have := HALL.out i u (by have := (List.getElem?_eq_some_iff.1 hi).1; rw [← HDL.out] at this; omega) hi
                  rw [this] at e
                  cases e)
                clear hbl
                obtain ⟨V3, hV3⟩ : ∃ V, V = wr := ⟨_, rfl⟩
                rw [← hV3] at HBL ⊢
                clear hV3 HALL hszr
                have HBS : Hid (X.heap.size ≤ V3.heap.size) := Lib.hid HBL.out.size
                obtain ⟨⟨s0, s1, s2⟩, s3, s4⟩ := HC.out V3 HBL.out
                obtain ⟨y0, y1, y2⟩ := row3c (blk_below HXR.out HBL.out)
                obtain ⟨x0, x1, x2⟩ := line_free (blk_below HXR.out HBL.out)
                have HBE : Hid (blocksL (has, waits) p m = [] ↔ kp = false) := Lib.hid (by rw [HKB.out]; simp)
                cases kp with
                | false =>
                  have HRET : Hid (r = ((giveW has ⟨p.1, p.2, m⟩, waits), 1)) := Lib.hid (by
                    rw [HR.out]
                    unfold askW
                    rw [if_neg (by rw [HNS.out]; simp), if_neg HNT.out, ← HPL.out, if_neg HNY.out, if_pos (HBE.out.2 rfl)])
                  have HGV := Lib.hid (giveW_any (k := k) (Aw := Aw) (nw := nw) (cw := cw) (HOH.out.below HBL.out) HNH.out (by omega) ⟨p.1, p.2, m⟩)
                  dsimp only at HGV
                  obtain ⟨L, hL⟩ : ∃ L, L = giveW has ⟨p.1, p.2, m⟩ := ⟨_, rfl⟩
                  rw [← hL] at HGV HRET
                  clear hL
                  go_wp2_with (go_at_call 40; refine HGV.out.mono ?_; rintro e w5 ⟨v5, rfl, ho5, hb5⟩; obtain ⟨A5, c5, e5, _⟩ := LOwn.form_ ho5; obtain ⟨m5, hm5⟩ : ∃ m, m = L.length := ⟨_, rfl⟩; rw [← hm5] at e5; subst e5; clear hm5; have HO5 := Lib.hid ho5; have HB5 : Hid (Below X.heap.size X w5) := Lib.hid (HBL.out.trans (hb5.mono HBL.out.size)); obtain ⟨z0, z1, z2⟩ := row3c (blk_below HXR.out HB5.out); obtain ⟨b0, b1, b2⟩ := line_free (blk_below HXR.out HB5.out); clear ho5 hb5 HGV)
                  refine bodyPost_ret (Res.results_row_tmp rfl _ _ (row3_set (blk_below HXR.out HB5.out)) rfl Try.underlying52 rfl rfl) rfl ?_
                  rw [HRET.out]
                  exact ask_res (l := (L, waits)) (Own.base_ HO5.out (fun g hg => by have := (HO5.out.lt g hg).1; have := HBS.out; omega)) (HLW.out.below_ HB5.out) (Fr.of_below HB5.out _) HXB.out hgl0 hgr0 hgl hgr hlt3 HAO.out.1 (fun g hg => .inr (Nat.le_trans HBS.out (HO5.out.lt g hg).1)) HAO.out.2.2
                | true =>
                  have HBN : Hid (¬ blocksL (has, waits) p m = []) := Lib.hid (fun h => by have := HBE.out.1 h; cases this)
                  cases dp with
                  | true =>
                    have HRET : Hid (r = ((has, waits), 3)) := Lib.hid (by
                      rw [HR.out]
                      unfold askW
                      rw [if_neg (by rw [HNS.out]; simp), if_neg HNT.out, ← HPL.out, if_neg HNY.out, if_neg HBN.out, if_pos HDB.out.symm])
                    clear s0 s1 s2 s3 s4 y0 y1 y2 x0 x1 x2
                    obtain ⟨⟨s0, s1, s2⟩, s3, s4⟩ := HC.out V3 HBL.out
                    obtain ⟨y0, y1, y2⟩ := row3c (blk_below HXR.out HBL.out)
                    obtain ⟨x0, x1, x2⟩ := line_free (blk_below HXR.out HBL.out)
                    go_wp2_with fail
                    refine bodyPost_ret (Res.results_row_tmp rfl _ _ (row3_set (blk_below HXR.out HBL.out)) rfl Try.underlying52 rfl rfl) rfl ?_
                    rw [HRET.out]
                    exact ask_res (HLH.out.below_ HBL.out) (HLW.out.below_ HBL.out) (Fr.of_below HBL.out _) HXB.out hgl0 hgr0 hgl hgr hlt3 HAO.out.1 HAO.out.2.1 HAO.out.2.2
                  | false =>
                    have HRET : Hid (r = ((has, waits.take pl ++ ⟨p.1, p.2, m⟩ :: waits.drop pl), 2)) := Lib.hid (by
                      rw [HR.out]
                      unfold askW
                      rw [if_neg (by rw [HNS.out]; simp), if_neg HNT.out, ← HPL.out, if_neg HNY.out, if_neg HBN.out, if_neg (by rw [← HDB.out]; simp)])
                    have HWI := Lib.hid (with_any (HOW.out.below HBL.out) HNW.out hple (by omega) ⟨p.1, p.2, m⟩)
                    dsimp only at HWI
                    obtain ⟨L, hL⟩ : ∃ L, L = waits.take pl ++ ⟨p.1, p.2, m⟩ :: waits.drop pl := ⟨_, rfl⟩
                    rw [← hL] at HWI HRET
                    clear hL
                    go_upto_region 34 with (go_at_call 41; refine HWI.out.mono ?_; rintro e w5 ⟨v5, rfl, ho5, hb5⟩; obtain ⟨A5, c5, e5, _⟩ := LOwn.form_ ho5; obtain ⟨m5, hm5⟩ : ∃ m, m = L.length := ⟨_, rfl⟩; rw [← hm5] at e5; subst e5; clear hm5; have HO5 := Lib.hid ho5; have HB5 : Hid (Below X.heap.size X w5) := Lib.hid (HBL.out.trans (hb5.mono HBL.out.size)); obtain ⟨z0, z1, z2⟩ := row3c (blk_below HXL.out HB5.out); obtain ⟨b0, b1, b2⟩ := line_free (blk_below HXL.out HB5.out); clear ho5 hb5 HWI)
                    clear s0 s1 s2 s3 s4 y0 y1 y2 x0 x1 x2
                    obtain ⟨Z, hZ⟩ : ∃ Z, Z = w5.setCell ⟨gl, 2, none⟩ (.slice A5 m5 c5) := ⟨_, rfl⟩
                    rw [← hZ]
                    have HFZ : Hid (Fr (fun g => g = gl) w5 Z) := Lib.hid (by rw [hZ]; exact (Fr.refl (fun g => g = gl) w5).setCell (p := ⟨gl, 2, none⟩) (.inl rfl) _)
                    have HZL : Hid (Z.heap[gl]? = some (.cells #[.string k, .slice Ah nh ch, .slice A5 m5 c5] 52 (0, 0))) := Lib.hid (by rw [hZ]; have h := heap_setCell_same w5 gl 2 _ 52 (.slice A5 m5 c5) (blk_below HXL.out HB5.out); exact h)
                    have HZR := Lib.hid (HFZ.out.blk (blk_below HXR.out HB5.out) (fun e => by omega))
                    have HZB : Hid (Fr (fun g => g = gl) X Z) := Lib.hid ((Fr.of_below HB5.out _).trans HFZ.out (fun i hi e => e))
                    have HZO : Hid (LOwn Z B (.slice A5 m5 c5) L) := Lib.hid (Own.base_ (Own.fr HO5.out HFZ.out (fun g hg e => by have := (HO5.out.lt g hg).1; have := HBS.out; omega)) (fun g hg => by have := (HO5.out.lt g hg).1; have := HBS.out; omega))
                    have HZH : Hid (LOwn Z B (.slice Ah nh ch) has) := Lib.hid (Own.fr (HLH.out.below_ HB5.out) HFZ.out (fun g hg e => by have := HAP.out.1 g hg; omega))
                    clear hZ z0 z1 z2 b0 b1 b2
                    obtain ⟨z0, z1, z2⟩ := row3c HZL.out
                    obtain ⟨y0, y1, y2⟩ := row3c HZR.out
                    obtain ⟨x0, x1, x2⟩ := line_free HZR.out
                    go_wp2_with fail
                    refine bodyPost_ret (Res.results_row_tmp rfl _ _ (row3_set HZR.out) rfl Try.underlying52 rfl rfl) rfl ?_
                    rw [HRET.out]
                    exact ask_res (l := (has, L)) HZH.out HZO.out HZB.out HXB.out hgl0 hgr0 hgl hgr hlt3 HAO.out.1 HAO.out.2.1 (fun g hg => .inr (Nat.le_trans HBS.out (HO5.out.lt g hg).1))
#print axioms askW_any
end Go.Proofs.Ytcceankldiafpaa.Lock
