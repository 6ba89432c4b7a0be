/- A lock given: the queue's has laid anew. -/
import Derived.Test.YtcceankldiafpaaLockC
import Derived.StillTailTactics
import Derived.Deep.AppendLies
set_option linter.unusedVariables false
set_option linter.unusedSimpArgs false
set_option linter.unusedSectionVars false
namespace Go.Proofs.Ytcceankldiafpaa.Lock
open Go.RowKit Go.WideShapes Go.Deep Go.Proofs.Ytcceankldiafpaa.Mem Go.Proofs.Ytcceankldiafpaa.Open
section
variable {Y w3 : World} {B : Nat} {q : Qv}
theorem QAt.row_set (h : Y.heap[q.qb]? = some (.cells #[q.hv, q.wv] 68 (0, 0))) (v : Value) : (Y.setCell ⟨q.qb, 0, none⟩ v).heap[q.qb]? = some (.cells #[v, q.wv] 68 (0, 0)) := by
  have := heap_setCell_same Y q.qb 0 _ _ v h
  simpa using this
theorem QAt.row_set1 (h : Y.heap[q.qb]? = some (.cells #[q.hv, q.wv] 68 (0, 0))) (v : Value) : (Y.setCell ⟨q.qb, 1, none⟩ v).heap[q.qb]? = some (.cells #[q.hv, v] 68 (0, 0)) := by
  have := heap_setCell_same Y q.qb 1 _ _ v h
  simpa using this
/-- has is another slice: of the old one's block, or of a new one. -/
theorem QAt.turn_h (h : QAt Y B q) {v3 : Value} {n : Nat} {hs : List Wt} (ho : Own w3 B 47 3 v3 n (wc hs)) (hn : n = hs.length) (hbl : ∀ g, v3.ownBlock = some g → q.hv.ownBlock = some g ∨ Y.heap.size ≤ g) (hf : Fr (fun g => q.hv.ownBlock = some g) Y w3) :
    QGo Y (w3.setCell ⟨q.qb, 0, none⟩ v3) B q ⟨q.qb, v3, q.wv, hs, q.waits⟩ := by
  subst hn
  have hrow : w3.heap[q.qb]? = some (.cells #[q.hv, q.wv] 68 (0, 0)) := hf.blk h.row h.qb_h
  have hk : ∀ g, g ≠ q.qb → (w3.setCell ⟨q.qb, 0, none⟩ v3).heap[g]? = w3.heap[g]? := fun g hg => Below.heap_setCell _ _ _ _ hg
  have hqlt := lt_size h.row
  refine ⟨⟨QAt.row_set hrow v3, h.lt, ho.kept fun g hg => hk g ?_, (h.wt.fr hf fun g hg e => h.apart g e hg).kept fun g hg => hk g (fun e => h.qb_w (by rw [← e]; exact hg)), fun g hg hx => ?_⟩, rfl, ?_, fun g hg => ?_⟩
  · intro e
    subst e
    rcases hbl _ hg with e | e
    · exact h.qb_h e
    · omega
  · rcases hbl g hg with e | e
    · exact h.apart g e hx
    · have := (h.wt.lt g hx).2
      omega
  · exact (hf.mono fun i _ hi => .inr (.inl hi)).setCell (p := ⟨q.qb, 0, none⟩) (.inl (.inl rfl)) _
  · rcases hg with e | e | e
    · exact .inl (.inl e)
    · rcases hbl g e with e | e
      · exact .inl (.inr (.inl e))
      · exact .inr e
    · exact .inl (.inr (.inr e))
theorem QAt.turn_w (h : QAt Y B q) {v3 : Value} {n : Nat} {hs : List Wt} (ho : Own w3 B 47 3 v3 n (wc hs)) (hn : n = hs.length) (hbl : ∀ g, v3.ownBlock = some g → q.wv.ownBlock = some g ∨ Y.heap.size ≤ g) (hf : Fr (fun g => q.wv.ownBlock = some g) Y w3) :
    QGo Y (w3.setCell ⟨q.qb, 1, none⟩ v3) B q ⟨q.qb, q.hv, v3, q.has, hs⟩ := by
  subst hn
  have hrow : w3.heap[q.qb]? = some (.cells #[q.hv, q.wv] 68 (0, 0)) := hf.blk h.row h.qb_w
  have hk : ∀ g, g ≠ q.qb → (w3.setCell ⟨q.qb, 1, none⟩ v3).heap[g]? = w3.heap[g]? := fun g hg => Below.heap_setCell _ _ _ _ hg
  have hqlt := lt_size h.row
  refine ⟨⟨QAt.row_set1 hrow v3, h.lt, (h.h.fr hf fun g hg e => h.apart g hg e).kept fun g hg => hk g (fun e => h.qb_h (by rw [← e]; exact hg)), ho.kept fun g hg => hk g ?_, fun g hg hx => ?_⟩, rfl, ?_, fun g hg => ?_⟩
  · intro e
    subst e
    rcases hbl _ hg with e | e
    · exact h.qb_w e
    · omega
  · rcases hbl g hx with e | e
    · exact h.apart g hg e
    · have := (h.h.lt g hg).2
      omega
  · exact (hf.mono fun i _ hi => .inr (.inr hi)).setCell (p := ⟨q.qb, 1, none⟩) (.inl (.inl rfl)) _
  · rcases hg with e | e | e
    · exact .inl (.inl e)
    · exact .inl (.inr (.inl e))
    · rcases hbl g e with e | e
      · exact .inl (.inr (.inr e))
      · exact .inr e
end
theorem wc_set : ∀ (ws : List Wt) (i : Nat) (t : Wt) (x : Int), ws[i]? = some t → (wc ws).set (i * 3 + 2) (.int .i64 x) = wc (ws.set i ⟨t.num, t.nd, x⟩)
  | [], i, t, x, h => by simp at h
  | p :: ws, 0, t, x, h => by
    have h' : p = t := by simpa using h
    subst h'
    show (p.cs ++ wc ws).set (0 * 3 + 2) _ = (Wt.mk p.num p.nd x).cs ++ wc ws
    rfl
  | p :: ws, i + 1, t, x, h => by
    have h' : ws[i]? = some t := by simpa using h
    show (p.cs ++ wc ws).set _ _ = p.cs ++ wc (ws.set i _)
    rw [← wc_set ws i t x h', List.set_append_right _ _ (by show p.cs.length ≤ _; show 3 ≤ _; omega)]
    congr 2
    show (i + 1) * 3 + 2 - 3 = i * 3 + 2
    omega
theorem QAt.set_h {Y : World} {B : Nat} {q : Qv} (h : QAt Y B q) {g off cap i : Nat} {u : Wt} (he : q.hv = .slice (some ⟨g, off, none⟩) q.has.length cap) (hi : q.has[i]? = some u) (x : Int) :
    QGo Y (Y.setCell ⟨g, off + i * 3 + 2, none⟩ (.int .i64 x)) B q ⟨q.qb, q.hv, q.wv, q.has.set i ⟨u.num, u.nd, x⟩, q.waits⟩ := by
  have ho := h.h
  rw [he] at ho
  have hs := ho.set (i * 3 + 2) (.int .i64 x)
  rw [wc_set _ _ _ _ hi] at hs
  have hk : ∀ g', g' ≠ g → (Y.setCell ⟨g, off + i * 3 + 2, none⟩ (.int .i64 x)).heap[g']? = Y.heap[g']? := fun g' hg => Below.heap_setCell _ _ _ _ hg
  have hg0 : q.hv.ownBlock = some g := by rw [he]; rfl
  refine ⟨⟨(hk _ fun e => h.qb_h (by rw [e]; exact hg0)).trans h.row, h.lt, ?_, h.wt.kept fun g' hg' => hk _ fun e => h.apart g hg0 (by rw [← e]; exact hg'), h.apart⟩, rfl, (Fr.refl _ _).setCell (p := ⟨g, off + i * 3 + 2, none⟩) (.inl (.inr (.inl hg0))) _, fun g' hg' => .inl hg'⟩
  show Own _ B _ 3 q.hv (q.has.set i _).length _
  rw [he, List.length_set, Nat.add_assoc]
  exact hs
def giveL (has : List Wt) (t : Wt) : List Wt := match has.findIdx? (fun u => sameT u t.tid) with
  | some i => has.set i ⟨(has.getD i t).num, (has.getD i t).nd, if (has.getD i t).md < t.md then t.md else (has.getD i t).md⟩
  | none => has.take (has.findIdx fun u => !elder u.tid t.tid) ++ t :: has.drop (has.findIdx fun u => !elder u.tid t.tid)
theorem giveL_old {has : List Wt} {t u : Wt} {i : Nat} (hf : has.findIdx? (fun u => sameT u t.tid) = some i) (hi : has[i]? = some u) : giveL has t = has.set i ⟨u.num, u.nd, if u.md < t.md then t.md else u.md⟩ := by
  unfold giveL
  rw [hf]
  simp only [List.getD_eq_getElem?_getD, hi, Option.getD_some]
theorem giveL_new {has : List Wt} {t : Wt} {j : Nat} (hf : has.findIdx? (fun u => sameT u t.tid) = none) (hj : has.findIdx (fun u => !elder u.tid t.tid) = j) : giveL has t = has.take j ++ t :: has.drop j := by
  unfold giveL
  rw [hf]
  simp only [hj]
def GiveR (w : World) (B : Nat) (q : Qv) (hs : List Wt) (e : Ending) (w' : World) : Prop := e = .returned (.tuple #[]) ∧ ∃ hv', QGo w w' B q ⟨q.qb, hv', q.wv, hs, q.waits⟩
theorem wc_cons3 (ws : List Wt) (i : Nat) (t : Wt) : (wc ws).take (i * 3) ++ t.cs ++ (wc ws).drop (i * 3) = wc (ws.take i ++ t :: ws.drop i) := by
  rw [wc_take, wc_drop]
  simp [wc, List.flatMap_append, List.flatMap_cons]
theorem both2 {X : World} {C D : World → Prop} (h1 : ∀ V, Below X.heap.size X V → C V) (h2 : ∀ V, Below X.heap.size X V → D V) {V : World} (hb : Below X.heap.size X V) : C V ∧ D V := ⟨h1 V hb, h2 V hb⟩
theorem give_end {w w2 w3 : World} {B q0 nh ch j c3 : Nat} {Ah A3 : Option Addr} {wv : Value} {has waits : List Wt} {t : Wt} {O : Obj} (HG : QGo w w2 B ⟨q0, .slice Ah has.length ch, wv, has, waits⟩ ⟨q0, .slice Ah has.length ch, wv, has, waits⟩) (hnh : nh = has.length) (hj : j ≤ nh)
    (ho : Own w3 B 47 3 (.slice A3 (nh + 1) c3) (nh + 1) (wc (has.take j ++ t :: has.drop j))) (hbl : (Value.slice A3 (nh + 1) c3).ownBlock = (Value.slice Ah nh ch).ownBlock ∨ (Value.slice A3 (nh + 1) c3).ownBlock = some (w2.drew.alloc O).heap.size)
    (hf : Fr (fun g => (Value.slice Ah nh ch).ownBlock = some g) (w2.drew.alloc O) w3) :
    QGo w (w3.setCell ⟨q0, 0, none⟩ (.slice A3 (nh + 1) c3)) B ⟨q0, .slice Ah has.length ch, wv, has, waits⟩ ⟨q0, .slice A3 (nh + 1) c3, wv, has.take j ++ t :: has.drop j, waits⟩ := by
  have hyb : Below w2.heap.size w2 (w2.drew.alloc O) := ((Below.refl _ w2).drew).alloc (by simp) _
  refine HG.trans ((QGo.of_below HG.at_ hyb).trans ((HG.at_.below hyb).turn_h ho (by rw [List.length_append, List.length_cons, List.length_take, List.length_drop]; omega) (fun g hg => hbl.elim (fun e => .inl ?_) (fun e => .inr ?_)) (by rw [hnh] at hf; exact hf)))
  · have e2 := e.symm.trans hg
    rw [hnh] at e2
    exact e2
  · have e2 := e.symm.trans hg
    injection e2 with e2
    omega
set_option maxHeartbeats 4000000 in
set_option maxRecDepth 100000 in
theorem give_any {w : World} {B : Nat} {q : Qv} (h : QAt w B q) (t : Wt) (hlim : q.has.length ≤ 100000) :
    Calls Try.prog 31 #[.pointer (some ⟨q.qb, 0, none⟩), .agg #[.int .u64 t.num, .int .i64 t.nd, .int .i64 t.md]] w (GiveR w B q (giveL q.has t)) := by
  obtain ⟨hs, hhs⟩ : ∃ hs, hs = giveL q.has t := ⟨_, rfl⟩
  rw [← hhs]
  have HHS := Lib.hid hhs
  have H := Lib.hid h
  obtain ⟨q0, hv, wv, has, waits⟩ := q
  obtain ⟨Ah, ch, ehv, hcw, hcm⟩ := h.h.slice_
  dsimp only at ehv hlim hcw ⊢
  subst ehv
  unfold maxLen at hcm
  clear h hhs
  obtain ⟨nh, hnh⟩ : ∃ n, n = has.length := ⟨_, rfl⟩
  rw [← hnh] at hlim hcw
  have HNH := Lib.hid hnh
  go_enter Try.func31, Try.ntmps31
  go_upto_region 1 with fail
  obtain ⟨gx, hgx⟩ : ∃ g, g = w.heap.size := ⟨_, rfl⟩
  obtain ⟨X, hX⟩ : ∃ X, X = w.alloc (.cells #[.int .u64 t.num, .int .i64 t.nd, .int .i64 t.md] 47) := ⟨_, rfl⟩
  rw [← hX]
  have HXB : Hid (Below w.heap.size w X) := Lib.hid (by rw [hX]; exact (Below.refl _ _).alloc (Nat.le_refl _) _)
  have HXQ := Lib.hid (H.out.below HXB.out)
  have HXT : Hid (X.heap[gx]? = some (.cells #[.int .u64 t.num, .int .i64 t.nd, .int .i64 t.md] 47 (0, 0))) := Lib.hid (by rw [hX, hgx]; exact heap_alloc_new w _)
  have HSX : Hid (gx < X.heap.size ∧ w.heap.size ≤ gx ∧ q0 < gx) := Lib.hid ⟨lt_size HXT.out, by omega, by have := lt_size H.out.row; rw [hgx]; exact this⟩
  obtain ⟨rb, hrb⟩ : ∃ r, r = firstZ (fun u => sameT u (t.num, t.nd)) has := ⟨_, rfl⟩
  have HRB := Lib.hid hrb
  have HF : Hid (∀ V, Below X.heap.size X V → Calls Try.prog 24 #[.slice Ah nh ch, .agg #[.int .u64 t.num, .int .i64 t.nd]] V fun e w' => e = .returned (.int .i64 rb) ∧ Below X.heap.size X w') := Lib.hid (fun V hb => by rw [hrb, hnh]; exact find_of HXQ.out.h (t.num, t.nd) hb)
  have HS : Hid (∀ V, Below X.heap.size X V → (V.cell? ⟨q0, 0, none⟩ = some (.slice Ah nh ch) ∧ V.cell? ⟨q0, 1, none⟩ = some wv) ∧ V.cell? ⟨gx, 0, none⟩ = some (.int .u64 t.num) ∧ V.cell? ⟨gx, 1, none⟩ = some (.int .i64 t.nd) ∧ V.cell? ⟨gx, 2, none⟩ = some (.int .i64 t.md)) := Lib.hid (fun V hb => ⟨by rw [hnh]; exact (HXQ.out.below hb).cells, row3c (blk_below HXT.out hb)⟩)
  rw [← hgx]
  clear hX hrb hnh hgx
  go_region_held3 (fun V => (V.cell? ⟨q0, 0, none⟩ = some (.slice Ah nh ch) ∧ V.cell? ⟨q0, 1, none⟩ = some wv) ∧ V.cell? ⟨gx, 0, none⟩ = some (.int .u64 t.num) ∧ V.cell? ⟨gx, 1, none⟩ = some (.int .i64 t.nd) ∧ V.cell? ⟨gx, 2, none⟩ = some (.int .i64 t.md))
    ((first | (refine HS.out _ ?_; repeat (first | with_reducible exact Below.refl _ _ | exact HB1.out | with_reducible refine Below.drew ?_))))
    ((first | (go_at_call 24; refine (HF.out _ ?_).mono ?_; (repeat (first | with_reducible exact Below.refl _ _ | with_reducible refine Below.drew ?_)); rintro e w1 ⟨rfl, hb1⟩; have HB1 := Lib.hid hb1; clear hb1)))
  rename_i hheld
  clear hheld
  have HQ1 := Lib.hid (HXQ.out.below HB1.out)
  have HXW : Hid (Below w.heap.size w w1) := Lib.hid (HXB.out.trans (HB1.out.mono HXB.out.size))
  have HX1 := Lib.hid (blk_below HXT.out HB1.out)
  have HG1 : Hid (QGo w w1 B ⟨q0, .slice Ah has.length ch, wv, has, waits⟩ ⟨q0, .slice Ah has.length ch, wv, has, waits⟩) := Lib.hid (QGo.of_below H.out HXW.out)
  obtain ⟨⟨s0, s1⟩, s2, s3, s4⟩ := HS.out w1 HB1.out
  clear HF HS
  by_cases hneg : 0 ≤ rb
  · obtain ⟨i, u, hiu, hri, hfi⟩ : ∃ (i : Nat) (u : Wt), has[i]? = some u ∧ rb = (i : Int) ∧ has.findIdx? (fun u => sameT u t.tid) = some i := by
      rw [HRB.out] at hneg
      unfold firstZ at hneg
      cases hf : has.findIdx? (fun u => sameT u (t.num, t.nd)) with
      | none => rw [hf] at hneg; exact absurd hneg (by simp)
      | some i =>
        obtain ⟨hi, _⟩ := List.findIdx?_eq_some_iff_getElem.1 hf
        exact ⟨i, _, List.getElem?_eq_getElem hi, by rw [HRB.out]; unfold firstZ; rw [hf], hf⟩
    have hil : i < nh := by rw [HNH.out]; exact (List.getElem?_eq_some_iff.1 hiu).1
    have i0 : (0 : Int) ≤ (i : Int) := by omega
    have i1 : (i : Int) < (nh : Int) := by omega
    subst hri
    obtain ⟨gh, offh, rfl, hgh, c0, c1, c2⟩ := want_cells HQ1.out.h.rd hiu (by rw [← HNH.out]; omega)
    have hfr : w1.frozen? ⟨gh, offh + i * 3 + 2, none⟩ = false := HQ1.out.h.frozen (g := gh) rfl _
    have HFI := Lib.hid hfi
    have HIU := Lib.hid hiu
    clear c0 c1 hfi hiu
    go_upto_region 3 with fail
    clear s1 s2 s3
    by_cases hmx : u.md < t.md
    · go_still_tail 18, (by kernel_rfl)
      change wpList _ _ _ _ _ w1.drew
      obtain ⟨V, hV⟩ : ∃ V, V = w1.drew := ⟨_, rfl⟩
      have HGV : Hid (QGo w V B ⟨q0, .slice (some ⟨gh, offh, none⟩) has.length ch, wv, has, waits⟩ ⟨q0, .slice (some ⟨gh, offh, none⟩) has.length ch, wv, has, waits⟩) := Lib.hid (by rw [hV]; exact QGo.of_below H.out HXW.out.drew)
      have v0 : V.cell? ⟨gh, offh + i * 3 + 2, none⟩ = some (.int .i64 u.md) := by rw [hV]; exact c2
      have v1 : V.frozen? ⟨gh, offh + i * 3 + 2, none⟩ = false := by rw [hV]; exact hfr
      rw [← hV]
      clear hV c2 hfr s0 s4
      have HMX := Lib.hid hmx
      go_wp2_with fail
      refine bodyPost_ret (results_none rfl _ _ _) rfl ?_
      have hg := HGV.out.at_.set_h (cap := ch) (i := i) rfl HIU.out t.md
      rw [HHS.out, giveL_old HFI.out HIU.out, if_pos HMX.out]
      exact ⟨rfl, _, HGV.out.trans hg⟩
    · go_still_tail 18, (by kernel_rfl)
      change wpList _ _ _ _ _ w1.drew
      obtain ⟨V, hV⟩ : ∃ V, V = w1.drew := ⟨_, rfl⟩
      have HGV : Hid (QGo w V B ⟨q0, .slice (some ⟨gh, offh, none⟩) has.length ch, wv, has, waits⟩ ⟨q0, .slice (some ⟨gh, offh, none⟩) has.length ch, wv, has, waits⟩) := Lib.hid (by rw [hV]; exact QGo.of_below H.out HXW.out.drew)
      have v0 : V.cell? ⟨gh, offh + i * 3 + 2, none⟩ = some (.int .i64 u.md) := by rw [hV]; exact c2
      have v1 : V.frozen? ⟨gh, offh + i * 3 + 2, none⟩ = false := by rw [hV]; exact hfr
      rw [← hV]
      clear hV c2 hfr s0 s4
      have HMX := Lib.hid hmx
      go_wp2_with fail
      refine bodyPost_ret (results_none rfl _ _ _) rfl ?_
      have hg := HGV.out.at_.set_h (cap := ch) (i := i) rfl HIU.out u.md
      rw [HHS.out, giveL_old HFI.out HIU.out, if_neg (by have := HMX.out; omega)]
      exact ⟨rfl, _, HGV.out.trans hg⟩
  · have hnone : has.findIdx? (fun u => sameT u t.tid) = none := by
      cases hf : has.findIdx? (fun u => sameT u t.tid) with
      | none => rfl
      | some i =>
        refine absurd ?_ hneg
        rw [HRB.out]
        unfold firstZ
        rw [show has.findIdx? (fun u => sameT u (t.num, t.nd)) = some i from hf]
        exact Int.natCast_nonneg _
    have HNO := Lib.hid hnone
    clear hnone
    have hneg' : rb < 0 := by omega
    go_upto_region 5 with fail
    clear s0 s1 s2 s3 s4
    go_loopw [5] (fun v wr => ∃ j : Nat, j ≤ nh ∧ v = .int .i64 j ∧ (∀ i u, i < j → has[i]? = some u → (!elder u.tid t.tid) = false) ∧ Below w1.heap.size w1 wr) (fun v _ => nh - (intOf v).toNat)
    case atStart => exact ⟨0, Nat.zero_le _, rfl, fun i u h => absurd h (by omega), Below.refl _ _⟩
    case round =>
      obtain ⟨j, hj, rfl, hall, hbl⟩ := hrel
      have HBL := Lib.hid hbl
      have HALL := Lib.hid hall
      clear hall hbl
      have HSL : Hid (∀ V, Below w1.heap.size w1 V → (V.cell? ⟨q0, 0, none⟩ = some (.slice Ah nh ch) ∧ V.cell? ⟨q0, 1, none⟩ = some wv) ∧ V.cell? ⟨gx, 0, none⟩ = some (.int .u64 t.num) ∧ V.cell? ⟨gx, 1, none⟩ = some (.int .i64 t.nd) ∧ V.cell? ⟨gx, 2, none⟩ = some (.int .i64 t.md)) := Lib.hid (fun V hb => ⟨by rw [HNH.out]; exact (HQ1.out.below hb).cells, row3c (blk_below HX1.out hb)⟩)
      by_cases hlt : j < nh
      · obtain ⟨u, hu⟩ : ∃ u, has[j]? = some u := ⟨has[j]'(by rw [← HNH.out]; omega), List.getElem?_eq_getElem _⟩
        have i0 : (0 : Int) ≤ (j : Int) := by omega
        have i1 : (j : Int) < (nh : Int) := by omega
        obtain ⟨gh, offh, rfl, hgh, _⟩ := want_cells HQ1.out.h.rd hu (by rw [← HNH.out]; omega)
        have HSC : Hid (∀ V, Below w1.heap.size w1 V → V.cell? ⟨gh, offh + j * 3, none⟩ = some (.int .u64 u.num) ∧ V.cell? ⟨gh, offh + j * 3 + 1, none⟩ = some (.int .i64 u.nd)) := Lib.hid (fun V hb => by
          obtain ⟨g', off', e, _, c0, c1, _⟩ := want_cells (HQ1.out.h.rd.below hb) hu (by rw [← HNH.out]; omega)
          injection e with e
          injection e with e1 e2 _
          subst e1 e2
          exact ⟨c0, c1⟩)
        obtain ⟨re, hre⟩ : ∃ r, r = elder u.tid t.tid := ⟨_, rfl⟩
        have HRE := Lib.hid hre
        have HF2 : Hid (∀ V, Below w1.heap.size w1 V → Calls Try.prog 29 #[.agg #[.int .u64 u.num, .int .i64 u.nd], .agg #[.int .u64 t.num, .int .i64 t.nd]] V fun e w' => e = .returned (.bool re) ∧ Below w1.heap.size w1 w') := Lib.hid (fun V hb => by
          rw [hre]
          exact (elder_any V u.tid t.tid).mono fun e w' h => ⟨h.1, hb.trans (h.2.mono hb.size)⟩)
        have HUE := Lib.hid hu
        clear hre hu
        go_upto_region 5 with fail
        go_region_held3 (fun V => ((V.cell? ⟨q0, 0, none⟩ = some (.slice (some ⟨gh, offh, none⟩) nh ch) ∧ V.cell? ⟨q0, 1, none⟩ = some wv) ∧ V.cell? ⟨gx, 0, none⟩ = some (.int .u64 t.num) ∧ V.cell? ⟨gx, 1, none⟩ = some (.int .i64 t.nd) ∧ V.cell? ⟨gx, 2, none⟩ = some (.int .i64 t.md)) ∧ V.cell? ⟨gh, offh + j * 3, none⟩ = some (.int .u64 u.num) ∧ V.cell? ⟨gh, offh + j * 3 + 1, none⟩ = some (.int .i64 u.nd))
          ((first | (refine both2 HSL.out HSC.out ?_; repeat (first | with_reducible exact Below.refl _ _ | exact HBL.out | exact HB2.out | with_reducible refine Below.drew ?_))))
          ((first | (go_at_call 29; refine (HF2.out _ ?_).mono ?_; (repeat (first | with_reducible exact Below.refl _ _ | exact HBL.out | with_reducible refine Below.drew ?_)); rintro e w2 ⟨rfl, hb2⟩; have HB2 := Lib.hid hb2; clear hb2)))
        rename_i hheld
        clear hheld
        cases re with
        | true =>
          go_wp2_with fail
          go_roundw
          case rel => exact ⟨j + 1, by omega, by go_num, fun i v hi hv => by
            by_cases e : i = j
            · subst e
              have : some u = some v := HUE.out.symm.trans hv
              injection this with this
              rw [← this, ← HRE.out]
              rfl
            · exact HALL.out i v (by omega) hv, HB2.out⟩
          case measure => simp [intOf]; omega
        | false =>
          have hix : has.findIdx (fun u => !elder u.tid t.tid) = j := findIdx_at (by rw [← HNH.out]; omega) HALL.out (.inr ⟨u, HUE.out, by rw [← HRE.out]; rfl⟩)
          have HIX := Lib.hid hix
          have HBZ := HB2
          clear hix HB2 HSC HF2
          have HQZ := Lib.hid (HQ1.out.below HBZ.out)
          have HXZ := Lib.hid (blk_below HX1.out HBZ.out)
          have HGZ : Hid (QGo w w2 B ⟨q0, .slice (some ⟨gh, offh, none⟩) has.length ch, wv, has, waits⟩ ⟨q0, .slice (some ⟨gh, offh, none⟩) has.length ch, wv, has, waits⟩) := Lib.hid (QGo.of_below H.out (HXW.out.trans (HBZ.out.mono HXW.out.size)))
          have hqs : B ≤ w2.heap.size := Nat.le_trans HQZ.out.lt (Nat.le_of_lt (lt_size HQZ.out.row))
          have HINS := Lib.hid (SlW.insert (w := w2.drew.alloc (.cells #[.int .u64 t.num, .int .i64 t.nd, .int .i64 t.md] 47)) (i := j) (new := t.cs) (HQZ.out.h.drew.alloc _) (wc_one has) (by rw [← HNH.out]; exact hj) (heap_alloc_new w2.drew _) rfl (by intro u hu; simp only [Wt.cs, List.mem_cons, List.not_mem_nil, or_false] at hu; rcases hu with rfl | rfl | rfl <;> rfl) (by intro e; have := (HQZ.out.h.lt _ e).2; simp at this) (by rw [← HNH.out]; omega) (by simp; omega))
          obtain ⟨⟨z0, z1⟩, z2, z3, z4⟩ := HSL.out w2 HBZ.out
          have HQB : Hid (¬ (Value.slice (some ⟨gh, offh, none⟩) nh ch).ownBlock = some q0) := Lib.hid (by rw [HNH.out]; exact HQZ.out.qb_h)
          have zA : (w2.alloc (.cells #[.int .u64 t.num, .int .i64 t.nd, .int .i64 t.md] 47)).cell? ⟨q0, 0, none⟩ = some (.slice (some ⟨gh, offh, none⟩) nh ch) := by rw [World.cell?_alloc_lt _ _ ⟨q0, 0, none⟩ (lt_size HQZ.out.row)]; exact z0
          rw [wc_cons3, ← HNH.out] at HINS
          go_upto_region 7 with fail
          go_region_law (first
            | (go_simp; go_at_call 33; refine HINS.out.mono ?_; rintro e w3 ⟨v3, rfl, ho3, hbl3, hf3⟩; obtain ⟨A3, c3, rfl, _⟩ := ho3.slice_; have hrow3 := hf3.blk ((HQZ.out.drewN 1).alloc (.cells #[.int .u64 t.num, .int .i64 t.nd, .int .i64 t.md] 47)).row HQB.out; obtain ⟨y0, y1⟩ := row2c hrow3; have y2 : w3.frozen? ⟨q0, 0, none⟩ = false := (by unfold World.frozen?; rw [hrow3]; rfl); have HO3 := Lib.hid ho3; have HBL3 := Lib.hid hbl3; have HF3 := Lib.hid hf3; clear ho3 hbl3 hf3 hrow3; dsimp only))
          all_goals
            go_wp2_with fail
            refine bodyPost_ret (results_none rfl _ _ _) rfl ?_
            rw [HHS.out, giveL_new HNO.out HIX.out]
            have hz := give_end HGZ.out HNH.out hj HO3.out HBL3.out HF3.out
            exact ⟨rfl, _, hz⟩
      · have i1 : ¬ ((j : Int) < (nh : Int)) := by omega
        have i2 : (nh : Int) ≤ (j : Int) := by omega
        have hix : has.findIdx (fun u => !elder u.tid t.tid) = j := findIdx_at (by rw [← HNH.out]; omega) HALL.out (.inl (by rw [← HNH.out]; omega))
        have HIX := Lib.hid hix
        clear hix
        obtain ⟨⟨s0, s1⟩, s2, s3, s4⟩ := HSL.out wr HBL.out
        go_upto_region 5 with fail
        go_quiet (fail)
        clear s0 s1 s2 s3 s4
        obtain ⟨w2, hw2⟩ : ∃ w2, w2 = wr.drewN nq := ⟨_, rfl⟩
        have HBZ : Hid (Below w1.heap.size w1 w2) := Lib.hid (by rw [hw2]; exact below_drewN HBL.out _)
        rw [← hw2]
        clear hw2
        have HQZ := Lib.hid (HQ1.out.below HBZ.out)
        have HXZ := Lib.hid (blk_below HX1.out HBZ.out)
        have HGZ : Hid (QGo w w2 B ⟨q0, .slice Ah has.length ch, wv, has, waits⟩ ⟨q0, .slice Ah has.length ch, wv, has, waits⟩) := Lib.hid (QGo.of_below H.out (HXW.out.trans (HBZ.out.mono HXW.out.size)))
        have hqs : B ≤ w2.heap.size := Nat.le_trans HQZ.out.lt (Nat.le_of_lt (lt_size HQZ.out.row))
        have HINS := Lib.hid (SlW.insert (w := w2.drew.alloc (.cells #[.int .u64 t.num, .int .i64 t.nd, .int .i64 t.md] 47)) (i := j) (new := t.cs) (HQZ.out.h.drew.alloc _) (wc_one has) (by rw [← HNH.out]; exact hj) (heap_alloc_new w2.drew _) rfl (by intro u hu; simp only [Wt.cs, List.mem_cons, List.not_mem_nil, or_false] at hu; rcases hu with rfl | rfl | rfl <;> rfl) (by intro e; have := (HQZ.out.h.lt _ e).2; simp at this) (by rw [← HNH.out]; omega) (by simp; omega))
        obtain ⟨⟨z0, z1⟩, z2, z3, z4⟩ := HSL.out w2 HBZ.out
        have HQB : Hid (¬ (Value.slice Ah nh ch).ownBlock = some q0) := Lib.hid (by rw [HNH.out]; exact HQZ.out.qb_h)
        have zA : (w2.alloc (.cells #[.int .u64 t.num, .int .i64 t.nd, .int .i64 t.md] 47)).cell? ⟨q0, 0, none⟩ = some (.slice Ah nh ch) := by rw [World.cell?_alloc_lt _ _ ⟨q0, 0, none⟩ (lt_size HQZ.out.row)]; exact z0
        rw [wc_cons3, ← HNH.out] at HINS
        go_upto_region 7 with fail
        go_region_law (first
          | (go_simp; go_at_call 33; refine HINS.out.mono ?_; rintro e w3 ⟨v3, rfl, ho3, hbl3, hf3⟩; obtain ⟨A3, c3, rfl, _⟩ := ho3.slice_; have hrow3 := hf3.blk ((HQZ.out.drewN 1).alloc (.cells #[.int .u64 t.num, .int .i64 t.nd, .int .i64 t.md] 47)).row HQB.out; obtain ⟨y0, y1⟩ := row2c hrow3; have y2 : w3.frozen? ⟨q0, 0, none⟩ = false := (by unfold World.frozen?; rw [hrow3]; rfl); have HO3 := Lib.hid ho3; have HBL3 := Lib.hid hbl3; have HF3 := Lib.hid hf3; clear ho3 hbl3 hf3 hrow3; dsimp only))
        all_goals
          go_wp2_with fail
          refine bodyPost_ret (results_none rfl _ _ _) rfl ?_
          rw [HHS.out, giveL_new HNO.out HIX.out]
          have hz := give_end HGZ.out HNH.out hj HO3.out HBL3.out HF3.out
          exact ⟨rfl, _, hz⟩
#print axioms give_any
end Go.Proofs.Ytcceankldiafpaa.Lock
