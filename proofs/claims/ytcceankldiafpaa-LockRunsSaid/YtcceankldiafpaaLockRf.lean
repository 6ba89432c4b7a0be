/- The law's free. -/
import Derived.Test.YtcceankldiafpaaLockRe
set_option linter.unusedVariables false
set_option linter.unusedSimpArgs false
set_option linter.unusedSectionVars false
set_option maxRecDepth 100000
namespace Go.Proofs.Ytcceankldiafpaa.Lock
open Go.RowKit Go.WideShapes Go.Deep Go.Proofs.Ytcceankldiafpaa.Mem Go.Proofs.Ytcceankldiafpaa.Open Go.Proofs.Ytcceankldiafpaa.Maps
def nextW : List Wt → List Wt → Line × List Wt
  | has, [] => ((has, []), [])
  | has, t :: ws => if free1 has t = [] then ((nextW (giveW has t) ws).1, t :: (nextW (giveW has t) ws).2) else ((has, t :: ws), [])
/-- What Free does to a line, as the law has it. -/
def freeW (l : Line) (p : Int × Int) : Line × List Wt := nextW (delT l.1 p) (delT l.2 p)
theorem giveW_len (has : List Wt) (t : Wt) : (giveW has t).length ≤ has.length + 1 := by
  unfold giveW
  split
  · rw [List.length_set]; omega
  · rw [List.length_append, List.length_cons, List.length_take, List.length_drop]; omega
/-- The law's line under way: its variable's row, its lists. -/
structure FSt (O : Nat → Prop) (X w wr : World) (B gl : Nat) (k : S) (hv wv : Value) (has waits : List Wt) : Prop where
  row : wr.heap[gl]? = some (.cells #[.string k, hv, wv] 52 (0, 0))
  h : LOwn wr B hv has
  wt : LOwn wr B wv waits
  hb : ∀ g, hv.ownBlock = some g → g < w.heap.size ∨ X.heap.size ≤ g
  wb : ∀ g, wv.ownBlock = some g → g < w.heap.size ∨ X.heap.size ≤ g
  go : Fr (fun g => g = gl) X wr
  bx : B ≤ X.heap.size
  ho : ∀ g, hv.ownBlock = some g → O g ∨ X.heap.size ≤ g
  wo : ∀ g, wv.ownBlock = some g → O g ∨ X.heap.size ≤ g
section
variable {O : Nat → Prop} {X w wr wr' V : World} {B gl gr gt n c : Nat} {k : S} {hv wv v : Value} {A : Option Addr} {has waits L : List Wt} {p : Int × Int}
theorem FSt.xle (h : FSt O X w wr B gl k hv wv has waits) : X.heap.size ≤ wr.heap.size := h.go.size
theorem FSt.below (h : FSt O X w wr B gl k hv wv has waits) (hb : Below wr.heap.size wr V) : FSt O X w V B gl k hv wv has waits :=
  ⟨blk_below h.row hb, h.h.below_ hb, h.wt.below_ hb, h.hb, h.wb, h.go.trans (Fr.of_below hb (fun _ => False)) (fun i _ e => e.elim), h.bx, h.ho, h.wo⟩
theorem FSt.own_h (h : FSt O X w wr B gl k (.slice A n c) wv has waits) (hn : n = has.length) : Own wr B 47 3 (.slice A n c) n (wc has) := by have h9 := h.h; unfold LOwn at h9; rw [← hn] at h9; exact h9
theorem FSt.own_w (h : FSt O X w wr B gl k hv (.slice A n c) has waits) (hn : n = waits.length) : Own wr B 47 3 (.slice A n c) n (wc waits) := by have h9 := h.wt; unfold LOwn at h9; rw [← hn] at h9; exact h9
theorem FSt.h_form (h : FSt O X w wr B gl k (.slice A n c) wv has waits) : n = has.length ∧ n ≤ c ∧ c ≤ maxLen := by
  obtain ⟨_, _, e, h1, h2⟩ := h.h.form_
  injection e with _ e1 e2
  subst e1 e2
  exact ⟨rfl, h1, h2⟩
theorem FSt.w_form (h : FSt O X w wr B gl k hv (.slice A n c) has waits) : n = waits.length ∧ n ≤ c ∧ c ≤ maxLen := by
  obtain ⟨_, _, e, h1, h2⟩ := h.wt.form_
  injection e with _ e1 e2
  subst e1 e2
  exact ⟨rfl, h1, h2⟩
theorem FSt.tid (h : FSt O X w wr B gl k hv wv has waits) (hx : X.heap[gt]? = some (.cells #[.int .u64 p.1, .int .i64 p.2] 24 (0, 0))) (hne : gt ≠ gl) : wr.cell? ⟨gt, 0, none⟩ = some (.int .u64 p.1) ∧ wr.cell? ⟨gt, 1, none⟩ = some (.int .i64 p.2) := row2c (h.go.blk hx hne)
theorem FSt.res (h : FSt O X w wr B gl k hv wv has waits) {o : Obj} (hx : X.heap[gr]? = some o) (hne : gr ≠ gl) : wr.heap[gr]? = some o := h.go.blk hx hne
theorem FSt.own_ne (h : LOwn wr B v L) (hb : ∀ g, v.ownBlock = some g → g < w.heap.size ∨ X.heap.size ≤ g) (h1 : w.heap.size ≤ gl) (h2 : gl < X.heap.size) (hf : Fr (fun g => g = gl) wr wr') : LOwn wr' B v L := Own.fr h hf (fun g hg e => by have := hb g hg; omega)
theorem FSt.turn1 (h : FSt O X w wr B gl k hv wv has waits) {w0 : World} (ho : LOwn wr w0.heap.size v L) (h0 : X.heap.size ≤ w0.heap.size) (hB : B ≤ X.heap.size) (h1 : w.heap.size ≤ gl) (h2 : gl < X.heap.size) : FSt O X w (wr.setCell ⟨gl, 1, none⟩ v) B gl k v wv L waits := by
  have hf : Fr (fun g => g = gl) wr (wr.setCell ⟨gl, 1, none⟩ v) := (Fr.refl (fun g => g = gl) wr).setCell (p := ⟨gl, 1, none⟩) (.inl rfl) _
  have hn : ∀ g, v.ownBlock = some g → g < w.heap.size ∨ X.heap.size ≤ g := fun g hg => .inr (Nat.le_trans h0 (ho.lt g hg).1)
  refine ⟨?_, FSt.own_ne (Own.base_ ho (fun g hg => by have := (ho.lt g hg).1; omega)) hn h1 h2 hf, FSt.own_ne h.wt h.wb h1 h2 hf, hn, h.wb, h.go.trans hf (fun i _ e => e), hB, fun g hg => .inr (Nat.le_trans h0 (ho.lt g hg).1), h.wo⟩
  have h9 := heap_setCell_same wr gl 1 _ 52 v h.row
  exact h9
theorem FSt.turn2 (h : FSt O X w wr B gl k hv wv has waits) {w0 : World} (ho : LOwn wr w0.heap.size v L) (h0 : X.heap.size ≤ w0.heap.size) (hB : B ≤ X.heap.size) (h1 : w.heap.size ≤ gl) (h2 : gl < X.heap.size) : FSt O X w (wr.setCell ⟨gl, 2, none⟩ v) B gl k hv v has L := by
  have hf : Fr (fun g => g = gl) wr (wr.setCell ⟨gl, 2, none⟩ v) := (Fr.refl (fun g => g = gl) wr).setCell (p := ⟨gl, 2, none⟩) (.inl rfl) _
  have hn : ∀ g, v.ownBlock = some g → g < w.heap.size ∨ X.heap.size ≤ g := fun g hg => .inr (Nat.le_trans h0 (ho.lt g hg).1)
  refine ⟨?_, FSt.own_ne h.h h.hb h1 h2 hf, FSt.own_ne (Own.base_ ho (fun g hg => by have := (ho.lt g hg).1; omega)) hn h1 h2 hf, h.hb, hn, h.go.trans hf (fun i _ e => e), hB, h.ho, fun g hg => .inr (Nat.le_trans h0 (ho.lt g hg).1)⟩
  have h9 := heap_setCell_same wr gl 2 _ 52 v h.row
  exact h9
theorem FSt.pop (h : FSt O X w wr B gl k hv wv has waits) (ho : LOwn wr B v L) (hn : ∀ g, v.ownBlock = some g → g < w.heap.size ∨ X.heap.size ≤ g) (hno : ∀ g, v.ownBlock = some g → O g ∨ X.heap.size ≤ g) (h1 : w.heap.size ≤ gl) (h2 : gl < X.heap.size) : FSt O X w (wr.setCell ⟨gl, 2, none⟩ v) B gl k hv v has L := by
  have hf : Fr (fun g => g = gl) wr (wr.setCell ⟨gl, 2, none⟩ v) := (Fr.refl (fun g => g = gl) wr).setCell (p := ⟨gl, 2, none⟩) (.inl rfl) _
  refine ⟨?_, FSt.own_ne h.h h.hb h1 h2 hf, FSt.own_ne ho hn h1 h2 hf, h.hb, hn, h.go.trans hf (fun i _ e => e), h.bx, h.ho, hno⟩
  have h9 := heap_setCell_same wr gl 2 _ 52 v h.row
  exact h9
theorem FSt.turn3 (h : FSt O X w wr B gl k hv wv has waits) {w0 : World} (ho : LOwn wr w0.heap.size v L) (h0 : X.heap.size ≤ w0.heap.size) (hB : B ≤ X.heap.size) (h1 : w.heap.size ≤ gl) (h2 : gl < X.heap.size) : FSt O X w (((wr.setCell ⟨gl, 0, none⟩ (.string k)).setCell ⟨gl, 1, none⟩ v).setCell ⟨gl, 2, none⟩ wv) B gl k v wv L waits := by
  have hf : Fr (fun g => g = gl) wr (((wr.setCell ⟨gl, 0, none⟩ (.string k)).setCell ⟨gl, 1, none⟩ v).setCell ⟨gl, 2, none⟩ wv) := (((Fr.refl (fun g => g = gl) wr).setCell (p := ⟨gl, 0, none⟩) (.inl rfl) _).setCell (p := ⟨gl, 1, none⟩) (.inl rfl) _).setCell (p := ⟨gl, 2, none⟩) (.inl rfl) _
  have hn : ∀ g, v.ownBlock = some g → g < w.heap.size ∨ X.heap.size ≤ g := fun g hg => .inr (Nat.le_trans h0 (ho.lt g hg).1)
  exact ⟨row3_set h.row, FSt.own_ne (Own.base_ ho (fun g hg => by have := (ho.lt g hg).1; omega)) hn h1 h2 hf, FSt.own_ne h.wt h.wb h1 h2 hf, hn, h.wb, h.go.trans hf (fun i _ e => e), hB, fun g hg => .inr (Nat.le_trans h0 (ho.lt g hg).1), h.wo⟩
theorem own_apart {e1 e2 : TypeId} {b1 b2 k1 k2 n1 n2 : Nat} {v1 v2 : Value} {xs ys : List Value} (h1 : Own wr b1 e1 k1 v1 n1 xs) (h2 : Own wr b2 e2 k2 v2 n2 ys) (hne : e1 ≠ e2) {g : Nat} (hg : v2.ownBlock = some g) : ¬ v1.ownBlock = some g := by
  rcases h2.2 with ⟨h0, _⟩ | ⟨g', off, cap, cur, h0, _, hg', _⟩
  · rw [h0] at hg; cases hg
  · rw [h0] at hg
    injection hg with hg
    subst hg
    exact own_ne_row h1 hg' hne
theorem FSt.away {b k2 n2 : Nat} {e : TypeId} {ys : List Value} (h : FSt O X w wr B gl k hv wv has waits) (ho : Own wr b e k2 v n2 ys) (he : (47 : TypeId) ≠ e) (hf : Fr (fun g => v.ownBlock = some g) wr V) (hb : X.heap.size ≤ b) (h2 : gl < X.heap.size) : FSt O X w V B gl k hv wv has waits :=
  ⟨hf.blk h.row (fun e => by have := (ho.lt gl e).1; omega), Own.fr h.h hf (fun g hg e => own_apart h.h ho he e hg), Own.fr h.wt hf (fun g hg e => own_apart h.wt ho he e hg), h.hb, h.wb, h.go.trans hf (fun i hi e => by have := (ho.lt i e).1; omega), h.bx, h.ho, h.wo⟩
end
def FreeL (O : Nat → Prop) (w : World) (B : Nat) (k : S) (r : Line × List Wt) (e : Ending) (w' : World) : Prop := ∃ hv wv gv, e = .returned (.tuple #[.agg #[.string k, hv, wv], gv]) ∧ LOwn w' B hv r.1.1 ∧ LOwn w' B wv r.1.2 ∧ (GOwn w' w.heap.size gv (grs k r.2) ∧ ∃ A c, gv = .slice A r.2.length c) ∧ Below w.heap.size w w' ∧ (∀ g, hv.ownBlock = some g → O g ∨ w.heap.size ≤ g) ∧ (∀ g, wv.ownBlock = some g → O g ∨ w.heap.size ≤ g)
theorem FSt.back {O : Nat → Prop} {X w wr : World} {B gl gr ng c5 : Nat} {A5 : Option Addr} {k : S} {hv wv a b c : Value} {has waits gs : List Wt} {r : Line × List Wt} (h : FSt O X w wr B gl k hv wv has waits) (hb : Below w.heap.size w X) (h1 : w.heap.size ≤ gl) (h2 : w.heap.size ≤ gr) (h3 : gl < X.heap.size) (h4 : gr < X.heap.size) (hg : GOwn wr X.heap.size (.slice A5 ng c5) (grs k gs)) (hn : ng = (grs k gs).length) (hr : r = ((has, waits), gs)) :
    FreeL O w B k r (.returned (.tuple #[.agg #[.string k, hv, wv], .slice A5 ng c5])) (((wr.setCell ⟨gr, 0, none⟩ a).setCell ⟨gr, 1, none⟩ b).setCell ⟨gr, 2, none⟩ c) := by
  subst hr
  have hz2 : Fr (fun g => g = gr) wr (((wr.setCell ⟨gr, 0, none⟩ a).setCell ⟨gr, 1, none⟩ b).setCell ⟨gr, 2, none⟩ c) := (((Fr.refl (fun g => g = gr) wr).setCell (.inl rfl) _).setCell (.inl rfl) _).setCell (.inl rfl) _
  have hz : Fr (fun g => g = gl ∨ g = gr) X (((wr.setCell ⟨gr, 0, none⟩ a).setCell ⟨gr, 1, none⟩ b).setCell ⟨gr, 2, none⟩ c) := (h.go.mono (T := fun g => g = gl ∨ g = gr) (fun i _ h => .inl h)).trans hz2 (fun i _ e => .inr e)
  refine ⟨hv, wv, _, rfl, Own.fr h.h hz2 (fun g hg e => by have := h.hb g hg; omega), Own.fr h.wt hz2 (fun g hg e => by have := h.wb g hg; omega), ⟨?_, A5, c5, by rw [hn, grs_len]⟩, hb.trans (hz.below hb.size (fun i _ h => by rcases h with rfl | rfl <;> assumption)), fun g hg => (h.ho g hg).imp id (Nat.le_trans hb.size), fun g hg => (h.wo g hg).imp id (Nat.le_trans hb.size)⟩
  have h9 : GOwn _ X.heap.size _ _ := Own.fr hg hz2 (fun g hg' e => by have := (Own.lt hg g hg').1; omega)
  have h8 := Own.base_ h9 (base' := w.heap.size) (fun g hg' => by have := (Own.lt h9 g hg').1; have := hb.size; omega)
  exact h8
set_option maxHeartbeats 20000000 in
theorem freeW_any {w : World} {B nh ch nw cw : Nat} {k : S} {Ah Aw : Option Addr} {has waits : List Wt} (h1 : Own w B 47 3 (.slice Ah nh ch) nh (wc has)) (hn1 : nh = has.length) (h2 : Own w B 47 3 (.slice Aw nw cw) nw (wc waits)) (hn2 : nw = waits.length) (hlim : nh + nw ≤ 50000) (hB : B ≤ w.heap.size) (p : Int × Int) :
    Calls Try.prog 21 #[.agg #[.string k, .slice Ah nh ch, .slice Aw nw cw], .agg #[.int .u64 p.1, .int .i64 p.2]] w (FreeL (OldB (.slice Ah nh ch) (.slice Aw nw cw)) w B k (freeW (has, waits) p)) := by
  obtain ⟨r, hr⟩ : ∃ r, r = freeW (has, waits) p := ⟨_, rfl⟩
  rw [← hr]
  have HR := Lib.hid hr
  obtain ⟨O, hO⟩ : ∃ O, O = OldB (.slice Ah nh ch) (.slice Aw nw cw) := ⟨_, rfl⟩
  rw [← hO]
  have HOO := Lib.hid hO
  clear hO
  have H1 := Lib.hid h1
  have H2 := Lib.hid h2
  have HNH := Lib.hid hn1
  have HNW := Lib.hid hn2
  clear hr hn1 hn2 h1 h2
  go_enter Try.func21, Try.ntmps21
  go_upto_region 1 with fail
  obtain ⟨gl, hgl'⟩ : ∃ g, g = w.heap.size := ⟨_, rfl⟩
  obtain ⟨gt, hgt'⟩ : ∃ g, g = w.heap.size + 1 := ⟨_, rfl⟩
  obtain ⟨gr, hgr'⟩ : ∃ g, g = w.heap.size + 1 + 1 := ⟨_, rfl⟩
  obtain ⟨X, hX⟩ : ∃ X, X = ((w.alloc (.cells #[.string k, .slice Ah nh ch, .slice Aw nw cw] 52)).alloc (.cells #[.int .u64 p.1, .int .i64 p.2] 24)).alloc (.cells #[.string ⟨#[]⟩, .slice none 0 0, .slice none 0 0] 52) := ⟨_, rfl⟩
  rw [← hX, ← hgr', ← hgt', ← hgl']
  have hs1 : (w.alloc (.cells #[.string k, .slice Ah nh ch, .slice Aw nw cw] 52)).heap.size = w.heap.size + 1 := by simp
  have hs2 : ((w.alloc (.cells #[.string k, .slice Ah nh ch, .slice Aw nw cw] 52)).alloc (.cells #[.int .u64 p.1, .int .i64 p.2] 24)).heap.size = w.heap.size + 1 + 1 := by simp
  have hs3 : X.heap.size = w.heap.size + 1 + 1 + 1 := by rw [hX]; simp
  have HXB : Hid (Below w.heap.size w X) := Lib.hid (by rw [hX]; exact (((Below.refl _ _).alloc (Nat.le_refl _) _).alloc (by omega) _).alloc (by omega) _)
  have HXL : Hid (X.heap[gl]? = some (.cells #[.string k, .slice Ah nh ch, .slice Aw nw cw] 52 (0, 0))) := Lib.hid (by rw [hX, hgl']; exact (Below.heap_alloc _ _ _ (by omega)).trans ((Below.heap_alloc _ _ _ (by omega)).trans (heap_alloc_new w _)))
  have HXT : Hid (X.heap[gt]? = some (.cells #[.int .u64 p.1, .int .i64 p.2] 24 (0, 0))) := Lib.hid (by rw [hX, hgt']; have h9 := heap_alloc_new (w.alloc (.cells #[.string k, .slice Ah nh ch, .slice Aw nw cw] 52)) (.cells #[.int .u64 p.1, .int .i64 p.2] 24); rw [hs1] at h9; exact (Below.heap_alloc _ _ _ (by omega)).trans h9)
  have HXR : Hid (X.heap[gr]? = some (.cells #[.string ⟨#[]⟩, .slice none 0 0, .slice none 0 0] 52 (0, 0))) := Lib.hid (by rw [hX, hgr']; have h9 := heap_alloc_new ((w.alloc (.cells #[.string k, .slice Ah nh ch, .slice Aw nw cw] 52)).alloc (.cells #[.int .u64 p.1, .int .i64 p.2] 24)) (.cells #[.string ⟨#[]⟩, .slice none 0 0, .slice none 0 0] 52); rw [hs2] at h9; exact h9)
  have hgl0 : w.heap.size ≤ gl := by omega
  have hgr0 : w.heap.size ≤ gr := by omega
  have hgl : gl < X.heap.size := by omega
  have hgr : gr < X.heap.size := by omega
  have hgtl : gt < X.heap.size := by omega
  have hgtne : gt ≠ gl := by omega
  have hgrne : gr ≠ gl := by omega
  have HS0 : Hid (FSt O X w X B gl k (.slice Ah nh ch) (.slice Aw nw cw) has waits) := Lib.hid ⟨HXL.out, by unfold LOwn; rw [← HNH.out]; exact H1.out.below HXB.out, by unfold LOwn; rw [← HNW.out]; exact H2.out.below HXB.out, fun g hg => .inl (H1.out.lt g hg).2, fun g hg => .inl (H2.out.lt g hg).2, Fr.refl _ _, by omega, fun g hg => by rw [HOO.out]; exact .inl (.inl hg), fun g hg => by rw [HOO.out]; exact .inl (.inr hg)⟩
  clear hX hgr' hgt' hgl' hs1 hs2 hs3
  obtain ⟨s0, s1, s2⟩ := row3c HS0.out.row
  obtain ⟨u0, u1⟩ := HS0.out.tid HXT.out hgtne
  have HF6 := Lib.hid (findL_any HNH.out (HS0.out.own_h HNH.out).rd p)
  obtain ⟨rz, hrz⟩ : ∃ r, r = firstZ (fun u => sameT u p) has := ⟨_, rfl⟩
  rw [← hrz] at HF6
  have HRZ := Lib.hid hrz
  clear hrz
  go_upto_region 2 with (go_at_call 20; refine HF6.out.mono ?_; rintro e w1 ⟨rfl, hb1⟩; have HB1 := Lib.hid hb1; clear hb1)
  clear s0 s1 s2 u0 u1
  have HSA := Lib.hid (HS0.out.below HB1.out)
  go_upto_if 17 with fail
  go_cut [6] from 16 to 22 (fun v wx => v = .int .i64 rz ∧ ∃ A1 n1 c1, FSt O X w wx B gl k (.slice A1 n1 c1) (.slice Aw nw cw) (delT has p) waits)
  case first =>
    cases hf : has.findIdx? (fun u => sameT u p) with
    | none =>
      have hz : rz < 0 := by have h9 := HRZ.out; unfold firstZ at h9; rw [hf] at h9; rw [h9]; decide
      have HDN := Lib.hid (delT_none hf)
      have HZZ := Lib.hid hz
      clear hf
      go_wp2_with fail
      go_meet
      case rel => exact ⟨rfl, _, _, _, by rw [HDN.out]; exact HSA.out⟩
    | some i =>
      obtain ⟨u, hu, _⟩ := find_some hf
      have hz : rz = (i : Int) := by have h9 := HRZ.out; unfold firstZ at h9; rw [hf] at h9; exact h9
      have hil : i < nh := by rw [HNH.out]; exact (List.getElem?_eq_some_iff.1 hu).1
      have HDS := Lib.hid (delT_some hf)
      have hz0 : (0 : Int) ≤ (i : Int) := by omega
      have HCU := Lib.hid (cut_any (HSA.out.own_h HNH.out) HNH.out hil (by omega))
      rw [← HDS.out] at HCU
      obtain ⟨L, hL⟩ : ∃ L, L = delT has p := ⟨_, rfl⟩
      rw [← hL] at HCU
      have HLL := Lib.hid hL
      clear hf hu hL HRZ
      subst hz
      obtain ⟨s0, s1, s2⟩ := row3c HSA.out.row
      go_wp2_with (go_at_call 42; refine HCU.out.mono ?_; rintro e w5 ⟨v5, rfl, ho5, hb5⟩; obtain ⟨A5, c5, e5, _⟩ := LOwn.form_ ho5; obtain ⟨m5, hm5⟩ : ∃ m, m = L.length := ⟨_, rfl⟩; rw [← hm5] at e5; subst e5; clear hm5; have HO5 := Lib.hid ho5; have HS5 := Lib.hid (HSA.out.below hb5); have HNW5 : Hid (w1.heap.size ≤ w5.heap.size) := Lib.hid hb5.size; obtain ⟨z0, z1, z2⟩ := row3c HS5.out.row; obtain ⟨b0, b1, b2⟩ := line_free HS5.out.row; clear ho5 hb5 HCU)
      go_meet
      case rel => exact ⟨rfl, _, _, _, by rw [← HLL.out]; exact HS5.out.turn1 HO5.out (HSA.out.xle) HSA.out.bx hgl0 hgl⟩
  case rest =>
    obtain ⟨rfl, A1, n1, c1, hs⟩ := hcut
    obtain ⟨V1, hV⟩ : ∃ V, V = wc := ⟨_, rfl⟩
    rw [← hV] at hs ⊢
    have HS1 := Lib.hid hs
    clear hs hV wc HSA HRZ
    have HNW1 : Hid (nw = waits.length) := HNW
    obtain ⟨s0, s1, s2⟩ := row3c HS1.out.row
    obtain ⟨u0, u1⟩ := HS1.out.tid HXT.out hgtne
    have HF7 := Lib.hid (findL_any HNW.out (HS1.out.own_w HNW.out).rd p)
    obtain ⟨rz, hrz⟩ : ∃ r, r = firstZ (fun u => sameT u p) waits := ⟨_, rfl⟩
    rw [← hrz] at HF7
    have HRZ := Lib.hid hrz
    clear hrz
    go_upto_region 5 with (go_at_call 20; refine HF7.out.mono ?_; rintro e w1 ⟨rfl, hb1⟩; have HB1 := Lib.hid hb1; clear hb1)
    clear s0 s1 s2 u0 u1
    have HSA := Lib.hid (HS1.out.below HB1.out)
    go_upto_if 28 with fail
    go_cut [7] from 27 to 33 (fun v wx => v = .int .i64 rz ∧ ∃ A3 n3 c3, FSt O X w wx B gl k (.slice A1 n1 c1) (.slice A3 n3 c3) (delT has p) (delT waits p))
    case first =>
      cases hf : waits.findIdx? (fun u => sameT u p) with
      | none =>
        have hz : rz < 0 := by have h9 := HRZ.out; unfold firstZ at h9; rw [hf] at h9; rw [h9]; decide
        have HDN := Lib.hid (delT_none hf)
        have HZZ := Lib.hid hz
        clear hf
        go_wp2_with fail
        go_meet
        case rel => exact ⟨rfl, _, _, _, by rw [HDN.out]; exact HSA.out⟩
      | some i =>
        obtain ⟨u, hu, _⟩ := find_some hf
        have hz : rz = (i : Int) := by have h9 := HRZ.out; unfold firstZ at h9; rw [hf] at h9; exact h9
        have hil : i < nw := by rw [HNW.out]; exact (List.getElem?_eq_some_iff.1 hu).1
        have HDS := Lib.hid (delT_some hf)
        have hz0 : (0 : Int) ≤ (i : Int) := by omega
        have HCU := Lib.hid (cut_any (HSA.out.own_w HNW.out) HNW.out hil (by omega))
        rw [← HDS.out] at HCU
        obtain ⟨L, hL⟩ : ∃ L, L = delT waits p := ⟨_, rfl⟩
        rw [← hL] at HCU
        have HLL := Lib.hid hL
        clear hf hu hL HRZ
        subst hz
        obtain ⟨s0, s1, s2⟩ := row3c HSA.out.row
        go_wp2_with (go_at_call 42; refine HCU.out.mono ?_; rintro e w5 ⟨v5, rfl, ho5, hb5⟩; obtain ⟨A5, c5, e5, _⟩ := LOwn.form_ ho5; obtain ⟨m5, hm5⟩ : ∃ m, m = L.length := ⟨_, rfl⟩; rw [← hm5] at e5; subst e5; clear hm5; have HO5 := Lib.hid ho5; have HS5 := Lib.hid (HSA.out.below hb5); have HNW5 : Hid (w1.heap.size ≤ w5.heap.size) := Lib.hid hb5.size; obtain ⟨z0, z1, z2⟩ := row3c HS5.out.row; obtain ⟨b0, b1, b2⟩ := line_free HS5.out.row; clear ho5 hb5 HCU)
        go_meet
        case rel => exact ⟨rfl, _, _, _, by rw [← HLL.out]; exact HS5.out.turn2 HO5.out (HSA.out.xle) HSA.out.bx hgl0 hgl⟩
    case rest =>
      obtain ⟨rfl, A3, n3, c3, hs⟩ := hcut
      obtain ⟨V2, hV⟩ : ∃ V, V = wc := ⟨_, rfl⟩
      rw [← hV] at hs ⊢
      have HS2 := Lib.hid hs
      clear hs hV wc HSA HRZ
      obtain ⟨nw0, hnw0⟩ : ∃ n, n = (delT waits p).length := ⟨_, rfl⟩
      have HNW0 := Lib.hid hnw0
      have hnw05 : nw0 ≤ 50000 := by rw [hnw0]; have h9 := delT_len waits p; have := HNW.out; omega
      clear hnw0
      go_upto_region 8 with fail
      go_loopw [8] (fun v8 wr => ∃ (gs has2 ws2 : List Wt) (A1 A2 : Option Addr) (n1 c1 n2 c2 : Nat), GOwn wr X.heap.size v8 (grs k gs) ∧ gs.length + ws2.length = nw0 ∧ FSt O X w wr B gl k (.slice A1 n1 c1) (.slice A2 n2 c2) has2 ws2 ∧ r.1 = (nextW has2 ws2).1 ∧ r.2 = gs ++ (nextW has2 ws2).2 ∧ has2.length + ws2.length ≤ 50000) (fun v8 _ => nw0 - lenV v8)
      case atStart => exact ⟨[], delT has p, delT waits p, A1, A3, n1, c1, n3, c3, ⟨by simp [gc, grs], .inr ⟨V2.heap.size, 0, 0, #[], rfl, HS2.out.xle, heap_alloc_new V2 _, Nat.le_refl _, Nat.zero_le _, by simp [grs], by simp [gc, grs]⟩⟩, by rw [HNW0.out]; simp, HS2.out.below ((Below.refl _ _).alloc (Nat.le_refl _) _), by rw [HR.out]; rfl, by rw [HR.out]; rfl, by have h8 := delT_len has p; have h9 := delT_len waits p; have := HNH.out; have := HNW.out; omega⟩
      case round =>
        clear HS2
        obtain ⟨gs, has2, ws2, A1, A2, n1, c1, n2, c2, hgo, hcnt, hst, hr1, hr2, hle⟩ := hrel
        obtain ⟨A5, c5, rfl⟩ := hgo.form
        have HGO := Lib.hid hgo
        have HCNT := Lib.hid hcnt
        have HST := Lib.hid hst
        have HR1 := Lib.hid hr1
        have HR2 := Lib.hid hr2
        have HLE := Lib.hid hle
        obtain ⟨hn1, hc1, hm1⟩ := hst.h_form
        obtain ⟨hn2, hc2, hm2⟩ := hst.w_form
        have HN1 := Lib.hid hn1
        have HN2 := Lib.hid hn2
        have hsz := hst.xle
        unfold maxLen at hm1 hm2
        obtain ⟨ng, hng⟩ : ∃ n, n = (grs k gs).length := ⟨_, rfl⟩
        rw [← hng]
        have HNG := Lib.hid hng
        have HGOn : Hid (GOwn wr X.heap.size (.slice A5 ng c5) (grs k gs)) := Lib.hid (by rw [HNG.out]; exact HGO.out)
        clear hgo hcnt hst hr1 hr2 hng
        cases ws2 with
        | nil =>
          have hz2 : n2 = 0 := hn2
          clear hn1 hn2 hle
          subst hz2
          have HRE : Hid (r = ((has2, []), gs)) := Lib.hid (by
            have e1 := HR1.out
            have e2 := HR2.out
            unfold nextW at e1 e2
            rw [List.append_nil] at e2
            exact Prod.ext e1 e2)
          obtain ⟨s0, s1, s2⟩ := row3c HST.out.row
          obtain ⟨y0, y1, y2⟩ := row3c (HST.out.res HXR.out hgrne)
          obtain ⟨x0, x1, x2⟩ := line_free (HST.out.res HXR.out hgrne)
          go_wp2_with fail
          refine bodyPost_ret (Res.results_row_tmp rfl _ _ (row3_set (HST.out.res HXR.out hgrne)) rfl Try.underlying52 rfl rfl) rfl ?_
          exact HST.out.back HXB.out hgl0 hgr0 hgl hgr HGOn.out HNG.out HRE.out
        | cons t ws =>
          obtain ⟨nws, hnws⟩ : ∃ n, n = ws.length := ⟨_, rfl⟩
          have HNWS := Lib.hid hnws
          have hz2 : n2 = nws + 1 := by rw [hn2, hnws]; rfl
          have hle2 : n1 + nws ≤ 50000 := by rw [List.length_cons] at hle; omega
          have HN1' := HN1
          clear hn1 hn2 hle hnws
          subst hz2
          obtain ⟨gw, offw, rfl, _, d0, d1, d2⟩ := want_cells (HST.out.own_w HN2.out).rd (j := 0) (t := t) rfl (by omega)
          simp only [Nat.zero_mul, Nat.add_zero] at d0 d1 d2
          obtain ⟨s0, s1, s2⟩ := row3c HST.out.row
          have i1 : (0 : Int) < ((nws + 1 : Nat) : Int) := by omega
          obtain ⟨gy, hgy⟩ : ∃ g, g = wr.heap.size := ⟨_, rfl⟩
          obtain ⟨Y, hY⟩ : ∃ Y, Y = wr.alloc (.cells #[.int .u64 t.num, .int .i64 t.nd, .int .i64 t.md] 47) := ⟨_, rfl⟩
          have HYB : Hid (Below wr.heap.size wr Y) := Lib.hid (by rw [hY]; exact (Below.refl _ _).alloc (Nat.le_refl _) _)
          have HYT : Hid (Y.heap[gy]? = some (.cells #[.int .u64 t.num, .int .i64 t.nd, .int .i64 t.md] 47 (0, 0))) := Lib.hid (by rw [hY, hgy]; exact heap_alloc_new wr _)
          go_upto_region 10 with fail
          rw [← hY, ← hgy]
          have HSY := Lib.hid (HST.out.below HYB.out)
          have HYO : Hid (GOwn Y X.heap.size (.slice A5 ng c5) (grs k gs)) := Lib.hid (by rw [HNG.out]; exact Own.below HGO.out HYB.out)
          have hgyX : X.heap.size ≤ gy := by omega
          have HGYB : Hid (gy = wr.heap.size) := Lib.hid hgy
          clear hY hgy d0 d1 d2 s0 s1 s2
          obtain ⟨s0, s1, s2⟩ := row3c HSY.out.row
          go_upto_region 11 with fail
          clear s0 s1 s2
          go_loopw [46] (fun v wq => ∃ j : Nat, j ≤ n1 ∧ v = .int .i64 j ∧ (∀ (i : Nat) (u : Wt), i < j → has2[i]? = some u → (!sameT u t.tid && against u.md t.md) = false) ∧ Below Y.heap.size Y wq) (fun v _ => n1 - (intOf v).toNat)
          case atStart => exact ⟨0, Nat.zero_le _, rfl, (fun i u h => absurd h (by omega)), Below.refl _ _⟩
          case round =>
            obtain ⟨j, hj, rfl, hall, hbl⟩ := hrel
            have HBL := Lib.hid hbl
            have HALL := Lib.hid hall
            have hszq := hbl.size
            clear hall
            by_cases hlt : j < n1
            · obtain ⟨u, hu⟩ : ∃ u, has2[j]? = some u := ⟨has2[j]'(by rw [← HN1.out]; omega), List.getElem?_eq_getElem _⟩
              have j0 : (0 : Int) ≤ (j : Int) := by omega
              have j1 : (j : Int) < (n1 : Int) := by omega
              obtain ⟨g3, o3, e3, _, a0, a1, a2⟩ := want_cells ((HSY.out.own_h HN1.out).rd.up hbl) hu (by omega)
              subst e3
              have HUE := Lib.hid hu
              clear hu hbl
              obtain ⟨gz, hgz⟩ : ∃ g, g = wr.heap.size := ⟨_, rfl⟩
              obtain ⟨Z, hZ⟩ : ∃ Y, Y = wr.alloc (.cells #[.int .u64 u.num, .int .i64 u.nd, .int .i64 u.md] 47) := ⟨_, rfl⟩
              have HZB : Hid (Below wr.heap.size wr Z) := Lib.hid (by rw [hZ]; exact (Below.refl _ _).alloc (Nat.le_refl _) _)
              have HZR : Hid (Z.heap[gz]? = some (.cells #[.int .u64 u.num, .int .i64 u.nd, .int .i64 u.md] 47 (0, 0))) := Lib.hid (by rw [hZ, hgz]; exact heap_alloc_new wr _)
              go_upto_region 13 with fail
              rw [← hZ, ← hgz]
              have HZY : Hid (Below Y.heap.size Y Z) := Lib.hid (HBL.out.trans (HZB.out.mono hszq))
              clear hZ hgz a0 a1 a2
              obtain ⟨q0, q1, q2⟩ := row3c HZR.out
              obtain ⟨t0, t1, t2⟩ := row3c (blk_below HYT.out HZY.out)
              have HSZ := Lib.hid (HSY.out.below HZY.out)
              have HZO := Lib.hid (Own.below HYO.out HZY.out)
              by_cases e1 : u.num = t.num
              · by_cases e2 : u.nd = t.nd
                · have q1 : (u.num == t.num) = true := by simp [e1]
                  have q2 : (u.nd == t.nd) = true := by simp [e2]
                  have HAG : Hid ((!sameT u t.tid && against u.md t.md) = false) := Lib.hid (by simp [sameT, Wt.tid, e1, e2])
                  clear e1 e2
                  go_wp2_with fail
                  go_roundw
                  case rel => exact ⟨j + 1, by omega, by go_num, (fun i v hi hv => by
                    by_cases e : i = j
                    · subst e
                      have : some u = some v := HUE.out.symm.trans hv
                      injection this with this
                      rw [← this]; exact HAG.out
                    · exact HALL.out i v (by omega) hv), HZY.out⟩
                  case measure => simp [intOf]; omega
                · have q1 : (u.num == t.num) = true := by simp [e1]
                  have q2 : (u.nd == t.nd) = false := by simp [e2]
                  have HSM : Hid (sameT u t.tid = false) := Lib.hid (by simp [sameT, Wt.tid, e2])
                  clear e1 e2
                  by_cases hv2 : u.md = 2
                  · have m2 : (u.md == 2) = true := by simp [hv2]
                    have HAG : Hid ((!sameT u t.tid && against u.md t.md) = true) := Lib.hid (by rw [HSM.out]; simp [against, hv2])
                    clear hv2
                    have HRE : Hid (r = ((has2, t :: ws), gs)) := Lib.hid (by
                      have hne : ¬ free1 has2 t = [] := fun e => by
                        have : u ∈ free1 has2 t := List.mem_filter.2 ⟨List.mem_of_getElem? HUE.out, HAG.out⟩
                        rw [e] at this
                        cases this
                      have e1 := HR1.out
                      have e2 := HR2.out
                      unfold nextW at e1 e2
                      rw [if_neg hne] at e1 e2
                      rw [List.append_nil] at e2
                      exact Prod.ext e1 e2)
                    go_upto_region 14 with fail
                    clear q0 t0 t1 t2
                    obtain ⟨s0, s1, s2⟩ := row3c HSZ.out.row
                    obtain ⟨y0, y1, y2⟩ := row3c (HSZ.out.res HXR.out hgrne)
                    obtain ⟨x0, x1, x2⟩ := line_free (HSZ.out.res HXR.out hgrne)
                    go_wp2_with fail
                    refine bodyPost_ret (Res.results_row_tmp rfl _ _ (row3_set (HSZ.out.res HXR.out hgrne)) rfl Try.underlying52 rfl rfl) rfl ?_
                    exact HSZ.out.back HXB.out hgl0 hgr0 hgl hgr HZO.out HNG.out HRE.out
                  · have m2 : (u.md == 2) = false := by simp [hv2]
                    by_cases hm2 : t.md = 2
                    · have m1 : (t.md == 2) = true := by simp [hm2]
                      have HAG : Hid ((!sameT u t.tid && against u.md t.md) = true) := Lib.hid (by rw [HSM.out]; simp [against, hm2])
                      clear hv2 hm2
                      have HRE : Hid (r = ((has2, t :: ws), gs)) := Lib.hid (by
                        have hne : ¬ free1 has2 t = [] := fun e => by
                          have : u ∈ free1 has2 t := List.mem_filter.2 ⟨List.mem_of_getElem? HUE.out, HAG.out⟩
                          rw [e] at this
                          cases this
                        have e1 := HR1.out
                        have e2 := HR2.out
                        unfold nextW at e1 e2
                        rw [if_neg hne] at e1 e2
                        rw [List.append_nil] at e2
                        exact Prod.ext e1 e2)
                      go_upto_region 14 with fail
                      clear q0 t0 t1 t2
                      obtain ⟨s0, s1, s2⟩ := row3c HSZ.out.row
                      obtain ⟨y0, y1, y2⟩ := row3c (HSZ.out.res HXR.out hgrne)
                      obtain ⟨x0, x1, x2⟩ := line_free (HSZ.out.res HXR.out hgrne)
                      go_wp2_with fail
                      refine bodyPost_ret (Res.results_row_tmp rfl _ _ (row3_set (HSZ.out.res HXR.out hgrne)) rfl Try.underlying52 rfl rfl) rfl ?_
                      exact HSZ.out.back HXB.out hgl0 hgr0 hgl hgr HZO.out HNG.out HRE.out
                    · have m1 : (t.md == 2) = false := by simp [hm2]
                      have HAG : Hid ((!sameT u t.tid && against u.md t.md) = false) := Lib.hid (by simp [against, hv2, hm2])
                      clear hv2 hm2
                      go_wp2_with fail
                      go_roundw
                      case rel => exact ⟨j + 1, by omega, by go_num, (fun i v hi hv => by
                        by_cases e : i = j
                        · subst e
                          have : some u = some v := HUE.out.symm.trans hv
                          injection this with this
                          rw [← this]; exact HAG.out
                        · exact HALL.out i v (by omega) hv), HZY.out⟩
                      case measure => simp [intOf]; omega
              · have q1 : (u.num == t.num) = false := by simp [e1]
                have HSM : Hid (sameT u t.tid = false) := Lib.hid (by simp [sameT, Wt.tid, e1])
                clear e1
                by_cases hv2 : u.md = 2
                · have m2 : (u.md == 2) = true := by simp [hv2]
                  have HAG : Hid ((!sameT u t.tid && against u.md t.md) = true) := Lib.hid (by rw [HSM.out]; simp [against, hv2])
                  clear hv2
                  have HRE : Hid (r = ((has2, t :: ws), gs)) := Lib.hid (by
                    have hne : ¬ free1 has2 t = [] := fun e => by
                      have : u ∈ free1 has2 t := List.mem_filter.2 ⟨List.mem_of_getElem? HUE.out, HAG.out⟩
                      rw [e] at this
                      cases this
                    have e1 := HR1.out
                    have e2 := HR2.out
                    unfold nextW at e1 e2
                    rw [if_neg hne] at e1 e2
                    rw [List.append_nil] at e2
                    exact Prod.ext e1 e2)
                  go_upto_region 14 with fail
                  clear q0 t0 t1 t2
                  obtain ⟨s0, s1, s2⟩ := row3c HSZ.out.row
                  obtain ⟨y0, y1, y2⟩ := row3c (HSZ.out.res HXR.out hgrne)
                  obtain ⟨x0, x1, x2⟩ := line_free (HSZ.out.res HXR.out hgrne)
                  go_wp2_with fail
                  refine bodyPost_ret (Res.results_row_tmp rfl _ _ (row3_set (HSZ.out.res HXR.out hgrne)) rfl Try.underlying52 rfl rfl) rfl ?_
                  exact HSZ.out.back HXB.out hgl0 hgr0 hgl hgr HZO.out HNG.out HRE.out
                · have m2 : (u.md == 2) = false := by simp [hv2]
                  by_cases hm2 : t.md = 2
                  · have m1 : (t.md == 2) = true := by simp [hm2]
                    have HAG : Hid ((!sameT u t.tid && against u.md t.md) = true) := Lib.hid (by rw [HSM.out]; simp [against, hm2])
                    clear hv2 hm2
                    have HRE : Hid (r = ((has2, t :: ws), gs)) := Lib.hid (by
                      have hne : ¬ free1 has2 t = [] := fun e => by
                        have : u ∈ free1 has2 t := List.mem_filter.2 ⟨List.mem_of_getElem? HUE.out, HAG.out⟩
                        rw [e] at this
                        cases this
                      have e1 := HR1.out
                      have e2 := HR2.out
                      unfold nextW at e1 e2
                      rw [if_neg hne] at e1 e2
                      rw [List.append_nil] at e2
                      exact Prod.ext e1 e2)
                    go_upto_region 14 with fail
                    clear q0 t0 t1 t2
                    obtain ⟨s0, s1, s2⟩ := row3c HSZ.out.row
                    obtain ⟨y0, y1, y2⟩ := row3c (HSZ.out.res HXR.out hgrne)
                    obtain ⟨x0, x1, x2⟩ := line_free (HSZ.out.res HXR.out hgrne)
                    go_wp2_with fail
                    refine bodyPost_ret (Res.results_row_tmp rfl _ _ (row3_set (HSZ.out.res HXR.out hgrne)) rfl Try.underlying52 rfl rfl) rfl ?_
                    exact HSZ.out.back HXB.out hgl0 hgr0 hgl hgr HZO.out HNG.out HRE.out
                  · have m1 : (t.md == 2) = false := by simp [hm2]
                    have HAG : Hid ((!sameT u t.tid && against u.md t.md) = false) := Lib.hid (by simp [against, hv2, hm2])
                    clear hv2 hm2
                    go_wp2_with fail
                    go_roundw
                    case rel => exact ⟨j + 1, by omega, by go_num, (fun i v hi hv => by
                      by_cases e : i = j
                      · subst e
                        have : some u = some v := HUE.out.symm.trans hv
                        injection this with this
                        rw [← this]; exact HAG.out
                      · exact HALL.out i v (by omega) hv), HZY.out⟩
                    case measure => simp [intOf]; omega
            · have j1 : ¬ ((j : Int) < (n1 : Int)) := by omega
              have HEM : Hid (free1 has2 t = []) := Lib.hid (by
                unfold free1
                rw [List.filter_eq_nil_iff]
                intro u hu e
                obtain ⟨i, hi⟩ := List.getElem?_of_mem hu
                have := HALL.out i u (by have := (List.getElem?_eq_some_iff.1 hi).1; rw [← HN1.out] at this; omega) hi
                rw [this] at e
                cases e)
              clear hbl
              obtain ⟨V3, hV3⟩ : ∃ V, V = wr := ⟨_, rfl⟩
              rw [← hV3] at HBL ⊢
              clear hV3 HALL hszq
              have HS3 := Lib.hid (HSY.out.below HBL.out)
              have HT3 := Lib.hid (blk_below HYT.out HBL.out)
              have HO3 : Hid (GOwn V3 X.heap.size (.slice A5 ng c5) (grs k gs)) := Lib.hid (Own.below HYO.out HBL.out)
              have HOWN := Lib.hid (HS3.out.own_w HN2.out)
              have HTL := Lib.hid (own_tail HOWN.out HNWS.out)
              have k1 : (1 : Int) ≤ ((nws + 1 : Nat) : Int) := by omega
              have k2 : ((nws + 1 : Nat) : Int) ≤ (c2 : Int) := by omega
              have k3 : (1 : Int) ≤ (c2 : Int) := by omega
              obtain ⟨s0, s1, s2⟩ := row3c HS3.out.row
              obtain ⟨x0, x1, x2⟩ := line_free HS3.out.row
              go_upto_region 16 with fail
              go_cut [8] from 68 to 71 (fun v8 wx => v8 = .slice A5 ng c5 ∧ ∃ ox, wx = V3.setCell ⟨gl, 2, none⟩ (.slice (some ⟨gw, ox, none⟩) nws (c2 - 1)) ∧ ox = if c2 = 1 then offw else offw + 3)
              case first =>
                by_cases hcc : c2 = 1
                · subst hcc
                  obtain rfl : nws = 0 := by omega
                  go_wp2_with fail
                  go_meet
                  case rel => exact ⟨rfl, _, rfl, rfl⟩
                · go_wp2_with fail
                  go_meet
                  case rel => exact ⟨rfl, _, rfl, by rw [if_neg hcc]⟩
              case rest =>
                obtain ⟨rfl, ox, hw4, hox⟩ := hcut
                obtain ⟨w4, e4⟩ : ∃ w4, w4 = wc := ⟨_, rfl⟩
                rw [← e4] at hw4 ⊢
                clear e4 wc
                have HFW : Hid (Fr (fun g => g = gl) V3 w4) := Lib.hid (by rw [hw4]; exact (Fr.refl (fun g => g = gl) V3).setCell (p := ⟨gl, 2, none⟩) (.inl rfl) _)
                have HS4 : Hid (FSt O X w w4 B gl k (.slice A1 n1 c1) (.slice (some ⟨gw, ox, none⟩) nws (c2 - 1)) has2 ws) := Lib.hid (by rw [hw4]; exact HS3.out.pop (by unfold LOwn; rw [← HNWS.out, hox]; exact HTL.out) (fun g hg => HS3.out.wb g hg) (fun g hg => HS3.out.wo g hg) hgl0 hgl)
                have HT4 := Lib.hid (HFW.out.blk HT3.out (fun e => by omega))
                have HO4 : Hid (GOwn w4 X.heap.size (.slice A5 ng c5) (grs k gs)) := Lib.hid (Own.fr HO3.out HFW.out (fun g hg e => by have := (Own.lt HO3.out g hg).1; omega))
                clear hw4 hox s0 s1 s2 x0 x1 x2 k1 k2 k3
                obtain ⟨s0, s1, s2⟩ := row3c HS4.out.row
                obtain ⟨t0, t1, t2⟩ := row3c HT4.out
                have HGV := Lib.hid (giveW_any (k := k) (Aw := some ⟨gw, ox, none⟩) (nw := nws) (cw := c2 - 1) (HS4.out.own_h HN1.out) HN1.out (by omega) t)
                obtain ⟨L, hL⟩ : ∃ L, L = giveW has2 t := ⟨_, rfl⟩
                rw [← hL] at HGV
                have HLG := Lib.hid hL
                clear hL
                go_upto_region 18 with (go_at_call 40; refine HGV.out.mono ?_; rintro e w5 ⟨v5, rfl, ho5, hb5⟩; obtain ⟨A6, c6, e5, _⟩ := LOwn.form_ ho5; obtain ⟨m6, hm6⟩ : ∃ m, m = L.length := ⟨_, rfl⟩; rw [← hm6] at e5; subst e5; clear hm6; have HO5 := Lib.hid ho5; have HB5 := Lib.hid hb5; have HS5 := Lib.hid (HS4.out.below hb5); obtain ⟨z0, z1, z2⟩ := row3c HS5.out.row; obtain ⟨b0, b1, b2⟩ := line_free HS5.out.row; clear ho5 hb5 HGV)
                clear s0 s1 s2 t0 t1 t2
                obtain ⟨Z, hZ⟩ : ∃ Z, Z = ((w5.setCell ⟨gl, 0, none⟩ (.string k)).setCell ⟨gl, 1, none⟩ (.slice A6 m6 c6)).setCell ⟨gl, 2, none⟩ (.slice (some ⟨gw, ox, none⟩) nws (c2 - 1)) := ⟨_, rfl⟩
                rw [← hZ]
                have HFZ : Hid (Fr (fun g => g = gl) w5 Z) := Lib.hid (by rw [hZ]; exact (((Fr.refl (fun g => g = gl) w5).setCell (p := ⟨gl, 0, none⟩) (.inl rfl) _).setCell (p := ⟨gl, 1, none⟩) (.inl rfl) _).setCell (p := ⟨gl, 2, none⟩) (.inl rfl) _)
                have HSZ : Hid (FSt O X w Z B gl k (.slice A6 m6 c6) (.slice (some ⟨gw, ox, none⟩) nws (c2 - 1)) L ws) := Lib.hid (by rw [hZ]; exact HS5.out.turn3 HO5.out HS4.out.xle HS4.out.bx hgl0 hgl)
                have HTZ := Lib.hid (HFZ.out.blk (blk_below HT4.out HB5.out) (fun e => by omega))
                have HOZ : Hid (GOwn Z X.heap.size (.slice A5 ng c5) (grs k gs)) := Lib.hid (Own.fr (Own.below HO4.out HB5.out) HFZ.out (fun g hg e => by have := (Own.lt HO4.out g hg).1; omega))
                clear hZ z0 z1 z2 b0 b1 b2
                obtain ⟨s0, s1, s2⟩ := row3c HSZ.out.row
                obtain ⟨t0, t1, t2⟩ := row3c HTZ.out
                have hnl := HNG.out
                have hcn := HCNT.out
                have hll := HLE.out
                rw [grs_len] at hnl
                rw [List.length_cons] at hcn hll
                have HAP := Lib.hid (app_gr (W := Z.alloc (.cells #[.int .u64 t.num, .int .i64 t.nd, .string k, .int .i64 t.md] 35)) (ns := [(t, k)]) (m := 1) (c := 1) (v := .slice A5 ng c5) (Own.alloc HOZ.out _) (by have := HSZ.out.xle; simp; omega) rfl (rd_gr Z t k) (by rw [grs_len]; omega) 32)
                go_wp2_with (at_builtin; refine wpL_append rfl _ _ 32 32 rfl rfl rfl HAP.out ?_; rintro v7 w7 ⟨ho7, hf7⟩; have HO7 := Lib.hid ho7; have HF7 := Lib.hid hf7; clear ho7 hf7)
                go_roundw
                case rel =>
                  have ho := HO7.out
                  rw [grs_snoc] at ho
                  have hla : Below Z.heap.size Z (Z.alloc (.cells #[.int .u64 t.num, .int .i64 t.nd, .string k, .int .i64 t.md] 35)) := (Below.refl _ _).alloc (Nat.le_refl _) _
                  have hgl8 : L.length ≤ has2.length + 1 := by rw [HLG.out]; exact giveW_len has2 t
                  refine ⟨gs ++ [t], L, ws, A6, some ⟨gw, ox, none⟩, m6, c6, nws, c2 - 1, ho, by rw [List.length_append, List.length_singleton]; omega, (HSZ.out.below hla).away (Own.alloc HOZ.out _) (by decide) HF7.out (Nat.le_refl _) hgl, ?_, ?_, by omega⟩
                  · rw [HR1.out]
                    conv => lhs; unfold nextW
                    rw [if_pos HEM.out, HLG.out]
                  · rw [HR2.out]
                    conv => lhs; unfold nextW
                    rw [if_pos HEM.out, HLG.out, List.append_assoc]
                    rfl
                case measure =>
                  obtain ⟨A9, c9, e9⟩ := GOwn.form HO7.out
                  subst e9
                  show nw0 - (grs k gs ++ [(t, k)]).length < nw0 - ng
                  rw [List.length_append, grs_len, List.length_singleton]
                  omega
#print axioms freeW_any
end Go.Proofs.Ytcceankldiafpaa.Lock
