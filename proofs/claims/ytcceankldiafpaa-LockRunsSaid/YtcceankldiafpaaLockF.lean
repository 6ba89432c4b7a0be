/- Ask: on any table. -/
import Derived.Test.YtcceankldiafpaaLockE
set_option linter.unusedVariables false
set_option linter.unusedSimpArgs false
set_option linter.unusedSectionVars false
namespace Go.Proofs.Ytcceankldiafpaa.Lock
open Go.RowKit Go.WideShapes Go.Deep Go.Proofs.Ytcceankldiafpaa.Mem Go.Proofs.Ytcceankldiafpaa.Open Go.Proofs.Ytcceankldiafpaa.Maps
abbrev Line := List Wt × List Wt
def qv (l : Line) : Qv := ⟨0, .slice none 0 0, .slice none 0 0, l.1, l.2⟩
def placeL (l : Line) (p : Int × Int) : Nat := placeN (qv l) p
def blocksL (l : Line) (p : Int × Int) (m : Int) : List Wt := blockL (qv l) p m (placeL l p)
def hasAs (has : List Wt) (p : Int × Int) (m : Int) : Bool := match has.findIdx? (fun t => sameT t p) with
  | some i => decide (m ≤ (has.getD i ⟨0, 0, 0⟩).md)
  | none => false
def askL (l : Line) (p : Int × Int) (m : Int) : Line × Int :=
  if ¬ (m = 1 ∨ m = 2) then (l, 3) else
  if hasAs l.1 p m then (l, 1) else
  if hasT l.2 p then (l, 2) else
  if (l.2.drop (placeL l p)).any (youngB m p) then (l, 3) else
  if blocksL l p m = [] then ((giveL l.1 ⟨p.1, p.2, m⟩, l.2), 1) else
  if (blocksL l p m).any (notYoung p) then (l, 3) else
  ((l.1, l.2.take (placeL l p) ++ ⟨p.1, p.2, m⟩ :: l.2.drop (placeL l p)), 2)
def lineOf (qs : List (S × Qv)) (k : S) : Line := match getM qs k with | some q => (q.has, q.waits) | none => ([], [])
def Nxt (qs : List (S × Qv)) (k : S) (l' : Line) (qs' : List (S × Qv)) : Prop := (qs' = qs ∧ lineOf qs k = l') ∨ ∃ q', qs' = setM qs k q' ∧ (q'.has, q'.waits) = l'
def TFeet (mb : Nat) (qs : List (S × Qv)) (g : Nat) : Prop := g = mb ∨ ∃ k q, getM qs k = some q ∧ Feet q g
/-- What a method of the table leaves alone. -/
structure TGo (w w' : World) (mb : Nat) (qs qs' : List (S × Qv)) : Prop where
  fr : Fr (TFeet mb qs) w w'
  feet : ∀ g, TFeet mb qs' g → TFeet mb qs g ∨ w.heap.size ≤ g
theorem TGo.of_below {w w' : World} {mb : Nat} {qs : List (S × Qv)} (h : Below w.heap.size w w') : TGo w w' mb qs qs := ⟨Fr.of_below h _, fun g hg => .inl hg⟩
theorem TGo.trans {w w' w2 : World} {mb : Nat} {qs qs' q2 : List (S × Qv)} (h : TGo w w' mb qs qs') (k : TGo w' w2 mb qs' q2) : TGo w w2 mb qs q2 := by
  refine ⟨h.fr.trans (k.fr.mono (T := fun g => TFeet mb qs g ∨ w.heap.size ≤ g) fun i _ hi => h.feet i hi) fun i hi e => e.elim id fun e => by omega, fun g hg => ?_⟩
  rcases k.feet g hg with e | e
  · exact h.feet g e
  · exact .inr (Nat.le_trans h.fr.size e)
theorem Tb.feet {w : World} {B lt mb : Nat} {qs : List (S × Qv)} (h : Tb w B lt mb qs) {g : Nat} (hg : TFeet mb qs g) : B ≤ g ∧ g < w.heap.size := by
  rcases hg with rfl | ⟨k, q, hq, hg⟩
  · exact ⟨h.lm, h.fm.lt⟩
  · exact (h.rows k q hq).feet hg
theorem TGo.below {w w' : World} {B lt mb : Nat} {qs qs' : List (S × Qv)} (h : TGo w w' mb qs qs') (hT : Tb w B lt mb qs) : Below B w w' := h.fr.below hT.size fun g _ hg => (hT.feet hg).1
def AskR (w : World) (B lt mb : Nat) (qs : List (S × Qv)) (k : S) (r : Line × Int) (e : Ending) (w' : World) : Prop := e = .returned (.int .i64 r.2) ∧ ∃ qs', Tb w' B lt mb qs' ∧ TGo w w' mb qs qs' ∧ Nxt qs k r.1 qs'
theorem place_le (l : Line) (p : Int × Int) : placeL l p ≤ l.2.length := by
  unfold placeL placeN
  split
  · exact List.findIdx_le_length
  · exact Nat.le_refl _
/-- Where Ask finds its queue: the key's own, or a new one. -/
structure Src (X w : World) (B : Nat) (qs : List (S × Qv)) (k : S) (q : Qv) : Prop where
  src : getM qs k = some q ∨ (getM qs k = none ∧ q = ⟨q.qb, .slice none 0 0, .slice none 0 0, [], []⟩ ∧ X.heap.size ≤ q.qb)
  at_ : QAt w B q
  below : Below X.heap.size X w
theorem Src.line {X w : World} {B : Nat} {qs : List (S × Qv)} {k : S} {q : Qv} (h : Src X w B qs k q) : (q.has, q.waits) = lineOf qs k := by
  unfold lineOf
  rcases h.src with e | ⟨e, e2, _⟩
  · rw [e]
  · rw [e, e2]
theorem rd_drop {w : World} {B n c pl g off : Nat} {ws : List Wt} (h : Rd w B 3 (.slice (some ⟨g, off, none⟩) n c) n (wc ws)) (hn : n = ws.length) (hp : pl < n) : Rd w B 3 (.slice (some ⟨g, off + pl * 3, none⟩) (n - pl) (c - pl)) (n - pl) (wc (ws.drop pl)) := by
  obtain ⟨hl, A', c', e, h1, h2, hx⟩ := h
  injection e with ea eb ec
  subst ea ec
  have hlen : (wc (ws.drop pl)).length = (n - pl) * 3 := by rw [wc_len, List.length_drop]; omega
  obtain ⟨g', off', e3, e4, e5⟩ := hx (by omega)
  injection e3 with e3
  injection e3 with e6 e7 _
  subst e6 e7
  refine ⟨hlen, _, _, rfl, by omega, by omega, fun _ => ⟨g, off + pl * 3, rfl, e4, fun j u hu => ?_⟩⟩
  rw [← wc_drop, List.getElem?_drop] at hu
  rw [Nat.add_assoc]
  exact e5 _ u hu
theorem rd_none {w : World} {B c : Nat} (A : Option Addr) (hc : c ≤ maxLen) : Rd w B 3 (.slice A 0 c) 0 (wc []) := ⟨rfl, A, c, rfl, Nat.zero_le _, hc, fun h => absurd h (by omega)⟩
theorem contains_young {X V : World} (hb : Below X.heap.size X V) {A : Option Addr} {n c gt gm : Nat} {ws : List Wt} {m : Int} {p : Int × Int} (hn : n = ws.length) (hr : Rd V V.heap.size 3 (.slice A n c) n (wc ws)) (hm : V.heap[gm]? = some (.cells #[.int .i64 m] 31 (0, 0))) (hg : V.heap[gt]? = some (.cells #[.int .u64 p.1, .int .i64 p.2] 24 (0, 0))) :
    Calls Try.prog 26 #[.slice A n c, .func (.func 27) #[] #[.pointer (some ⟨gm, 0, none⟩), .pointer (some ⟨gt, 0, none⟩)]] V fun e w' => e = .returned (.bool (ws.any (youngB m p))) ∧ Below X.heap.size X w' := by
  subst hn
  exact (contains_a V hr (youngB m p) (p1 := gm) (p2 := gt) (fun W hW t => ask1_any W t m p (blk_below hm hW) (blk_below hg hW))).mono fun e w' h => ⟨h.1, hb.trans (h.2.mono hb.size)⟩
theorem contains_notyoung {X V : World} (hb : Below X.heap.size X V) {A : Option Addr} {n c gt : Nat} {ws : List Wt} {p : Int × Int} (hn : n = ws.length) (hr : Rd V V.heap.size 3 (.slice A n c) n (wc ws)) (hg : V.heap[gt]? = some (.cells #[.int .u64 p.1, .int .i64 p.2] 24 (0, 0))) :
    Calls Try.prog 26 #[.slice A n c, .func (.func 32) #[] #[.pointer (some ⟨gt, 0, none⟩)]] V fun e w' => e = .returned (.bool (ws.any (notYoung p))) ∧ Below X.heap.size X w' := by
  subst hn
  exact (contains_b V hr (notYoung p) (p1 := gt) (fun W hW t => ask2_any W t p (blk_below hg hW))).mono fun e w' h => ⟨h.1, hb.trans (h.2.mono hb.size)⟩
theorem Src.laid {X Y w7 w8 : World} {B lt mb : Nat} {qs : List (S × Qv)} {k : S} {q q' : Qv} (hT : Tb X B lt mb qs) (hs : Src X Y B qs k q) (h7 : Below Y.heap.size Y w7) (hg : QGo w7 w8 B q q') (hk : OkS k) :
    w8.cell? ⟨lt, 0, none⟩ = some (.map (some mb)) ∧ ∃ w9, (Instr.mapUpdate 62 (.map (some mb)) (.string k) (.pointer (some ⟨q.qb, 0, none⟩))).run Try.prog w8 = .ok () w9 ∧ Tb w9 B lt mb (setM qs k q') ∧ Fr (fun g => g = mb) w8 w9 := by
  have h7' : Below X.heap.size X w7 := hs.below.trans (h7.mono hs.below.size)
  have HT7 := hT.below h7'
  have hQ7 := hs.at_.below h7
  rcases hs.src with e | ⟨e, e2, e3⟩
  · have HT8 := HT7.turn e hg
    have hq' : getM (setM qs k q') k = some q' := by rw [getM_set, if_pos rfl]
    obtain ⟨w9, hr, hm, ht⟩ := run_updateQ HT8.fm hk q'
    rw [hg.same] at hr
    exact ⟨HT8.cell, w9, hr, HT8.laid hq' ht hm, ht.fr⟩
  · have hfq : ∀ g, Feet q g → X.heap.size ≤ g := fun g hx => by
      rcases hx with rfl | hx | hx
      · exact e3
      · rw [e2] at hx; cases hx
      · rw [e2] at hx; cases hx
    have HT8 : Tb w8 B lt mb qs := HT7.other hg.fr (fun k' q1 h1 g hg1 hx => by
      have := hfq g hx
      have := ((hT.rows k' q1 h1).feet hg1).2
      omega) (HT7.not_lt hQ7) (HT7.not_mb hQ7)
    obtain ⟨w9, hr, hm, ht⟩ := run_updateQ HT8.fm hk q'
    rw [hg.same] at hr
    refine ⟨HT8.cell, w9, hr, HT8.more e hg.at_ (fun k' q1 h1 g hg1 hg2 => ?_) ht hm, ht.fr⟩
    have h2 := ((hT.rows k' q1 h1).feet hg2).2
    rcases hg.feet g hg1 with hx | hx
    · have := hfq g hx; omega
    · have := h7'.size; omega
theorem Src.go {w X Y w7 w8 w9 : World} {B mb : Nat} {qs : List (S × Qv)} {k : S} {q q' : Qv} (hw : Below w.heap.size w X) (hs : Src X Y B qs k q) (h7 : Below Y.heap.size Y w7) (hg : QGo w7 w8 B q q') (ht : Fr (fun g => g = mb) w8 w9) : TGo w w9 mb qs (setM qs k q') := by
  have hX7 : Below w.heap.size w w7 := (hw.trans (hs.below.mono hw.size)).trans (h7.mono (Nat.le_trans hw.size hs.below.size))
  have hin : ∀ g, Feet q g → TFeet mb qs g ∨ w.heap.size ≤ g := fun g hg => by
    rcases hs.src with e | ⟨_, e2, e3⟩
    · exact .inl (.inr ⟨k, q, e, hg⟩)
    · rcases hg with rfl | hx | hx
      · exact .inr (Nat.le_trans hw.size e3)
      · rw [e2] at hx; cases hx
      · rw [e2] at hx; cases hx
  refine ⟨((Fr.of_below hX7 _).trans (hg.fr.mono (T := fun g => TFeet mb qs g ∨ w.heap.size ≤ g) fun i _ hi => hin i hi) fun i hi e => e.elim id fun e => by omega).trans ht fun i hi e => .inl e, fun g hx => ?_⟩
  rcases hx with e | ⟨k1, q1, h1, hx⟩
  · exact .inl (.inl e)
  · rw [getM_set] at h1
    split at h1
    · injection h1 with h1
      subst h1
      rcases hg.feet g hx with e | e
      · exact hin g e
      · exact .inr (Nat.le_trans hX7.size e)
    · exact .inl (.inr ⟨k1, q1, h1, hx⟩)
theorem wait_end {w w2 w3 : World} {B q0 nw cw j c3 : Nat} {Aw A3 : Option Addr} {hv : Value} {has waits : List Wt} {t : Wt} {O : Obj} (HG : QGo w w2 B ⟨q0, hv, .slice Aw waits.length cw, has, waits⟩ ⟨q0, hv, .slice Aw waits.length cw, has, waits⟩) (hnw : nw = waits.length) (hj : j ≤ nw)
    (ho : Own w3 B 47 3 (.slice A3 (nw + 1) c3) (nw + 1) (wc (waits.take j ++ t :: waits.drop j))) (hbl : (Value.slice A3 (nw + 1) c3).ownBlock = (Value.slice Aw nw cw).ownBlock ∨ (Value.slice A3 (nw + 1) c3).ownBlock = some (w2.drew.alloc O).heap.size)
    (hf : Fr (fun g => (Value.slice Aw nw cw).ownBlock = some g) (w2.drew.alloc O) w3) :
    QGo w (w3.setCell ⟨q0, 1, none⟩ (.slice A3 (nw + 1) c3)) B ⟨q0, hv, .slice Aw waits.length cw, has, waits⟩ ⟨q0, hv, .slice A3 (nw + 1) c3, has, waits.take j ++ t :: waits.drop j⟩ := by
  have hyb : Below w2.heap.size w2 (w2.drew.alloc O) := ((Below.refl _ w2).drew).alloc (by simp) _
  refine HG.trans ((QGo.of_below HG.at_ hyb).trans ((HG.at_.below hyb).turn_w ho (by rw [List.length_append, List.length_cons, List.length_take, List.length_drop]; omega) (fun g hg => hbl.elim (fun e => .inl ?_) (fun e => .inr ?_)) (by rw [hnw] at hf; exact hf)))
  · have e2 := e.symm.trans hg
    rw [hnw] at e2
    exact e2
  · have e2 := e.symm.trans hg
    injection e2 with e2
    omega
theorem blocks_nil {l : Line} (p : Int × Int) (m : Int) (h1 : l.1 = []) (h2 : l.2 = []) : blocksL l p m = [] := by
  obtain ⟨a, b⟩ := l
  dsimp only at h1 h2
  subst h1 h2
  simp [blocksL, blockL, qv]
set_option maxHeartbeats 20000000 in
set_option maxRecDepth 100000 in
theorem ask_any {w : World} {B lt mb : Nat} {qs : List (S × Qv)} (h : Tb w B lt mb qs) {k : S} (hk : OkS k) (p : Int × Int) (m : Int) (hlim : ∀ k q, getM qs k = some q → q.has.length + q.waits.length ≤ 50000) :
    Calls Try.prog 13 #[.pointer (some ⟨lt, 0, none⟩), .agg #[.int .u64 p.1, .int .i64 p.2], .string k, .int .i64 m] w (AskR w B lt mb qs k (askL (lineOf qs k) p m)) := by
  have H := Lib.hid h
  have HK := Lib.hid hk
  have HLIM := Lib.hid hlim
  obtain ⟨r, hr⟩ : ∃ r, r = askL (lineOf qs k) p m := ⟨_, rfl⟩
  rw [← hr]
  have HR := Lib.hid hr
  clear h hk hlim hr
  go_enter Try.func13, Try.ntmps13
  go_upto_region 1 with fail
  obtain ⟨gt, hgt⟩ : ∃ g, g = w.heap.size := ⟨_, rfl⟩
  obtain ⟨X, hX⟩ : ∃ X, X = (w.alloc (.cells #[.int .u64 p.1, .int .i64 p.2] 24)).alloc (.cells #[.int .i64 m] 31) := ⟨_, rfl⟩
  rw [← hX, ← hgt]
  have HXB : Hid (Below w.heap.size w X) := Lib.hid (by rw [hX]; exact ((Below.refl _ _).alloc (Nat.le_refl _) _).alloc (by simp) _)
  have HXT : Hid (X.heap[gt]? = some (.cells #[.int .u64 p.1, .int .i64 p.2] 24 (0, 0))) := Lib.hid (by rw [hX, hgt]; exact (Below.heap_alloc _ _ _ (by simp)).trans (heap_alloc_new w _))
  have HXM : Hid (X.heap[gt + 1]? = some (.cells #[.int .i64 m] 31 (0, 0))) := Lib.hid (by rw [hX, hgt]; have := heap_alloc_new (w.alloc (.cells #[.int .u64 p.1, .int .i64 p.2] 24)) (.cells #[.int .i64 m] 31); simpa using this)
  have HTX := Lib.hid (H.out.below HXB.out)
  have HBX : Hid (Below B w X) := Lib.hid (HXB.out.mono H.out.size)
  clear hX hgt
  have x0 := row1c HXM.out
  by_cases hm : m = 1 ∨ m = 2
  rotate_left
  · have b1 : (m != 1) = true := by simp; omega
    have b2 : (m != 2) = true := by simp; omega
    have HM := Lib.hid hm
    clear hm
    go_wp2_with fail
    go_ret
    refine ⟨?_, qs, HTX.out, TGo.of_below HXB.out, .inl ⟨rfl, ?_⟩⟩
    all_goals
      rw [HR.out]
      unfold askL
      rw [if_pos HM.out]
    rfl
  · have HM := Lib.hid hm
    go_cut [23] from 14 to 23 (fun v23 wx => v23 = .bool false ∧ X = wx)
    case first =>
      by_cases m1 : m = 1
      · have b1 : (m != 1) = false := by simp [m1]
        clear m1 hm
        go_wp2_with fail
        go_meet
        case rel => exact ⟨rfl, rfl⟩
      · have b1 : (m != 1) = true := by simp [m1]
        have b2 : (m != 2) = false := by simp; omega
        clear m1 hm
        go_wp2_with fail
        go_meet
        case rel => exact ⟨rfl, rfl⟩
    case rest =>
    obtain ⟨rfl, rfl⟩ := hcut
    have hlk := run_lookupQ HTX.out HK.out
    have ht0 := HTX.out.cell
    clear hm
    obtain ⟨q0, hq0⟩ : ∃ o, o = getM qs k := ⟨_, rfl⟩
    rw [← hq0] at hlk
    have HQ0 := Lib.hid hq0
    clear hq0
    go_upto_region 4 with fail
    clear hlk ht0
    go_upto_if 34 with fail
    go_cut [9] from 35 to 36 (fun v9 wx => ∃ q, v9 = .pointer (some ⟨q.qb, 0, none⟩) ∧ Src X wx B qs k q)
    case first =>
      cases q0 with
      | some q =>
        go_wp2_with fail
        go_meet
        case rel => exact ⟨q, rfl, .inl HQ0.out.symm, HTX.out.rows k q HQ0.out.symm, Below.refl _ _⟩
      | none =>
        go_wp2_with fail
        go_meet
        case rel =>
          exact ⟨⟨X.heap.size, .slice none 0 0, .slice none 0 0, [], []⟩, rfl, .inr ⟨HQ0.out.symm, rfl, Nat.le_refl _⟩, ⟨heap_alloc_new X _, HTX.out.size, Own.nil_ _ _ _ _, Own.nil_ _ _ _ _, fun g hg => by cases hg⟩, (Below.refl _ _).alloc (Nat.le_refl _) _⟩
    case rest =>
      obtain ⟨q, rfl, hsrc⟩ := hcut
      obtain ⟨Y, hY⟩ : ∃ Y, Y = wc := ⟨_, rfl⟩
      rw [← hY] at hsrc ⊢
      clear hY wc
      have HLN : Hid ((q.has, q.waits) = lineOf qs k) := Lib.hid hsrc.line
      have HR2 : Hid (r = askL (q.has, q.waits) p m) := Lib.hid (by rw [HR.out, hsrc.line])
      have hlm : q.has.length + q.waits.length ≤ 50000 := by
        rcases hsrc.src with e | ⟨_, e, _⟩
        · exact HLIM.out k q e
        · rw [e]; simp
      have HSRC := Lib.hid hsrc
      clear hsrc
      obtain ⟨q0, hv, wv, has, waits⟩ := q
      have hqa := HSRC.out.at_
      obtain ⟨Ah, ch, ehv, hch, _⟩ := hqa.h.slice_
      obtain ⟨Aw, cw, ewv, hcw, hcm⟩ := hqa.wt.slice_
      dsimp only at ehv ewv hlm hch hcw HR2 HLN ⊢
      subst ehv ewv
      unfold maxLen at hcm
      clear hqa
      obtain ⟨nh, hnh⟩ : ∃ n, n = has.length := ⟨_, rfl⟩
      obtain ⟨nw, hnw⟩ : ∃ n, n = waits.length := ⟨_, rfl⟩
      rw [← hnh] at hlm hch
      rw [← hnw] at hlm hcw
      have HNH := Lib.hid hnh
      have HNW := Lib.hid hnw
      have HQ := Lib.hid HSRC.out.at_
      have HTW : Hid (Tb Y B lt mb qs) := Lib.hid (HTX.out.below HSRC.out.below)
      have HBW : Hid (Below w.heap.size w Y) := Lib.hid (HXB.out.trans (HSRC.out.below.mono HXB.out.size))
      have HWT := Lib.hid (blk_below HXT.out HSRC.out.below)
      have HWM := Lib.hid (blk_below HXM.out HSRC.out.below)
      have HS : Hid (∀ V, Below Y.heap.size Y V → ((V.cell? ⟨q0, 0, none⟩ = some (.slice Ah nh ch) ∧ V.cell? ⟨q0, 1, none⟩ = some (.slice Aw nw cw)) ∧ V.cell? ⟨gt + 1, 0, none⟩ = some (.int .i64 m)) ∧ V.cell? ⟨gt, 0, none⟩ = some (.int .u64 p.1) ∧ V.cell? ⟨gt, 1, none⟩ = some (.int .i64 p.2)) := Lib.hid (fun V hb => ⟨⟨by rw [hnh, hnw]; exact (HQ.out.below hb).cells, row1c (blk_below HWM.out hb)⟩, row2c (blk_below HWT.out hb)⟩)
      obtain ⟨rb, hrb⟩ : ∃ r, r = firstZ (fun t => sameT t p) has := ⟨_, rfl⟩
      obtain ⟨rw', hrw⟩ : ∃ r, r = firstZ (fun t => sameT t p) waits := ⟨_, rfl⟩
      have HRB := Lib.hid hrb
      have HRW := Lib.hid hrw
      have HF : Hid (∀ V, Below Y.heap.size Y V → Calls Try.prog 24 #[.slice Ah nh ch, .agg #[.int .u64 p.1, .int .i64 p.2]] V fun e w' => e = .returned (.int .i64 rb) ∧ Below Y.heap.size Y w') := Lib.hid (fun V hb => by rw [hrb, hnh]; exact find_of HQ.out.h p hb)
      have HF2 : Hid (∀ V, Below Y.heap.size Y V → Calls Try.prog 24 #[.slice Aw nw cw, .agg #[.int .u64 p.1, .int .i64 p.2]] V fun e w' => e = .returned (.int .i64 rw') ∧ Below Y.heap.size Y w') := Lib.hid (fun V hb => by rw [hrw, hnw]; exact find_of HQ.out.wt p hb)
      have HUN : Hid (∀ V, Below Y.heap.size Y V → ∀ a : Int, r = ((has, waits), a) → AskR w B lt mb qs k r (.returned (.int .i64 a)) V) := Lib.hid (fun V hb a e => by
        rw [e]
        exact ⟨rfl, qs, HTW.out.below hb, TGo.of_below (HBW.out.trans (hb.mono HBW.out.size)), .inl ⟨rfl, HLN.out.symm⟩⟩)
      clear hrb hrw hnh hnw HQ0
      go_upto_region 6 with fail
      go_region_held3 (fun V => ((V.cell? ⟨q0, 0, none⟩ = some (.slice Ah nh ch) ∧ V.cell? ⟨q0, 1, none⟩ = some (.slice Aw nw cw)) ∧ V.cell? ⟨gt + 1, 0, none⟩ = some (.int .i64 m)) ∧ V.cell? ⟨gt, 0, none⟩ = some (.int .u64 p.1) ∧ V.cell? ⟨gt, 1, none⟩ = some (.int .i64 p.2))
        ((first | (refine HS.out _ ?_; repeat (first | with_reducible exact Below.refl _ _ | exact HB1.out | with_reducible refine Below.drew ?_))))
        ((first | (go_at_call 24; refine (HF.out _ ?_).mono ?_; (repeat (first | with_reducible exact Below.refl _ _ | with_reducible refine Below.drew ?_)); rintro e w1 ⟨rfl, hb1⟩; have HB1 := Lib.hid hb1; clear hb1)))
      rename_i hheld
      clear hheld
      go_upto_region 7 with fail
      go_cut [56] from 43 to 56 (fun v56 wx => v56 = .bool (hasAs has p m) ∧ Below Y.heap.size Y wx)
      case first =>
        by_cases hneg : 0 ≤ rb
        rotate_left
        · have hnone : has.findIdx? (fun t => sameT t p) = none := by
            cases hf : has.findIdx? (fun t => sameT t p) with
            | none => rfl
            | some i =>
              refine absurd ?_ hneg
              rw [HRB.out]
              unfold firstZ
              rw [hf]
              exact Int.natCast_nonneg _
          have HHA : Hid (hasAs has p m = false) := Lib.hid (by unfold hasAs; rw [hnone])
          clear hnone
          have hneg' : rb < 0 := by omega
          go_quiet (fail)
          go_wp2_with fail
          go_meet
          case rel => exact ⟨by rw [HHA.out], below_drewN HB1.out _⟩
        · obtain ⟨i, u, hiu, hri, hfi⟩ : ∃ (i : Nat) (u : Wt), has[i]? = some u ∧ rb = (i : Int) ∧ has.findIdx? (fun u => sameT u p) = some i := by
            rw [HRB.out] at hneg
            unfold firstZ at hneg
            cases hf : has.findIdx? (fun u => sameT u p) with
            | none => rw [hf] at hneg; exact absurd hneg (by simp)
            | some i =>
              obtain ⟨hi, _⟩ := List.findIdx?_eq_some_iff_getElem.1 hf
              exact ⟨i, _, List.getElem?_eq_getElem hi, by rw [HRB.out]; unfold firstZ; rw [hf], rfl⟩
          have hil : i < nh := by rw [HNH.out]; exact (List.getElem?_eq_some_iff.1 hiu).1
          have i0 : (0 : Int) ≤ (i : Int) := by omega
          have i1 : (i : Int) < (nh : Int) := by omega
          subst hri
          obtain ⟨gh, offh, rfl, hgh, _, _, c2⟩ := want_cells ((HQ.out.below HB1.out).h.rd) hiu (by rw [← HNH.out]; omega)
          obtain ⟨⟨⟨s0, s1⟩, s2⟩, s3, s4⟩ := HS.out w1 HB1.out
          have HHA : Hid (hasAs has p m = decide (m ≤ u.md)) := Lib.hid (by
            unfold hasAs
            rw [hfi]
            simp only [List.getD_eq_getElem?_getD, hiu, Option.getD_some])
          clear hfi hiu s1 s3 s4
          go_quiet (fail)
          go_wp2_with fail
          go_meet
          case rel => exact ⟨by rw [HHA.out], below_drewN HB1.out _⟩
      case rest =>
        obtain ⟨rfl, hb2⟩ := hcut
        obtain ⟨w2, hw2⟩ : ∃ w2, w2 = wc := ⟨_, rfl⟩
        rw [← hw2] at hb2 ⊢
        clear hw2 wc
        have HB2 := Lib.hid hb2
        clear hb2
        by_cases hha : hasAs has p m = true
        · rw [hha]
          have HHA := Lib.hid hha
          clear hha
          go_wp2_with fail
          go_ret
          refine HUN.out _ HB2.out 1 ?_
          rw [HR2.out]
          unfold askL
          rw [if_neg (fun h => h HM.out), if_pos HHA.out]
        rw [show hasAs has p m = false by simpa using hha]
        have HHA := Lib.hid hha
        clear hha
        go_upto_region 9 with fail
        go_region_held3 (fun V => ((V.cell? ⟨q0, 0, none⟩ = some (.slice Ah nh ch) ∧ V.cell? ⟨q0, 1, none⟩ = some (.slice Aw nw cw)) ∧ V.cell? ⟨gt + 1, 0, none⟩ = some (.int .i64 m)) ∧ V.cell? ⟨gt, 0, none⟩ = some (.int .u64 p.1) ∧ V.cell? ⟨gt, 1, none⟩ = some (.int .i64 p.2))
          ((first | (refine HS.out _ ?_; repeat (first | with_reducible exact Below.refl _ _ | exact HB2.out | exact HB3.out | with_reducible refine Below.drew ?_))))
          ((first | (go_at_call 24; refine (HF2.out _ ?_).mono ?_; (repeat (first | with_reducible exact Below.refl _ _ | exact HB2.out | with_reducible refine Below.drew ?_)); rintro e w3 ⟨rfl, hb3⟩; have HB3 := Lib.hid hb3; clear hb3)))
        rename_i hheld
        clear hheld
        have HHT : Hid (hasT waits p = decide (0 ≤ rw')) := Lib.hid (by unfold hasT; rw [any_first, ← HRW.out])
        by_cases hwt : 0 ≤ rw'
        · have HWT2 := Lib.hid hwt
          go_wp2_with fail
          go_ret
          refine HUN.out _ HB3.out 2 ?_
          rw [HR2.out]
          unfold askL
          rw [if_neg (fun h => h HM.out), if_neg HHA.out, if_pos (by rw [HHT.out]; exact decide_eq_true HWT2.out)]
        have hwt' : rw' < 0 := by omega
        have HNT : Hid (¬ hasT waits p = true) := Lib.hid (by rw [HHT.out, decide_eq_false hwt]; simp)
        obtain ⟨pl, hpl⟩ : ∃ n, n = placeL (has, waits) p := ⟨_, rfl⟩
        have hpw : pl ≤ nw := by rw [hpl, HNW.out]; exact place_le _ _
        have HPL := Lib.hid hpl
        have HPC : Hid (∀ V, Below Y.heap.size Y V → Calls Try.prog 25 #[.pointer (some ⟨q0, 0, none⟩), .agg #[.int .u64 p.1, .int .i64 p.2]] V fun e w' => e = .returned (.int .i64 pl) ∧ Below Y.heap.size Y w') := Lib.hid (fun V hb => by
          rw [hpl]
          exact (place_any (HQ.out.below hb) p (by show waits.length ≤ _; rw [← HNW.out]; unfold maxLen; omega)).mono fun e w' h => ⟨h.1, hb.trans (h.2.mono hb.size)⟩)
        clear hpl hwt
        obtain ⟨⟨⟨s0, s1⟩, s2⟩, s3, s4⟩ := HS.out w3 HB3.out
        go_upto_region 12 with (go_at_call 25; refine (HPC.out _ HB3.out).mono ?_; rintro e w4 ⟨rfl, hb4⟩; have HB4 := Lib.hid hb4; clear hb4)
        clear s0 s1 s2 s3 s4
        obtain ⟨yg, hyg⟩ : ∃ b, b = (waits.drop pl).any (youngB m p) := ⟨_, rfl⟩
        have HYG := Lib.hid hyg
        clear hyg
        go_cut [74] from 67 to 74 (fun v74 wx => v74 = .bool yg ∧ Below Y.heap.size Y wx)
        case first =>
          obtain ⟨⟨⟨s0, s1⟩, s2⟩, s3, s4⟩ := HS.out w4 HB4.out
          have j0 : (0 : Int) ≤ (pl : Int) := by omega
          have j1 : (pl : Int) ≤ (nw : Int) := by omega
          have j2 : (nw : Int) ≤ (cw : Int) := by omega
          by_cases hpn : pl < nw
          · have hr0 := (HQ.out.below HB4.out).wt.rd
            obtain ⟨gw, offw, ewa, _, _⟩ : ∃ g off, Aw = some ⟨g, off, none⟩ ∧ True ∧ True := by
              obtain ⟨g, off, c, e, _⟩ := hr0.cells (by rw [← HNW.out]; omega)
              injection e with e1 _ _
              exact ⟨g, off, e1, trivial, trivial⟩
            subst ewa
            dsimp only at hr0
            rw [← HNW.out] at hr0
            have HC := Lib.hid (contains_young HB4.out (p := p) (m := m) (by rw [List.length_drop, ← HNW.out]) (rd_drop hr0 HNW.out hpn) (blk_below HWM.out HB4.out) (blk_below HWT.out HB4.out))
            rw [← HYG.out] at HC
            have hcp : ¬ cw = pl := by omega
            have hcp' : ¬ cw ≤ pl := by omega
            clear hr0
            go_wp2_with (go_at_call 26; refine HC.out.mono ?_; rintro e w5 ⟨rfl, hb5⟩; have HB5 := Lib.hid hb5; clear hb5)
            go_meet
            case rel => exact ⟨rfl, HB5.out⟩
          · have hpe : pl = nw := by omega
            have hdr : waits.drop pl = [] := List.drop_of_length_le (by rw [← HNW.out]; omega)
            have hy0 : yg = false := by rw [HYG.out, hdr]; rfl
            have HY0 := Lib.hid hy0
            clear hy0 hdr
            subst hpe
            cases Aw with
            | none =>
              have hcz : pl = 0 ∧ cw = 0 := by
                rcases HQ.out.wt.2 with ⟨e, _⟩ | ⟨_, _, _, _, e, _⟩
                · injection e with _ e1 e2
                  rw [← HNW.out] at e1
                  exact ⟨e1, e2⟩
                · cases e
              obtain ⟨rfl, rfl⟩ := hcz
              have HC := Lib.hid (contains_young HB4.out (ws := []) (A := none) (c := 0) rfl (rd_none _ (by unfold maxLen; omega)) (blk_below HWM.out HB4.out) (blk_below HWT.out HB4.out))
              go_wp2_with (go_at_call 26; refine HC.out.mono ?_; rintro e w5 ⟨rfl, hb5⟩; have HB5 := Lib.hid hb5; clear hb5)
              go_meet
              case rel => exact ⟨by rw [HY0.out], HB5.out⟩
            | some aw =>
              obtain ⟨gw, offw, sp⟩ := aw
              obtain rfl : sp = none := by
                rcases HQ.out.wt.2 with ⟨e, _⟩ | ⟨_, _, _, _, e, _⟩
                · cases e
                · injection e with e _ _
                  injection e with e
                  injection e
              by_cases hcp : cw = pl
              · subst hcp
                have HC := Lib.hid (contains_young HB4.out (ws := []) (A := some ⟨gw, offw, none⟩) (c := 0) rfl (rd_none _ (by unfold maxLen; omega)) (blk_below HWM.out HB4.out) (blk_below HWT.out HB4.out))
                go_wp2_with (go_at_call 26; refine HC.out.mono ?_; rintro e w5 ⟨rfl, hb5⟩; have HB5 := Lib.hid hb5; clear hb5)
                go_meet
                case rel => exact ⟨by rw [HY0.out], HB5.out⟩
              · have hcp' : ¬ cw ≤ pl := by omega
                have HC := Lib.hid (contains_young HB4.out (ws := []) (A := some ⟨gw, offw + pl * 3, none⟩) (c := cw - pl) rfl (rd_none _ (by unfold maxLen; omega)) (blk_below HWM.out HB4.out) (blk_below HWT.out HB4.out))
                go_wp2_with (go_at_call 26; refine HC.out.mono ?_; rintro e w5 ⟨rfl, hb5⟩; have HB5 := Lib.hid hb5; clear hb5)
                go_meet
                case rel => exact ⟨by rw [HY0.out], HB5.out⟩
        case rest =>
          obtain ⟨rfl, hb6⟩ := hcut
          obtain ⟨w6, hw6⟩ : ∃ w6, w6 = wc := ⟨_, rfl⟩
          rw [← hw6] at hb6 ⊢
          clear hw6 wc
          have HB6 := Lib.hid hb6
          clear hb6
          cases yg with
          | true =>
            go_wp2_with fail
            go_ret
            refine HUN.out _ HB6.out 3 ?_
            rw [HR2.out]
            unfold askL
            rw [if_neg (fun h => h HM.out), if_neg HHA.out, if_neg HNT.out, if_pos (by show (waits.drop (placeL (has, waits) p)).any _ = true; rw [← HPL.out]; exact HYG.out.symm)]
          | false =>
            obtain ⟨bl, hbl⟩ : ∃ l, l = blocksL (has, waits) p m := ⟨_, rfl⟩
            obtain ⟨nb, hnb⟩ : ∃ n, n = bl.length := ⟨_, rfl⟩
            have HBL := Lib.hid hbl
            have HNB := Lib.hid hnb
            have HBK : Hid (∀ V, Below Y.heap.size Y V → Calls Try.prog 30 #[.pointer (some ⟨q0, 0, none⟩), .agg #[.int .u64 p.1, .int .i64 p.2], .int .i64 m, .int .i64 pl] V fun e w' => ∃ v', e = .returned v' ∧ (∃ A c, v' = .slice A nb c) ∧ Own w' Y.heap.size 47 3 v' nb (wc bl) ∧ Below Y.heap.size Y w') := Lib.hid (fun V hb => by
              refine (blocks_any (HQ.out.below hb) p m (place := pl) (by show pl ≤ waits.length; rw [← HNW.out]; exact hpw) (by show has.length + waits.length ≤ _; rw [← HNH.out, ← HNW.out]; omega)).mono ?_
              rintro e w' ⟨v', he, ho, hb'⟩
              have e2 : blockL ⟨q0, .slice Ah has.length ch, .slice Aw waits.length cw, has, waits⟩ p m pl = bl := by rw [hbl, HPL.out]; rfl
              rw [e2, ← hnb] at ho
              have hs := hb.size
              obtain ⟨A, c, e3, _⟩ := ho.slice_
              exact ⟨v', he, ⟨A, c, e3⟩, ho.base_ fun g hg => by have := (ho.lt g hg).1; omega, hb.trans (hb'.mono hs)⟩)
            have HYF : Hid (¬ (waits.drop (placeL (has, waits) p)).any (youngB m p) = true) := Lib.hid (by rw [← HPL.out, ← HYG.out]; simp)
            clear hbl hnb
            obtain ⟨⟨⟨s0, s1⟩, s2⟩, s3, s4⟩ := HS.out w6 HB6.out
            go_upto_region 15 with (go_at_call 30; refine (HBK.out _ HB6.out).mono ?_; rintro e w7 ⟨v7, rfl, ⟨A7, c7, rfl⟩, ho7, hb7⟩; have HO7 := Lib.hid ho7; have HB7 := Lib.hid hb7; clear ho7 hb7)
            clear s0 s1 s2 s3 s4 HBK
            obtain ⟨⟨⟨s0, s1⟩, s2⟩, s3, s4⟩ := HS.out w7 HB7.out
            by_cases hz : nb = 0
            · have hbe : bl = [] := List.eq_nil_of_length_eq_zero (by rw [← HNB.out]; exact hz)
              have HBE : Hid (blocksL (has, waits) p m = []) := Lib.hid (by rw [← HBL.out]; exact hbe)
              have hz1 : ((nb : Int) == 0) = true := by simp [hz]
              have hz2 : ((nb : Int) = 0) = True := by simp [hz]
              have HGV := Lib.hid (give_any (HQ.out.below HB7.out) ⟨p.1, p.2, m⟩ (by show has.length ≤ _; rw [← HNH.out]; omega))
              clear hbe hz
              go_upto_region 17 with (go_at_call 31; refine HGV.out.mono ?_; rintro e w8 ⟨rfl, hv8, hg8⟩; have HG8 := Lib.hid hg8; clear hg8)
              obtain ⟨hc8, w9, hup, ht9, hb9⟩ := HSRC.out.laid HTX.out HB7.out HG8.out HK.out
              have HT9 := Lib.hid ht9
              have HB9 := Lib.hid hb9
              clear ht9 hb9 s0 s1 s2 s3 s4
              dsimp only at hup
              go_wp2_with fail
              go_ret
              have e : r = ((giveL has ⟨p.1, p.2, m⟩, waits), 1) := by
                rw [HR2.out]
                unfold askL
                rw [if_neg (fun h => h HM.out), if_neg HHA.out, if_neg HNT.out, if_neg HYF.out, if_pos HBE.out]
              rw [e]
              exact ⟨rfl, _, HT9.out, HSRC.out.go HXB.out HB7.out HG8.out HB9.out, .inr ⟨_, rfl, rfl⟩⟩
            · have hne : bl ≠ [] := fun e => hz (by rw [HNB.out, e]; rfl)
              have HBE : Hid (¬ blocksL (has, waits) p m = []) := Lib.hid (by rw [← HBL.out]; exact hne)
              have hex : getM qs k = some ⟨q0, .slice Ah has.length ch, .slice Aw waits.length cw, has, waits⟩ := by
                rcases HSRC.out.src with e | ⟨_, e, _⟩
                · exact e
                · injection e with _ _ _ e1 e2
                  exact absurd (blocks_nil p m e1 e2) HBE.out
              have HEX := Lib.hid hex
              have hz1 : ((nb : Int) == 0) = false := by simp [hz]
              obtain ⟨yo, hyo⟩ : ∃ b, b = bl.any (notYoung p) := ⟨_, rfl⟩
              have HYO := Lib.hid hyo
              have HC2 := Lib.hid (contains_notyoung HB7.out (p := p) HNB.out HO7.out.rd (blk_below HWT.out HB7.out))
              rw [← hyo] at HC2
              clear hne hex hyo
              go_upto_region 19 with fail
              clear s0 s1 s2 s3 s4
              cases yo with
              | true =>
                go_wp2_with (go_at_call 26; refine HC2.out.mono ?_; rintro e w8 ⟨rfl, hb8⟩; have HB8 := Lib.hid hb8; clear hb8)
                go_ret
                refine HUN.out _ HB8.out 3 ?_
                rw [HR2.out]
                unfold askL
                rw [if_neg (fun h => h HM.out), if_neg HHA.out, if_neg HNT.out, if_neg HYF.out, if_neg HBE.out, if_pos (by rw [← HBL.out]; exact HYO.out.symm)]
              | false =>
                go_upto_region 21 with (go_at_call 26; refine HC2.out.mono ?_; rintro e w2 ⟨rfl, hb8⟩; have HBZ := Lib.hid hb8; clear hb8)
                have HQZ := Lib.hid (HQ.out.below HBZ.out)
                have HGZ : Hid (QGo Y w2 B ⟨q0, .slice Ah has.length ch, .slice Aw waits.length cw, has, waits⟩ ⟨q0, .slice Ah has.length ch, .slice Aw waits.length cw, has, waits⟩) := Lib.hid (QGo.of_below HQ.out HBZ.out)
                have hqs : B ≤ w2.heap.size := Nat.le_trans HQZ.out.lt (Nat.le_of_lt (lt_size HQZ.out.row))
                have HINS := Lib.hid (SlW.insert (w := w2.drew.alloc (.cells #[.int .u64 p.1, .int .i64 p.2, .int .i64 m] 47)) (i := pl) (new := (Wt.mk p.1 p.2 m).cs) (HQZ.out.wt.drew.alloc _) (wc_one waits) (by rw [← HNW.out]; exact hpw) (heap_alloc_new w2.drew _) rfl (by intro u hu; simp only [Wt.cs, List.mem_cons, List.not_mem_nil, or_false] at hu; rcases hu with rfl | rfl | rfl <;> rfl) (by intro e; have := (HQZ.out.wt.lt _ e).2; simp at this) (by rw [← HNW.out]; omega) (by simp; omega))
                obtain ⟨⟨⟨z0, z1⟩, z2⟩, z3, z4⟩ := HS.out w2 HBZ.out
                have HQB : Hid (¬ (Value.slice Aw nw cw).ownBlock = some q0) := Lib.hid (by rw [HNW.out]; exact HQZ.out.qb_w)
                have zA : (w2.alloc (.cells #[.int .u64 p.1, .int .i64 p.2, .int .i64 m] 47)).cell? ⟨q0, 1, none⟩ = some (.slice Aw nw cw) := by rw [World.cell?_alloc_lt _ _ ⟨q0, 1, none⟩ (lt_size HQZ.out.row)]; exact z1
                rw [wc_cons3, ← HNW.out] at HINS
                clear z0
                go_region_law (first
                  | (go_simp; go_at_call 33; refine HINS.out.mono ?_; rintro e w3 ⟨v3, rfl, ho3, hbl3, hf3⟩; obtain ⟨A3, c3, rfl, _⟩ := ho3.slice_; have hrow3 := hf3.blk ((HQZ.out.drewN 1).alloc (.cells #[.int .u64 p.1, .int .i64 p.2, .int .i64 m] 47)).row HQB.out; obtain ⟨y0, y1⟩ := row2c hrow3; have y2 : w3.frozen? ⟨q0, 1, none⟩ = false := (by unfold World.frozen?; rw [hrow3]; rfl); have HO3 := Lib.hid ho3; have HBL3 := Lib.hid hbl3; have HF3 := Lib.hid hf3; clear ho3 hbl3 hf3 hrow3; dsimp only))
                all_goals
                  go_wp2_with fail
                  go_ret
                  have e : r = ((has, waits.take pl ++ ⟨p.1, p.2, m⟩ :: waits.drop pl), 2) := by
                    rw [HR2.out, HPL.out]
                    unfold askL
                    rw [if_neg (fun h => h HM.out), if_neg HHA.out, if_neg HNT.out, if_neg HYF.out, if_neg HBE.out, if_neg (by rw [← HBL.out, ← HYO.out]; simp)]
                  have hz := wait_end HGZ.out HNW.out hpw HO3.out HBL3.out HF3.out
                  rw [e]
                  exact ⟨rfl, _, HTW.out.turn HEX.out hz, HSRC.out.go HXB.out (Below.refl _ _) hz (Fr.refl _ _), .inr ⟨_, rfl, rfl⟩⟩
#print axioms ask_any
end Go.Proofs.Ytcceankldiafpaa.Lock

