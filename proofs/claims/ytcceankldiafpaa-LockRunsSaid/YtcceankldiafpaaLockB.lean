/- A queue in memory; where a wish would wait. -/
import Derived.Test.YtcceankldiafpaaLockA
set_option linter.unusedVariables false
set_option linter.unusedSimpArgs false
set_option linter.unusedSectionVars false
namespace Go.Proofs.Ytcceankldiafpaa.Lock
open Go.RowKit Go.WideShapes Go.Deep Go.Proofs.Ytcceankldiafpaa.Mem Go.Proofs.Ytcceankldiafpaa.Open
structure Qv where
  qb : Nat
  hv : Value
  wv : Value
  has : List Wt
  waits : List Wt
/-- A queue: its row, its two slices, each of memory of its own. -/
structure QAt (w : World) (B : Nat) (q : Qv) : Prop where
  row : w.heap[q.qb]? = some (.cells #[q.hv, q.wv] 68 (0, 0))
  lt : B ≤ q.qb
  h : Own w B 47 3 q.hv q.has.length (wc q.has)
  wt : Own w B 47 3 q.wv q.waits.length (wc q.waits)
  apart : ∀ g, q.hv.ownBlock = some g → q.wv.ownBlock ≠ some g
def Feet (q : Qv) (g : Nat) : Prop := g = q.qb ∨ q.hv.ownBlock = some g ∨ q.wv.ownBlock = some g
theorem lt_size {w : World} {g : Nat} {o : Obj} (h : w.heap[g]? = some o) : g < w.heap.size := (Array.getElem?_eq_some_iff.1 h).1
theorem own_ne_row {w : World} {b k n : Nat} {e t : TypeId} {v : Value} {xs : List Value} (h : Own w b e k v n xs) {g : Nat} {cs : Array Value} {f : Nat × Nat} (hg : w.heap[g]? = some (.cells cs t f)) (he : e ≠ t) : ¬ v.ownBlock = some g := fun hb => by
  rcases h.2 with ⟨h0, _⟩ | ⟨g', off, cap, cur, h0, _, hg', _⟩
  · rw [h0] at hb; cases hb
  · rw [h0] at hb
    injection hb with hb
    subst hb
    rw [hg] at hg'
    injection hg' with hg'
    injection hg' with _ hg' _
    exact he hg'.symm
theorem ty_ne : (47 : TypeId) ≠ 68 := by decide
section
variable {w w' w2 : World} {B : Nat} {q q' q2 : Qv}
theorem QAt.feet (h : QAt w B q) {g : Nat} (hg : Feet q g) : B ≤ g ∧ g < w.heap.size := by
  rcases hg with rfl | hg | hg
  · exact ⟨h.lt, lt_size h.row⟩
  · exact h.h.lt g hg
  · exact h.wt.lt g hg
theorem QAt.kept (h : QAt w B q) (hk : ∀ g, Feet q g → w'.heap[g]? = w.heap[g]?) : QAt w' B q :=
  ⟨(hk _ (.inl rfl)).trans h.row, h.lt, h.h.kept fun g hg => hk g (.inr (.inl hg)), h.wt.kept fun g hg => hk g (.inr (.inr hg)), h.apart⟩
theorem QAt.below (h : QAt w B q) (hb : Below w.heap.size w w') : QAt w' B q := h.kept fun g hg => hb.block g (h.feet hg).2
theorem QAt.fr {S : Nat → Prop} (h : QAt w B q) (hf : Fr S w w') (hS : ∀ g, Feet q g → ¬ S g) : QAt w' B q := h.kept fun g hg => hf.block g (h.feet hg).2 (hS g hg)
theorem QAt.drewN (h : QAt w B q) (n : Nat) : QAt (w.drewN n) B q := h.kept fun g _ => rfl
theorem QAt.alloc (h : QAt w B q) (o : Obj) : QAt (w.alloc o) B q := h.kept fun g hg => Below.heap_alloc w o g (h.feet hg).2
theorem QAt.cells (h : QAt w B q) : w.cell? ⟨q.qb, 0, none⟩ = some q.hv ∧ w.cell? ⟨q.qb, 1, none⟩ = some q.wv := row2c h.row
theorem QAt.free (h : QAt w B q) (j : Nat) : w.frozen? ⟨q.qb, j, none⟩ = false := by unfold World.frozen?; rw [h.row]; rfl
theorem QAt.qb_h (h : QAt w B q) : ¬ q.hv.ownBlock = some q.qb := own_ne_row h.h h.row ty_ne
theorem QAt.qb_w (h : QAt w B q) : ¬ q.wv.ownBlock = some q.qb := own_ne_row h.wt h.row ty_ne
/-- What a method of a queue makes of it. -/
structure QGo (w w' : World) (B : Nat) (q q' : Qv) : Prop where
  at_ : QAt w' B q'
  same : q'.qb = q.qb
  fr : Fr (Feet q) w w'
  feet : ∀ g, Feet q' g → Feet q g ∨ w.heap.size ≤ g
theorem QGo.refl (h : QAt w B q) : QGo w w B q q := ⟨h, rfl, Fr.refl _ _, fun g hg => .inl hg⟩
theorem QGo.trans (h : QGo w w' B q q') (k : QGo w' w2 B q' q2) : QGo w w2 B q q2 := by
  refine ⟨k.at_, k.same.trans h.same, h.fr.trans (k.fr.mono (T := fun g => Feet q g ∨ w.heap.size ≤ g) fun i _ hi => h.feet i hi) fun i hi e => e.elim id fun e => by omega, fun g hg => ?_⟩
  rcases k.feet g hg with e | e
  · exact h.feet g e
  · exact .inr (Nat.le_trans h.fr.size e)
theorem QGo.of_below (h : QAt w B q) (hb : Below w.heap.size w w') : QGo w w' B q q := ⟨h.below hb, rfl, Fr.of_below hb _, fun g hg => .inl hg⟩
theorem QGo.below (k : QGo w w' B q q') (h : QAt w B q) : Below B w w' := k.fr.below (Nat.le_trans h.lt (Nat.le_of_lt (lt_size h.row))) fun g _ hg => (h.feet hg).1
end
theorem below_alloc2 {w V : World} {o : Obj} (h : Below w.heap.size w V) : Below w.heap.size w (V.alloc o) := h.alloc h.size o
def hasT (ws : List Wt) (p : Int × Int) : Bool := ws.any fun t => sameT t p
def placeN (q : Qv) (p : Int × Int) : Nat := if hasT q.has p then q.waits.findIdx (fun t => !hasT q.has t.tid) else q.waits.length
theorem findIdx_at {pr : Wt → Bool} {ws : List Wt} {j : Nat} (hj : j ≤ ws.length) (hb : ∀ (i : Nat) (u : Wt), i < j → ws[i]? = some u → pr u = false) (he : j = ws.length ∨ ∃ t, ws[j]? = some t ∧ pr t = true) : ws.findIdx pr = j := by
  rcases he with e | ⟨t, ht, hp⟩
  · rw [e]
    rw [List.findIdx_eq_length]
    intro x hx
    obtain ⟨i, hi⟩ := List.mem_iff_getElem?.1 hx
    exact hb i x (by rw [e]; exact (List.getElem?_eq_some_iff.1 hi).1) hi
  · obtain ⟨hl, e⟩ := List.getElem?_eq_some_iff.1 ht
    rw [List.findIdx_eq hl]
    exact ⟨by rw [e]; exact hp, fun i hi => hb i _ hi (List.getElem?_eq_getElem (by omega))⟩
theorem find_of {w : World} {B : Nat} {v : Value} {ws : List Wt} (h : Own w B 47 3 v ws.length (wc ws)) (p : Int × Int) {V : World} (hb : Below w.heap.size w V) :
    Calls Try.prog 24 #[v, .agg #[.int .u64 p.1, .int .i64 p.2]] V fun e w' => e = .returned (.int .i64 (firstZ (fun t => sameT t p) ws)) ∧ Below w.heap.size w w' := by
  obtain ⟨A, c, rfl, _⟩ := h.slice_
  exact (find_any V (h.rd.up hb) p).mono fun e w' hR => ⟨hR.1, hb.trans (hR.2.mono hb.size)⟩
theorem allS {X : World} {C : World → Prop} {D : World → Prop} {E E1 E2 : World → Prop} (h1 : ∀ V, Below X.heap.size X V → E V ∧ E1 V ∧ E2 V) (h2 : ∀ V, Below X.heap.size X V → D V) (h3 : ∀ V, Below X.heap.size X V → C V) {V : World} (hb : Below X.heap.size X V) : (E V ∧ D V) ∧ C V := ⟨⟨(h1 V hb).1, h2 V hb⟩, h3 V hb⟩
set_option maxHeartbeats 4000000 in
set_option maxRecDepth 100000 in
theorem place_any {w : World} {B : Nat} {q : Qv} (h : QAt w B q) (p : Int × Int) (hl : q.waits.length ≤ maxLen) :
    Calls Try.prog 25 #[.pointer (some ⟨q.qb, 0, none⟩), .agg #[.int .u64 p.1, .int .i64 p.2]] w fun e w' => e = .returned (.int .i64 (placeN q p)) ∧ Below w.heap.size w w' := by
  obtain ⟨r, hr⟩ : ∃ r, r = placeN q p := ⟨_, rfl⟩
  rw [← hr]
  have HR := Lib.hid hr
  have H := Lib.hid h
  obtain ⟨q0, hv, wv, has, waits⟩ := q
  obtain ⟨Ah, ch, ehv, _⟩ := h.h.slice_
  obtain ⟨Aw, cw, ewv, _⟩ := h.wt.slice_
  dsimp only at ehv ewv hl ⊢
  subst ehv ewv
  unfold maxLen at hl
  clear h hr
  obtain ⟨nh, hnh⟩ : ∃ n, n = has.length := ⟨_, rfl⟩
  obtain ⟨nw, hnw⟩ : ∃ n, n = waits.length := ⟨_, rfl⟩
  rw [← hnw] at hl
  have HNW := Lib.hid hnw
  go_enter Try.func25, Try.ntmps25
  go_upto_region 1 with fail
  obtain ⟨X, hX⟩ : ∃ X, X = w.alloc (.cells #[.int .u64 p.1, .int .i64 p.2] 24) := ⟨_, rfl⟩
  rw [← hX]
  have HXB : Hid (Below w.heap.size w X) := Lib.hid (by rw [hX]; exact (Below.refl _ _).alloc (Nat.le_refl _) _)
  have HXQ := Lib.hid (H.out.below HXB.out)
  have HXT : Hid (X.heap[w.heap.size]? = some (.cells #[.int .u64 p.1, .int .i64 p.2] 24 (0, 0))) := Lib.hid (by rw [hX]; exact heap_alloc_new w _)
  obtain ⟨rb, hrb⟩ : ∃ r, r = firstZ (fun t => sameT t p) has := ⟨_, rfl⟩
  have HRB := Lib.hid hrb
  have HF : Hid (∀ V, Below X.heap.size X V → Calls Try.prog 24 #[.slice Ah nh ch, .agg #[.int .u64 p.1, .int .i64 p.2]] V fun e w' => e = .returned (.int .i64 rb) ∧ Below X.heap.size X w') := Lib.hid (fun V hb => by rw [hrb, hnh]; exact find_of HXQ.out.h p hb)
  have HS : Hid (∀ V, Below X.heap.size X V → V.cell? ⟨q0, 0, none⟩ = some (.slice Ah nh ch) ∧ V.cell? ⟨w.heap.size, 0, none⟩ = some (.int .u64 p.1) ∧ V.cell? ⟨w.heap.size, 1, none⟩ = some (.int .i64 p.2)) := Lib.hid (fun V hb => ⟨by rw [hnh]; exact (HXQ.out.below hb).cells.1, (row2c (blk_below HXT.out hb)).1, (row2c (blk_below HXT.out hb)).2⟩)
  have HSW : Hid (∀ V, Below X.heap.size X V → V.cell? ⟨q0, 1, none⟩ = some (.slice Aw nw cw)) := Lib.hid (fun V hb => by rw [hnw]; exact (HXQ.out.below hb).cells.2)
  have HNH := Lib.hid hnh
  clear hX hrb hnh hnw
  go_region_held3 (fun V => V.cell? ⟨q0, 0, none⟩ = some (.slice Ah nh ch) ∧ V.cell? ⟨w.heap.size, 0, none⟩ = some (.int .u64 p.1) ∧ V.cell? ⟨w.heap.size, 1, none⟩ = some (.int .i64 p.2))
    ((first | (refine HS.out _ ?_; repeat (first | with_reducible exact Below.refl _ _ | exact HB1.out | with_reducible refine Below.drew ?_))))
    ((first | (go_at_call 24; refine (HF.out _ ?_).mono ?_; (repeat (first | with_reducible exact Below.refl _ _ | with_reducible refine Below.drew ?_)); rintro e w1 ⟨rfl, hb1⟩; have HB1 := Lib.hid hb1; clear hb1)))
  rename_i hheld
  clear hheld
  have HXW : Hid (Below w.heap.size w w1) := Lib.hid (HXB.out.trans (HB1.out.mono HXB.out.size))
  have HS1 := HS.out w1 HB1.out
  obtain ⟨s0, s1, s2⟩ := HS1
  have s3 := HSW.out w1 HB1.out
  by_cases hneg : rb < 0
  · go_wp2_with fail
    go_ret
    refine ⟨?_, HXW.out⟩
    have e : r = (waits.length : Nat) := by
      rw [HR.out]
      unfold placeN hasT
      rw [any_first]
      dsimp only
      rw [← HRB.out, decide_eq_false (by omega)]
      simp
    show Ending.returned (Value.int .i64 (nw : Int)) = _
    rw [show r = nw from e.trans HNW.out.symm]
  · have hh : hasT has p = true := by unfold hasT; rw [any_first, ← HRB.out]; exact decide_eq_true (by omega)
    have HH := Lib.hid hh
    clear hh s0 s1 s2 s3
    go_upto_region 4 with fail
    have hneg' : 0 ≤ rb := by omega
    go_loopw [5] (fun v wr => ∃ j : Nat, j ≤ nw ∧ v = .int .i64 j ∧ (∀ i u, i < j → waits[i]? = some u → (!hasT has u.tid) = false) ∧ Below X.heap.size X wr) (fun v _ => nw - (intOf v).toNat)
    case atStart => exact ⟨0, Nat.zero_le _, rfl, fun i u h => absurd h (by omega), HB1.out⟩
    case round =>
      obtain ⟨j, hj, rfl, hall, hbl⟩ := hrel
      have HBL := Lib.hid hbl
      have HALL := Lib.hid hall
      clear hall hbl
      by_cases hlt : j < nw
      · obtain ⟨t, ht⟩ : ∃ t, waits[j]? = some t := ⟨waits[j]'(by rw [← HNW.out]; omega), List.getElem?_eq_getElem _⟩
        have i0 : (0 : Int) ≤ (j : Int) := by omega
        have i1 : (j : Int) < (nw : Int) := by omega
        obtain ⟨gw, offw, rfl, hgw, _⟩ := want_cells HXQ.out.wt.rd ht (by rw [← HNW.out]; omega)
        have HSC : Hid (∀ V, Below X.heap.size X V → V.cell? ⟨gw, offw + j * 3, none⟩ = some (.int .u64 t.num) ∧ V.cell? ⟨gw, offw + j * 3 + 1, none⟩ = some (.int .i64 t.nd)) := Lib.hid (fun V hb => by
          obtain ⟨g', off', e, _, c0, c1, _⟩ := want_cells (HXQ.out.wt.rd.below (hb)) ht (by rw [← HNW.out]; omega)
          injection e with e
          injection e with e1 e2 _
          subst e1 e2
          exact ⟨c0, c1⟩)
        obtain ⟨rb2, hrb2⟩ : ∃ r, r = firstZ (fun u => sameT u (t.num, t.nd)) has := ⟨_, rfl⟩
        have HRB2 := Lib.hid hrb2
        have HF2 : Hid (∀ V, Below X.heap.size X V → Calls Try.prog 24 #[.slice Ah nh ch, .agg #[.int .u64 t.num, .int .i64 t.nd]] V fun e w' => e = .returned (.int .i64 rb2) ∧ Below X.heap.size X w') := Lib.hid (fun V hb => by rw [hrb2, HNH.out]; exact find_of HXQ.out.h (t.num, t.nd) hb)
        have HTE := Lib.hid ht
        clear hrb2 ht
        go_upto_region 4 with fail
        go_region_held3 (fun V => (V.cell? ⟨q0, 0, none⟩ = some (.slice Ah nh ch) ∧ V.cell? ⟨q0, 1, none⟩ = some (.slice (some ⟨gw, offw, none⟩) nw cw)) ∧ V.cell? ⟨gw, offw + j * 3, none⟩ = some (.int .u64 t.num) ∧ V.cell? ⟨gw, offw + j * 3 + 1, none⟩ = some (.int .i64 t.nd))
          ((first | (refine allS HS.out HSW.out HSC.out ?_; repeat (first | with_reducible exact Below.refl _ _ | exact HBL.out | exact HB2.out | with_reducible refine Below.drew ?_))))
          ((first | (go_at_call 24; refine (HF2.out _ ?_).mono ?_; (repeat (first | with_reducible exact Below.refl _ _ | exact HBL.out | with_reducible refine Below.drew ?_)); rintro e w2 ⟨rfl, hb2⟩; have HB2 := Lib.hid hb2; clear hb2)))
        rename_i hheld
        clear hheld
        by_cases hr2 : rb2 < 0
        · have hr2' : ¬ 0 ≤ rb2 := by omega
          go_wp2_with fail
          go_ret
          refine ⟨?_, HXB.out.trans (HB2.out.mono HXB.out.size)⟩
          have e : r = j := by
            rw [HR.out]
            unfold placeN
            rw [if_pos HH.out]
            refine findIdx_at (by rw [← HNW.out]; omega) HALL.out (.inr ⟨t, HTE.out, ?_⟩)
            unfold hasT
            rw [any_first]
            show (!decide (0 ≤ firstZ (fun u => sameT u (t.num, t.nd)) has)) = true
            rw [← HRB2.out, decide_eq_false (by omega)]
            rfl
          rw [e]; rfl
        · have hr2' : 0 ≤ rb2 := by omega
          go_wp2_with fail
          go_roundw
          case rel => exact ⟨j + 1, by omega, by go_num, fun i u hi hu => by
            by_cases e : i = j
            · subst e
              have : some t = some u := HTE.out.symm.trans hu
              injection this with this
              rw [← this]
              unfold hasT
              rw [any_first]
              show (!decide (0 ≤ firstZ (fun u => sameT u (t.num, t.nd)) has)) = false
              rw [← HRB2.out, decide_eq_true (by omega)]
              rfl
            · exact HALL.out i u (by omega) hu, HB2.out⟩
          case measure => simp [intOf]; omega
      · have i1 : ¬ ((j : Int) < (nw : Int)) := by omega
        obtain ⟨s0, _⟩ := HS.out wr HBL.out
        have s3 := HSW.out wr HBL.out
        go_upto_region 4 with fail
        go_quiet (fail)
        go_wp2_with fail
        go_ret
        refine ⟨?_, HXB.out.trans ((below_drewN HBL.out _).mono HXB.out.size)⟩
        have e : r = j := by
          rw [HR.out]
          unfold placeN
          rw [if_pos HH.out]
          exact findIdx_at (by rw [← HNW.out]; omega) HALL.out (.inl (by rw [← HNW.out]; omega))
        rw [e]; rfl
#print axioms place_any
end Go.Proofs.Ytcceankldiafpaa.Lock
