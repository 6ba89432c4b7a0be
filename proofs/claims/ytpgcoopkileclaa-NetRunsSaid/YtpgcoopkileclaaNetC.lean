/- At, Take, Twice. -/
import Derived.Test.YtpgcoopkileclaaNetB
import Derived.Handy
import Derived.Test.YtpgcoopkileclaaRes
set_option linter.unusedVariables false
set_option linter.unusedSimpArgs false
set_option linter.unusedSectionVars false
namespace Go.Proofs.Ytpgcoopkileclaa.NetA
open Go.RowKit Go.WideShapes Go.Deep Go.Proofs.Ytpgcoopkileclaa.Mem Go.Proofs.Ytpgcoopkileclaa.Open
section
variable {w w' : World} {base base' nb : Nat} {av : Value} {rs : List R3}
theorem at_nil (w : World) (i : Int) : Calls Try.prog 11 #[.pointer none, .int .i64 i] w fun e w' => e = .returned (.tuple #[.agg #[.int .i64 0, .slice none 0 0], .bool false]) ∧ Below w.heap.size w w' := by
  go_enter Try.func11, Try.ntmps11
  go_wp2_with (go_at_call 16; refine (in_nil _ _).mono ?_; rintro e w' ⟨rfl, rfl⟩)
  go_returns
  exact ⟨rfl, (Below.refl _ _).alloc (Nat.le_refl _) _⟩
theorem NetAt.at_out (h : NetAt w base nb av rs) {i : Int} (hi : ¬ (0 ≤ i ∧ i < rs.length)) : Calls Try.prog 11 #[.pointer (some ⟨nb, 0, none⟩), .int .i64 i] w fun e w' => e = .returned (.tuple #[.agg #[.int .i64 0, .slice none 0 0], .bool false]) ∧ Below w.heap.size w w' := by
  have H := Lib.hid h
  have hd := decide_eq_false hi
  clear h
  go_enter Try.func11, Try.ntmps11
  go_wp2_with fail
  refine ((H.out.alloc _).in_any i).mono ?_
  rintro e w' ⟨he, rfl⟩
  rw [hd] at he
  subst he
  go_wp2_with fail
  go_returns
  exact ⟨rfl, (Below.refl _ _).alloc (Nat.le_refl _) _⟩
set_option maxHeartbeats 1000000 in
set_option maxRecDepth 100000 in
theorem NetAt.at_in (h : NetAt w base nb av rs) {i : Nat} {r : R3} (hi : rs[i]? = some r) : Calls Try.prog 11 #[.pointer (some ⟨nb, 0, none⟩), .int .i64 i] w fun e w' =>
    ∃ v', e = .returned (.tuple #[.agg #[.int .i64 r.1, v'], .bool true]) ∧ Own w' w.heap.size 5 1 v' r.2.2.length (bc r.2.2) ∧ Below w.heap.size w w' := by
  obtain ⟨to, bv, b⟩ := r
  have H := Lib.hid h
  have hil := (List.getElem?_eq_some_iff.1 hi).1
  have hd := decide_eq_true (show 0 ≤ (i : Int) ∧ (i : Int) < (rs.length : Int) by omega)
  obtain ⟨g, off, cap, cur, rfl, _, hg, _, _, _, hcur⟩ := h.own.form (by omega)
  obtain ⟨x0, x1⟩ := rc_at hi
  have hc0 := own_cells hcur x0
  have hc1 := own_cells hcur x1
  have HX : Hid (∀ W' : World, Below w.heap.size w W' → W'.cell? ⟨nb, 0, none⟩ = some (.slice (some ⟨g, off, none⟩) rs.length cap) ∧ W'.cell? ⟨g, off + i * 2, none⟩ = some (.int .i64 to) ∧ W'.cell? ⟨g, off + i * 2 + 1, none⟩ = some bv) := fun W' hb => by
    refine ⟨(h.below hb).ncell, ?_, ?_⟩
    · exact (hb.cell (p := ⟨g, off + i * 2, none⟩) (Array.getElem?_eq_some_iff.1 hg).1).trans (by rw [cell_of_row _ _ _ _ _ _ hg]; exact hc0)
    · exact (hb.cell (p := ⟨g, off + i * 2 + 1, none⟩) (Array.getElem?_eq_some_iff.1 hg).1).trans (by rw [cell_of_row _ _ _ _ _ _ hg]; exact hc1)
  have HBY := Lib.hid (h.bytes _ (List.mem_of_getElem? hi))
  have hsm := (h.small _ (List.mem_of_getElem? hi)).1
  obtain ⟨Ab, cb, hbv, _⟩ := (h.bytes _ (List.mem_of_getElem? hi)).slice_
  have hbv' : bv = .slice Ab b.length cb := hbv
  clear hbv
  subst hbv'
  dsimp only at HBY hsm ⊢
  have hi0 : (0 : Int) ≤ (i : Int) := by omega
  have hi1 : (i : Int) < (rs.length : Int) := by omega
  clear h hg hcur hc0 hc1 x0 x1 hi
  go_enter Try.func11, Try.ntmps11
  go_wp2_with fail
  refine ((H.out.alloc _).in_any i).mono ?_
  rintro e w' ⟨he, rfl⟩
  rw [hd] at he
  subst he
  go_wp2_with fail
  have HB0 : Hid (Below w.heap.size w (w.alloc (.cells #[.int .i64 0, .slice none 0 0] 33)).drew) := ((Below.refl _ _).alloc (Nat.le_refl _) _).drew
  have HCL := Lib.hid (SlB.clone _ ((HBY.out.rd.below (HB0.out.mono (Nat.le_refl _))).more HB0.out.size) (bc_one b) (by omega))
  go_region_held3 (fun W' => W'.cell? ⟨nb, 0, none⟩ = some (.slice (some ⟨g, off, none⟩) rs.length cap) ∧ W'.cell? ⟨g, off + i * 2, none⟩ = some (.int .i64 to) ∧ W'.cell? ⟨g, off + i * 2 + 1, none⟩ = some (.slice Ab b.length cb))
    (first | exact HX.out _ HB0.out | exact HX.out _ HB1.out | exact HX.out _ ((HB1.out.setCell (Nat.le_refl _) _).setCell (Nat.le_refl _) _))
    (first
      | (go_at_call 14; (with_reducible refine HCL.out.mono ?_); rintro e w1 ⟨v1, rfl, hv, hb1, _⟩; obtain ⟨A1, c1, rfl, _⟩ := hv.slice_; have HV := Lib.hid hv; have hblk : w1.heap[w.heap.size]? = some (.cells #[.int .i64 0, .slice none 0 0] 33 (0, 0)) := (hb1.block w.heap.size (by show w.heap.size < (w.alloc _).heap.size; simp)).trans (heap_alloc_new w _); have HBK := Lib.hid hblk; obtain ⟨d0, d1, d2, d3⟩ := Res.row2_facts hblk; clear hblk; have HB1 := Lib.hid (HB0.out.trans (hb1.mono HB0.out.size)); clear hv hb1))
  all_goals
    go_wp2_with fail
    refine bodyPost_ret (Res.results_row_tmp rfl _ _ (Res.row2_set HBK.out) rfl Try.underlying33 rfl rfl) rfl ?_
    refine ⟨_, rfl, ?_, (HB1.out.setCell (Nat.le_refl _) _).setCell (Nat.le_refl _) _⟩
    have hlo : ∀ g, (Value.slice A1 b.length c1).ownBlock = some g → w.heap.size + 1 ≤ g := fun g hg => by
      have := (HV.out.lt g hg).1
      have e : (w.alloc (.cells #[.int .i64 0, .slice none 0 0] 33)).drew.heap.size = w.heap.size + 1 := by show (w.alloc _).heap.size = _; simp
      omega
    exact (HV.out.base_ (base' := w.heap.size) (fun g hg => by have := hlo g hg; omega)).kept fun g hg => by
      have := hlo g hg
      rw [Below.heap_setCell _ _ _ _ (by show g ≠ w.heap.size; omega), Below.heap_setCell _ _ _ _ (by show g ≠ w.heap.size; omega)]
#print axioms NetAt.at_in
set_option maxHeartbeats 1000000 in
set_option maxRecDepth 100000 in
theorem take_nil (w : World) (i : Int) : Calls Try.prog 9 #[.pointer none, .int .i64 i] w fun e w' => e = .returned (.tuple #[.agg #[.int .i64 0, .slice none 0 0], .bool false]) ∧ Below w.heap.size w w' := by
  have HAT := fun w => Lib.hid (at_nil w i)
  go_enter Try.func9, Try.ntmps9
  go_wp2_with fail
  refine (HAT _).out.mono ?_
  rintro e w' ⟨rfl, hb⟩
  have HB := Lib.hid hb
  have hblk := (hb.block w.heap.size (by simp)).trans (heap_alloc_new w _)
  have HBK := Lib.hid hblk
  obtain ⟨d0, d1, d2, d3⟩ := Res.row2_facts hblk
  have hsz := hb.size
  simp only [World.size_alloc] at hsz
  have hlt : w.heap.size < w'.heap.size := by omega
  have hne : w.heap.size ≠ w'.heap.size := by omega
  clear hb hblk
  go_wp2_with fail
  refine bodyPost_ret (Res.results_row_tmp rfl _ _ ((Below.heap_alloc _ _ _ (by simp; omega)).trans (Res.row2_set HBK.out)) rfl Try.underlying33 rfl rfl) rfl ?_
  have hb2 : Below w.heap.size w w' := ((Below.refl _ _).alloc (Nat.le_refl _) _).trans (HB.out.mono (by simp))
  exact ⟨rfl, ((hb2.setCell (Nat.le_refl _) _).setCell (Nat.le_refl _) _).alloc (by simp; omega) _⟩
set_option maxHeartbeats 1000000 in
set_option maxRecDepth 100000 in
theorem NetAt.take_out (h : NetAt w base nb av rs) {i : Int} (hi : ¬ (0 ≤ i ∧ i < rs.length)) : Calls Try.prog 9 #[.pointer (some ⟨nb, 0, none⟩), .int .i64 i] w fun e w' => e = .returned (.tuple #[.agg #[.int .i64 0, .slice none 0 0], .bool false]) ∧ Below w.heap.size w w' := by
  have HAT := Lib.hid ((h.alloc (.cells #[.int .i64 0, .slice none 0 0] 33)).at_out hi)
  clear h
  go_enter Try.func9, Try.ntmps9
  go_wp2_with fail
  refine HAT.out.mono ?_
  rintro e w' ⟨rfl, hb⟩
  have HB := Lib.hid hb
  have hblk := (hb.block w.heap.size (by simp)).trans (heap_alloc_new w _)
  have HBK := Lib.hid hblk
  obtain ⟨d0, d1, d2, d3⟩ := Res.row2_facts hblk
  have hsz := hb.size
  simp only [World.size_alloc] at hsz
  have hlt : w.heap.size < w'.heap.size := by omega
  have hne : w.heap.size ≠ w'.heap.size := by omega
  clear hb hblk HAT
  go_wp2_with fail
  refine bodyPost_ret (Res.results_row_tmp rfl _ _ ((Below.heap_alloc _ _ _ (by simp; omega)).trans (Res.row2_set HBK.out)) rfl Try.underlying33 rfl rfl) rfl ?_
  have hb2 : Below w.heap.size w w' := ((Below.refl _ _).alloc (Nat.le_refl _) _).trans (HB.out.mono (by simp))
  exact ⟨rfl, ((hb2.setCell (Nat.le_refl _) _).setCell (Nat.le_refl _) _).alloc (by simp; omega) _⟩
/-- What Take has made of a net: one letter less; the letters' slice lies where it lay. -/
def Took (w w' : World) (base nb : Nat) (av : Value) (rs : List R3) (i : Nat) : Prop :=
  ∃ av', NetAt w' base nb av' (rs.take i ++ rs.drop (i + 1)) ∧ Fr (fun g => g = nb ∨ av.ownBlock = some g) w w' ∧ av'.ownBlock = av.ownBlock
theorem NetAt.gone (h : NetAt w base nb av rs) (hbase : base ≤ w.heap.size) {i : Nat} (hi : i < rs.length) {av' : Value} {w1 : World}
    (ho : Own w1 base 33 2 av' (rs.length - 1) ((rc rs).take (i * 2) ++ (rc rs).drop ((i + 1) * 2))) (he : av'.ownBlock = av.ownBlock) (hf : Fr (fun g => av.ownBlock = some g) w w1) :
    w1.cell? ⟨nb, 0, none⟩ = some av ∧ w1.frozen? ⟨nb, 0, none⟩ = false ∧ Took w (w1.setCell ⟨nb, 0, none⟩ av') base nb av rs i := by
  have hne : ¬ av.ownBlock = some nb := fun e => by
    rcases h.own.2 with ⟨h0, _⟩ | ⟨g, off, cap, cur, h0, _, hg, _⟩
    · rw [h0] at e; cases e
    · rw [h0] at e
      injection e with e
      subst e
      rw [h.cell] at hg
      cases hg
  have hblk := hf.blk h.cell hne
  have hbytes0 : ∀ r ∈ rs, ∀ g, r.2.1.ownBlock = some g → ¬ av.ownBlock = some g := fun r hr g hg e => by
    rcases h.own.2 with ⟨h0, _⟩ | ⟨g', off, cap, cur, h0, _, hg', _⟩
    · rw [h0] at e; cases e
    · rw [h0] at e
      injection e with e
      rcases (h.bytes r hr).2 with ⟨h1, _⟩ | ⟨g2, _, _, _, h1, _, hg2, _⟩
      · rw [h1] at hg; cases hg
      · rw [h1] at hg
        injection hg with hg
        subst e hg
        rw [hg2] at hg'
        cases hg'
  have hnbb : ∀ r ∈ rs, ¬ r.2.1.ownBlock = some nb := fun r hr e => by
    rcases (h.bytes r hr).2 with ⟨h1, _⟩ | ⟨g2, _, _, _, h1, _, hg2, _⟩
    · rw [h1] at e; cases e
    · rw [h1] at e
      injection e with e
      subst e
      rw [h.cell] at hg2
      cases hg2
  have hsn : ∀ {x : Value} {e k n xs}, Own w1 base e k x n xs → ¬ x.ownBlock = some nb → Own (w1.setCell ⟨nb, 0, none⟩ av') base e k x n xs := fun hx hn => hx.kept fun g hg => Below.heap_setCell w1 ⟨nb, 0, none⟩ av' g (fun e => hn (by have e' : g = nb := e; rw [← e']; exact hg))
  have hsub : ∀ r ∈ rs.take i ++ rs.drop (i + 1), r ∈ rs := fun r hr => by
    rcases List.mem_append.1 hr with hr | hr
    · exact List.mem_of_mem_take hr
    · exact List.mem_of_mem_drop hr
  have hlen : (rs.take i ++ rs.drop (i + 1)).length = rs.length - 1 := by simp; omega
  have hsl : (rs.take i ++ rs.drop (i + 1)).Sublist rs := by
    rw [← List.eraseIdx_eq_take_drop_succ]; exact List.eraseIdx_sublist rs i
  refine ⟨?_, ?_, av', ⟨h.hb, ?_, ?_, ?_, fun r hr => h.small r (hsub r hr), by rw [hlen]; have := h.len; omega, h.apart.sublist hsl⟩, (hf.mono (fun i _ e => .inr e)).setCell (.inl (.inl rfl)) av', he⟩
  · rw [cell_of_row _ _ _ _ _ _ hblk]; rfl
  · unfold World.frozen?; rw [hblk]; rfl
  · have := heap_setCell_same w1 nb 0 #[av] 28 av' hblk
    simpa using this
  · have := hsn ho (by rw [he]; exact hne)
    rw [hlen, rc_append, ← rc_take, ← rc_drop]
    exact this
  · intro r hr
    exact hsn ((h.bytes r (hsub r hr)).fr hf (hbytes0 r (hsub r hr))) (hnbb r (hsub r hr))
theorem rc_one (h : NetAt w base nb av rs) : One (rc rs) := by
  intro u hu
  obtain ⟨r, hr, hu⟩ := List.mem_flatMap.1 hu
  rcases List.mem_cons.1 hu with rfl | hu
  · rfl
  · rw [List.mem_singleton.1 hu]; exact slice_one (h.bytes r hr)
set_option maxHeartbeats 1000000 in
set_option maxRecDepth 100000 in
theorem NetAt.take_in (h : NetAt w base nb av rs) (hbase : base ≤ w.heap.size) {i : Nat} {r : R3} (hi : rs[i]? = some r) : Calls Try.prog 9 #[.pointer (some ⟨nb, 0, none⟩), .int .i64 i] w fun e w' =>
    ∃ v', e = .returned (.tuple #[.agg #[.int .i64 r.1, v'], .bool true]) ∧ Own w' w.heap.size 5 1 v' r.2.2.length (bc r.2.2) ∧ Took w w' base nb av rs i := by
  have H := Lib.hid h
  have hil := (List.getElem?_eq_some_iff.1 hi).1
  have hle := h.len
  have HAT := Lib.hid ((h.alloc (.cells #[.int .i64 0, .slice none 0 0] 33)).at_in hi)
  have hnb : nb < w.heap.size := (h.foot (.inl rfl)).2
  obtain ⟨Aa, ca, rfl, _⟩ := h.own.slice_
  clear h hi
  go_enter Try.func9, Try.ntmps9
  go_wp2_with fail
  refine HAT.out.mono ?_
  rintro e w' ⟨v', rfl, hv, hb⟩
  obtain ⟨A1, c1, rfl, _⟩ := hv.slice_
  have HV := Lib.hid hv
  have HB := Lib.hid hb
  have hblk := (hb.block w.heap.size (by simp)).trans (heap_alloc_new w _)
  have HBK := Lib.hid hblk
  obtain ⟨d0, d1, d2, d3⟩ := Res.row2_facts hblk
  have hsz := hb.size
  simp only [World.size_alloc] at hsz
  have hlt : w.heap.size < w'.heap.size := by omega
  have hne : w.heap.size ≠ w'.heap.size := by omega
  have hb2 : Below w.heap.size w w' := ((Below.refl _ _).alloc (Nat.le_refl _) _).trans (hb.mono (by simp))
  have h2 := (H.out.below hb2).alloc (.cells #[.int .i64 r.1, .slice A1 r.2.2.length c1] 33)
  have H2 := Lib.hid h2
  have k0 := h2.ncell
  have ew : IntKind.i64.wrap ((i : Int) + 1) = (i : Int) + 1 := by rw [IntKind.wrap_i64]; omega
  have HB2 := Lib.hid hb2
  clear hb hblk HAT hv h2 hb2
  go_wp2_with fail
  have hsz2 : w.heap.size ≤ (w'.alloc (.cells #[.int .i64 r.1, .slice A1 r.2.2.length c1] 33)).heap.size := by simp; omega
  refine (SlL.delete H2.out.own (rc_one H2.out) i hil).mono ?_
  rintro e w3 ⟨av3, rfl, ho, he, hf⟩
  obtain ⟨A3, c3, rfl, _⟩ := ho.slice_
  obtain ⟨q0, q1, hT⟩ := H2.out.gone (Nat.le_trans hbase hsz2) hil ho he hf
  have HT := Lib.hid hT
  have hno : ∀ g, (Value.slice Aa rs.length ca).ownBlock = some g → g < w.heap.size := fun g hg => (H.out.foot (.inr (.inl hg))).2
  have hlb : w3.heap[w'.heap.size]? = some (.cells #[.int .i64 r.1, .slice A1 r.2.2.length c1] 33 (0, 0)) := hf.blk (heap_alloc_new w' _) (fun e => by have := hno _ e; omega)
  have hrb : w3.heap[w.heap.size]? = some (.cells #[.int .i64 0, .slice none 0 0] 33 (0, 0)) := hf.blk ((Below.heap_alloc _ _ _ hlt).trans HBK.out) (fun e => by have := hno _ e; omega)
  obtain ⟨l0, l1, _, _⟩ := Res.row2_facts hlb
  obtain ⟨m0, m1, m2, m3⟩ := Res.row2_facts hrb
  have HRB := Lib.hid hrb
  have HV3 : Hid (Own w3 w.heap.size 5 1 (.slice A1 r.2.2.length c1) r.2.2.length (bc r.2.2) ∧ ∀ g, (Value.slice A1 r.2.2.length c1).ownBlock = some g → w.heap.size + 1 ≤ g) := by
    have hlo : ∀ g, (Value.slice A1 r.2.2.length c1).ownBlock = some g → w.heap.size + 1 ≤ g := fun g hg => by have := (HV.out.lt g hg).1; simp at this; omega
    exact ⟨((HV.out.base_ (base' := w.heap.size) (fun g hg => by have := hlo g hg; omega)).alloc _).fr hf (fun g hg e => by have := hno g e; have := hlo g hg; omega), hlo⟩
  have hs3 := hf.size
  simp only [World.size_alloc] at hs3
  have HF : Hid (Fr (fun g => g = nb ∨ (Value.slice Aa rs.length ca).ownBlock = some g) w w3) := ((Fr.of_below HB2.out _).alloc _).trans hf (fun g _ e => .inr e)
  have hn1 : nb ≠ w.heap.size := by omega
  have hn2 : nb ≠ w'.heap.size := by omega
  clear hT ho he hf hlb hrb k0 d0 d1 d2 d3
  go_wp2_with fail
  refine bodyPost_ret (Res.results_row_tmp rfl _ _ (Res.row2_set ((Below.heap_setCell _ _ _ _ (by show w.heap.size ≠ nb; omega)).trans HRB.out)) rfl Try.underlying33 rfl rfl) rfl ?_
  refine ⟨_, rfl, HV3.out.1.kept fun g hg => ?_, ?_⟩
  · have := HV3.out.2 g hg
    rw [Below.heap_setCell _ _ _ _ (by show g ≠ w.heap.size; omega), Below.heap_setCell _ _ _ _ (by show g ≠ w.heap.size; omega), Below.heap_setCell _ _ _ _ (by show g ≠ nb; omega)]
  · obtain ⟨av', t1, _, t3⟩ := HT.out
    refine ⟨av', t1.kept fun g hg => ?_, ((HF.out.setCell (.inl (.inl rfl)) _).setCell (.inr (Nat.le_refl _)) _).setCell (.inr (Nat.le_refl _)) _, t3⟩
    have hlt : g < w.heap.size := by
      rcases hg with rfl | hg | ⟨r', hr', hg⟩
      · exact hnb
      · rw [t3] at hg; exact hno g hg
      · refine (H.out.foot (.inr (.inr ⟨r', ?_, hg⟩))).2
        rcases List.mem_append.1 hr' with hr | hr
        · exact List.mem_of_mem_take hr
        · exact List.mem_of_mem_drop hr
    rw [Below.heap_setCell _ _ _ _ (by show g ≠ w.heap.size; omega), Below.heap_setCell _ _ _ _ (by show g ≠ w.heap.size; omega)]
#print axioms NetAt.take_in
theorem NetAt.twice_out (h : NetAt w base nb av rs) {i : Int} (hi : ¬ (0 ≤ i ∧ i < rs.length)) : Calls Try.prog 12 #[.pointer (some ⟨nb, 0, none⟩), .int .i64 i] w fun e w' => e = .returned (.int .i64 4) ∧ Below w.heap.size w w' := by
  have HAT := Lib.hid (h.at_out hi)
  clear h
  go_enter Try.func12, Try.ntmps12
  go_wp2_with fail
  refine HAT.out.mono ?_
  rintro e w' ⟨rfl, hb⟩
  have HB := Lib.hid hb
  have hsz := hb.size
  clear hb HAT
  go_wp2_with fail
  go_ret
  exact ⟨rfl, HB.out.alloc hsz _⟩
theorem twice_nil (w : World) (i : Int) : Calls Try.prog 12 #[.pointer none, .int .i64 i] w fun e w' => e = .returned (.int .i64 4) ∧ Below w.heap.size w w' := by
  have HAT := Lib.hid (at_nil w i)
  go_enter Try.func12, Try.ntmps12
  go_wp2_with fail
  refine HAT.out.mono ?_
  rintro e w' ⟨rfl, hb⟩
  have HB := Lib.hid hb
  have hsz := hb.size
  clear hb HAT
  go_wp2_with fail
  go_ret
  exact ⟨rfl, HB.out.alloc hsz _⟩
theorem Sent.from {w0 : World} {to : Int} {b : B} (h : Sent w w' base nb av rs to b) (hb : Below w0.heap.size w0 w) : Sent w0 w' base nb av rs to b := by
  obtain ⟨av', v', h1, h2, h3, h4⟩ := h
  have := hb.size
  exact ⟨av', v', h1, (Fr.of_below hb _).trans h2 (fun g _ e => e), h3.imp id (fun h g hg => by have := h g hg; omega), fun g hg => by have := h4 g hg; omega⟩
set_option maxHeartbeats 1000000 in
theorem NetAt.twice_ok (h : NetAt w base nb av rs) (hbase : base ≤ w.heap.size) (hl : rs.length < 2000) {i : Nat} {r : R3} (hi : rs[i]? = some r) :
    Calls Try.prog 12 #[.pointer (some ⟨nb, 0, none⟩), .int .i64 i] w fun e w' => e = .returned (.int .i64 0) ∧ Sent w w' base nb av rs r.1 r.2.2 := by
  have HAT := Lib.hid (h.at_in hi)
  have hsm := h.small r (List.mem_of_getElem? hi)
  have H := Lib.hid h
  clear h hi
  go_enter Try.func12, Try.ntmps12
  go_wp2_with fail
  refine HAT.out.mono ?_
  rintro e w' ⟨v', rfl, hv, hb⟩
  obtain ⟨A1, c1, rfl, _⟩ := hv.slice_
  have HV := Lib.hid hv
  have HB := Lib.hid hb
  have hsz := hb.size
  clear hb HAT hv
  go_wp2_with fail
  have hs2 : w'.heap.size ≤ (w'.alloc (.cells #[.int .i64 r.1, .slice A1 r.2.2.length c1] 33)).heap.size := by simp
  refine (((H.out.below HB.out).alloc _).send_ok (by omega) ⟨hsm.2.1, hsm.2.2⟩ hsm.1 hl (HV.out.alloc _).rd).mono ?_
  rintro e w2 ⟨rfl, hS⟩
  have HS := Lib.hid (hS.from (HB.out.alloc hsz _))
  clear hS
  go_wp2_with fail
  go_ret
  exact ⟨rfl, HS.out⟩
set_option maxHeartbeats 1000000 in
theorem NetAt.twice_many (h : NetAt w base nb av rs) (hl : rs.length = 2000) {i : Nat} {r : R3} (hi : rs[i]? = some r) :
    Calls Try.prog 12 #[.pointer (some ⟨nb, 0, none⟩), .int .i64 i] w fun e w' => e = .returned (.int .i64 3) ∧ Below w.heap.size w w' := by
  have HAT := Lib.hid (h.at_in hi)
  have hsm := h.small r (List.mem_of_getElem? hi)
  have H := Lib.hid h
  clear h hi
  go_enter Try.func12, Try.ntmps12
  go_wp2_with fail
  refine HAT.out.mono ?_
  rintro e w' ⟨v', rfl, hv, hb⟩
  obtain ⟨A1, c1, rfl, _⟩ := hv.slice_
  have HB := Lib.hid hb
  have hsz := hb.size
  clear hb HAT hv
  go_wp2_with fail
  refine (((H.out.below HB.out).alloc _).send_many hl r.1 ⟨hsm.2.1, hsm.2.2, hsm.1⟩).mono ?_
  rintro e w2 ⟨rfl, rfl⟩
  go_wp2_with fail
  go_ret
  exact ⟨rfl, HB.out.alloc hsz _⟩
end
end Go.Proofs.Ytpgcoopkileclaa.NetA
