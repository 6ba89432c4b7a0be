/- NetRuns: the law's ops, its own list of letters beside the net's, its appends. -/
import Derived.Test.YtpgcoopkileclaaNetT
set_option linter.unusedVariables false
set_option linter.unusedSimpArgs false
set_option linter.unusedSectionVars false
namespace Go.Proofs.Ytpgcoopkileclaa.NetA
open Go.RowKit Go.WideShapes Go.Deep Go.Proofs.Ytpgcoopkileclaa.Mem Go.Proofs.Ytpgcoopkileclaa.Open Go.Proofs.Ytpgcoopkileclaa.Bits
structure OpN where
  k : Int
  at_ : Int
  i : Int
  bv : Value
  b : B
  y : UInt8
def OpN.cs (o : OpN) : List Value := [.int .i64 o.k, .int .i64 o.at_, .int .i64 o.i, o.bv, .int .u8 (o.y.toNat : Int)]
def opR (o : OpN) : Obj := .cells #[.int .i64 o.k, .int .i64 o.at_, .int .i64 o.i, o.bv, .int .u8 (o.y.toNat : Int)] 40
def occ (os : List OpN) : List Value := os.flatMap OpN.cs
theorem occ_at : ∀ {os : List OpN} {i : Nat} {o : OpN}, os[i]? = some o → ∀ (j : Nat) (u : Value), o.cs[j]? = some u → (occ os)[i * 5 + j]? = some u
  | [], i, r, h => by simp at h
  | p :: rs, 0, r, h => by
    have h' : p = r := by simpa using h
    subst h'
    intro j u hu
    have hl : j < p.cs.length := (List.getElem?_eq_some_iff.1 hu).1
    show (p.cs ++ occ rs)[0 * 5 + j]? = _
    rw [Nat.zero_mul, Nat.zero_add, List.getElem?_append_left hl]
    exact hu
  | p :: rs, i + 1, r, h => by
    have h' : rs[i]? = some r := by simpa using h
    intro j u hu
    show (p.cs ++ occ rs)[(i + 1) * 5 + j]? = _
    have hl : p.cs.length = 5 := rfl
    rw [List.getElem?_append_right (by omega), hl, show (i + 1) * 5 + j - 5 = i * 5 + j by omega]
    exact occ_at h' _ _ hu
theorem op_cells {w : World} {g : Nat} {o : OpN} (h : w.heap[g]? = some (opR o)) :
    w.cell? ⟨g, 0, none⟩ = some (.int .i64 o.k) ∧ w.cell? ⟨g, 1, none⟩ = some (.int .i64 o.at_) ∧ w.cell? ⟨g, 2, none⟩ = some (.int .i64 o.i) ∧ w.cell? ⟨g, 3, none⟩ = some o.bv ∧ w.cell? ⟨g, 4, none⟩ = some (.int .u8 (o.y.toNat : Int)) := by
  refine ⟨?_, ?_, ?_, ?_, ?_⟩ <;> (rw [cell_of_row _ _ _ _ _ _ h]; rfl)
structure OpsIn (w : World) (v : Value) (os : List OpN) : Prop where
  rd : Rd w w.heap.size 5 v os.length (occ os)
  each : ∀ o ∈ os, Rd w w.heap.size 1 o.bv o.b.length (bc o.b) ∧ (Lit.int .i64 o.at_).wf = true ∧ (Lit.int .i64 o.i).wf = true ∧ (Lit.int .i64 o.k).wf = true
theorem OpsIn.up {w w' : World} {v : Value} {os : List OpN} (h : OpsIn w v os) (hb : Below w.heap.size w w') : OpsIn w' v os := ⟨h.rd.up hb, fun p hp => ⟨(h.each p hp).1.up hb, (h.each p hp).2⟩⟩
section
variable {H : Type} {enc : TypeId × Value → H} {w : World} {base : Nat} {spare : Nat → Bool} {held : Bool}
theorem cell_eq {c : Value} {d : Value} (h : [c] = [d]) : c = d := by injection h
theorem opn_of {cs : List Value} (h : Reads1 enc Try.prog w base spare held 40 cs) : ∃ o : OpN, cs = o.cs ∧ Rd w w.heap.size 1 o.bv o.b.length (bc o.b) ∧ (Lit.int .i64 o.at_).wf = true ∧ (Lit.int .i64 o.i).wf = true ∧ (Lit.int .i64 o.k).wf = true := by
  obtain ⟨hl, hf⟩ := reads_struct Try.underlying40 h
  have hl2 : cs.length = 5 := hl
  match cs, hl2 with
  | [c0, c1, c2, c3, c4], _ =>
    obtain ⟨k, e0, w0⟩ := reads_int Try.underlying3 (hf 0 _ rfl)
    obtain ⟨a, e1, w1⟩ := reads_int Try.underlying3 (hf 1 _ rfl)
    obtain ⟨i, e2, w2⟩ := reads_int Try.underlying3 (hf 2 _ rfl)
    obtain ⟨bv, b, e3, hr, _⟩ := bytes_val (hf 3 _ rfl)
    obtain ⟨n, e4, w4⟩ := reads_int Try.underlying5 (hf 4 _ rfl)
    obtain ⟨y, rfl⟩ := u8_of w4
    exact ⟨⟨k, a, i, bv, b, y⟩, by rw [cell_eq (show [c0] = [Value.int .i64 k] from e0), cell_eq (show [c1] = [Value.int .i64 a] from e1), cell_eq (show [c2] = [Value.int .i64 i] from e2), cell_eq (show [c3] = [bv] from e3), cell_eq (show [c4] = [Value.int .u8 (y.toNat : Int)] from e4)]; rfl, hr, w1, w2, w0⟩
theorem opns_of {css : List (List Value)} (h : ∀ c ∈ css, c.length = 5 ∧ Reads1 enc Try.prog w base spare held 40 c) : ∃ os : List OpN, css.flatten = occ os ∧ css.length = os.length ∧ ∀ o ∈ os, Rd w w.heap.size 1 o.bv o.b.length (bc o.b) ∧ (Lit.int .i64 o.at_).wf = true ∧ (Lit.int .i64 o.i).wf = true ∧ (Lit.int .i64 o.k).wf = true := by
  induction css with
  | nil => exact ⟨[], rfl, rfl, by simp⟩
  | cons c css ih =>
    obtain ⟨os, e1, e2, e3⟩ := ih (fun c hc => h c (List.mem_cons_of_mem _ hc))
    obtain ⟨o, rfl, hr⟩ := opn_of (h c (List.mem_cons_self ..)).2
    exact ⟨o :: os, by rw [List.flatten_cons, e1]; rfl, by simp [e2], fun p hp => (List.mem_cons.1 hp).elim (fun e => by rw [e]; exact hr) (e3 p)⟩
theorem opns_val {v : Value} {r : Reach} {bb : Nat} (ok : Value.okWide Try.prog w r bb 38 v) (h : Reads1 enc Try.prog w base spare held 38 v.cells.toList) : ∃ os : List OpN, OpsIn w v os := by
  obtain ⟨a, l, c, rfl⟩ := okWide_slice Try.underlying38 ok
  obtain ⟨v, n, css, e, rfl, hr, hc, _⟩ := reads_slice Try.underlying38 (k := 5) rfl (by omega) h
  have e' := cell_eq (show [Value.slice a l c] = [v] from e)
  subst e'
  obtain ⟨os, e1, e2, e3⟩ := opns_of hc
  rw [e1, e2] at hr
  exact ⟨os, hr, e3⟩
end
theorem own_ne {w : World} {b1 b2 k1 k2 n1 n2 : Nat} {e1 e2 : TypeId} {v1 v2 : Value} {xs1 xs2 : List Value} (h1 : Own w b1 e1 k1 v1 n1 xs1) (h2 : Own w b2 e2 k2 v2 n2 xs2) (he : e1 ≠ e2) {g : Nat} (hg1 : v1.ownBlock = some g) : ¬ v2.ownBlock = some g := fun hg2 => by
  rcases h1.2 with ⟨h0, _⟩ | ⟨g', off, cap, cur, h0, _, hg', _⟩
  · rw [h0] at hg1; cases hg1
  · rw [h0] at hg1
    injection hg1 with hg1
    rcases h2.2 with ⟨h3, _⟩ | ⟨g2, _, _, _, h3, _, hg2', _⟩
    · rw [h3] at hg2; cases hg2
    · rw [h3] at hg2
      injection hg2 with hg2
      subst hg1 hg2
      rw [hg2'] at hg'
      injection hg' with hg'
      injection hg' with _ hg' _
      exact he hg'.symm
theorem ty_ne : (5 : TypeId) ≠ 33 := by decide
/-- The law's own letters: the slice, and each letter's bytes, in blocks of their own from base on. -/
structure Its (w : World) (base : Nat) (ov : Value) (os : List R3) : Prop where
  own : Own w base 33 2 ov os.length (rc os)
  bytes : ∀ r ∈ os, Own w base 5 1 r.2.1 r.2.2.length (bc r.2.2)
  apart : os.Pairwise fun r s => ∀ g, r.2.1.ownBlock = some g → s.2.1.ownBlock ≠ some g
def OFoot (ov : Value) (os : List R3) (g : Nat) : Prop := ov.ownBlock = some g ∨ ∃ r ∈ os, r.2.1.ownBlock = some g
section
variable {w w' W : World} {base nb : Nat} {av ov : Value} {rs os : List R3}
theorem Its.foot (h : Its w base ov os) {g : Nat} (hg : OFoot ov os g) : base ≤ g ∧ g < w.heap.size := by
  rcases hg with hg | ⟨r, hr, hg⟩
  · exact h.own.lt g hg
  · exact (h.bytes r hr).lt g hg
theorem Its.kept (h : Its w base ov os) (hk : ∀ g, OFoot ov os g → w'.heap[g]? = w.heap[g]?) : Its w' base ov os :=
  ⟨h.own.kept fun g hg => hk g (.inl hg), fun r hr => (h.bytes r hr).kept fun g hg => hk g (.inr ⟨r, hr, hg⟩), h.apart⟩
/-- The net and the law's letters, no block of both. -/
structure Two (w : World) (base nb : Nat) (av : Value) (rs : List R3) (ov : Value) (os : List R3) : Prop where
  net : NetAt w base nb av rs
  its : Its w base ov os
  far : ∀ g, OFoot ov os g → ¬ Foot nb av rs g
theorem Two.kept (h : Two w base nb av rs ov os) (hk : ∀ g, g < w.heap.size → (OFoot ov os g ∨ Foot nb av rs g) → w'.heap[g]? = w.heap[g]?) : Two w' base nb av rs ov os :=
  ⟨h.net.kept fun g hg => hk g (h.net.foot hg).2 (.inr hg), h.its.kept fun g hg => hk g (h.its.foot hg).2 (.inl hg), h.far⟩
theorem Two.below (h : Two w base nb av rs ov os) (hb : Below w.heap.size w w') : Two w' base nb av rs ov os := h.kept fun g hg _ => hb.block g hg
theorem Two.drewN (h : Two w base nb av rs ov os) (n : Nat) : Two (w.drewN n) base nb av rs ov os := h.kept fun g _ _ => rfl
theorem Two.alloc (h : Two w base nb av rs ov os) (o : Obj) : Two (w.alloc o) base nb av rs ov os := h.kept fun g hg _ => Below.heap_alloc w o g hg
theorem Two.fr {S : Nat → Prop} (h : Two w base nb av rs ov os) (hf : Fr S w w') (hS : ∀ g, S g → w.heap.size ≤ g) : Two w' base nb av rs ov os := h.kept fun g hg _ => hf.block g hg fun hs => by have := hS g hs; omega
theorem Two.sent (h : Two w base nb av rs ov os) {to : Int} {b : B} (hs : Sent w w' base nb av rs to b) : ∃ av' v', Two w' base nb av' (rs ++ [(to, v', b)]) ov os := by
  obtain ⟨av', v', h1, hf, ha, hv⟩ := hs
  refine ⟨av', v', h1, h.its.kept fun g hg => hf.block g (h.its.foot hg).2 fun e => h.far g hg (e.elim .inl (fun e => .inr (.inl e))), fun g hg hx => ?_⟩
  have hlt := (h.its.foot hg).2
  rcases hx with e | e | ⟨r, hr, e⟩
  · exact h.far g hg (.inl e)
  · rcases ha with ha | ha
    · exact h.far g hg (.inr (.inl (ha.symm.trans e)))
    · have := ha g e; omega
  · rcases List.mem_append.1 hr with hr | hr
    · exact h.far g hg (.inr (.inr ⟨r, hr, e⟩))
    · obtain rfl := List.mem_singleton.1 hr
      have := hv g e; omega
theorem Two.took (h : Two w base nb av rs ov os) {i : Nat} (hs : Took w w' base nb av rs i) : ∃ av', Two w' base nb av' (rs.take i ++ rs.drop (i + 1)) ov os := by
  obtain ⟨av', h1, hf, ha⟩ := hs
  refine ⟨av', h1, h.its.kept fun g hg => hf.block g (h.its.foot hg).2 fun e => h.far g hg (e.elim .inl (fun e => .inr (.inl e))), fun g hg hx => ?_⟩
  rcases hx with e | e | ⟨r, hr, e⟩
  · exact h.far g hg (.inl e)
  · exact h.far g hg (.inr (.inl (ha.symm.trans e)))
  · refine h.far g hg (.inr (.inr ⟨r, ?_, e⟩))
    rcases List.mem_append.1 hr with hr | hr
    · exact List.mem_of_mem_take hr
    · exact List.mem_of_mem_drop hr
theorem Two.spoilt (h : Two w base nb av rs ov os) {k : Nat} {r : R3} {i : Nat} {x : UInt8} (hk : rs[k]? = some r) (hs : Spoilt w w' base nb av rs k r i x) : Two w' base nb av (rs.set k (r.1, r.2.1, r.2.2.set i x)) ov os := by
  obtain ⟨h1, hf⟩ := hs
  have hm := List.mem_of_getElem? hk
  refine ⟨h1, h.its.kept fun g hg => hf.block g (h.its.foot hg).2 fun e => h.far g hg (.inr (.inr ⟨r, hm, e⟩)), fun g hg hx => ?_⟩
  rcases hx with e | e | ⟨s, hs, e⟩
  · exact h.far g hg (.inl e)
  · exact h.far g hg (.inr (.inl e))
  · rcases List.mem_or_eq_of_mem_set hs with hs | rfl
    · exact h.far g hg (.inr (.inr ⟨s, hs, e⟩))
    · exact h.far g hg (.inr (.inr ⟨r, hm, e⟩))
theorem own_empty2 {e : TypeId} (k : Nat) {b : Nat} (h : b ≤ W.heap.size) : Own (W.alloc (.cells #[] e)) b e k (.slice (some ⟨W.heap.size, 0, none⟩) 0 0) 0 [] :=
  ⟨by simp, .inr ⟨W.heap.size, 0, 0, #[], rfl, h, heap_alloc_new W _, Nat.le_refl _, Nat.zero_le _, by simp, by simp⟩⟩
/-- append([]byte{}, b...): bytes of their own. -/
theorem app_bytes (hbw : base ≤ W.heap.size) {A : Option Addr} {c : Nat} {b : B} (hr : Rd W W.heap.size 1 (.slice A b.length c) b.length (bc b)) (hl : b.length ≤ 300) (t : TypeId) :
    Does Try.prog (W.alloc (.cells #[] 5)) (Builtin.append_ #[29, 29] t #[.slice (some ⟨W.heap.size, 0, none⟩) 0 0, .slice A b.length c]) fun v W' =>
      (∃ A' c', v = .slice A' b.length c') ∧ Own W' W.heap.size 5 1 v b.length (bc b) ∧ Below W.heap.size W W' := by
  have hr2 := hr.alloc (Nat.le_refl _) (.cells #[] 5)
  obtain ⟨v', W', hrun, ho', hg, hob, _⟩ := run_append (P := Try.prog) (W.alloc (.cells #[] 5)) (ty := t) Try.underlying29 Try.underlying29 SlB.ty (own_empty2 (W := W) 1 (Nat.le_refl _)) (A := A) (m := b.length) (c := c) (news := bc b) (by simp [bc_len])
    (fun h0 => by
      obtain ⟨g, off, cc, e, _, _, _, hx⟩ := hr2.cells h0
      injection e with e1 _ _
      exact ⟨g, off, e1, hx⟩) (bc_one b) (by unfold maxLen; omega) (by omega) (by simp)
  have hf : Fr (fun g => some W.heap.size = some g) (W.alloc (.cells #[] 5)) W' := Fr.of_grown hg (fun g e => e)
  have hbe : Below W.heap.size W W' := ((Below.refl _ _).alloc (Nat.le_refl _) _).trans (hf.below (by simp) fun g _ e => by injection e with e; omega)
  simp only [Nat.zero_add, List.nil_append] at ho'
  obtain ⟨A', c', e, _⟩ := ho'.slice_
  exact ⟨v', W', hrun, ⟨A', c', e⟩, ho', hbe⟩
/-- A letter more on the law's list. -/
theorem Two.append (h : Two w base nb av rs ov os) (hbase : base ≤ w.heap.size) {tz : Int} {b : B} {v' : Value} (hl : os.length < 1000) (hv : Own W w.heap.size 5 1 v' b.length (bc b)) (hb1 : Below w.heap.size w W) (t : TypeId) :
    Does Try.prog (W.alloc (.cells #[.int .i64 tz, v'] 33)) (Builtin.append_ #[26, 26] t #[ov, .slice (some ⟨W.heap.size, 0, none⟩) 1 1]) fun v2 w2 =>
      (∃ A' c', v2 = .slice A' (os.length + 1) c') ∧ Two w2 base nb av rs v2 (os ++ [(tz, v', b)]) ∧ Below base w w2 ∧ Fr (fun g => ov.ownBlock = some g) w w2 := by
  have hv1 := slice_one hv
  have hown : Own (W.alloc (.cells #[.int .i64 tz, v'] 33)) base 33 2 ov os.length (rc os) := (h.its.own.below hb1).alloc _
  obtain ⟨v2, w2, hr, ho, hg, hbl, _⟩ := run_append (P := Try.prog) (W.alloc (.cells #[.int .i64 tz, v'] 33)) (ty := t) Try.underlying26 Try.underlying26 SlL.ty (base := base) hown
    (A := some ⟨W.heap.size, 0, none⟩) (m := 1) (c := 1) (news := [.int .i64 tz, v']) rfl
    (fun _ => ⟨_, _, rfl, fun j u hu => by rw [Nat.zero_add, cell_of_row _ _ _ _ _ _ (heap_alloc_new W _)]; simpa using hu⟩)
    (fun u hu => (List.mem_cons.1 hu).elim (fun e => by rw [e]; rfl) (fun hu => by rw [List.mem_singleton.1 hu]; exact hv1)) (by unfold maxLen; omega) (by omega) (by have := hb1.size; simp; omega)
  have hf2 : Fr (fun g => ov.ownBlock = some g) (W.alloc (.cells #[.int .i64 tz, v'] 33)) w2 := Fr.of_grown hg (fun g e => e)
  have hf : Fr (fun g => ov.ownBlock = some g) w w2 := ((Fr.of_below hb1 _).alloc _).trans hf2 (fun i _ e => e)
  have hvlt : ∀ g, v'.ownBlock = some g → w.heap.size ≤ g ∧ g < W.heap.size := fun g hg => hv.lt g hg
  have hovlt : ∀ g, ov.ownBlock = some g → g < w.heap.size := fun g hg => (h.its.foot (.inl hg)).2
  have hs1 := hb1.size
  have hv2 : v2.ownBlock = ov.ownBlock ∨ ∀ g, v2.ownBlock = some g → w.heap.size ≤ g := by
    rcases hbl with e | e
    · exact .inl e
    · refine .inr fun g hg => ?_
      rw [e] at hg
      injection hg with hg
      rw [← hg]; simp; omega
  refine ⟨v2, w2, hr, (by obtain ⟨A', c', e, _⟩ := ho.slice_; exact ⟨A', c', e⟩), ⟨h.net.fr hf fun g hg e => h.far g (.inl e) hg, ⟨?_, ?_, ?_⟩, ?_⟩, hf.below hbase fun g _ e => (h.its.foot (.inl e)).1, hf⟩
  · rw [rc_append, List.length_append]
    exact ho
  · intro r hr
    rcases List.mem_append.1 hr with hr | hr
    · exact (h.its.bytes r hr).fr hf fun g hg => own_ne (h.its.bytes r hr) h.its.own ty_ne hg
    · obtain rfl := List.mem_singleton.1 hr
      have h1 : Own w2 w.heap.size 5 1 v' b.length (bc b) := (hv.alloc _).fr hf2 (fun g hg e => by have := hovlt g e; have := hvlt g hg; omega)
      exact h1.base_ (fun g hg => by have := (hvlt g hg).1; omega)
  · refine List.pairwise_append.2 ⟨h.its.apart, List.pairwise_singleton _ _, fun r hr s hs g hg => ?_⟩
    obtain rfl := List.mem_singleton.1 hs
    intro e
    have := (h.its.foot (.inr ⟨r, hr, hg⟩)).2
    have := (hvlt g e).1
    omega
  · intro g hg hx
    have hlt := (h.net.foot hx).2
    rcases hg with e | ⟨r, hr, e⟩
    · rcases hv2 with e2 | e2
      · exact h.far g (.inl (e2.symm.trans e)) hx
      · have := e2 g e; omega
    · rcases List.mem_append.1 hr with hr | hr
      · exact h.far g (.inr ⟨r, hr, e⟩) hx
      · obtain rfl := List.mem_singleton.1 hr
        have := (hvlt g e).1; omega
theorem cut_one (h : Its w base ov os) : One (rc os) := by
  intro u hu
  simp only [rc, List.mem_flatMap] at hu
  obtain ⟨r, hr, hu⟩ := hu
  rcases List.mem_cons.1 hu with rfl | hu
  · rfl
  · rw [List.mem_singleton.1 hu]; exact slice_one (h.bytes r hr)
/-- append([]Letter{}, own[:i]...): cells of their own. -/
theorem cut_front (h : Its w base ov os) {i : Nat} (hi : i < os.length) (hl : os.length ≤ 1000) {g off c c' : Nat} (hov : ov = .slice (some ⟨g, off, none⟩) os.length c) (t : TypeId) :
    Does Try.prog (w.alloc (.cells #[] 33)) (Builtin.append_ #[26, 26] t #[.slice (some ⟨w.heap.size, 0, none⟩) 0 0, .slice (some ⟨g, off, none⟩) i c']) fun v2 w2 =>
      (∃ A' c', v2 = .slice A' i c') ∧ Own w2 w.heap.size 33 2 v2 i (rc (os.take i)) ∧ Below w.heap.size w w2 := by
  have h1 := h.own.rd
  obtain ⟨g', off', c2, e, hg, _, _, hx⟩ := h1.cells (by omega)
  rw [hov] at e
  injection e with e _ _
  injection e with e
  injection e with e1 e2 _
  subst e1 e2
  have hlen : (rc (os.take i)).length = i * 2 := by rw [rc_len, List.length_take]; omega
  obtain ⟨v2, w2, hr, ho, hgr, hbl, _⟩ := run_append (P := Try.prog) (w.alloc (.cells #[] 33)) (ty := t) Try.underlying26 Try.underlying26 SlL.ty (own_empty2 (W := w) 2 (Nat.le_refl _))
    (A := some ⟨g, off, none⟩) (m := i) (c := c') (news := rc (os.take i)) hlen
    (fun _ => ⟨_, _, rfl, fun j u hu => by
      rw [World.cell?_alloc_lt w _ ⟨g, off + j, none⟩ hg]
      refine hx j u ?_
      rw [← rc_take, List.getElem?_take] at hu
      split at hu
      · exact hu
      · cases hu⟩) (by rw [← rc_take]; exact (cut_one h).take _) (by unfold maxLen; omega) (by omega) (by simp)
  have hf : Fr (fun g => some w.heap.size = some g) (w.alloc (.cells #[] 33)) w2 := Fr.of_grown hgr (fun g e => e)
  have hbe : Below w.heap.size w w2 := ((Below.refl _ _).alloc (Nat.le_refl _) _).trans (hf.below (by simp) fun g _ e => by injection e with e; omega)
  simp only [Nat.zero_add, List.nil_append] at ho
  obtain ⟨A', c', e, _⟩ := ho.slice_
  exact ⟨v2, w2, hr, ⟨A', c', e⟩, ho, hbe⟩
/-- append(front, own[i+1:]...): the law's list, one letter less. -/
theorem Two.cut (h : Two w base nb av rs ov os) (hbase : base ≤ w.heap.size) {i : Nat} (hi : i < os.length) (hl : os.length ≤ 1000) {v1 : Value} (hb : Below w.heap.size w W) (hv : Own W w.heap.size 33 2 v1 i (rc (os.take i)))
    {A : Option Addr} {m c' : Nat} (hm : m = os.length - (i + 1)) (hA : 0 < m → ∃ g off c, ov = .slice (some ⟨g, off, none⟩) os.length c ∧ A = some ⟨g, off + (i + 1) * 2, none⟩) (t : TypeId) :
    Does Try.prog W (Builtin.append_ #[26, 26] t #[v1, .slice A m c']) fun v2 w2 =>
      (∃ A' c', v2 = .slice A' (os.length - 1) c') ∧ Two w2 base nb av rs v2 (os.take i ++ os.drop (i + 1)) ∧ Below w.heap.size w w2 := by
  have h1 := h.its.own.rd
  have hs1 := hb.size
  have hlen : (rc (os.drop (i + 1))).length = m * 2 := by rw [rc_len, List.length_drop, hm]
  obtain ⟨v2, w2, hr, ho, hgr, hbl, _⟩ := run_append (P := Try.prog) W (ty := t) Try.underlying26 Try.underlying26 SlL.ty hv
    (A := A) (m := m) (c := c') (news := rc (os.drop (i + 1))) hlen
    (fun h0 => by
      obtain ⟨g, off, c, hov, hAe⟩ := hA h0
      obtain ⟨g', off', c2, e, hg, _, _, hx⟩ := h1.cells (by omega)
      rw [hov] at e
      injection e with e _ _
      injection e with e
      injection e with e1 e2 _
      subst e1 e2
      refine ⟨_, _, hAe, fun j u hu => ?_⟩
      rw [← rc_drop, List.getElem?_drop] at hu
      rw [Nat.add_assoc]
      exact (hb.cell (p := ⟨g, off + ((i + 1) * 2 + j), none⟩) hg).trans (hx _ u hu)) (by rw [← rc_drop]; exact (cut_one h.its).drop _) (by unfold maxLen; omega) (by omega) hs1
  have hf2 : Fr (fun g => v1.ownBlock = some g) W w2 := Fr.of_grown hgr (fun g e => e)
  have hbe : Below w.heap.size w w2 := hb.trans (hf2.below hs1 fun g _ e => (hv.lt g e).1)
  have hv2 : ∀ g, v2.ownBlock = some g → w.heap.size ≤ g := fun g hg => (ho.lt g hg).1
  have hlen2 : (os.take i ++ os.drop (i + 1)).length = os.length - 1 := by simp; omega
  have hmi : i + m = os.length - 1 := by omega
  have hsub : ∀ r, r ∈ os.take i ++ os.drop (i + 1) → r ∈ os := fun r hr => (List.mem_append.1 hr).elim List.mem_of_mem_take List.mem_of_mem_drop
  refine ⟨v2, w2, hr, ?_, ⟨h.net.below hbe, ⟨?_, fun r hr => (h.its.bytes r (hsub r hr)).below hbe, ?_⟩, ?_⟩, hbe⟩
  · obtain ⟨A', c', e, _⟩ := ho.slice_
    rw [hmi] at e
    exact ⟨A', c', e⟩
  · rw [hlen2, ← hmi, rc_append]
    exact ho.base_ fun g hg => by have := hv2 g hg; omega
  · have hsl : (os.take i ++ os.drop (i + 1)).Sublist os := by
      have : os = os.take i ++ os.drop i := (List.take_append_drop i os).symm
      conv => rhs; rw [this]
      exact (List.Sublist.refl _).append (by
        rw [show os.drop (i + 1) = (os.drop i).drop 1 by rw [List.drop_drop]]
        exact List.drop_sublist _ _)
    exact h.its.apart.sublist hsl
  · intro g hg hx
    rcases hg with e | ⟨r, hr, e⟩
    · have := hv2 g e
      have := (h.net.foot hx).2
      omega
    · exact h.far g (.inr ⟨r, hsub r hr, e⟩) hx
/-- A byte of one of the law's letters turned. -/
theorem Two.set (h : Two w base nb av rs ov os) {k : Nat} {to : Int} {b : B} {g off cap : Nat} (hk : os[k]? = some (to, .slice (some ⟨g, off, none⟩) b.length cap, b)) (i : Nat) (x : UInt8) :
    Two (w.setCell ⟨g, off + i, none⟩ (.int .u8 (x.toNat : Int))) base nb av rs ov (os.set k (to, .slice (some ⟨g, off, none⟩) b.length cap, b.set i x)) := by
  have hmem := List.mem_of_getElem? hk
  have hown := h.its.bytes _ hmem
  have hset := hown.set i (.int .u8 (x.toNat : Int))
  dsimp only at hset
  rw [bc_set] at hset
  have hkl := (List.getElem?_eq_some_iff.1 hk).1
  have hoth : ∀ g', g' ≠ g → (w.setCell ⟨g, off + i, none⟩ (.int .u8 (x.toNat : Int))).heap[g']? = w.heap[g']? := fun g' hg' => Below.heap_setCell w _ _ g' hg'
  have hrc : rc (os.set k (to, Value.slice (some ⟨g, off, none⟩) b.length cap, b.set i x)) = rc os := by
    have hflat : ∀ (rs : List R3) (k : Nat) (r s : R3), rs[k]? = some r → s.1 = r.1 → s.2.1 = r.2.1 → rc (rs.set k s) = rc rs := by
      intro rs
      induction rs with
      | nil => intro k r s h; simp at h
      | cons p rs ih =>
        intro k r s h e1 e2
        cases k with
        | zero =>
          have h' : p = r := by simpa using h
          subst h'
          simp only [List.set_cons_zero, rc, List.flatMap_cons, e1, e2]
        | succ k =>
          have h' : rs[k]? = some r := by simpa using h
          have := ih k r s h' e1 e2
          simp only [rc] at this
          simp only [List.set_cons_succ, rc, List.flatMap_cons, this]
    exact hflat os k _ _ hk rfl rfl
  have hgetset : ∀ s ∈ os.set k (to, Value.slice (some ⟨g, off, none⟩) b.length cap, b.set i x), s = (to, .slice (some ⟨g, off, none⟩) b.length cap, b.set i x) ∨ ∃ j, os[j]? = some s ∧ j ≠ k := fun s hs => by
    obtain ⟨j, hj⟩ := List.getElem?_of_mem hs
    rw [List.getElem?_set] at hj
    by_cases hjk : k = j
    · rw [if_pos hjk, if_pos (by omega)] at hj
      injection hj with hj
      exact .inl hj.symm
    · rw [if_neg hjk] at hj
      exact .inr ⟨j, hj, Ne.symm hjk⟩
  have hbl : ∀ j s, os[j]? = some s → j ≠ k → s.2.1.ownBlock ≠ some g := fun j s hj hjk hg => by
    obtain ⟨hj1, hj2⟩ := List.getElem?_eq_some_iff.1 hj
    obtain ⟨hk1, hk2⟩ := List.getElem?_eq_some_iff.1 hk
    rcases Nat.lt_or_gt_of_ne hjk with hlt | hlt
    · have := List.pairwise_iff_getElem.1 h.its.apart j k hj1 hk1 hlt g
      rw [hj2, hk2] at this
      exact this hg rfl
    · have := List.pairwise_iff_getElem.1 h.its.apart k j hk1 hj1 hlt g
      rw [hj2, hk2] at this
      exact this rfl hg
  refine ⟨h.net.kept fun g' hg' => hoth g' fun e => h.far g (.inr ⟨_, hmem, rfl⟩) (e ▸ hg'), ⟨?_, ?_, ?_⟩, ?_⟩
  · rw [hrc, List.length_set]
    exact h.its.own.kept fun g' hg' => hoth g' (fun e => own_ne hown h.its.own ty_ne (g := g) rfl (e ▸ hg'))
  · intro s hs
    rcases hgetset s hs with rfl | ⟨j, hj, hjk⟩
    · dsimp only
      rw [List.length_set]
      exact hset
    · exact (h.its.bytes s (List.mem_of_getElem? hj)).kept fun g' hg' => hoth g' (fun e => hbl j s hj hjk (by rw [← e]; exact hg'))
  · refine List.pairwise_iff_getElem.2 fun a c ha hc hac g' hg' => ?_
    rw [List.length_set] at ha hc
    have e : ∀ n (hn : n < os.length), ((os.set k (to, Value.slice (some ⟨g, off, none⟩) b.length cap, b.set i x))[n]'(by simpa using hn)).2.1 = (os[n]).2.1 := fun n hn => by
      rw [List.getElem_set]
      by_cases hkn : k = n
      · subst hkn
        rw [if_pos rfl]
        have := (List.getElem?_eq_some_iff.1 hk).2
        rw [this]
      · rw [if_neg hkn]
    rw [e a ha] at hg'
    rw [e c hc]
    exact List.pairwise_iff_getElem.1 h.its.apart a c ha hc hac g' hg'
  · intro g' hg'
    rcases hg' with e | ⟨s, hs, e⟩
    · exact h.far g' (.inl e)
    · rcases hgetset s hs with rfl | ⟨j, hj, hjk⟩
      · exact h.far g' (.inr ⟨_, hmem, e⟩)
      · exact h.far g' (.inr ⟨s, List.mem_of_getElem? hj, e⟩)
end
#print axioms Two.set
end Go.Proofs.Ytpgcoopkileclaa.NetA
