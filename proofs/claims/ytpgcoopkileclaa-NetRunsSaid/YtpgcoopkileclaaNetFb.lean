/- NetRuns: small laws of the two lists. -/
import Derived.Test.YtpgcoopkileclaaNetF
set_option linter.unusedVariables false
set_option linter.unusedSimpArgs false
set_option linter.unusedSectionVars false
namespace Go.Proofs.Ytpgcoopkileclaa.NetA
open Go.RowKit Go.WideShapes Go.Deep Go.Proofs.Ytpgcoopkileclaa.Mem Go.Proofs.Ytpgcoopkileclaa.Open Go.Proofs.Ytpgcoopkileclaa.Bits
theorem Two.new (w : World) : Two ((w.alloc (.cells #[.slice none 0 0] 28)).alloc (.cells #[] 33)) w.heap.size w.heap.size (.slice none 0 0) [] (.slice (some ⟨w.heap.size + 1, 0, none⟩) 0 0) [] := by
  have h := own_empty2 (W := w.alloc (.cells #[.slice none 0 0] 28)) (e := 33) 2 (b := w.heap.size) (by simp)
  rw [World.size_alloc] at h
  refine ⟨(NetAt.new w).alloc _, ⟨h, by simp, List.Pairwise.nil⟩, fun g hg hx => ?_⟩
  rcases hg with e | ⟨r, hr, _⟩
  · have e : w.heap.size + 1 = g := by simpa [Value.ownBlock] using e
    rcases hx with e2 | e2 | ⟨r, hr, _⟩
    · omega
    · cases e2
    · cases hr
  · cases hr
theorem Two.fr2 {w w' : World} {base nb : Nat} {av ov : Value} {rs os : List R3} {S : Nat → Prop} (h : Two w base nb av rs ov os) (hf : Fr S w w') (hS : ∀ g, S g → ¬ (OFoot ov os g ∨ Foot nb av rs g)) : Two w' base nb av rs ov os := h.kept fun g hg hx => hf.block g hg fun hs => hS g hs hx
theorem Two.feet {w : World} {base nb : Nat} {av ov : Value} {rs os : List R3} (h : Two w base nb av rs ov os) {g : Nat} (hg : OFoot ov os g ∨ Foot nb av rs g) : base ≤ g ∧ g < w.heap.size := hg.elim h.its.foot h.net.foot
theorem Two.sent2 {w w1 w2 : World} {base nb : Nat} {av ov : Value} {rs os : List R3} (h : Two w base nb av rs ov os) (hb : Below w.heap.size w w1) {tz : Int} {b : B} (hs : Sent w1 w2 base nb av rs tz b) :
    ∃ av' v', Two w2 base nb av' (rs ++ [(tz, v', b)]) ov os ∧ ∀ g, w.heap.size ≤ g → g < w1.heap.size → ¬ (OFoot ov os g ∨ Foot nb av' (rs ++ [(tz, v', b)]) g) := by
  have h1 := h.below hb
  obtain ⟨av', v', hn, hf, ha, hv⟩ := hs
  obtain ⟨av2, v2, hT⟩ : ∃ a v, a = av' ∧ v = v' := ⟨_, _, rfl, rfl⟩
  refine ⟨av', v', ⟨hn, h1.its.kept fun g hg => hf.block g (h1.its.foot hg).2 fun e => h.far g hg (e.elim .inl (fun e => .inr (.inl e))), fun g hg hx => ?_⟩, fun g hg1 hg2 hx => ?_⟩
  · have hlt := (h1.its.foot hg).2
    rcases hx with e | e | ⟨r, hr, e⟩
    · exact h.far g hg (.inl e)
    · rcases ha with ha | ha
      · exact h.far g hg (.inr (.inl (ha.symm.trans e)))
      · have := ha g e; omega
    · rcases List.mem_append.1 hr with hr | hr
      · exact h.far g hg (.inr (.inr ⟨r, hr, e⟩))
      · obtain rfl := List.mem_singleton.1 hr
        have := hv g e; omega
  · rcases hx with hx | e | e | ⟨r, hr, e⟩
    · have := (h.its.foot hx).2; omega
    · have := (h.net.foot (.inl e)).2; omega
    · rcases ha with ha | ha
      · have := (h.net.foot (.inr (.inl (ha.symm.trans e)))).2; omega
      · have := ha g e; omega
    · rcases List.mem_append.1 hr with hr | hr
      · have := (h.net.foot (.inr (.inr ⟨r, hr, e⟩))).2; omega
      · obtain rfl := List.mem_singleton.1 hr
        have := hv g e; omega
theorem Two.took2 {w w' : World} {base nb : Nat} {av ov : Value} {rs os : List R3} (h : Two w base nb av rs ov os) {i : Nat} (hs : Took w w' base nb av rs i) : ∃ av', Two w' base nb av' (rs.take i ++ rs.drop (i + 1)) ov os ∧ ∀ g, (OFoot ov os g ∨ Foot nb av' (rs.take i ++ rs.drop (i + 1)) g) → OFoot ov os g ∨ Foot nb av rs g := by
  obtain ⟨av', h1, hf, ha⟩ := hs
  have hsub : ∀ g, Foot nb av' (rs.take i ++ rs.drop (i + 1)) g → Foot nb av rs g := fun g hg => by
    rcases hg with e | e | ⟨r, hr, e⟩
    · exact .inl e
    · exact .inr (.inl (ha.symm.trans e))
    · refine .inr (.inr ⟨r, ?_, e⟩)
      rcases List.mem_append.1 hr with hr | hr
      · exact List.mem_of_mem_take hr
      · exact List.mem_of_mem_drop hr
  exact ⟨av', ⟨h1, h.its.kept fun g hg => hf.block g (h.its.foot hg).2 fun e => h.far g hg (e.elim .inl (fun e => .inr (.inl e))), fun g hg hx => h.far g hg (hsub g hx)⟩, fun g hg => hg.imp id (hsub g)⟩
theorem below_q {w V : World} {q : Nat} {o : OpN} (hx : w.heap[q]? = some (opR o)) (hb : Below w.heap.size w V) : V.heap[q]? = some (opR o) := (hb.block _ (Array.getElem?_eq_some_iff.1 hx).1).trans hx
theorem Two.cells {w V : World} {base nb go offo m c ja : Nat} {av bv : Value} {rs os : List R3} {tz : Int} {ob : B} (h : Two w base nb av rs (.slice (some ⟨go, offo, none⟩) m c) os) (hk : os[ja]? = some (tz, bv, ob)) (hb : Below w.heap.size w V) :
    V.cell? ⟨go, offo + ja * 2, none⟩ = some (.int .i64 tz) ∧ V.cell? ⟨go, offo + ja * 2 + 1, none⟩ = some bv := by
  have hl := (List.getElem?_eq_some_iff.1 hk).1
  obtain ⟨g, off, c1, e, hg, _, _, hx⟩ := h.its.own.rd.cells (by omega)
  injection e with e1 e2 e3
  injection e1 with e1
  injection e1 with e1 e4 _
  subst e1 e4
  exact ⟨(hb.cell (p := ⟨go, offo + ja * 2, none⟩) hg).trans (hx _ _ (rc_at hk).1), (hb.cell (p := ⟨go, offo + ja * 2 + 1, none⟩) hg).trans (by rw [Nat.add_assoc]; exact hx _ _ (rc_at hk).2)⟩
theorem Two.form {w : World} {base nb m c : Nat} {A : Option Addr} {av : Value} {rs os : List R3} (h : Two w base nb av rs (.slice A m c) os) (h0 : 0 < os.length) : ∃ g off, A = some ⟨g, off, none⟩ ∧ m ≤ c ∧ c ≤ maxLen := by
  obtain ⟨g, off, c1, e, hg, h1, h2, hx⟩ := h.its.own.rd.cells h0
  injection e with e1 e2 e3
  subst e1 e2 e3
  exact ⟨g, off, rfl, h1, h2⟩
theorem said_set (rs : List R3) (i : Nat) (r : R3) : said (rs.set i r) = (said rs).set i (r.1, r.2.2) := by simp [said]
theorem said_cut (rs : List R3) (i : Nat) : said (rs.take i ++ rs.drop (i + 1)) = (said rs).take i ++ (said rs).drop (i + 1) := by simp [said]
theorem below_alloc2 {w V : World} {o : Obj} (h : Below w.heap.size w V) : Below w.heap.size w (V.alloc o) := h.alloc h.size o
theorem hBW1s {B : Nat} {w0 X W1 : World} (h1 : Below B w0 X) (h2 : Below X.heap.size X W1) (hB : B ≤ w0.heap.size := by exact Nat.le_refl _) : B ≤ W1.heap.size := Nat.le_trans hB (Nat.le_trans h1.size h2.size)
theorem fr_two (w : World) (t1 : Nat) (u v : Value) : Fr (fun g => g = t1) w ((w.setCell ⟨t1, 0, none⟩ u).setCell ⟨t1, 1, none⟩ v) := by
  have h0 : Fr (fun g => g = t1) w w := Fr.refl _ _
  exact (h0.setCell (p := ⟨t1, 0, none⟩) (.inl rfl) u).setCell (p := ⟨t1, 1, none⟩) (.inl rfl) v
/-- What an append onto a slice keeps: that slice's own cells. -/
theorem append_keeps {P : Program} (w : World) {t tx ty e e2 : TypeId} {k bytes : Nat} {z : Value} (ht : P.underlying t = some (.slice e)) (htx : P.underlying tx = some (.slice e2)) (hT : Ty P e k bytes z)
    {base g off n cap : Nat} {xs : List Value} (hown : Own w base e k (.slice (some ⟨g, off, none⟩) n cap) n xs)
    {ga oa m c : Nat} {news : List Value} (hm : 0 < m) (hl : news.length = m * k) (hcells : ∀ j u, news[j]? = some u → w.cell? ⟨ga, oa + j, none⟩ = some u) (h1 : One news)
    (h63 : n + m ≤ maxLen) (hbytes : (n + m) * bytes ≤ 140737488355328) {v' : Value} {w' : World}
    (hr : (Builtin.append_ #[t, tx] ty #[.slice (some ⟨g, off, none⟩) n cap, .slice (some ⟨ga, oa, none⟩) m c]).run P w = .ok v' w') :
    ∀ j u, xs[j]? = some u → w'.cell? ⟨g, off + j, none⟩ = some u := by
  obtain ⟨⟨i, hi, hz, rfl, rfl⟩, hzs⟩ := hT
  have hadd : ∀ (a b j : Nat), (⟨a, b, none⟩ : Addr).add j = ⟨a, b + j, none⟩ := fun a b j => by unfold Addr.add; split <;> simp_all
  have hcells' : ∀ j u, news[j]? = some u → w.cell? ((⟨ga, oa, none⟩ : Addr).add j) = some u := fun j u hu => by rw [hadd]; exact hcells j u hu
  rcases hown.2 with ⟨h0, _⟩ | ⟨g', off', cap', cur, h0, hbg, hg, hnc, hcm, hcs, htake⟩
  · cases h0
  · injection h0 with h0 _ h2
    injection h0 with h0
    injection h0 with h0 h3 _
    subst h0 h3 h2
    have hlt := (Array.getElem?_eq_some_iff.1 hg).1
    by_cases hroom : n + m ≤ cap
    · have hfit : off + n * i.size + news.length ≤ cur.size := by
        have : (n + m) * i.size ≤ cap * i.size := Nat.mul_le_mul_right _ hroom
        rw [Nat.add_mul] at this
        omega
      rw [run_append_room' (P := P) w t tx ty e e2 i ht htx hi g off n cap cur hg ⟨ga, oa, none⟩ m c news hl hcells' h1 hroom hfit] at hr
      injection hr with _ hr
      subst hr
      intro j u hu
      have hj : j < xs.length := (List.getElem?_eq_some_iff.1 hu).1
      have hj2 : j < n * i.size := by rw [← hown.1]; exact hj
      have hc := own_cells htake hu
      have hsz : off + n * i.size ≤ cur.size := by omega
      rw [cell_of_row _ _ _ _ _ _ (setRow_heap w g cur _ e _ hg)]
      rw [← hc]
      simp only [List.getElem?_toArray, List.append_assoc]
      rw [List.getElem?_append_left (by simp; omega), List.getElem?_take, if_pos (by omega)]
      simp
    · have holds : ∀ j u, xs[j]? = some u → w.cell? ((⟨g, off, none⟩ : Addr).add j) = some u := fun j u hu => by
        rw [hadd, cell_of_row w g _ cur e (0, 0) hg]
        exact own_cells htake hu
      rw [run_append_grow' (P := P) w t tx ty e e2 i z ht htx hi hz ⟨g, off, none⟩ n cap xs hown.1 holds ⟨ga, oa, none⟩ m c news hl hcells' (by omega) (by simp only [maxLen] at h63; omega) (growslice_fits (by omega) hbytes)] at hr
      injection hr with _ hr
      subst hr
      intro j u hu
      have h9 := holds j u hu
      rw [hadd] at h9
      rw [World.cell?_alloc_lt _ _ ⟨g, off + j, none⟩ (by simpa using hlt)]
      simpa using h9
/-- Two.append, and what lay in the law's list's cells is there yet. -/
theorem Two.append2 {w W : World} {base nb go offo c : Nat} {av : Value} {rs os : List R3} (h : Two w base nb av rs (.slice (some ⟨go, offo, none⟩) os.length c) os) (hbase : base ≤ w.heap.size) {tz : Int} {b : B} {v' : Value} (hl : os.length < 1000) (hv : Own W w.heap.size 5 1 v' b.length (bc b)) (hb1 : Below w.heap.size w W) (t : TypeId) :
    Does Try.prog (W.alloc (.cells #[.int .i64 tz, v'] 33)) (Builtin.append_ #[26, 26] t #[.slice (some ⟨go, offo, none⟩) os.length c, .slice (some ⟨W.heap.size, 0, none⟩) 1 1]) fun v2 w2 =>
      (∃ A' c', v2 = .slice A' (os.length + 1) c') ∧ Two w2 base nb av rs v2 (os ++ [(tz, v', b)]) ∧ Below base w w2 ∧ Fr (fun g => (Value.slice (some ⟨go, offo, none⟩) os.length c).ownBlock = some g) w w2 ∧
      ∀ j u, (rc os)[j]? = some u → w2.cell? ⟨go, offo + j, none⟩ = some u := by
  obtain ⟨v2, w2, hr, h1, h2, h3, h4⟩ := h.append hbase (tz := tz) hl hv hb1 t
  have hv1 := slice_one hv
  exact ⟨v2, w2, hr, h1, h2, h3, h4, append_keeps (P := Try.prog) (W.alloc (.cells #[.int .i64 tz, v'] 33)) Try.underlying26 Try.underlying26 SlL.ty (((h.its.own.below hb1).alloc _)) (ga := W.heap.size) (oa := 0) (m := 1) (c := 1) (news := [.int .i64 tz, v']) (by omega) rfl
    (fun j u hu => by rw [Nat.zero_add, cell_of_row _ _ _ _ _ _ (heap_alloc_new W _)]; simpa using hu)
    (fun u hu => (List.mem_cons.1 hu).elim (fun e => by rw [e]; rfl) (fun hu => by rw [List.mem_singleton.1 hu]; exact hv1)) (by unfold maxLen; omega) (by omega) hr⟩
#print axioms Two.append2
end Go.Proofs.Ytpgcoopkileclaa.NetA
