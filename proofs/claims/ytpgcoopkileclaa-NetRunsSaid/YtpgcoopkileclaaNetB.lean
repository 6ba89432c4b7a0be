/- Send, where there is room. -/
import Derived.Test.YtpgcoopkileclaaNetA
set_option linter.unusedVariables false
set_option linter.unusedSimpArgs false
set_option linter.unusedSectionVars false
namespace Go.Proofs.Ytpgcoopkileclaa.NetA
open Go.RowKit Go.WideShapes Go.Deep Go.Proofs.Ytpgcoopkileclaa.Mem Go.Proofs.Ytpgcoopkileclaa.Open
section
variable {w w' : World} {base base' nb : Nat} {av : Value} {rs : List R3}
/-- What Send has made of a net: one letter more, its bytes in a block of their own; nothing else turned. -/
def Sent (w w' : World) (base nb : Nat) (av : Value) (rs : List R3) (to : Int) (b : B) : Prop :=
  ∃ av' v', NetAt w' base nb av' (rs ++ [(to, v', b)]) ∧ Fr (fun g => g = nb ∨ av.ownBlock = some g) w w' ∧
    (av'.ownBlock = av.ownBlock ∨ ∀ g, av'.ownBlock = some g → w.heap.size ≤ g) ∧ ∀ g, v'.ownBlock = some g → w.heap.size ≤ g
/-- The append and the store, in whatever world the letter has been made. -/
theorem NetAt.laid (h : NetAt w base nb av rs) (hbase : base ≤ w.heap.size) {to : Int} {b : B} {v' : Value} {w1 : World} (hto : 0 ≤ to ∧ to < 64) (hb : b.length ≤ 200) (hl : rs.length < 2000)
    (hv : Own w1 w.heap.size 5 1 v' b.length (bc b)) (hb1 : Below w.heap.size w w1) :
    Does Try.prog (w1.alloc (.cells #[.int .i64 to, v'] 33)) (Builtin.append_ #[26, 26] 26 #[av, .slice (some ⟨w1.heap.size, 0, none⟩) 1 1]) fun av' w2 =>
      (∃ A' c', av' = .slice A' (rs.length + 1) c') ∧ w2.cell? ⟨nb, 0, none⟩ = some av ∧ w2.frozen? ⟨nb, 0, none⟩ = false ∧ Sent w (w2.setCell ⟨nb, 0, none⟩ av') base nb av rs to b := by
  obtain ⟨A, c, e, _⟩ := h.own.slice_
  have hv1 := slice_one hv
  have hown : Own (w1.alloc (.cells #[.int .i64 to, v'] 33)) base 33 2 av rs.length (rc rs) := (h.own.below hb1).alloc _
  obtain ⟨av', w2, hr, ho, hg, hbl, _⟩ := run_append (P := Try.prog) (w1.alloc (.cells #[.int .i64 to, v'] 33)) (ty := 26) Try.underlying26 Try.underlying26 SlL.ty (base := base) hown
    (A := some ⟨w1.heap.size, 0, none⟩) (m := 1) (c := 1) (news := [.int .i64 to, v']) rfl
    (fun _ => ⟨_, _, rfl, fun j u hu => by rw [Nat.zero_add, cell_of_row _ _ _ _ _ _ (heap_alloc_new w1 _)]; simpa using hu⟩)
    (fun u hu => (List.mem_cons.1 hu).elim (fun e => by rw [e]; rfl) (fun hu => by rw [List.mem_singleton.1 hu]; exact hv1)) (by unfold maxLen; omega) (by omega) (by have := hb1.size; simp; omega)
  have hf2 : Fr (fun g => av.ownBlock = some g) (w1.alloc (.cells #[.int .i64 to, v'] 33)) w2 := Fr.of_grown hg (fun g e => e)
  have hf : Fr (fun g => av.ownBlock = some g) w w2 := ((Fr.of_below hb1 _).alloc _).trans hf2 (fun i _ e => e)
  have hne : ¬ av.ownBlock = some nb := fun e => by
    rcases h.own.2 with ⟨h0, _⟩ | ⟨g, off, cap, cur, h0, _, hg, _⟩
    · rw [h0] at e; cases e
    · rw [h0] at e
      injection e with e
      subst e
      rw [h.cell] at hg
      cases hg
  have hblk := hf.blk h.cell hne
  have hbytes0 : ∀ r ∈ rs, ∀ g, r.2.1.ownBlock = some g → ¬ av.ownBlock = some g := fun r hr g hg e => by
    rcases h.own.2 with ⟨h0, _⟩ | ⟨g', off, cap, cur, h0, _, hg', _⟩
    · rw [h0] at e; cases e
    · rw [h0] at e
      injection e with e
      rcases (h.bytes r hr).2 with ⟨h1, _⟩ | ⟨g2, _, _, _, h1, _, hg2, _⟩
      · rw [h1] at hg; cases hg
      · rw [h1] at hg
        injection hg with hg
        subst e hg
        rw [hg2] at hg'
        cases hg'
  have hnbb : ∀ r ∈ rs, ¬ r.2.1.ownBlock = some nb := fun r hr e => by
    rcases (h.bytes r hr).2 with ⟨h1, _⟩ | ⟨g2, _, _, _, h1, _, hg2, _⟩
    · rw [h1] at e; cases e
    · rw [h1] at e
      injection e with e
      subst e
      rw [h.cell] at hg2
      cases hg2
  have hnb : nb < w.heap.size := (h.foot (.inl rfl)).2
  have havlt : ∀ g, av.ownBlock = some g → g < w.heap.size := fun g hg => (h.foot (.inr (.inl hg))).2
  have hs1 := hb1.size
  have hav' : av'.ownBlock = av.ownBlock ∨ ∀ g, av'.ownBlock = some g → w.heap.size ≤ g := by
    rcases hbl with e | e
    · exact .inl e
    · refine .inr fun g hg => ?_
      rw [e] at hg
      injection hg with hg
      rw [← hg]; simp; omega
  have hav'nb : ¬ av'.ownBlock = some nb := fun e => by
    rcases hav' with e' | e'
    · rw [e'] at e; exact hne e
    · exact absurd (e' nb e) (by omega)
  have hvlt : ∀ g, v'.ownBlock = some g → w.heap.size ≤ g ∧ g < w1.heap.size := fun g hg => hv.lt g hg
  have hsn : ∀ {x : Value} {e k n xs}, Own w2 base e k x n xs → ¬ x.ownBlock = some nb → Own (w2.setCell ⟨nb, 0, none⟩ av') base e k x n xs := fun hx hn => hx.kept fun g hg => Below.heap_setCell w2 ⟨nb, 0, none⟩ av' g (fun e => hn (by have e' : g = nb := e; rw [← e']; exact hg))
  refine ⟨av', w2, hr, (by obtain ⟨A', c', e, _⟩ := ho.slice_; exact ⟨A', c', e⟩), ?_, ?_, av', v', ⟨h.hb, ?_, ?_, ?_, ?_, by simp; omega, ?_⟩, ?_, hav', fun g hg => (hvlt g hg).1⟩
  · rw [cell_of_row _ _ _ _ _ _ hblk]; rfl
  · unfold World.frozen?; rw [hblk]; rfl
  · have hlt : nb < w2.heap.size := (Array.getElem?_eq_some_iff.1 hblk).1
    have := heap_setCell_same w2 nb 0 #[av] 28 av' hblk
    simpa using this
  · have := hsn ho hav'nb
    rw [rc_append, List.length_append]
    exact this
  · intro r hr
    rcases List.mem_append.1 hr with hr | hr
    · exact hsn ((h.bytes r hr).fr hf (hbytes0 r hr)) (hnbb r hr)
    · obtain rfl := List.mem_singleton.1 hr
      have h1 : Own w2 w.heap.size 5 1 v' b.length (bc b) := (hv.alloc _).fr hf2 (fun g hg e => by have := havlt g e; have := hvlt g hg; omega)
      exact hsn (h1.base_ (fun g hg => by have := (hvlt g hg).1; omega)) (fun e => by have := (hvlt nb e).1; omega)
  · intro r hr
    rcases List.mem_append.1 hr with hr | hr
    · exact h.small r hr
    · obtain rfl := List.mem_singleton.1 hr
      exact ⟨hb, hto⟩
  · refine List.pairwise_append.2 ⟨h.apart, List.pairwise_singleton _ _, fun r hr s hs g hg => ?_⟩
    obtain rfl := List.mem_singleton.1 hs
    intro e
    have := (h.foot (.inr (.inr ⟨r, hr, hg⟩))).2
    have := (hvlt g e).1
    omega
  · exact (hf.mono (fun i _ e => .inr e)).setCell (.inl (.inl rfl)) av'
set_option maxHeartbeats 1000000 in
set_option maxRecDepth 100000 in
theorem NetAt.send_ok (h : NetAt w base nb av rs) (hbase : base ≤ w.heap.size) {to : Int} {b : B} {v : Value} (hto : 0 ≤ to ∧ to < 64) (hb : b.length ≤ 200) (hl : rs.length < 2000) (hr : Rd w w.heap.size 1 v b.length (bc b)) :
    Calls Try.prog 8 #[.pointer (some ⟨nb, 0, none⟩), .int .i64 to, v] w fun e w' => e = .returned (.int .i64 0) ∧ Sent w w' base nb av rs to b := by
  have HCL := Lib.hid (SlB.clone w.drew hr.drew (bc_one b) (by omega))
  have hc0 := h.ncell
  have hf0 := h.nfree
  have H := Lib.hid h
  obtain ⟨A, c, e, _⟩ := h.own.slice_
  have he := Lib.hid e
  obtain ⟨Ab, m, cb, rfl, hm⟩ : ∃ A n c, v = .slice A n c ∧ n = b.length := by
    obtain ⟨_, A, c, e, _⟩ := hr
    exact ⟨A, _, c, e, rfl⟩
  have HM := Lib.hid hm
  have hml : m ≤ 200 := by omega
  obtain ⟨hto0, hto1⟩ := hto
  have hnb : nb < w.heap.size := (h.foot (.inl rfl)).2
  have hc1 : w.drew.cell? ⟨nb, 0, none⟩ = some av := hc0
  clear h e hm hr
  subst_vars
  go_enter Try.func8, Try.ntmps8
  go_wp2_with fail
  have HC := HCL
  clear HCL hc1
  go_region_law (first
    | (refine step_append rfl _ _ 26 26 rfl (by simp [Act.eval, Act.put]) (by simp [Act.eval, Act.put]) HLAID.out ?_; rintro av2 w2 ⟨⟨A2, c2, rfl⟩, hc2, hf2, hS⟩; have HS := Lib.hid hS; clear hS)
    | (go_simp; go_at_call 14; refine HC.out.mono ?_; rintro e w1 ⟨v1, rfl, hv, hb1, _⟩; obtain ⟨A1, c1, rfl, _⟩ := hv.slice_; have hb1' : Below w.heap.size w w1 := ⟨hb1.os, hb1.tape, hb1.output, hb1.size, hb1.block⟩; have HLAID := Lib.hid (H.out.laid hbase ⟨hto0, hto1⟩ hb hl hv hb1'); have hcw := (H.out.below hb1').ncell; have hnb1 : nb < w1.heap.size := Nat.lt_of_lt_of_le hnb hb1'.size; clear hv hb1 hb1'; dsimp only))
  all_goals
    go_wp2_with fail
    go_ret
    exact ⟨rfl, HS.out⟩
#print axioms NetAt.send_ok
end
end Go.Proofs.Ytpgcoopkileclaa.NetA
