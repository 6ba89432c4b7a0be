/- HistParts: its arguments opened; the names that were told; appends of events. -/
import Derived.Test.YthkacajlbenflaaHistOg
import Derived.Test.YthkacajlbenflaaHistK
import Derived.Test.YthkacajlbenflaaHistP
import Derived.Test.YthkacajlbenflaaHistW
set_option linter.unusedVariables false
set_option linter.unusedSimpArgs false
set_option linter.unusedSectionVars false
namespace Go.Proofs.Ythkacajlbenflaa.HistG
open Go.RowKit Go.WideShapes Go.Deep Go.Proofs.Ythkacajlbenflaa.Mem Go.Proofs.Ythkacajlbenflaa.Maps Go.Proofs.Ythkacajlbenflaa.Kv Go.Proofs.Ythkacajlbenflaa.Open Go.Proofs.Ythkacajlbenflaa.HistA
section
variable {H : Type} {enc : TypeId × Value → H} {w : World} {base : Nat} {spare : Nat → Bool} {held : Bool}
structure EvW (e : EvV) : Prop where
  cs : (Lit.int .i64 e.cs).wf = true
  as_ : (Lit.int .i64 e.as_).wf = true
  t : Tid.IdOk (e.anum, e.and_)
theorem ev_of {cs : List Value} (h : Reads1 enc Try.prog w base spare held 34 cs) : ∃ e : EvV, cs = ev1 e ∧ EvW e := by
  obtain ⟨hl, hf⟩ := reads_struct Try.underlying34 h
  have hl2 : cs.length = 16 := hl
  match cs, hl2 with
  | [c0, c1, c2, c3, c4, c5, c6, c7, c8, c9, c10, c11, c12, c13, c14, c15], _ =>
    obtain ⟨x0, e0, _⟩ := reads_int Try.underlying3 (hf 0 _ rfl)
    obtain ⟨x1, e1, _⟩ := reads_int Try.underlying3 (hf 1 _ rfl)
    obtain ⟨_, hc⟩ := reads_struct Try.underlying26 (hf 2 _ rfl)
    obtain ⟨_, ha⟩ := reads_struct Try.underlying32 (hf 3 _ rfl)
    obtain ⟨x14, e14⟩ := reads_bool Try.underlying4 (hf 4 _ rfl)
    obtain ⟨x15, e15⟩ := reads_bool Try.underlying4 (hf 5 _ rfl)
    obtain ⟨x2, e2, w2⟩ := reads_int Try.underlying3 (hc 0 _ rfl)
    obtain ⟨x3, e3, _⟩ := reads_int Try.underlying3 (hc 1 _ rfl)
    obtain ⟨x4, e4, _⟩ := reads_int Try.underlying3 (hc 2 _ rfl)
    obtain ⟨x5, e5, _⟩ := reads_string Try.underlying9 (hc 3 _ rfl)
    obtain ⟨x6, e6, _⟩ := reads_string Try.underlying9 (hc 4 _ rfl)
    obtain ⟨x7, e7, w7⟩ := reads_int Try.underlying3 (ha 0 _ rfl)
    obtain ⟨x8, e8, _⟩ := reads_int Try.underlying3 (ha 1 _ rfl)
    obtain ⟨x9, e9, _⟩ := reads_int (k := .i64) (by kernel_rfl) (ha 2 _ rfl)
    obtain ⟨x10, e10, _⟩ := reads_string Try.underlying9 (ha 3 _ rfl)
    obtain ⟨x11, e11⟩ := reads_bool Try.underlying4 (ha 4 _ rfl)
    obtain ⟨p, ep, p0, p1⟩ := tid_of (ha 5 _ rfl)
    have ep' : [c12, c13] = [.int .u64 p.1, .int .i64 p.2] := ep
    injection ep' with e12 ep'
    have e13 := cell_eq ep'
    refine ⟨⟨x0, x1, x2, x3, x4, x5, x6, x7, x8, x9, x10, x11, p.1, p.2, x14, x15⟩, ?_, ⟨w2, w7, p0, p1⟩⟩
    rw [e12, e13, cell_eq (show [c0] = [Value.int .i64 x0] from e0), cell_eq (show [c1] = [Value.int .i64 x1] from e1), cell_eq (show [c2] = [Value.int .i64 x2] from e2), cell_eq (show [c3] = [Value.int .i64 x3] from e3), cell_eq (show [c4] = [Value.int .i64 x4] from e4), cell_eq (show [c5] = [Value.string x5] from e5), cell_eq (show [c6] = [Value.string x6] from e6), cell_eq (show [c7] = [Value.int .i64 x7] from e7), cell_eq (show [c8] = [Value.int .i64 x8] from e8), cell_eq (show [c9] = [Value.int .i64 x9] from e9), cell_eq (show [c10] = [Value.string x10] from e10), cell_eq (show [c11] = [Value.bool x11] from e11), cell_eq (show [c14] = [Value.bool x14] from e14), cell_eq (show [c15] = [Value.bool x15] from e15)]
    rfl
theorem evs_of {css : List (List Value)} (h : ∀ c ∈ css, c.length = 16 ∧ Reads1 enc Try.prog w base spare held 34 c) : ∃ es : List EvV, css.flatten = evc es ∧ css.length = es.length ∧ ∀ e ∈ es, EvW e := by
  induction css with
  | nil => exact ⟨[], rfl, rfl, fun _ h => by cases h⟩
  | cons c css ih =>
    obtain ⟨ts, e1, e2, e3⟩ := ih (fun c hc => h c (List.mem_cons_of_mem _ hc))
    obtain ⟨t, rfl, ht⟩ := ev_of (h c (List.mem_cons_self ..)).2
    exact ⟨t :: ts, by rw [List.flatten_cons, e1]; rfl, by simp [e2], fun x hx => (List.mem_cons.1 hx).elim (fun e => e ▸ ht) (e3 x)⟩
theorem evs_val {v : Value} {r : Reach} {b : Nat} (ok : Value.okWide Try.prog w r b 22 v) (h : Reads1 enc Try.prog w base spare held 22 v.cells.toList) : ∃ (es : List EvV) (A : Option Addr) (c : Nat), v = .slice A es.length c ∧ Rd w w.heap.size 16 v es.length (evc es) ∧ ∀ e ∈ es, EvW e := by
  obtain ⟨a, l, c, rfl⟩ := okWide_slice Try.underlying22 ok
  obtain ⟨v, n, css, e, rfl, hr, hc, _⟩ := reads_slice Try.underlying22 (k := 16) rfl (by omega) h
  have e' := cell_eq (show [Value.slice a l c] = [v] from e)
  subst e'
  obtain ⟨qs, e1, e2, e3⟩ := evs_of hc
  rw [e1, e2] at hr
  obtain ⟨_, A, c2, e9, _⟩ := id hr
  exact ⟨qs, A, c2, e9, hr, e3⟩
end
def setN (n : Int) (e : EvV) : EvV := { e with node := n }
theorem evok_set {e : EvV} (h : EvW e) {n : Int} (hn : (Lit.int .i64 n).wf = true) : EvOk (setN n e) := ⟨⟨hn, h.cs⟩, ⟨hn, h.as_⟩, h.t⟩
def nmL (es : List EvV) : List ((Int × Int) × Bool) := es.foldl (fun ms e => if e.said then setM ms (e.anum, e.and_) true else ms) []
theorem nmL_snoc (es : List EvV) (e : EvV) : nmL (es ++ [e]) = if e.said then setM (nmL es) (e.anum, e.and_) true else nmL es := by simp [nmL]
theorem nmL_get : ∀ (n : Nat) (es : List EvV), es.length = n → ∀ t, getM (nmL es) t = if ∃ e ∈ es, e.said = true ∧ (e.anum, e.and_) = t then some true else none
  | 0, es, hl, t => by obtain rfl := List.eq_nil_of_length_eq_zero hl; rw [if_neg (by rintro ⟨e, h, _⟩; cases h)]; rfl
  | n + 1, es, hl, t => by
    obtain ⟨es', o, rfl⟩ : ∃ l' q, es = l' ++ [q] := ⟨es.dropLast, es.getLast (by intro e; simp [e] at hl), (List.dropLast_concat_getLast _).symm⟩
    have ih := nmL_get n es' (by simpa using hl) t
    rw [nmL_snoc]
    by_cases hs : o.said = true
    · rw [if_pos hs, getM_set]
      by_cases he : (o.anum, o.and_) = t
      · rw [if_pos he, if_pos ⟨o, by simp, hs, he⟩]
      · rw [if_neg he, ih]
        by_cases hx : ∃ e ∈ es', e.said = true ∧ (e.anum, e.and_) = t
        · rw [if_pos hx, if_pos (by obtain ⟨e, h1, h2⟩ := hx; exact ⟨e, List.mem_append_left _ h1, h2⟩)]
        · rw [if_neg hx, if_neg]
          rintro ⟨e, h1, h2, h3⟩
          rcases List.mem_append.1 h1 with h1 | h1
          · exact hx ⟨e, h1, h2, h3⟩
          · have : e = o := by simpa using h1
            subst this
            exact he h3
    · rw [if_neg hs, ih]
      by_cases hx : ∃ e ∈ es', e.said = true ∧ (e.anum, e.and_) = t
      · rw [if_pos hx, if_pos (by obtain ⟨e, h1, h2⟩ := hx; exact ⟨e, List.mem_append_left _ h1, h2⟩)]
      · rw [if_neg hx, if_neg]
        rintro ⟨e, h1, h2, h3⟩
        rcases List.mem_append.1 h1 with h1 | h1
        · exact hx ⟨e, h1, h2, h3⟩
        · have : e = o := by simpa using h1
          subst this
          exact hs h2
/-- append of one event that lies in a block of its own. -/
theorem app_ev {W : World} {B q n : Nat} {v : Value} {ys : List Value} (ho : Own W B 34 16 v n ys) (hB : B ≤ W.heap.size) {e : EvV} (hq : W.heap[q]? = some (.cells (ev1 e).toArray 34 (0, 0))) (hn : n ≤ 1000) :
    Does Try.prog W (Builtin.append_ #[22, 22] 22 #[v, .slice (some ⟨q, 0, none⟩) 1 1]) fun v' w' => (∃ A k, v' = .slice A (n + 1) k) ∧ Own w' B 34 16 v' (n + 1) (ys ++ ev1 e) ∧ Fr (fun g => v.ownBlock = some g) W w' ∧ (∀ g, v'.ownBlock = some g → v.ownBlock = some g ∨ W.heap.size ≤ g) := by
  have h1 : One (ev1 e) := by have := evc_one [e]; simpa [evc] using this
  obtain ⟨v', w', hrun, ho', hg, hbl, _⟩ := run_append (P := Try.prog) W (ty := 22) Try.underlying22 Try.underlying22 ty_ev ho (A := some ⟨q, 0, none⟩) (m := 1) (c := 1) (news := ev1 e) rfl (fun _ => ⟨q, 0, rfl, fun j u hu => by
    rw [Nat.zero_add]
    exact row_at hq (by simpa using hu)⟩) h1 (by unfold maxLen; omega) (by omega) hB
  obtain ⟨A, k, e9, _⟩ := ho'.slice_
  refine ⟨v', w', hrun, ⟨A, k, e9⟩, ho', Fr.of_grown hg (fun g e => e), fun g hgo => ?_⟩
  rcases hbl with e1 | e1
  · rw [e1] at hgo; exact .inl hgo
  · rw [e1] at hgo
    injection hgo with hgo
    exact .inr (Nat.le_of_eq hgo)
/-- append of a slice of events. -/
theorem app_evs {W : World} {B n m c : Nat} {v : Value} {A : Option Addr} {ys : List Value} {es : List EvV} (ho : Own W B 34 16 v n ys) (hB : B ≤ W.heap.size) (hr : Rd W W.heap.size 16 (.slice A m c) m (evc es)) (hn : n + m ≤ 1000) :
    Does Try.prog W (Builtin.append_ #[22, 22] 22 #[v, .slice A m c]) fun v' w' => (∃ A k, v' = .slice A (n + m) k) ∧ Own w' B 34 16 v' (n + m) (ys ++ evc es) ∧ Fr (fun g => v.ownBlock = some g) W w' := by
  obtain ⟨v', w', hrun, ho', hg, hbl, _⟩ := run_append (P := Try.prog) W (ty := 22) Try.underlying22 Try.underlying22 ty_ev ho (A := A) (m := m) (c := c) (news := evc es) hr.1 (fun h0 => by
    obtain ⟨g, off, c2, e, _, _, _, hx⟩ := hr.cells h0
    injection e with e1 e2 e3
    exact ⟨g, off, e1, hx⟩) (evc_one es) (by unfold maxLen; omega) (by omega) hB
  obtain ⟨A, k, e9, _⟩ := ho'.slice_
  exact ⟨v', w', hrun, ⟨A, k, e9⟩, ho', Fr.of_grown hg (fun g e => e)⟩
theorem own_none {V : World} {B g : Nat} (hB : B ≤ g) (h : V.heap[g]? = some (.cells #[] 34 (0, 0))) : Own V B 34 16 (.slice (some ⟨g, 0, none⟩) 0 0) 0 [] :=
  ⟨rfl, .inr ⟨g, 0, 0, #[], rfl, hB, h, Nat.le_refl _, Nat.zero_le _, by simp, by simp⟩⟩
theorem ev_cells {w : World} {A : Option Addr} {n c : Nat} {es : List EvV} (h : Rd w w.heap.size 16 (.slice A n c) n (evc es)) {j : Nat} {e : EvV} (he : es[j]? = some e) (hn : 0 < n) : ∃ g off, A = some ⟨g, off, none⟩ ∧ ∀ i u, (ev1 e)[i]? = some u → w.cell? ⟨g, off + j * 16 + i, none⟩ = some u := by
  obtain ⟨g, off, cz, e9, hg, _, _, hx⟩ := h.cells hn
  injection e9 with e1 e2 e3
  exact ⟨g, off, e1, fun i u hu => by rw [Nat.add_assoc]; exact hx _ _ (evc_row he i _ hu)⟩
#print axioms app_evs
#print axioms nmL_get
#print axioms evs_val
end Go.Proofs.Ythkacajlbenflaa.HistG
