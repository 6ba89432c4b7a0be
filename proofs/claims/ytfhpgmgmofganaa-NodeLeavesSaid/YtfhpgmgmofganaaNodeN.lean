/- leaf's appends, each in whatever world it comes up. -/
import Derived.Test.YtfhpgmgmofganaaNodeL
set_option linter.unusedVariables false
set_option linter.unusedSimpArgs false
set_option linter.unusedSectionVars false
namespace Go.Proofs.Ytfhpgmgmofganaa.NodeA
open Go.RowKit Go.WideShapes Go.Deep Go.Proofs.Ytfhpgmgmofganaa.Mem Go.Proofs.Ytfhpgmgmofganaa.Open Go.Proofs.Ytfhpgmgmofganaa.Kv
/-- An append of texts that lie in old memory, or in a block made since, onto a row of the call's own: in any world W behind wr. -/
theorem app_any {wr W : World} {v : Value} {n : Nat} {xs : List S} (ho : Own W wr.heap.size 9 1 v n (sc xs)) (hj : Below wr.heap.size wr W) {A : Option Addr} {m c : Nat} {ys : List S} (hm : ys.length = m)
    (hy : 0 < m → ∃ g off, A = some ⟨g, off, none⟩ ∧ ∀ j u, (sc ys)[j]? = some u → W.cell? ⟨g, off + j, none⟩ = some u) (hs : n + m ≤ 1000) (t : TypeId) :
    Does Try.prog W (Builtin.append_ #[22, 22] t #[v, .slice A m c]) fun v' W' => (∃ A' c', v' = .slice A' (n + m) c') ∧ Own W' wr.heap.size 9 1 v' (n + m) (sc (xs ++ ys)) ∧ Below wr.heap.size wr W' ∧ Fr (fun g => v.ownBlock = some g) W W' := by
  obtain ⟨v', W', hr, ho', hg, _, _⟩ := run_append (P := Try.prog) W (ty := t) Try.underlying22 Try.underlying22 SlS.ty ho (A := A) (m := m) (c := c) (news := sc ys) (by simp [sc, hm]) hy (sc_one ys) (by unfold maxLen; omega) (by omega) hj.size
  have hf : Fr (fun g => v.ownBlock = some g) W W' := Fr.of_grown hg (fun g e => e)
  have hsc : sc xs ++ sc ys = sc (xs ++ ys) := by simp [sc]
  rw [hsc] at ho'
  refine ⟨v', W', hr, ?_, ho', hj.trans (hf.below hj.size fun g _ hg => (ho.lt g hg).1), hf⟩
  obtain ⟨A', c', e, _⟩ := ho'.slice_
  exact ⟨A', c', e⟩
theorem own_empty {W : World} {base : Nat} (h : base ≤ W.heap.size) : Own (W.alloc (.cells #[] 9)) base 9 1 (.slice (some ⟨W.heap.size, 0, none⟩) 0 0) 0 (sc []) :=
  ⟨rfl, .inr ⟨W.heap.size, 0, 0, #[], rfl, h, heap_alloc_new W _, Nat.le_refl _, Nat.zero_le _, by simp, by simp [sc]⟩⟩
theorem take_at {ks : List S} {m j : Nat} {u : Value} (h : (sc (ks.take m))[j]? = some u) : (sc ks)[j]? = some u := by
  simp only [sc, List.map_take, List.getElem?_take] at h ⊢
  split at h
  · exact h
  · cases h
theorem drop_at {ks : List S} {m j : Nat} {u : Value} (h : (sc (ks.drop m))[j]? = some u) : (sc ks)[m + j]? = some u := by
  simpa only [sc, List.map_drop, List.getElem?_drop] using h
/-- An append onto a row of the call's own, of cells that are there. -/
theorem app_gen {W : World} {base : Nat} {e : TypeId} {bytes : Nat} {z v : Value} {n : Nat} {xs : List Value} (tt t : TypeId) (hu : Try.prog.underlying tt = some (.slice e)) (hT : Ty Try.prog e 1 bytes z) (hby : bytes ≤ 16) (ho : Own W base e 1 v n xs) (hb : base ≤ W.heap.size) {A : Option Addr} {m c : Nat} {ys : List Value} (hm : ys.length = m) (h1 : One ys)
    (hy : 0 < m → ∃ g off, A = some ⟨g, off, none⟩ ∧ ∀ j u, ys[j]? = some u → W.cell? ⟨g, off + j, none⟩ = some u) (hs : n + m ≤ 1000) :
    Does Try.prog W (Builtin.append_ #[tt, tt] t #[v, .slice A m c]) fun v' W' => (∃ A' c', v' = .slice A' (n + m) c') ∧ Own W' base e 1 v' (n + m) (xs ++ ys) ∧ Fr (fun g => v.ownBlock = some g) W W' ∧ (v'.ownBlock = v.ownBlock ∨ v'.ownBlock = some W.heap.size) := by
  obtain ⟨v', W', hr, ho', hg, hob, _⟩ := run_append (P := Try.prog) W (ty := t) hu hu hT ho (A := A) (m := m) (c := c) (news := ys) (by omega) hy h1 (by unfold maxLen; omega) (by have : (n + m) * bytes ≤ 1000 * 16 := Nat.mul_le_mul hs hby; omega) hb
  obtain ⟨A', c', e', _⟩ := ho'.slice_
  exact ⟨v', W', hr, ⟨A', c', e'⟩, ho', Fr.of_grown hg (fun g e => e), hob⟩
#print axioms app_gen
end Go.Proofs.Ytfhpgmgmofganaa.NodeA
