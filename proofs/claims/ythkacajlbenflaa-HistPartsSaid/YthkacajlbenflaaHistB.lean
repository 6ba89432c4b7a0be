/- Rows that are set cell by cell, an append onto nothing, and worlds of the same heap. -/
import Derived.Test.YthkacajlbenflaaHistC
set_option linter.unusedVariables false
set_option linter.unusedSimpArgs false
set_option linter.unusedSectionVars false
namespace Go.Proofs.Ythkacajlbenflaa.HistA
open Go.RowKit Go.WideShapes Go.Deep Go.Proofs.Ythkacajlbenflaa.Mem Go.Proofs.Ythkacajlbenflaa.Maps Go.Proofs.Ythkacajlbenflaa.Kv
/-- Cells of one block, set one behind the other. -/
def sets (W : World) (g : Nat) (l : List (Nat × Value)) : World := l.foldl (fun W p => W.setCell ⟨g, p.1, none⟩ p.2) W
theorem sets_ne : ∀ (l : List (Nat × Value)) (W : World) {g k : Nat}, k ≠ g → (sets W g l).heap[k]? = W.heap[k]?
  | [], _, _, _, _ => rfl
  | p :: l, W, g, k, hk => (sets_ne l (W.setCell ⟨g, p.1, none⟩ p.2) hk).trans (Below.heap_setCell W ⟨g, p.1, none⟩ p.2 k hk)
theorem sets_row : ∀ (l : List (Nat × Value)) (W : World) {g : Nat} {cs : Array Value} {t : TypeId}, W.heap[g]? = some (.cells cs t (0, 0)) → (sets W g l).heap[g]? = some (.cells (l.foldl (fun c p => c.setIfInBounds p.1 p.2) cs) t (0, 0))
  | [], _, _, _, _, h => h
  | p :: l, W, g, cs, t, h => sets_row l (W.setCell ⟨g, p.1, none⟩ p.2) (heap_setCell_same W g p.1 cs t p.2 h)
theorem sets_fr : ∀ (l : List (Nat × Value)) {W a : World} {S : Nat → Prop} {g : Nat}, Fr S a W → S g ∨ a.heap.size ≤ g → Fr S a (sets W g l)
  | [], _, _, _, _, h, _ => h
  | p :: l, W, a, S, g, h, hg => sets_fr l (h.setCell (p := ⟨g, p.1, none⟩) hg p.2) hg
theorem sets_below : ∀ (l : List (Nat × Value)) {W a : World} {B g : Nat}, Below B a W → B ≤ g → Below B a (sets W g l)
  | [], _, _, _, _, h, _ => h
  | p :: l, W, a, B, g, h, hg => sets_below l (h.setCell (p := ⟨g, p.1, none⟩) hg p.2) hg
theorem sets_size : ∀ (l : List (Nat × Value)) (W : World) (g : Nat), (sets W g l).heap.size = W.heap.size
  | [], _, _ => rfl
  | p :: l, W, g => (sets_size l (W.setCell ⟨g, p.1, none⟩ p.2) g).trans (World.size_setCell W _ _)
theorem fr_same {S : Nat → Prop} {w X W : World} (h : Fr S w X) (hh : W.heap = X.heap) (ho : W.os = X.os) (ht : W.tape = X.tape) (hp : W.output = X.output) : Fr S w W :=
  ⟨ho.trans h.os, ht.trans h.tape, hp.trans h.output, by rw [hh]; exact h.size, fun i hi hs => by rw [hh]; exact h.block i hi hs⟩
theorem ne_rows {w : World} {a b : Nat} {o1 o2 : Obj} (h1 : w.heap[a]? = some o1) (h2 : w.heap[b]? = some o2) (h : o1 ≠ o2) : a ≠ b := fun e => by
  subst e
  rw [h1] at h2
  injection h2 with h2
  exact h h2
theorem ne_types {w : World} {a b : Nat} {c1 c2 : Array Value} {t1 t2 : TypeId} (h1 : w.heap[a]? = some (.cells c1 t1 (0, 0))) (h2 : w.heap[b]? = some (.cells c2 t2 (0, 0))) (h : t1 ≠ t2) : a ≠ b := ne_rows h1 h2 fun e => by
  injection e with _ e
  exact h e
theorem map_ne_row {κ ν : Type} {enc : κ → Value} {encv : ν → Value} {Ok : κ → Prop} {w : World} {b g : Nat} {ms : List (κ × ν)} {c : Array Value} {t : TypeId} {f : Nat × Nat} (h : MapAt enc encv Ok w b ms) (hg : w.heap[g]? = some (.cells c t f)) : b ≠ g := fun e => by
  obtain ⟨es, cl, h1, _⟩ := h
  subst e
  rw [hg] at h1
  cases h1
theorem row_at {w : World} {g : Nat} {cs : Array Value} {t : TypeId} (hr : w.heap[g]? = some (.cells cs t (0, 0))) {j : Nat} {u : Value} (h : cs[j]? = some u) : w.cell? ⟨g, j, none⟩ = some u := by
  rw [cell_of_row _ _ _ _ _ _ hr]; exact h
theorem row_free {w : World} {g : Nat} {cs : Array Value} {t : TypeId} (hr : w.heap[g]? = some (.cells cs t (0, 0))) (j : Nat) : w.frozen? ⟨g, j, none⟩ = false := by unfold World.frozen?; rw [hr]; rfl
theorem row9_facts {w : World} {g : Nat} {a b c d e f h i j : Value} {t : TypeId} (hr : w.heap[g]? = some (.cells #[a, b, c, d, e, f, h, i, j] t (0, 0))) :
    w.cell? ⟨g, 0, none⟩ = some a ∧ w.cell? ⟨g, 1, none⟩ = some b ∧ w.cell? ⟨g, 2, none⟩ = some c ∧ w.cell? ⟨g, 3, none⟩ = some d ∧ w.cell? ⟨g, 4, none⟩ = some e ∧ w.cell? ⟨g, 5, none⟩ = some f ∧ w.cell? ⟨g, 6, none⟩ = some h ∧ w.cell? ⟨g, 7, none⟩ = some i ∧ w.cell? ⟨g, 8, none⟩ = some j ∧ ∀ k, w.frozen? ⟨g, k, none⟩ = false :=
  ⟨row_at hr rfl, row_at hr rfl, row_at hr rfl, row_at hr rfl, row_at hr rfl, row_at hr rfl, row_at hr rfl, row_at hr rfl, row_at hr rfl, row_free hr⟩
theorem row7_facts {w : World} {g : Nat} {a b c d e f h : Value} {t : TypeId} (hr : w.heap[g]? = some (.cells #[a, b, c, d, e, f, h] t (0, 0))) :
    w.cell? ⟨g, 0, none⟩ = some a ∧ w.cell? ⟨g, 1, none⟩ = some b ∧ w.cell? ⟨g, 2, none⟩ = some c ∧ w.cell? ⟨g, 3, none⟩ = some d ∧ w.cell? ⟨g, 4, none⟩ = some e ∧ w.cell? ⟨g, 5, none⟩ = some f ∧ w.cell? ⟨g, 6, none⟩ = some h :=
  ⟨row_at hr rfl, row_at hr rfl, row_at hr rfl, row_at hr rfl, row_at hr rfl, row_at hr rfl, row_at hr rfl⟩
theorem row7l_facts {w : World} {g : Nat} {a b c d e f h : Value} {l : List Value} {t : TypeId} (hr : w.heap[g]? = some (.cells (a :: b :: c :: d :: e :: f :: h :: l).toArray t (0, 0))) :
    w.cell? ⟨g, 0, none⟩ = some a ∧ w.cell? ⟨g, 1, none⟩ = some b ∧ w.cell? ⟨g, 2, none⟩ = some c ∧ w.cell? ⟨g, 3, none⟩ = some d ∧ w.cell? ⟨g, 4, none⟩ = some e ∧ w.cell? ⟨g, 5, none⟩ = some f ∧ w.cell? ⟨g, 6, none⟩ = some h ∧ ∀ k, w.frozen? ⟨g, k, none⟩ = false :=
  ⟨row_at hr (by simp), row_at hr (by simp), row_at hr (by simp), row_at hr (by simp), row_at hr (by simp), row_at hr (by simp), row_at hr (by simp), row_free hr⟩
/-- One row appended onto nothing. -/
theorem app_new {P : Program} {t ty e : TypeId} {k bytes : Nat} {z : Value} (ht : P.underlying t = some (.slice e)) (hT : Ty P e k bytes z) (W : World) {g : Nat} {news : List Value} (hl : news.length = k)
    (hn : ∀ j u, news[j]? = some u → W.cell? ⟨g, j, none⟩ = some u) (hb : bytes ≤ 281474976710656) :
    Does P W (Builtin.append_ #[t, t] ty #[.slice none 0 0, .slice (some ⟨g, 0, none⟩) 1 1]) fun v W' => ∃ c rest, v = .slice (some ⟨W.heap.size, 0, none⟩) 1 c ∧ W'.heap[W.heap.size]? = some (.cells (news ++ rest).toArray e (0, 0)) ∧ Below W.heap.size W W' := by
  obtain ⟨⟨i, hi, hz, rfl, rfl⟩, hzs⟩ := hT
  refine ⟨_, _, run_append_nil' W t t ty e e i z ht ht hi hz ⟨g, 0, none⟩ 1 1 news (by omega) (fun j u hu => by rw [add_lit', Nat.zero_add]; exact hn j u hu) (by omega) (by omega) (by omega), _, (Builtin.zeroCells z.cells (grownCap W 1 0 e - 1)).toList, rfl, ?_, ?_⟩
  · have h9 := heap_alloc_new W.drew (.cells (news.toArray ++ Builtin.zeroCells z.cells (grownCap W 1 0 e - 1)) e)
    have e1 : (news ++ (Builtin.zeroCells z.cells (grownCap W 1 0 e - 1)).toList).toArray = news.toArray ++ Builtin.zeroCells z.cells (grownCap W 1 0 e - 1) := by apply Array.ext'; simp
    rw [e1]
    exact h9
  · exact (below_drewN (Below.refl W.heap.size W) 1).alloc (Nat.le_refl _) _
theorem ty_txn : Ty Try.prog 39 7 64 (.agg #[.int .u64 0, .int .i64 0, .int .i64 0, .int .i64 0, .bool false, .bool false, .slice none 0 0]) := Ty.of (by kernel_rfl) rfl
theorem ty_op : Ty Try.prog 54 4 48 (.agg #[.int .i64 0, .string ⟨#[]⟩, .string ⟨#[]⟩, .bool false]) := Ty.of (by kernel_rfl) rfl
theorem fate_ok (w : World) : Calls Try.prog 32 #[.int .i64 0] w fun e w' => e = .returned (.bool false) ∧ w' = w := by
  go_enter Try.func32, Try.ntmps32
  go_wp2_with fail
  go_ret
  exact ⟨rfl, rfl⟩
/-- The maker with one session and what it knows of transactions. -/
structure St (B : Nat) (w : World) (gm ba bs gs : Nat) (av : Value) (s : Array Value) (am : List ((Int × Int) × Nat)) : Prop where
  fm : w.heap[gm]? = some (.cells #[av, .map (some ba), .map (some bs)] 67 (0, 0))
  fs : SessAt w bs [((0, 1), gs)]
  fa : AtAt w ba am
  fg : w.heap[gs]? = some (.cells s 84 (0, 0))
  lm : B ≤ gm
  ls : B ≤ bs
  la : B ≤ ba
  lg : B ≤ gs
  ne : ba ≠ bs
/-- The one transaction's row. -/
def TAt (B : Nat) (w : World) (A : Nat) (l : List Value) : Prop := w.heap[A]? = some (.cells l.toArray 39 (0, 0)) ∧ B ≤ A
theorem getP (gs : Nat) : getM [(((0 : Int), (1 : Int)), gs)] (0, 1) = some gs := by simp [getM]
theorem getT (i : Nat) : getM [(((7 : Int), (0 : Int)), i)] (7, 0) = some i := by simp [getM]
end Go.Proofs.Ythkacajlbenflaa.HistA
