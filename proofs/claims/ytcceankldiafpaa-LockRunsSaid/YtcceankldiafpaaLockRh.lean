/- The law's own lines in memory. -/
import Derived.Test.YtcceankldiafpaaLockRg
import Derived.Test.YtcceankldiafpaaLockY
set_option linter.unusedVariables false
set_option linter.unusedSimpArgs false
set_option linter.unusedSectionVars false
set_option maxRecDepth 100000
namespace Go.Proofs.Ytcceankldiafpaa.Lock
open Go.RowKit Go.WideShapes Go.Deep Go.Proofs.Ytcceankldiafpaa.Mem Go.Proofs.Ytcceankldiafpaa.Open Go.Proofs.Ytcceankldiafpaa.Maps
structure Ln where
  key : S
  A1 : Option Addr
  n1 : Nat
  c1 : Nat
  A2 : Option Addr
  n2 : Nat
  c2 : Nat
  has : List Wt
  waits : List Wt
def Ln.hv (o : Ln) : Value := .slice o.A1 o.n1 o.c1
def Ln.wv (o : Ln) : Value := .slice o.A2 o.n2 o.c2
def Ln.ln (o : Ln) : Line := (o.has, o.waits)
def Ln.cs (o : Ln) : List Value := [.string o.key, .slice o.A1 o.n1 o.c1, .slice o.A2 o.n2 o.c2]
def lnc (os : List Ln) : List Value := os.flatMap Ln.cs
theorem lnc_len : ∀ os : List Ln, (lnc os).length = os.length * 3
  | [] => rfl
  | t :: ws => by
    show (t.cs ++ lnc ws).length = _
    rw [List.length_append, lnc_len ws]
    show 3 + ws.length * 3 = (ws.length + 1) * 3
    omega
theorem lnc_append (a b : List Ln) : lnc (a ++ b) = lnc a ++ lnc b := by simp [lnc]
theorem lnc_one (os : List Ln) : One (lnc os) := by
  intro u hu
  obtain ⟨t, _, ht⟩ := List.mem_flatMap.1 hu
  simp only [Ln.cs, List.mem_cons, List.not_mem_nil, or_false] at ht
  rcases ht with rfl | rfl | rfl <;> rfl
theorem lnc_take : ∀ (ws : List Ln) (i : Nat), (lnc ws).take (i * 3) = lnc (ws.take i)
  | [], i => by simp [lnc]
  | t :: ws, 0 => by simp [lnc]
  | t :: ws, i + 1 => by
    have e : lnc (t :: ws) = t.cs ++ lnc ws := rfl
    have e2 : lnc ((t :: ws).take (i + 1)) = t.cs ++ lnc (ws.take i) := rfl
    have hl : t.cs.length = 3 := rfl
    rw [e, e2, List.take_append, hl, List.take_of_length_le (by omega), show (i + 1) * 3 - 3 = i * 3 by omega, lnc_take]
theorem lnc_drop : ∀ (ws : List Ln) (i : Nat), (lnc ws).drop (i * 3) = lnc (ws.drop i)
  | [], i => by simp [lnc]
  | t :: ws, 0 => by simp [lnc]
  | t :: ws, i + 1 => by
    have e : lnc (t :: ws) = t.cs ++ lnc ws := rfl
    have hl : t.cs.length = 3 := rfl
    rw [e, List.drop_append, hl, List.drop_of_length_le (by omega), List.nil_append, show (i + 1) * 3 - 3 = i * 3 by omega, lnc_drop]
    rfl
theorem lnc_at : ∀ {ws : List Ln} {i : Nat} {t : Ln}, ws[i]? = some t → ∀ (j : Nat) (u : Value), t.cs[j]? = some u → (lnc ws)[i * 3 + j]? = some u
  | [], i, t, h => by simp at h
  | p :: ws, 0, t, h => by
    have h' : p = t := by simpa using h
    subst h'
    intro j u hu
    have hl : j < p.cs.length := (List.getElem?_eq_some_iff.1 hu).1
    show (p.cs ++ lnc ws)[0 * 3 + j]? = _
    rw [Nat.zero_mul, Nat.zero_add, List.getElem?_append_left hl]
    exact hu
  | p :: ws, i + 1, t, h => by
    have h' : ws[i]? = some t := by simpa using h
    intro j u hu
    show (p.cs ++ lnc ws)[(i + 1) * 3 + j]? = _
    have hl : p.cs.length = 3 := rfl
    rw [List.getElem?_append_right (by omega), hl, show (i + 1) * 3 + j - 3 = i * 3 + j by omega]
    exact lnc_at h' _ _ hu
theorem lnc_set : ∀ {ws : List Ln} {i : Nat} {t x : Ln}, ws[i]? = some t → (((lnc ws).set (i * 3) (.string x.key)).set (i * 3 + 1) (.slice x.A1 x.n1 x.c1)).set (i * 3 + 2) (.slice x.A2 x.n2 x.c2) = lnc (ws.set i x)
  | [], i, t, x, h => by simp at h
  | p :: ws, 0, t, x, h => rfl
  | p :: ws, i + 1, t, x, h => by
    have h' : ws[i]? = some t := by simpa using h
    have e : lnc (p :: ws) = p.cs ++ lnc ws := rfl
    have e2 : lnc ((p :: ws).set (i + 1) x) = p.cs ++ lnc (ws.set i x) := rfl
    have hl : p.cs.length = 3 := rfl
    rw [e, e2, List.set_append_right _ _ (by omega), List.set_append_right _ _ (by omega), List.set_append_right _ _ (by omega), hl, show (i + 1) * 3 - 3 = i * 3 by omega, show (i + 1) * 3 + 1 - 3 = i * 3 + 1 by omega, show (i + 1) * 3 + 2 - 3 = i * 3 + 2 by omega, lnc_set h']
theorem ln_cells {w : World} {B : Nat} {A : Option Addr} {n c : Nat} {ws : List Ln} (h : Rd w B 3 (.slice A n c) n (lnc ws)) {j : Nat} {t : Ln} (ht : ws[j]? = some t) (hn : 0 < n) : ∃ g off, A = some ⟨g, off, none⟩ ∧ g < B ∧
    w.cell? ⟨g, off + j * 3, none⟩ = some (.string t.key) ∧ w.cell? ⟨g, off + j * 3 + 1, none⟩ = some (.slice t.A1 t.n1 t.c1) ∧ w.cell? ⟨g, off + j * 3 + 2, none⟩ = some (.slice t.A2 t.n2 t.c2) := by
  obtain ⟨g, off, cz, e, hg, _, _, hx⟩ := h.cells hn
  injection e with e1 e2 e3
  refine ⟨g, off, e1, hg, ?_, ?_, ?_⟩
  · exact hx _ _ (lnc_at ht 0 _ rfl)
  · rw [Nat.add_assoc]; exact hx _ _ (lnc_at ht 1 _ rfl)
  · rw [Nat.add_assoc]; exact hx _ _ (lnc_at ht 2 _ rfl)
theorem tyN : Ty Try.prog 52 3 64 (.agg #[.string ⟨#[]⟩, .slice none 0 0, .slice none 0 0]) := Ty.of (by kernel_rfl) rfl
def NOwn (w : World) (B : Nat) (v : Value) (os : List Ln) : Prop := Own w B 52 3 v os.length (lnc os)
theorem NOwn.form_ {w : World} {B : Nat} {v : Value} {ws : List Ln} (h : NOwn w B v ws) : ∃ A c, v = .slice A ws.length c ∧ ws.length ≤ c ∧ c ≤ maxLen := Own.slice_ h
theorem NOwn.lt {w : World} {B : Nat} {v : Value} {ws : List Ln} (h : NOwn w B v ws) : ∀ g, v.ownBlock = some g → B ≤ g ∧ g < w.heap.size := Own.lt h
theorem app_n {W : World} {B : Nat} {v : Value} {xs ys : List Ln} {A : Option Addr} {m c : Nat} (ho : NOwn W B v xs) (hB : B ≤ W.heap.size) (hl : m = ys.length) (hr : 0 < m → ∃ g off, A = some ⟨g, off, none⟩ ∧ ∀ j u, (lnc ys)[j]? = some u → W.cell? ⟨g, off + j, none⟩ = some u) (hlim : xs.length + m ≤ 1000000) (t : TypeId) :
    Does Try.prog W (Builtin.append_ #[50, 50] t #[v, .slice A m c]) fun v' w' => (∃ A' m' c', v' = .slice A' m' c') ∧ NOwn w' B v' (xs ++ ys) ∧ Fr (fun g => v.ownBlock = some g) W w' := by
  obtain ⟨v', w', hrun, ho', hg, hbl, _⟩ := run_append (P := Try.prog) W (ty := t) Try.underlying50 Try.underlying50 tyN ho (A := A) (m := m) (c := c) (news := lnc ys) (by rw [lnc_len, hl]) hr (lnc_one _) (by unfold maxLen; omega) (by omega) hB
  have ho2 : NOwn w' B v' (xs ++ ys) := by
    unfold NOwn
    rw [List.length_append, ← hl, lnc_append]
    exact ho'
  obtain ⟨A', c', e, _⟩ := ho2.form_
  exact ⟨v', w', hrun, ⟨A', _, c', e⟩, ho2, Fr.of_grown hg (fun g e => e)⟩
theorem rd_take_atN {V : World} {B g off n c i : Nat} {ws : List Ln} (h : Rd V B 3 (.slice (some ⟨g, off, none⟩) n c) n (lnc ws)) (hn : 0 < n) {j : Nat} {u : Value} (hu : (lnc (ws.take i))[j]? = some u) : V.cell? ⟨g, off + j, none⟩ = some u := by
  obtain ⟨g2, o2, c2, e, _, _, _, hx⟩ := h.cells hn
  injection e with e _ _
  injection e with e
  injection e with e1 e2
  subst e1 e2
  rw [← lnc_take] at hu
  rw [List.getElem?_take] at hu
  split at hu
  · exact hx j u hu
  · cases hu
theorem rd_drop_atN {V : World} {B g off n c i : Nat} {ws : List Ln} (h : Rd V B 3 (.slice (some ⟨g, off, none⟩) n c) n (lnc ws)) (hn : 0 < n) {j : Nat} {u : Value} (hu : (lnc (ws.drop i))[j]? = some u) : V.cell? ⟨g, off + i * 3 + j, none⟩ = some u := by
  obtain ⟨g2, o2, c2, e, _, _, _, hx⟩ := h.cells hn
  injection e with e _ _
  injection e with e
  injection e with e1 e2
  subst e1 e2
  rw [← lnc_drop] at hu
  rw [List.getElem?_drop] at hu
  rw [Nat.add_assoc]
  exact hx _ u hu
theorem fr_ownN {w w5 w6 : World} {v : Value} {xs : List Ln} (hb : Below w.heap.size w w5) (ho : NOwn w5 w.heap.size v xs) (hf : Fr (fun g => v.ownBlock = some g) w5 w6) : Below w.heap.size w w6 := hb.trans (hf.below hb.size fun g _ e => (ho.lt g e).1)
theorem with_bVN {w X : World} (h : Below w.heap.size w X) (o : Obj) : Below w.heap.size w (X.alloc o).drew := (h.alloc h.size o).drew
theorem with_baN {w X : World} (h : Below w.heap.size w X) (t : Ln) : Below w.heap.size w (X.alloc (.cells #[] 52)).drew := (h.alloc h.size _).drew
theorem with_bbN {w X : World} (h : Below w.heap.size w X) (t : Ln) : Below w.heap.size w ((X.alloc (.cells #[] 52)).alloc (.cells #[.string t.key, .slice t.A1 t.n1 t.c1, .slice t.A2 t.n2 t.c2] 52)).drew := ((h.alloc h.size _).alloc (by have := h.size; simp; omega) _).drew
theorem with_bcN {w X : World} (h : Below w.heap.size w X) (t : Ln) : Below w.heap.size w ((X.alloc (.cells #[.string t.key, .slice t.A1 t.n1 t.c1, .slice t.A2 t.n2 t.c2] 52)).alloc (.cells #[] 52)).drew := ((h.alloc h.size _).alloc (by have := h.size; simp; omega) _).drew
theorem own_eN {V : World} {B g : Nat} (hB : B ≤ g) (h : V.heap[g]? = some (.cells #[] 52 (0, 0))) : NOwn V B (.slice (some ⟨g, 0, none⟩) 0 0) [] :=
  ⟨rfl, .inr ⟨g, 0, 0, #[], rfl, hB, h, Nat.le_refl _, Nat.zero_le _, by simp, by simp [lnc]⟩⟩
theorem with_eaN {w X : World} (h : w.heap.size ≤ X.heap.size) (t : Ln) : NOwn (X.alloc (.cells #[] 52)).drew w.heap.size (.slice (some ⟨X.heap.size, 0, none⟩) 0 0) [] := own_eN h (heap_alloc_new X _)
theorem with_ebN {w X : World} (h : w.heap.size ≤ X.heap.size) (t : Ln) : NOwn ((X.alloc (.cells #[] 52)).alloc (.cells #[.string t.key, .slice t.A1 t.n1 t.c1, .slice t.A2 t.n2 t.c2] 52)).drew w.heap.size (.slice (some ⟨X.heap.size, 0, none⟩) 0 0) [] := own_eN h ((Below.heap_alloc _ _ _ (by simp)).trans (heap_alloc_new X _))
theorem with_ecN {w X : World} (h : w.heap.size ≤ X.heap.size) (t : Ln) : NOwn ((X.alloc (.cells #[.string t.key, .slice t.A1 t.n1 t.c1, .slice t.A2 t.n2 t.c2] 52)).alloc (.cells #[] 52)).drew w.heap.size (.slice (some ⟨X.heap.size + 1, 0, none⟩) 0 0) [] := own_eN (by omega) (by have := heap_alloc_new (X.alloc (.cells #[.string t.key, .slice t.A1 t.n1 t.c1, .slice t.A2 t.n2 t.c2] 52)) (.cells #[] 52); rw [show (X.alloc (.cells #[.string t.key, .slice t.A1 t.n1 t.c1, .slice t.A2 t.n2 t.c2] 52)).heap.size = X.heap.size + 1 by simp] at this; exact this)
theorem fr_lownN {w V w5 : World} {v : Value} {xs : List Ln} (hb : Below w.heap.size w V) (ho : NOwn V w.heap.size v xs) (hf : Fr (fun g => v.ownBlock = some g) V w5) : Below w.heap.size w w5 := hb.trans (hf.below hb.size fun g _ e => (ho.lt g e).1)
theorem with_tbN {X w5 : World} (t : Ln) (hf : Fr (fun g => (Value.slice (some ⟨X.heap.size, 0, none⟩) 0 0).ownBlock = some g) ((X.alloc (.cells #[] 52)).alloc (.cells #[.string t.key, .slice t.A1 t.n1 t.c1, .slice t.A2 t.n2 t.c2] 52)).drew w5) : w5.heap[X.heap.size + 1]? = some (.cells #[.string t.key, .slice t.A1 t.n1 t.c1, .slice t.A2 t.n2 t.c2] 52 (0, 0)) := by
  refine hf.blk ?_ fun e => ?_
  · have := heap_alloc_new (X.alloc (.cells #[] 52)) (.cells #[.string t.key, .slice t.A1 t.n1 t.c1, .slice t.A2 t.n2 t.c2] 52)
    rw [show (X.alloc (.cells #[] 52)).heap.size = X.heap.size + 1 by simp] at this
    exact this
  · have e' : some X.heap.size = some (X.heap.size + 1) := e
    injection e' with e'
    omega
theorem with_tcN {X w5 : World} (t : Ln) (hf : Fr (fun g => (Value.slice (some ⟨X.heap.size + 1, 0, none⟩) 0 0).ownBlock = some g) ((X.alloc (.cells #[.string t.key, .slice t.A1 t.n1 t.c1, .slice t.A2 t.n2 t.c2] 52)).alloc (.cells #[] 52)).drew w5) : w5.heap[X.heap.size]? = some (.cells #[.string t.key, .slice t.A1 t.n1 t.c1, .slice t.A2 t.n2 t.c2] 52 (0, 0)) := by
  refine hf.blk ?_ fun e => ?_
  · exact (Below.heap_alloc _ _ _ (by simp)).trans (heap_alloc_new X _)
  · have e' : some (X.heap.size + 1) = some X.heap.size := e
    injection e' with e'
    omega
theorem rd_oneWN {V : World} {g : Nat} {t : Ln} (h : V.heap[g]? = some (.cells #[.string t.key, .slice t.A1 t.n1 t.c1, .slice t.A2 t.n2 t.c2] 52 (0, 0))) : ∃ g2 o2, some (⟨g, 0, none⟩ : Addr) = some ⟨g2, o2, none⟩ ∧ ∀ j u, (lnc [t])[j]? = some u → V.cell? ⟨g2, o2 + j, none⟩ = some u :=
  ⟨g, 0, rfl, fun j u hu => by
    rw [Nat.zero_add, cell_of_row _ _ _ _ _ _ h]
    simpa [lnc, Ln.cs] using hu⟩
theorem NOwn.alloc_ {V : World} {B : Nat} {v : Value} {xs : List Ln} (h : NOwn V B v xs) (o : Obj) : NOwn (V.alloc o) B v xs := Own.alloc h o
theorem with_lN {V : World} {B : Nat} {v : Value} {a b : List Ln} {t : Ln} (h : NOwn V B v ([] ++ a ++ [t] ++ b)) : NOwn V B v (a ++ t :: b) := by
  have e : [] ++ a ++ [t] ++ b = a ++ t :: b := by simp
  rw [e] at h
  exact h
#print axioms app_n
end Go.Proofs.Ytcceankldiafpaa.Lock
