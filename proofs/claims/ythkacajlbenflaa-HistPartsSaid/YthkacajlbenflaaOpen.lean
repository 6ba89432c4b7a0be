/- How an argument that is a slice, a struct, a string is opened: what it reads as, in the walk's words. -/
import Derived.Test.YthkacajlbenflaaMem
import Derived.ProofKit
import Derived.Deep.Slices
import Derived.SizedLaws
import Derived.ChangeSame
set_option linter.unusedVariables false
set_option linter.unusedSimpArgs false
namespace Go.Proofs.Ythkacajlbenflaa.Open
open Go.RowKit Go.ChangeShapes Go.WideShapes Go.Deep Go.Proofs.Ythkacajlbenflaa.Mem

section
variable {H : Type} {P : Program}
/-- Each string, slice and map within it is within the reach. -/
def Fit (P : Program) (t : TypeId) (d : DataW H) : Prop := ∀ m ∈ d.weights P t, m ≤ 140737488351232
theorem fit_of {ts : List TypeId} {ds : List (DataW H)} (h : (DataW.weightsEach P ts ds).all (· ≤ reachBytes) = true) {j : Nat} {t : TypeId} {d : DataW H} (ht : ts[j]? = some t) (hd : ds[j]? = some d) : Fit P t d := fun m hm => by
  have := List.all_eq_true.1 h m (DataW.weights_mem_each ht hd m hm)
  have h2 : m ≤ reachBytes := by simpa using this
  exact h2
theorem fit_all {e : TypeId} : ∀ {ds : List (DataW H)} {d : DataW H}, d ∈ ds → ∀ m ∈ d.weights P e, m ∈ DataW.weightsAll P e ds
  | d0 :: ds, d, hd, m, hm => by
    simp only [DataW.weightsAll, List.mem_append]
    rcases List.mem_cons.1 hd with rfl | hd
    · exact .inl hm
    · exact .inr (fit_all hd m hm)
theorem fit_elem {t e : TypeId} (hu : P.underlying t = some (.slice e)) {elems spare : List (DataW H)} (h : Fit P t (.slice elems spare)) {d : DataW H} (hd : d ∈ elems) : Fit P e d := fun m hm =>
  h m (by simp only [DataW.weights, hu, List.mem_cons, List.mem_append]; exact .inr (.inl (fit_all hd m hm)))
theorem fit_slice {t e : TypeId} (hu : P.underlying t = some (.slice e)) {elems spare : List (DataW H)} (h : Fit P t (.slice elems spare)) : elems.length * P.bytesOf e ≤ 140737488351232 :=
  Nat.le_trans (Nat.mul_le_mul_right _ (Nat.le_add_right _ spare.length)) (h _ (by simp [DataW.weights, hu]))
theorem fit_each : ∀ {ts : List TypeId} {ds : List (DataW H)} {i : Nat} {t : TypeId} {d : DataW H}, ts[i]? = some t → ds[i]? = some d → ∀ m ∈ d.weights P t, m ∈ DataW.weightsEach P ts ds := fun ht hd m hm => DataW.weights_mem_each ht hd m hm
theorem fit_field {t : TypeId} {fs : Array Field} (hu : P.underlying t = some (.struct fs)) {parts : List (DataW H)} (h : Fit P t (.agg parts)) {i : Nat} {f : Field} {d : DataW H} (hf : fs[i]? = some f) (hd : parts[i]? = some d) : Fit P f.type d := fun m hm =>
  h m (by
    simp only [DataW.weights, hu]
    exact fit_each (i := i) (by rw [List.getElem?_map, Array.getElem?_toList, hf]; rfl) hd m hm)
theorem fit_string {t : TypeId} {bs : List UInt8} (h : Fit (H := H) P t (.lit (.string bs))) : bs.length ≤ 140737488351232 := h _ (by simp [DataW.weights])
end

section
variable {H : Type} {enc : TypeId × Value → H} {P : Program} {w : World} {base : Nat} {spare : Nat → Bool} {held : Bool}
/-- One value of type t whose cells are cs reads, and is within the reach. -/
def Reads1 (enc : TypeId × Value → H) (P : Program) (w : World) (base : Nat) (spare : Nat → Bool) (held : Bool) (t : TypeId) (cs : List Value) : Prop :=
  ∃ (n : Nat) (x : DataW H × List MemPlace), DataW.trod enc P w base spare held n t cs = some x ∧ Fit P t x.1
theorem reads_of {t : TypeId} {v : Value} {d : DataW H} {p : List MemPlace} (h : DataW.Trod enc P w base spare held t v d p) (hf : Fit P t d) : Reads1 enc P w base spare held t v.cells.toList := by
  obtain ⟨n, hn⟩ := h
  exact ⟨n, _, hn, hf⟩
theorem reads_string {t : TypeId} (ht : P.underlying t = some .string) {cs : List Value} (h : Reads1 enc P w base spare held t cs) : ∃ s : ByteArray, cs = [.string s] ∧ s.size ≤ 140737488351232 := by
  obtain ⟨n, x, hx, hf⟩ := h
  obtain ⟨s, rfl, rfl, _⟩ := DataW.trod_string ht hx
  exact ⟨s, rfl, by have := fit_string hf; simpa using this⟩
theorem reads_int {t : TypeId} {k : IntKind} (ht : P.underlying t = some (.int k)) {cs : List Value} (h : Reads1 enc P w base spare held t cs) : ∃ n : Int, cs = [.int k n] ∧ (Lit.int k n).wf = true := by
  obtain ⟨n, x, hx, hf⟩ := h
  obtain ⟨s, rfl, _, hw⟩ := DataW.trod_int ht hx
  exact ⟨s, rfl, hw⟩
theorem reads_bool {t : TypeId} (ht : P.underlying t = some .bool) {cs : List Value} (h : Reads1 enc P w base spare held t cs) : ∃ b : Bool, cs = [.bool b] := by
  obtain ⟨n, x, hx, hf⟩ := h
  obtain ⟨s, rfl, _⟩ := DataW.trod_bool ht hx
  exact ⟨s, rfl⟩
theorem reads_struct {t : TypeId} {fs : Array Field} (ht : P.underlying t = some (.struct fs)) {cs : List Value} (h : Reads1 enc P w base spare held t cs) :
    cs.length = P.cellsOf t ∧ ∀ (i : Nat) (f : Field), fs[i]? = some f → Reads1 enc P w base spare held f.type ((cs.drop f.offset).take (P.cellsOf f.type)) := by
  obtain ⟨n, x, hx, hf⟩ := h
  obtain ⟨xs, m, _, rfl, hl, hxl, hg⟩ := DataW.trod_struct ht hx
  refine ⟨hl, fun i f hi => ?_⟩
  have h1 := hg i f hi
  have hlt : i < xs.length := by rw [hxl]; exact (Array.getElem?_eq_some_iff.1 hi).1
  rw [List.getElem?_eq_getElem hlt] at h1
  exact ⟨m, _, h1, fit_field ht hf hi (by rw [List.getElem?_map, List.getElem?_eq_getElem hlt]; rfl)⟩
theorem spot_of {w : World} {a : Addr} {n : Nat} {v : Value} (h : w.cell? (a.add n) = some v) : a.spot = none ∨ n ≠ 0 := by
  by_cases hn : n = 0
  · left
    subst hn
    simp only [Addr.add, if_true] at h
    unfold World.cell? at h
    split at h
    · split at h
      · cases h
      · simpa using ‹¬ a.spot.isSome = true›
    · cases h
  · exact .inr hn
theorem reads_slice {t e : TypeId} {k : Nat} (ht : P.underlying t = some (.slice e)) (hk : P.cellsOf e = k) (hk0 : 0 < k) {cs : List Value} (h : Reads1 enc P w base spare held t cs) :
    ∃ (v : Value) (n : Nat) (css : List (List Value)), cs = [v] ∧ css.length = n ∧ Rd w w.heap.size k v n css.flatten ∧ (∀ c ∈ css, c.length = k ∧ Reads1 enc P w base spare held e c) ∧ n * P.bytesOf e ≤ 140737488351232 := by
  obtain ⟨n0, x, hx, hf⟩ := h
  rcases open_slice ht hx with ⟨rfl, rfl⟩ | ⟨a, len, cap, m, n, D, Pl, rfl, _, hlc, hcm, hm, rfl, hi⟩
  · exact ⟨_, 0, [], rfl, rfl, Rd.nil_ _ _ _, (fun c hc => absurd hc (by simp)), by omega⟩
  · have hml : len ≤ m := by rw [hm]; split <;> omega
    rw [hk] at hi
    have hcs : ∃ css : List (List Value), css.length = len ∧ ∀ i, i < len → ∃ c, css[i]? = some c ∧ c.length = k ∧ (∀ j u, c[j]? = some u → w.cell? ((a.add (i * k)).add j) = some u) ∧ Reads1 enc P w base spare held e c := by
      have step : ∀ L, L ≤ len → ∃ css : List (List Value), css.length = L ∧ ∀ i, i < L → ∃ c, css[i]? = some c ∧ c.length = k ∧ (∀ j u, c[j]? = some u → w.cell? ((a.add (i * k)).add j) = some u) ∧ Reads1 enc P w base spare held e c := by
        intro L
        induction L with
        | zero => exact fun _ => ⟨[], rfl, fun i hi => by omega⟩
        | succ L ih =>
          intro hL
          obtain ⟨css, h1, h2⟩ := ih (by omega)
          obtain ⟨c, hc, htr⟩ := hi L (by omega)
          obtain ⟨_, hcl, hat⟩ := World.cells?_some hc
          have hfit : Fit P e (D L) := fit_elem ht hf (List.mem_map.2 ⟨L, List.mem_range.2 (by omega), rfl⟩)
          refine ⟨css ++ [c], by simp [h1], fun i hiL => ?_⟩
          by_cases hil : i < L
          · obtain ⟨c', e1, e2⟩ := h2 i hil
            exact ⟨c', by rw [List.getElem?_append_left (by omega)]; exact e1, e2⟩
          · obtain rfl : i = L := by omega
            refine ⟨c, by rw [List.getElem?_append_right (by omega), h1]; simp, hcl, fun j u hu => ?_, ⟨_, _, htr, hfit⟩⟩
            have hj : j < k := by rw [← hcl]; exact (List.getElem?_eq_some_iff.1 hu).1
            rw [hat j hj, hu]
      exact step len (Nat.le_refl _)
    obtain ⟨css, hl, hcss⟩ := hcs
    have hall : ∀ c ∈ css, c.length = k ∧ Reads1 enc P w base spare held e c := by
      intro c hc
      obtain ⟨i, hi'⟩ := List.getElem?_of_mem hc
      have hil : i < len := by rw [← hl]; exact (List.getElem?_eq_some_iff.1 hi').1
      obtain ⟨c', e1, e2, _, e3⟩ := hcss i hil
      rw [hi'] at e1
      injection e1 with e1
      subst e1
      exact ⟨e2, e3⟩
    have hflen : ∀ (l : List (List Value)), (∀ c ∈ l, c.length = k) → l.flatten.length = l.length * k := by
      intro l
      induction l with
      | nil => simp
      | cons c l ih =>
        intro h
        rw [List.flatten_cons, List.length_append, h c (List.mem_cons_self ..), ih (fun c hc => h c (List.mem_cons_of_mem _ hc)), List.length_cons, Nat.add_mul, Nat.one_mul, Nat.add_comm]
    have hfat : ∀ (l : List (List Value)) (i j : Nat), (∀ c ∈ l, c.length = k) → j < k → l.flatten[i * k + j]? = (l[i]?).bind (·[j]?) := by
      intro l
      induction l with
      | nil => intro i j _ _; simp
      | cons c l ih =>
        intro i j h hj
        have hc := h c (List.mem_cons_self ..)
        cases i with
        | zero => rw [List.flatten_cons, List.getElem?_append_left (by omega)]; simp
        | succ i =>
          rw [List.flatten_cons, List.getElem?_append_right (by rw [hc, Nat.add_mul]; omega), hc, show (i + 1) * k + j - k = i * k + j by rw [Nat.add_mul]; omega, ih i j (fun c hc => h c (List.mem_cons_of_mem _ hc)) hj]
          simp
    refine ⟨_, len, css, rfl, hl, ⟨by rw [hflen css (fun c hc => (hall c hc).1), hl], some a, cap, rfl, hlc, hcm, fun h0 => ?_⟩, hall, ?_⟩
    · obtain ⟨c0, e1, e2, e3, _⟩ := hcss 0 h0
      have hu0 : c0[0]? = some (c0[0]'(by omega)) := List.getElem?_eq_getElem (by omega)
      have hcell := e3 0 _ hu0
      have ha0 : (a.add (0 * k)).add 0 = a.add 0 := by simp [Addr.add]
      rw [ha0] at hcell
      have hsp := (spot_of hcell).resolve_right (by simp)
      obtain ⟨g, off, sp⟩ := a
      simp only at hsp
      subst hsp
      have hg := World.block_lt_of_cell? w _ hcell
      refine ⟨g, off, rfl, by simpa [Addr.add] using hg, fun j u hu => ?_⟩
      have hjl : j < len * k := by
        have := (List.getElem?_eq_some_iff.1 hu).1
        rwa [hflen css (fun c hc => (hall c hc).1), hl] at this
      have hdm : j = j / k * k + j % k := by rw [Nat.mul_comm]; exact (Nat.div_add_mod j k).symm
      have hmod : j % k < k := Nat.mod_lt _ hk0
      have hdiv : j / k < len := by rw [Nat.div_lt_iff_lt_mul hk0]; exact hjl
      rw [hdm, hfat css _ _ (fun c hc => (hall c hc).1) hmod] at hu
      obtain ⟨c, q1, q2, q3, _⟩ := hcss (j / k) hdiv
      rw [q1] at hu
      have := q3 (j % k) u hu
      rw [add_lit', add_lit'] at this
      rw [hdm, ← Nat.add_assoc]
      exact this
    · have := fit_slice ht hf
      simpa using this
end
end Go.Proofs.Ythkacajlbenflaa.Open
