/- KeyMaps: what is laid and taken away: the plain words, and the small pieces. -/
import Derived.Test.YtllmaoimngeofaaKeyS2
import Derived.Test.YtllmaoimngeofaaMaps
set_option linter.unusedVariables false
set_option linter.unusedSimpArgs false
namespace Go.Proofs.Ytllmaoimngeofaa.KeyMa
open Go.RowKit Go.WideShapes Go.Deep Go.Proofs.Ytllmaoimngeofaa.Mem Go.Proofs.Ytllmaoimngeofaa.Open Go.Proofs.Ytllmaoimngeofaa.KeyM Go.Proofs.Ytllmaoimngeofaa.KeyN Go.Proofs.Ytllmaoimngeofaa.KeyT Go.Proofs.Ytllmaoimngeofaa.Kv Go.Proofs.Ytllmaoimngeofaa.Maps
attribute [local irreducible] withL withoutL

abbrev O3 := Int × S × S
def oc (os : List O3) : List Value := os.flatMap fun o => [.int .i64 o.1, .string o.2.1, .string o.2.2]
theorem oc_at : ∀ {os : List O3} {j : Nat} {o : O3}, os[j]? = some o → (oc os)[j * 3]? = some (.int .i64 o.1) ∧ (oc os)[j * 3 + 1]? = some (.string o.2.1) ∧ (oc os)[j * 3 + 2]? = some (.string o.2.2)
  | [], j, o, h => by simp at h
  | p :: os, 0, o, h => by
    have h' : p = o := by simpa using h
    subst h'
    exact ⟨rfl, rfl, rfl⟩
  | p :: os, j + 1, o, h => by
    have h' : os[j]? = some o := by simpa using h
    have e : oc (p :: os) = [.int .i64 p.1, .string p.2.1, .string p.2.2] ++ oc os := rfl
    obtain ⟨a, b, c⟩ := oc_at h'
    have f : ∀ x, (oc (p :: os))[x + 3]? = (oc os)[x]? := fun x => by
      rw [e, List.getElem?_append_right (by simp)]; simp
    rw [show (j + 1) * 3 = j * 3 + 3 by omega, show j * 3 + 3 + 1 = j * 3 + 1 + 3 by omega, show j * 3 + 3 + 2 = j * 3 + 2 + 3 by omega, f, f, f]
    exact ⟨a, b, c⟩
theorem copied {v : Value} {n : Nat} {xs : List Value} (w : World) (h : Rd w w.heap.size 2 v n xs) (h1 : One xs) (hb : n * 32 ≤ 140737488355328) :
    Does Try.prog (w.alloc (.cells #[] 33)) (Builtin.append_ #[34, 34] 34 #[.slice (some ⟨w.heap.size, 0, none⟩) 0 0, v]) fun v' w' => Own w' w.heap.size 33 2 v' n xs ∧ Below w.heap.size w w' := by
  have hlen := h.len_le
  obtain ⟨hl, A, c, rfl, hn, hc, ha⟩ := h
  obtain ⟨v', w', hr, ho, hg, hb', hnil⟩ := run_append (P := Try.prog) (w.alloc (.cells #[] 33)) (ty := 34) Try.underlying34 Try.underlying34 SlP.ty (base := w.heap.size) (v := .slice (some ⟨w.heap.size, 0, none⟩) 0 0) (n := 0) (xs := [])
    ⟨rfl, .inr ⟨w.heap.size, 0, 0, #[], rfl, Nat.le_refl _, heap_alloc_new w _, Nat.le_refl _, Nat.zero_le _, by simp, by simp⟩⟩ (A := A) (m := n) (c := c) (news := xs) hl
    (fun h0 => by
      obtain ⟨g, off, e, hg, hx⟩ := ha h0
      exact ⟨g, off, e, fun j u hu => (World.cell?_alloc_lt w _ ⟨g, off + j, none⟩ hg).trans (hx j u hu)⟩) h1 (by omega) (by omega) (by simp)
  exact ⟨v', w', hr, by simpa using ho, ((Below.refl _ w).alloc (Nat.le_refl _) _).grown hg (by simp) (by intro k hk; simp [Value.ownBlock] at hk; omega)⟩

abbrev At := MapAt (fun s : S => Value.string s) (fun s : S => Value.string s) (fun s => s.size ≤ maxLen)
theorem km : Km Try.prog 9 (fun s : S => Value.string s) (fun s => s.size ≤ maxLen) := km_string Try.underlying9
/-- The program's map and Go's own say the same. -/
structure Agree (ms : List (S × S)) (ps : List P2) : Prop where
  get : ∀ k, getM ms k = getL ps k
  len : ms.length = ps.length
theorem agree_nil : Agree [] [] := ⟨fun _ => rfl, rfl⟩
theorem Agree.with_ {ms : List (S × S)} {ps : List P2} (h : Agree ms ps) (hr : Rise ps) (k v : S) : Agree (setM ms k v) (withL ps k v) := by
  refine ⟨fun k' => ?_, ?_⟩
  · rw [getM_set, getL_with hr, h.get]
  · rw [Maps.length_set, Kv.length_with hr, h.get, getL_isSome, h.len]
theorem Agree.without_ {ms : List (S × S)} {ps : List P2} (h : Agree ms ps) (hn : Keys1 ms) (hr : Rise ps) (k : S) : Agree (delM ms k) (withoutL ps k) := by
  refine ⟨fun k' => ?_, ?_⟩
  · rw [getM_del, getL_without hr, h.get]
  · rw [Maps.length_del hn, Kv.length_without hr, h.get, getL_isSome, h.len]
theorem agree_look {ms : List (S × S)} {ps : List P2} (h : Agree ms ps) (k : S) : (getM ms k).elim (.string ⟨#[]⟩) (fun s : S => Value.string s) = .string (getS ps k) ∧ (getM ms k).isSome = here ps k := by
  refine ⟨?_, by rw [h.get, getL_isSome]⟩
  rw [h.get, getS]
  cases getL ps k <;> rfl
theorem run_look {w : World} {b : Nat} {ms : List (S × S)} {ps : List P2} (h : At w b ms) (ha : Agree ms ps) {k : S} (hk : k.size ≤ maxLen) :
    (Instr.lookup 40 (.map (some b)) (.string k) true).run Try.prog w = .ok (.tuple #[.string (getS ps k), .bool (here ps k)]) w := by
  have h1 := run_lookup (P := Try.prog) (t := 40) (e := 9) (z := .string ⟨#[]⟩) km Try.underlying40 (by kernel_rfl) h (x := k) hk true
  rw [h1, (agree_look ha k).1, (agree_look ha k).2]; rfl
theorem run_lenm {w : World} {b : Nat} {ms : List (S × S)} {ps : List P2} (h : At w b ms) (ha : Agree ms ps) (ty : TypeId) :
    (Builtin.len_ #[40] ty #[.map (some b)]).run Try.prog w = .ok (.int .i64 ps.length) w := by
  rw [Maps.run_len (P := Try.prog) Try.underlying40 h, ha.len]
/-- One step's struct in memory. -/
def Box (b : Nat) (K : Int) (key val : S) (W : World) : Prop := W.cell? ⟨b, 0, none⟩ = some (.int .i64 K) ∧ W.cell? ⟨b, 1, none⟩ = some (.string key) ∧ W.cell? ⟨b, 2, none⟩ = some (.string val)
theorem Box.keep {b : Nat} {K : Int} {key val : S} {W W' : World} (h : Box b K key val W) (hk : ∀ p v, W.cell? p = some v → W'.cell? p = some v) : Box b K key val W' := ⟨hk _ _ h.1, hk _ _ h.2.1, hk _ _ h.2.2⟩
theorem IsMap.turned {W W' : World} {b : Nat} {v : Value} {ps : List P2} (h : IsMap W v ps) (ht : Turned W W' b) : IsMap W' v ps := ⟨by rw [ht.size]; exact rd_turned h.rd ht, h.rise, h.len⟩
structure St (w W : World) (b : Nat) (K : Int) (key val : S) (L : List (Value × List P2)) (ms : List (S × S)) : Prop where
  maps : ∀ v ps, (v, ps) ∈ L → IsMap W v ps
  at_ : At W (w.heap.size + 1) ms
  box : Box b K key val W
  bl : Below w.heap.size w W
section
variable {w W W' : World} {b : Nat} {K : Int} {key val : S} {L : List (Value × List P2)} {ms ms' : List (S × S)}
theorem St.below (h : St w W b K key val L ms) (hb : Below W.heap.size W W') : St w W' b K key val L ms :=
  ⟨fun v ps hm => (h.maps v ps hm).up hb, h.at_.below hb, h.box.keep fun p v hc => (hb.cell (World.block_lt_of_cell? W p hc)).trans hc, h.bl.trans (hb.mono h.bl.size)⟩
theorem St.add (h : St w W b K key val L ms) {v : Value} {ps : List P2} (hm : IsMap W v ps) : St w W b K key val ((v, ps) :: L) ms :=
  ⟨fun v' ps' hv => (List.mem_cons.1 hv).elim (fun e => by injection e with e1 e2; subst e1 e2; exact hm) (h.maps v' ps'), h.at_, h.box, h.bl⟩
theorem St.turned (h : St w W b K key val L ms) (ht : Turned W W' (w.heap.size + 1)) (hat : At W' (w.heap.size + 1) ms') : St w W' b K key val L ms' :=
  ⟨fun v ps hm => IsMap.turned (h.maps v ps hm) ht, hat, h.box.keep fun p v hc => (ht.cell p).trans hc, below_turned ht h.bl (by omega)⟩
theorem St.drewN (h : St w W b K key val L ms) (n : Nat) : St w (W.drewN n) b K key val L ms := ⟨fun v ps hm => (h.maps v ps hm).drewN n, h.at_, h.box, below_drewN h.bl n⟩
end
theorem look_at {w : World} {b : Nat} {ms : List (S × S)} {ps : List P2} (h : At w b ms) (ha : Agree ms ps) (hr : Rise ps) {i : Nat} {p : P2} (hp : ps[i]? = some p) :
    (Instr.lookup 40 (.map (some b)) (.string p.1) true).run Try.prog w = .ok (.tuple #[.string p.2, .bool true]) w := by
  have h1 := rise_find hr hp
  have h2 := getM_mem ((ha.get p.1).trans h1)
  obtain ⟨_, _, _, _, hok, _⟩ := id h
  rw [run_look h ha (hok _ h2), getS, h1, ← getL_isSome, h1]
  rfl
theorem rise_at {ps : List P2} (hr : Rise ps) {i j : Nat} {p q : P2} (hi : ps[i]? = some p) (hj : ps[j]? = some q) (hij : i < j) : lt p.1 q.1 = true := by
  obtain ⟨h1, e1⟩ := List.getElem?_eq_some_iff.1 hi
  obtain ⟨h2, e2⟩ := List.getElem?_eq_some_iff.1 hj
  have := List.pairwise_iff_getElem.1 hr i j h1 h2 hij
  rw [e1, e2] at this
  exact this
#print axioms look_at
end Go.Proofs.Ytllmaoimngeofaa.KeyMa
