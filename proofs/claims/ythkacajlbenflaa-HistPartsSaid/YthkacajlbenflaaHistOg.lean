/- Of, whatever the events: the transactions in memory. -/
import Derived.Test.YthkacajlbenflaaHistSa
import Derived.Test.YthkacajlbenflaaHistI
set_option linter.unusedVariables false
set_option linter.unusedSimpArgs false
set_option linter.unusedSectionVars false
namespace Go.Proofs.Ythkacajlbenflaa.HistG
open Go.RowKit Go.WideShapes Go.Deep Go.Proofs.Ythkacajlbenflaa.Mem Go.Proofs.Ythkacajlbenflaa.Maps Go.Proofs.Ythkacajlbenflaa.Kv Go.Proofs.Ythkacajlbenflaa.Open Go.Proofs.Ythkacajlbenflaa.HistA
theorem map0 {κ ν : Type} [DecidableEq κ] {enc : κ → Value} {encv : ν → Value} {Ok : κ → Prop} {W : World} {b : Nat} (h : W.heap[b]? = some (.map #[] 0)) : MapAt enc encv Ok W b [] := ⟨#[], 0, h, rfl, by simp, by simp [Keys1], MapKept.stamped_empty 0⟩
theorem mk0 {W : World} {B : Nat} (h0 : W.heap[B]? = some (.map #[] 0)) (h1 : W.heap[B + 1]? = some (.map #[] 0)) (h2 : W.heap[B + 2]? = some (.cells #[.slice none 0 0, .map (some B), .map (some (B + 1))] 67 (0, 0))) : MkG W B (B + 2) B (B + 1) 0 MkR.nil [] [] (.slice none 0 0) where
  mkr := h2
  at_ := map0 h0
  sm := map0 h1
  some_ := fun p g h => by rw [getM_nil] at h; cases h
  none_ := fun p _ => rfl
  inj := fun p q g h => by rw [getM_nil] at h; cases h
  all := rfl
  own := Own.nil_ _ _ _ _
  ops := fun x h => by cases h
  apart := fun i j x y h => by simp at h
  idx := fun t i h => by rw [show getM MkR.nil.at_ t = none from rfl] at h; cases h
  sid := fun p s h => by rw [show getM MkR.nil.ss p = none from rfl] at h; cases h
  lenx := Nat.le_refl _
  leno := fun x h => by cases h
  bm := by omega
  bat := Nat.le_refl _
  bss := by omega
  bse := fun p g h => by rw [getM_nil] at h; cases h
  ne := by omega
/-- An event's numbers fit. -/
structure EvOk (e : EvV) : Prop where
  c : PlOk (e.node, e.cs)
  a : PlOk (e.node, e.as_)
  t : Tid.IdOk (e.anum, e.and_)
def OgI (B : Nat) (es : List EvV) (j : Nat) (W : World) : Prop := ∃ pp xs av, MkG W B (B + 2) B (B + 1) j (ofM (es.take j)) pp xs av
theorem take_snoc {es : List EvV} {j : Nat} {e : EvV} (h : es[j]? = some e) : es.take (j + 1) = es.take j ++ [e] := by
  rw [List.take_add_one, h]
  rfl
theorem og_steps {es : List EvV} {B : Nat} (hl : es.length ≤ 500) (hok : ∀ e ∈ es, EvOk e) : HistA.Steps es B (B + 2) (OgI B es) := by
  intro j e he W hB hI
  obtain ⟨pp, xs, av, h⟩ := hI
  have hj : j < es.length := (List.getElem?_eq_some_iff.1 he).1
  have hk := hok e (List.mem_of_getElem? he)
  refine ⟨fun hup => ?_, fun hup hsd => ?_, fun hup hsd => ?_⟩
  · refine (up_g h hB e).mono ?_
    rintro x W' ⟨rfl, ⟨pp', h'⟩, hb⟩
    refine ⟨rfl, ⟨pp', xs, av, ?_⟩, hb⟩
    rw [take_snoc he, ofM_snoc]
    unfold stepM
    rw [if_pos hup]
    exact h'.more (Nat.le_succ _)
  · refine (said_g h hB e hk.a hk.t (by omega)).mono ?_
    rintro x W' ⟨rfl, ⟨pp', xs', av', h'⟩, hb⟩
    refine ⟨rfl, ⟨pp', xs', av', ?_⟩, hb⟩
    rw [take_snoc he, ofM_snoc]
    unfold stepM
    rw [if_neg (by rw [hup]; simp), if_pos hsd]
    exact h'
  · refine (call_g h hB e hk.c).mono ?_
    rintro x W' ⟨rfl, ⟨pp', xs', av', h'⟩, hb⟩
    refine ⟨rfl, ⟨pp', xs', av', ?_⟩, hb⟩
    rw [take_snoc he, ofM_snoc]
    unfold stepM
    rw [if_neg (by rw [hup]; simp), if_neg (by rw [hsd]; simp)]
    exact h'.more (Nat.le_succ _)
/-- The transactions that events tell of, in memory. -/
def TxsAt (w : World) (B : Nat) (ts : List TxR) (av : Value) : Prop := ∃ xs : List TxP, ts = xs.map TxP.t ∧ Own w B 39 7 av xs.length (txc xs) ∧ ∀ x ∈ xs, x.t.ops.length ≤ 500
theorem of_g {es : List EvV} (w : World) {A : Option Addr} {c : Nat} (h : Rd w w.heap.size 16 (.slice A es.length c) es.length (evc es)) (hl : es.length ≤ 500) (hok : ∀ e ∈ es, EvOk e) :
    Calls Try.prog 9 #[.slice A es.length c] w fun x w' => ∃ v, x = .returned v ∧ TxsAt w' w.heap.size (ofM es).all v ∧ Below w.heap.size w w' :=
  of_any w h (OgI w.heap.size es) (fun j W W' hi _ hb => by obtain ⟨pp, xs, av, h⟩ := hi; exact ⟨pp, xs, av, h.below hb⟩) (fun W h0 h1 h2 => ⟨[], [], _, mk0 h0 h1 h2⟩) (og_steps hl hok) (fun W hi => by
    obtain ⟨pp, xs, av, h⟩ := hi
    rw [List.take_length] at h
    exact ⟨av, h.mkr, xs, h.all, h.own, fun x hx => Nat.le_trans (h.leno x hx) hl⟩)
#print axioms of_g
end Go.Proofs.Ythkacajlbenflaa.HistG
