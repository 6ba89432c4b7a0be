/- KeyTurns' arguments, opened. -/
import Derived.Test.YtllmaoimngeofaaKeyT
import Derived.Test.YtllmaoimngeofaaOpen
set_option linter.unusedVariables false
namespace Go.Proofs.Ytllmaoimngeofaa.KeyTR
open Go.RowKit Go.WideShapes Go.Deep Go.Proofs.Ytllmaoimngeofaa.Mem Go.Proofs.Ytllmaoimngeofaa.Open Go.Proofs.Ytllmaoimngeofaa.KeyM Go.Proofs.Ytllmaoimngeofaa.Kv
variable {H : Type} {enc : TypeId × Value → H} {w : World} {base : Nat} {spare : Nat → Bool} {held : Bool}
theorem pair_of {cs : List Value} (h : Reads1 enc Try.prog w base spare held 33 cs) : ∃ k v : ByteArray, cs = [.string k, .string v] ∧ k.size ≤ 140737488351232 ∧ v.size ≤ 140737488351232 := by
  obtain ⟨hl, hf⟩ := reads_struct Try.underlying33 h
  have hl2 : cs.length = 2 := hl
  match cs, hl2 with
  | [c0, c1], _ =>
    obtain ⟨k, e0, h0⟩ := reads_string Try.underlying9 (hf 0 _ rfl)
    obtain ⟨v, e1, h1⟩ := reads_string Try.underlying9 (hf 1 _ rfl)
    have e0' : [c0] = [Value.string k] := e0
    have e1' : [c1] = [Value.string v] := e1
    injection e0' with e0'
    injection e1' with e1'
    exact ⟨k, v, by rw [e0', e1'], h0, h1⟩
theorem pair_val {v : Value} {r : Reach} {b : Nat} (ok : Value.okWide Try.prog w r b 33 v) (h : Reads1 enc Try.prog w base spare held 33 v.cells.toList) : ∃ k x : ByteArray, v = .agg #[.string k, .string x] ∧ k.size ≤ 140737488351232 ∧ x.size ≤ 140737488351232 := by
  obtain ⟨cs, rfl, _⟩ := okWide_struct Try.underlying33 ok
  obtain ⟨k, x, h1, h2, h3⟩ := pair_of h
  have h1' : cs.toList = [.string k, .string x] := h1
  exact ⟨k, x, by rw [← Array.toArray_toList (xs := cs), h1'], h2, h3⟩
theorem pairs_of {css : List (List Value)} (h : ∀ c ∈ css, c.length = 2 ∧ Reads1 enc Try.prog w base spare held 33 c) : ∃ qs : List P2, css.flatten = pc qs ∧ css.length = qs.length ∧ ∀ p ∈ qs, p.1.size ≤ 140737488351232 ∧ p.2.size ≤ 140737488351232 := by
  induction css with
  | nil => exact ⟨[], rfl, rfl, by simp⟩
  | cons c css ih =>
    obtain ⟨qs, e1, e2, e3⟩ := ih (fun c hc => h c (List.mem_cons_of_mem _ hc))
    obtain ⟨k, x, rfl, h1, h2⟩ := pair_of (h c (List.mem_cons_self ..)).2
    exact ⟨(k, x) :: qs, by rw [List.flatten_cons, e1]; rfl, by simp [e2], fun p hp => (List.mem_cons.1 hp).elim (fun e => by rw [e]; exact ⟨h1, h2⟩) (e3 p)⟩
theorem slice_val {v : Value} {r : Reach} {b : Nat} (ok : Value.okWide Try.prog w r b 31 v) (h : Reads1 enc Try.prog w base spare held 31 v.cells.toList) : ∃ qs : List P2, Rd w w.heap.size 2 v qs.length (pc qs) ∧ ∀ p ∈ qs, p.1.size ≤ 140737488351232 ∧ p.2.size ≤ 140737488351232 := by
  obtain ⟨a, l, c, rfl⟩ := okWide_slice Try.underlying31 ok
  obtain ⟨v, n, css, e, rfl, hr, hc, _⟩ := reads_slice Try.underlying31 (k := 2) rfl (by omega) h
  have e' : [Value.slice a l c] = [v] := e
  injection e' with e'
  subst e'
  obtain ⟨qs, e1, e2, e3⟩ := pairs_of hc
  rw [e1, e2] at hr
  exact ⟨qs, hr, e3⟩
theorem turns_row (v0 : Value) (ok0 : Value.okWide Try.prog w .any base 31 v0) (h0 : Reads1 enc Try.prog w 0 spare held 31 v0.cells.toList)
    (v1 : Value) (ok1 : Value.okWide Try.prog w .any base 33 v1) (h1 : Reads1 enc Try.prog w 0 spare held 33 v1.cells.toList)
    (v2 : Value) (ok2 : Value.okWide Try.prog w .any base 33 v2) (h2 : Reads1 enc Try.prog w 0 spare held 33 v2.cells.toList) :
    Calls Try.prog 6 #[v0, v1, v2] w fun e w' => e = .returned (.bool true) ∧ Below w.heap.size w w' := by
  obtain ⟨qs, hr, hq⟩ := slice_val ok0 h0
  obtain ⟨ak, av, rfl, ha, _⟩ := pair_val ok1 h1
  obtain ⟨bk, bv, rfl, hb, _⟩ := pair_val ok2 h2
  exact KeyT.turns_any v0 qs ak av bk bv w hr (fun p hp => (hq p hp).1) ha hb
#print axioms turns_row
end Go.Proofs.Ytllmaoimngeofaa.KeyTR
