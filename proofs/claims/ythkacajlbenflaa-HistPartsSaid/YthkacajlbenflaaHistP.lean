/- The laws' arguments, opened: pairs, ops, transactions, names of transactions. -/
import Derived.Test.YthkacajlbenflaaHistO
import Derived.Test.YthkacajlbenflaaHistK
import Derived.Test.YthkacajlbenflaaOpen
set_option linter.unusedVariables false
set_option linter.unusedSimpArgs false
set_option linter.unusedSectionVars false
namespace Go.Proofs.Ythkacajlbenflaa.HistA
open Go.RowKit Go.WideShapes Go.Deep Go.Proofs.Ythkacajlbenflaa.Mem Go.Proofs.Ythkacajlbenflaa.Open Go.Proofs.Ythkacajlbenflaa.KeyM Go.Proofs.Ythkacajlbenflaa.KeyN Go.Proofs.Ythkacajlbenflaa.Kv
variable {H : Type} {enc : TypeId × Value → H} {w : World} {base : Nat} {spare : Nat → Bool} {held : Bool}
theorem cell_eq {c : Value} {d : Value} (h : [c] = [d]) : c = d := by injection h
theorem pair_of {cs : List Value} (h : Reads1 enc Try.prog w base spare held 48 cs) : ∃ k v : ByteArray, cs = [.string k, .string v] := by
  obtain ⟨hl, hf⟩ := reads_struct Try.underlying48 h
  have hl2 : cs.length = 2 := hl
  match cs, hl2 with
  | [c0, c1], _ =>
    obtain ⟨k, e0, _⟩ := reads_string Try.underlying9 (hf 0 _ rfl)
    obtain ⟨v, e1, _⟩ := reads_string Try.underlying9 (hf 1 _ rfl)
    exact ⟨k, v, by rw [cell_eq (show [c0] = [Value.string k] from e0), cell_eq (show [c1] = [Value.string v] from e1)]⟩
theorem pairs_of {css : List (List Value)} (h : ∀ c ∈ css, c.length = 2 ∧ Reads1 enc Try.prog w base spare held 48 c) : ∃ qs : List P2, css.flatten = pc qs ∧ css.length = qs.length := by
  induction css with
  | nil => exact ⟨[], rfl, rfl⟩
  | cons c css ih =>
    obtain ⟨qs, e1, e2⟩ := ih (fun c hc => h c (List.mem_cons_of_mem _ hc))
    obtain ⟨k, x, rfl⟩ := pair_of (h c (List.mem_cons_self ..)).2
    exact ⟨(k, x) :: qs, by rw [List.flatten_cons, e1]; rfl, by simp [e2]⟩
theorem pairs_val {v : Value} {r : Reach} {b : Nat} (ok : Value.okWide Try.prog w r b 45 v) (h : Reads1 enc Try.prog w base spare held 45 v.cells.toList) : ∃ qs : List P2, Rd w w.heap.size 2 v qs.length (pc qs) := by
  obtain ⟨a, l, c, rfl⟩ := okWide_slice Try.underlying45 ok
  obtain ⟨v, n, css, e, rfl, hr, hc, _⟩ := reads_slice Try.underlying45 (k := 2) rfl (by omega) h
  have e' := cell_eq (show [Value.slice a l c] = [v] from e)
  subst e'
  obtain ⟨qs, e1, e2⟩ := pairs_of hc
  rw [e1, e2] at hr
  exact ⟨qs, hr⟩
theorem op_of {cs : List Value} (h : Reads1 enc Try.prog w base spare held 54 cs) : ∃ o : OpR, cs = oc1 o := by
  obtain ⟨hl, hf⟩ := reads_struct Try.underlying54 h
  have hl2 : cs.length = 4 := hl
  match cs, hl2 with
  | [c0, c1, c2, c3], _ =>
    obtain ⟨k, e0, _⟩ := reads_int Try.underlying3 (hf 0 _ rfl)
    obtain ⟨a, e1, _⟩ := reads_string Try.underlying9 (hf 1 _ rfl)
    obtain ⟨b, e2, _⟩ := reads_string Try.underlying9 (hf 2 _ rfl)
    obtain ⟨d, e3⟩ := reads_bool Try.underlying4 (hf 3 _ rfl)
    exact ⟨⟨k, a, b, d⟩, by rw [cell_eq (show [c0] = [Value.int .i64 k] from e0), cell_eq (show [c1] = [Value.string a] from e1), cell_eq (show [c2] = [Value.string b] from e2), cell_eq (show [c3] = [Value.bool d] from e3)]; rfl⟩
theorem ops_of {css : List (List Value)} (h : ∀ c ∈ css, c.length = 4 ∧ Reads1 enc Try.prog w base spare held 54 c) : ∃ os : List OpR, css.flatten = oc os ∧ css.length = os.length := by
  induction css with
  | nil => exact ⟨[], rfl, rfl⟩
  | cons c css ih =>
    obtain ⟨os, e1, e2⟩ := ih (fun c hc => h c (List.mem_cons_of_mem _ hc))
    obtain ⟨o, rfl⟩ := op_of (h c (List.mem_cons_self ..)).2
    exact ⟨o :: os, by rw [List.flatten_cons, e1]; rfl, by simp [e2]⟩
/-- A transaction, with where its ops lie. -/
structure TxV where
  num : Int
  nd : Int
  bg : Int
  en : Int
  as_ : Bool
  lo : Bool
  A : Option Addr
  c : Nat
  os : List OpR
def TxV.ov (t : TxV) : Value := .slice t.A t.os.length t.c
def tc1 (t : TxV) : List Value := [.int .u64 t.num, .int .i64 t.nd, .int .i64 t.bg, .int .i64 t.en, .bool t.as_, .bool t.lo, t.ov]
def tc (ts : List TxV) : List Value := ts.flatMap tc1
def TxOk (w : World) (t : TxV) : Prop := Rd w w.heap.size 4 t.ov t.os.length (oc t.os) ∧ (Lit.int .u64 t.num).wf = true ∧ (Lit.int .i64 t.nd).wf = true ∧ (Lit.int .i64 t.bg).wf = true ∧ (Lit.int .i64 t.en).wf = true
theorem tid_of {cs : List Value} (h : Reads1 enc Try.prog w base spare held 30 cs) : ∃ p : Int × Int, cs = [.int .u64 p.1, .int .i64 p.2] ∧ (Lit.int .u64 p.1).wf = true ∧ (Lit.int .i64 p.2).wf = true := by
  obtain ⟨hl, hf⟩ := reads_struct Try.underlying30 h
  have hl2 : cs.length = 2 := hl
  match cs, hl2 with
  | [c0, c1], _ =>
    obtain ⟨k, e0, w0⟩ := reads_int Try.underlying28 (hf 0 _ rfl)
    obtain ⟨v, e1, w1⟩ := reads_int Try.underlying3 (hf 1 _ rfl)
    exact ⟨(k, v), by rw [cell_eq (show [c0] = [Value.int .u64 k] from e0), cell_eq (show [c1] = [Value.int .i64 v] from e1)], w0, w1⟩
theorem txn_of {cs : List Value} (h : Reads1 enc Try.prog w base spare held 39 cs) : ∃ t : TxV, cs = tc1 t ∧ TxOk w t := by
  obtain ⟨hl, hf⟩ := reads_struct Try.underlying39 h
  have hl2 : cs.length = 7 := hl
  match cs, hl2 with
  | [c0, c1, c2, c3, c4, c5, c6], _ =>
    obtain ⟨p, ep, w0, w1⟩ := tid_of (hf 0 _ rfl)
    have ep' : [c0, c1] = [.int .u64 p.1, .int .i64 p.2] := ep
    injection ep' with e0 ep'
    have e1 := cell_eq ep'
    obtain ⟨bg, e2, w2⟩ := reads_int Try.underlying3 (hf 1 _ rfl)
    obtain ⟨en, e3, w3⟩ := reads_int Try.underlying3 (hf 2 _ rfl)
    obtain ⟨as_, e4⟩ := reads_bool Try.underlying4 (hf 3 _ rfl)
    obtain ⟨lo, e5⟩ := reads_bool Try.underlying4 (hf 4 _ rfl)
    obtain ⟨v, n, css, e6, rfl, hr, hc, _⟩ := reads_slice Try.underlying37 (k := 4) rfl (by omega) (hf 5 _ rfl)
    obtain ⟨os, o1, o2⟩ := ops_of hc
    rw [o1, o2] at hr
    have hr' := hr
    obtain ⟨_, A, c, rfl, _⟩ := hr
    exact ⟨⟨p.1, p.2, bg, en, as_, lo, A, c, os⟩, by rw [e0, e1, cell_eq (show [c2] = [Value.int .i64 bg] from e2), cell_eq (show [c3] = [Value.int .i64 en] from e3), cell_eq (show [c4] = [Value.bool as_] from e4), cell_eq (show [c5] = [Value.bool lo] from e5), cell_eq (show [c6] = [Value.slice A os.length c] from e6)]; rfl, hr', w0, w1, w2, w3⟩
theorem txns_of {css : List (List Value)} (h : ∀ c ∈ css, c.length = 7 ∧ Reads1 enc Try.prog w base spare held 39 c) : ∃ ts : List TxV, css.flatten = tc ts ∧ css.length = ts.length ∧ ∀ t ∈ ts, TxOk w t := by
  induction css with
  | nil => exact ⟨[], rfl, rfl, fun _ h => by cases h⟩
  | cons c css ih =>
    obtain ⟨ts, e1, e2, e3⟩ := ih (fun c hc => h c (List.mem_cons_of_mem _ hc))
    obtain ⟨t, rfl, ht⟩ := txn_of (h c (List.mem_cons_self ..)).2
    exact ⟨t :: ts, by rw [List.flatten_cons, e1]; rfl, by simp [e2], fun x hx => (List.mem_cons.1 hx).elim (fun e => e ▸ ht) (e3 x)⟩
theorem txns_val {v : Value} {r : Reach} {b : Nat} (ok : Value.okWide Try.prog w r b 35 v) (h : Reads1 enc Try.prog w base spare held 35 v.cells.toList) : ∃ ts : List TxV, Rd w w.heap.size 7 v ts.length (tc ts) ∧ ∀ t ∈ ts, TxOk w t := by
  obtain ⟨a, l, c, rfl⟩ := okWide_slice Try.underlying35 ok
  obtain ⟨v, n, css, e, rfl, hr, hc, _⟩ := reads_slice Try.underlying35 (k := 7) rfl (by omega) h
  have e' := cell_eq (show [Value.slice a l c] = [v] from e)
  subst e'
  obtain ⟨qs, e1, e2, e3⟩ := txns_of hc
  rw [e1, e2] at hr
  exact ⟨qs, hr, e3⟩
theorem txn_val {v : Value} {r : Reach} {b : Nat} (ok : Value.okWide Try.prog w r b 39 v) (h : Reads1 enc Try.prog w base spare held 39 v.cells.toList) : ∃ t : TxV, v = .agg (tc1 t).toArray ∧ TxOk w t := by
  obtain ⟨cs, rfl, _⟩ := okWide_struct Try.underlying39 ok
  obtain ⟨t, h1, h2⟩ := txn_of h
  exact ⟨t, by rw [← Array.toArray_toList (xs := cs), show cs.toList = tc1 t from h1], h2⟩
def idc1 (p : Int × Int) : List Value := [.int .u64 p.1, .int .i64 p.2]
def idc (ps : List (Int × Int)) : List Value := ps.flatMap idc1
def IdOk (p : Int × Int) : Prop := (Lit.int .u64 p.1).wf = true ∧ (Lit.int .i64 p.2).wf = true
theorem tids_of {css : List (List Value)} (h : ∀ c ∈ css, c.length = 2 ∧ Reads1 enc Try.prog w base spare held 30 c) : ∃ ps : List (Int × Int), css.flatten = idc ps ∧ css.length = ps.length ∧ ∀ p ∈ ps, IdOk p := by
  induction css with
  | nil => exact ⟨[], rfl, rfl, fun _ h => by cases h⟩
  | cons c css ih =>
    obtain ⟨ps, e1, e2, e3⟩ := ih (fun c hc => h c (List.mem_cons_of_mem _ hc))
    obtain ⟨p, rfl, hp⟩ := tid_of (h c (List.mem_cons_self ..)).2
    exact ⟨p :: ps, by rw [List.flatten_cons, e1]; rfl, by simp [e2], fun x hx => (List.mem_cons.1 hx).elim (fun e => e ▸ hp) (e3 x)⟩
theorem tids_val {v : Value} {r : Reach} {b : Nat} (ok : Value.okWide Try.prog w r b 41 v) (h : Reads1 enc Try.prog w base spare held 41 v.cells.toList) : ∃ ps : List (Int × Int), Rd w w.heap.size 2 v ps.length (idc ps) ∧ ∀ p ∈ ps, IdOk p := by
  obtain ⟨a, l, c, rfl⟩ := okWide_slice Try.underlying41 ok
  obtain ⟨v, n, css, e, rfl, hr, hc, _⟩ := reads_slice Try.underlying41 (k := 2) rfl (by omega) h
  have e' := cell_eq (show [Value.slice a l c] = [v] from e)
  subst e'
  obtain ⟨qs, e1, e2, e3⟩ := tids_of hc
  rw [e1, e2] at hr
  exact ⟨qs, hr, e3⟩
theorem one_row (v0 : Value) (ok0 : Value.okWide Try.prog w .any base 45 v0) (h0 : Reads1 enc Try.prog w 0 spare held 45 v0.cells.toList) (k : S) (hk : k.size ≤ 140737488351232) (v : S) (_ : v.size ≤ 140737488351232) :
    Calls Try.prog 6 #[v0, .string k, .string v] w fun e w' => e = .returned (.bool true) ∧ Below w.heap.size w w' := by
  obtain ⟨qs, hr⟩ := pairs_val ok0 h0
  exact one_any head_any w hr k v
#print axioms one_row
end Go.Proofs.Ythkacajlbenflaa.HistA
