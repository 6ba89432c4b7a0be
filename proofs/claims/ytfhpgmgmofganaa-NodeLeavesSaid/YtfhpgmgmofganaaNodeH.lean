/- The law's head: the document's example; the argument's opening. -/
import Derived.Test.YtfhpgmgmofganaaNodeR
set_option linter.unusedVariables false
set_option linter.unusedSimpArgs false
set_option linter.unusedSectionVars false
namespace Go.Proofs.Ytfhpgmgmofganaa.NodeA
open Go.RowKit Go.WideShapes Go.Deep Go.Proofs.Ytfhpgmgmofganaa.Mem Go.Proofs.Ytfhpgmgmofganaa.Open Go.Proofs.Ytfhpgmgmofganaa.Kv
/-- A []string that is handed in. -/
theorem strings_of {H : Type} {enc : TypeId × Value → H} {w : World} {base : Nat} {spare : Nat → Bool} {held : Bool} {v : Value} (h : Reads1 enc Try.prog w base spare held 22 v.cells.toList) (hone : v.cells = #[v]) :
    ∃ keys : List S, Rd w w.heap.size 1 v keys.length (sc keys) ∧ (∀ k ∈ keys, k.size < 9223372036854775807) := by
  obtain ⟨v', n, css, e, hl, hr, hall, hb⟩ := reads_slice Try.underlying22 (k := 1) (by kernel_rfl) (by omega) h
  rw [hone] at e
  obtain rfl : v = v' := by simpa using e
  have hk : ∀ (l : List (List Value)), (∀ c ∈ l, c.length = 1 ∧ Reads1 enc Try.prog w base spare held 9 c) → ∃ keys : List S, l.flatten = sc keys ∧ keys.length = l.length ∧ ∀ k ∈ keys, k.size < 9223372036854775807 := by
    intro l
    induction l with
    | nil => exact fun _ => ⟨[], rfl, rfl, fun k hk => by cases hk⟩
    | cons c l ih =>
      intro hc
      obtain ⟨keys, e1, e2, e3⟩ := ih fun c' h' => hc c' (List.mem_cons_of_mem _ h')
      obtain ⟨s, rfl, hs⟩ := reads_string Try.underlying9 (hc c (List.mem_cons_self ..)).2
      refine ⟨s :: keys, by simp [sc, e1], by simp [e2], fun k hk => ?_⟩
      rcases List.mem_cons.1 hk with rfl | hk
      · omega
      · exact e3 k hk
  obtain ⟨keys, e1, e2, e3⟩ := hk css hall
  rw [e1, ← hl, ← e2] at hr
  exact ⟨keys, hr, e3⟩
/-- A block read whole. -/
theorem rd_row {w : World} {g n : Nat} {cs : Array Value} {e : TypeId} (h : w.heap[g]? = some (.cells cs e (0, 0))) (hn : cs.size = n) (hm : n ≤ maxLen) : Rd w w.heap.size 1 (.slice (some ⟨g, 0, none⟩) n n) n cs.toList :=
  ⟨by simp [hn], _, _, rfl, Nat.le_refl _, hm, fun _ => ⟨g, 0, rfl, (Array.getElem?_eq_some_iff.1 h).1, fun j u hu => by rw [Nat.zero_add, cell_of_row _ _ _ _ _ _ h]; simpa using hu⟩⟩
set_option maxHeartbeats 1000000 in
set_option maxRecDepth 100000 in
theorem head_any (w : World) : Calls Try.prog 8 #[] w fun e w' => e = .returned (.bool true) ∧ Below w.heap.size w w' := by
  have HS : Hid (∀ (W : World) kv vv, PgR W kv vv (.slice none 0 0) ⟨1, [⟨#[97]⟩, ⟨#[98]⟩, ⟨#[99]⟩], [⟨#[49]⟩, ⟨#[50]⟩, ⟨#[51]⟩], []⟩ → Calls Try.prog 12 #[pv 1 kv vv (.slice none 0 0)] W fun e w' => ∃ ka va na kb vb nb, e = .returned (.tuple #[pv 1 ka va na, .string ⟨#[98]⟩, pv 1 kb vb nb]) ∧ PgR w' ka va na ⟨1, [⟨#[97]⟩], [⟨#[49]⟩], []⟩ ∧ PgR w' kb vb nb ⟨1, [⟨#[98]⟩, ⟨#[99]⟩], [⟨#[50]⟩, ⟨#[51]⟩], []⟩ ∧ Below W.heap.size W w') := fun W kv vv h => split_any W h (.inl ⟨rfl, by decide, rfl⟩)
  unfold pv at *
  go_enter Try.func8, Try.ntmps8
  go_wp2_with fail
  have hr0 := Below.heap_alloc (w.alloc (.cells #[.string ⟨#[97]⟩, .string ⟨#[98]⟩, .string ⟨#[99]⟩] 9)) (.cells #[.string ⟨#[49]⟩, .string ⟨#[50]⟩, .string ⟨#[51]⟩] 9) w.heap.size (by simp)
  rw [heap_alloc_new] at hr0
  have hr1 := heap_alloc_new (w.alloc (.cells #[.string ⟨#[97]⟩, .string ⟨#[98]⟩, .string ⟨#[99]⟩] 9)) (.cells #[.string ⟨#[49]⟩, .string ⟨#[50]⟩, .string ⟨#[51]⟩] 9)
  rw [World.size_alloc] at hr1
  have hb0 : Below w.heap.size w ((w.alloc (.cells #[.string ⟨#[97]⟩, .string ⟨#[98]⟩, .string ⟨#[99]⟩] 9)).alloc (.cells #[.string ⟨#[49]⟩, .string ⟨#[50]⟩, .string ⟨#[51]⟩] 9)) := ((Below.refl _ w).alloc (Nat.le_refl _) _).alloc (by simp) _
  refine (HS.out _ _ _ ⟨rd_row hr0 rfl (by decide), rd_row hr1 rfl (by decide), Rd.nil_ _ _ _, by decide⟩).mono ?_
  rintro e W1 ⟨ka, va, na, kb, vb, nb, rfl, ha, hb, hbl⟩
  have HB0 : Hid (Below w.heap.size w W1) := hb0.trans (hbl.mono hb0.size)
  clear hr0 hr1 hb0 hbl HS
  obtain ⟨Aka, cka, Ava, cva, Ana, cna, rfl, rfl, rfl⟩ := ha.forms
  obtain ⟨Akb, ckb, Avb, cvb, Anb, cnb, rfl, rfl, rfl⟩ := hb.forms
  obtain ⟨g, off, c9, e, hg, _, _, hx⟩ := hb.vals.cells (by decide)
  injection e with e1 e2 e3
  clear e2 e3
  subst e1
  have hc : W1.cell? ⟨g, off, none⟩ = some (.string ⟨#[50]⟩) := hx 0 (.string ⟨#[50]⟩) rfl
  clear hx ha hb
  dsimp only [List.length_cons, List.length_nil] at *
  go_wp2_with fail
  go_ret
  exact ⟨rfl, (HB0.out.alloc HB0.out.size _).alloc (by have := HB0.out.size; simp; omega) _⟩
#print axioms head_any
end Go.Proofs.Ytfhpgmgmofganaa.NodeA
