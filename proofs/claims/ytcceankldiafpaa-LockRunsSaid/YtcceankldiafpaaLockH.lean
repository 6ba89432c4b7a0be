/- LockNil: the nil table's methods, the walk; arguments opened. -/
import Derived.Test.YtcceankldiafpaaLockG
set_option linter.unusedVariables false
set_option linter.unusedSimpArgs false
set_option linter.unusedSectionVars false
set_option maxRecDepth 100000
namespace Go.Proofs.Ytcceankldiafpaa.Lock
open Go.RowKit Go.WideShapes Go.Deep Go.Proofs.Ytcceankldiafpaa.Mem Go.Proofs.Ytcceankldiafpaa.Open Go.Proofs.Ytcceankldiafpaa.Maps
set_option maxHeartbeats 1000000 in
set_option maxRecDepth 100000 in
theorem ask_nil (w : World) (p : Int × Int) (k : S) (m : Int) : Calls Try.prog 13 #[.pointer none, .agg #[.int .u64 p.1, .int .i64 p.2], .string k, .int .i64 m] w fun e w' => e = .returned (.int .i64 3) ∧ Below w.heap.size w w' := by
  go_enter Try.func13, Try.ntmps13
  go_wp2_with fail
  go_ret
  exact ⟨rfl, ((Below.refl _ _).alloc (Nat.le_refl _) _).alloc (by simp) _⟩
set_option maxHeartbeats 1000000 in
set_option maxRecDepth 100000 in
theorem free_nil (w : World) (p : Int × Int) : Calls Try.prog 14 #[.pointer none, .agg #[.int .u64 p.1, .int .i64 p.2]] w fun e w' => e = .returned (.slice none 0 0) ∧ Below w.heap.size w w' := by
  go_enter Try.func14, Try.ntmps14
  go_wp2_with fail
  go_ret
  exact ⟨rfl, ((Below.refl _ _).alloc (Nat.le_refl _) _)⟩
set_option maxHeartbeats 1000000 in
set_option maxRecDepth 100000 in
theorem has_nil (w : World) (k : S) : Calls Try.prog 15 #[.pointer none, .string k] w fun e w' => e = .returned (.slice none 0 0) ∧ w' = w := by
  go_enter Try.func15, Try.ntmps15
  go_wp2_with fail
  go_ret
  exact ⟨rfl, rfl⟩
set_option maxHeartbeats 1000000 in
set_option maxRecDepth 100000 in
theorem waiting_nil (w : World) (k : S) : Calls Try.prog 17 #[.pointer none, .string k] w fun e w' => e = .returned (.slice none 0 0) ∧ w' = w := by
  go_enter Try.func17, Try.ntmps17
  go_wp2_with fail
  go_ret
  exact ⟨rfl, rfl⟩
set_option maxHeartbeats 1000000 in
set_option maxRecDepth 100000 in
theorem keys_nil (w : World) (p : Int × Int) : Calls Try.prog 22 #[.pointer none, .agg #[.int .u64 p.1, .int .i64 p.2]] w fun e w' => e = .returned (.slice none 0 0) ∧ Below w.heap.size w w' := by
  go_enter Try.func22, Try.ntmps22
  go_wp2_with fail
  go_ret
  exact ⟨rfl, ((Below.refl _ _).alloc (Nat.le_refl _) _)⟩
set_option maxHeartbeats 1000000 in
set_option maxRecDepth 100000 in
theorem len_nil (w : World) : Calls Try.prog 23 #[.pointer none] w fun e w' => e = .returned (.int .i64 0) ∧ w' = w := by
  go_enter Try.func23, Try.ntmps23
  go_wp2_with fail
  go_ret
  exact ⟨rfl, rfl⟩
set_option maxHeartbeats 4000000 in
set_option maxRecDepth 100000 in
theorem nil_any (w : World) (p : Int × Int) (k : S) (m : Int) : Calls Try.prog 9 #[.agg #[.int .u64 p.1, .int .i64 p.2], .string k, .int .i64 m] w fun e w' => e = .returned (.bool true) ∧ Below w.heap.size w w' := by
  go_enter Try.func9, Try.ntmps9
  go_upto_region 1 with fail
  obtain ⟨gt, hgt⟩ : ∃ g, g = w.heap.size := ⟨_, rfl⟩
  obtain ⟨X, hX⟩ : ∃ X, X = w.alloc (.cells #[.int .u64 p.1, .int .i64 p.2] 24) := ⟨_, rfl⟩
  rw [← hX, ← hgt]
  have HXB : Hid (Below w.heap.size w X) := Lib.hid (by rw [hX]; exact (Below.refl _ _).alloc (Nat.le_refl _) _)
  have HXT : Hid (X.heap[gt]? = some (.cells #[.int .u64 p.1, .int .i64 p.2] 24 (0, 0))) := Lib.hid (by rw [hX, hgt]; exact heap_alloc_new w _)
  clear hX hgt
  go_upto_region 4 with (go_at_call 10; refine (head_any X).mono ?_; rintro e W1 ⟨rfl, hb1⟩; have HB1 := Lib.hid hb1; clear hb1)
  obtain ⟨a0, a1⟩ := row2c (blk_below HXT.out HB1.out)
  go_wp2_with (first
    | (go_at_call 13; refine (ask_nil W1 p k m).mono ?_; rintro e W2 ⟨rfl, hb2⟩; have HB2 := Lib.hid (HB1.out.trans (hb2.mono HB1.out.size)); obtain ⟨b0, b1⟩ := row2c (blk_below HXT.out HB2.out); clear hb2)
    | (go_at_call 14; refine (free_nil W2 p).mono ?_; rintro e W3 ⟨rfl, hb3⟩; have HB3 := Lib.hid (HB2.out.trans (hb3.mono HB2.out.size)); obtain ⟨c0, c1⟩ := row2c (blk_below HXT.out HB3.out); clear hb3)
    | (go_at_call 15; refine (has_nil W3 k).mono ?_; rintro e wz ⟨rfl, hwz⟩; rw [hwz]; clear hwz wz)
    | (go_at_call 17; refine (waiting_nil W3 k).mono ?_; rintro e wz ⟨rfl, hwz⟩; rw [hwz]; clear hwz wz)
    | (go_at_call 22; refine (keys_nil W3 p).mono ?_; rintro e W4 ⟨rfl, hb4⟩; have HB4 := Lib.hid (HB3.out.trans (hb4.mono HB3.out.size)); clear hb4)
    | (go_at_call 23; refine (len_nil W4).mono ?_; rintro e wz ⟨rfl, hwz⟩; rw [hwz]; clear hwz wz))
  go_ret
  exact ⟨rfl, HXB.out.trans (HB4.out.mono HXB.out.size)⟩
#print axioms nil_any
def IdOk (p : Int × Int) : Prop := (Lit.int .u64 p.1).wf = true ∧ (Lit.int .i64 p.2).wf = true
section
variable {H : Type} {enc : TypeId × Value → H} {w : World} {base : Nat} {spare : Nat → Bool} {held : Bool}
theorem cell_eq {c : Value} {d : Value} (h : [c] = [d]) : c = d := by injection h
set_option maxRecDepth 100000 in
theorem tid_of {cs : List Value} (h : Reads1 enc Try.prog w base spare held 24 cs) : ∃ p : Int × Int, cs = [.int .u64 p.1, .int .i64 p.2] ∧ IdOk p := by
  obtain ⟨hl, hf⟩ := reads_struct Try.underlying24 h
  have hl2 : cs.length = 2 := hl
  match cs, hl2 with
  | [c0, c1], _ =>
    obtain ⟨k, e0, w0⟩ := reads_int Try.underlying22 (hf 0 _ rfl)
    obtain ⟨v, e1, w1⟩ := reads_int Try.underlying3 (hf 1 _ rfl)
    exact ⟨(k, v), by rw [cell_eq (show [c0] = [Value.int .u64 k] from e0), cell_eq (show [c1] = [Value.int .i64 v] from e1)], w0, w1⟩
set_option maxRecDepth 100000 in
theorem tid_val {v : Value} {r : Reach} {b : Nat} (ok : Value.okWide Try.prog w r b 24 v) (h : Reads1 enc Try.prog w base spare held 24 v.cells.toList) : ∃ t : Int × Int, v = .agg #[.int .u64 t.1, .int .i64 t.2] ∧ IdOk t := by
  obtain ⟨cs, rfl, _⟩ := okWide_struct Try.underlying24 ok
  obtain ⟨t, h1, h2⟩ := tid_of h
  exact ⟨t, by rw [← Array.toArray_toList (xs := cs), show cs.toList = _ from h1], h2⟩
end
set_option maxRecDepth 100000 in
theorem nil_row {H : Type} {enc : TypeId × Value → H} {w : World} {base : Nat} {spare : Nat → Bool} {held : Bool}
    (v0 : Value) (ok0 : Value.okWide Try.prog w .any base 24 v0) (h0 : Reads1 enc Try.prog w 0 spare held 24 v0.cells.toList) (k : S) (hk : k.size ≤ 140737488351232) (m : Int) (hm : (Lit.int .i64 m).wf = true) :
    Calls Try.prog 9 #[v0, .string k, .int .i64 m] w fun e w' => e = .returned (.bool true) ∧ Below w.heap.size w w' := by
  obtain ⟨p, rfl, hp⟩ := tid_val ok0 h0
  exact nil_any w p k m
#print axioms nil_row
end Go.Proofs.Ytcceankldiafpaa.Lock
