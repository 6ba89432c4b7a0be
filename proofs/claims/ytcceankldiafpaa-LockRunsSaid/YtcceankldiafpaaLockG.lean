/- The table's small methods, on a table and on nil; the head. -/
import Derived.Test.YtcceankldiafpaaLockF
set_option linter.unusedVariables false
set_option linter.unusedSimpArgs false
set_option linter.unusedSectionVars false
namespace Go.Proofs.Ytcceankldiafpaa.Lock
open Go.RowKit Go.WideShapes Go.Deep Go.Proofs.Ytcceankldiafpaa.Mem Go.Proofs.Ytcceankldiafpaa.Open Go.Proofs.Ytcceankldiafpaa.Maps
theorem Nxt.line {qs qs' : List (S × Qv)} {k : S} {l' : Line} (h : Nxt qs k l' qs') : lineOf qs' k = l' := by
  rcases h with ⟨rfl, h⟩ | ⟨q', rfl, h⟩
  · exact h
  · unfold lineOf
    rw [getM_set, if_pos rfl]
    exact h
theorem Nxt.other {qs qs' : List (S × Qv)} {k k' : S} {l' : Line} (h : Nxt qs k l' qs') (hk : k' ≠ k) : lineOf qs' k' = lineOf qs k' := by
  rcases h with ⟨rfl, h⟩ | ⟨q', rfl, h⟩
  · rfl
  · unfold lineOf
    rw [getM_set, if_neg (fun e => hk e.symm)]
def Bnd (qs : List (S × Qv)) (N : Nat) : Prop := ∀ k, (lineOf qs k).1.length + (lineOf qs k).2.length ≤ N
theorem Bnd.rows {qs : List (S × Qv)} {N : Nat} (h : Bnd qs N) {k : S} {q : Qv} (hq : getM qs k = some q) : q.has.length + q.waits.length ≤ N := by
  have := h k
  unfold lineOf at this
  rw [hq] at this
  exact this
theorem giveL_len (has : List Wt) (t : Wt) : (giveL has t).length ≤ has.length + 1 := by
  unfold giveL
  split
  · rw [List.length_set]; omega
  · rw [List.length_append, List.length_cons, List.length_take, List.length_drop]; omega
theorem askL_len (l : Line) (p : Int × Int) (m : Int) : (askL l p m).1.1.length + (askL l p m).1.2.length ≤ l.1.length + l.2.length + 1 := by
  unfold askL
  split
  · exact Nat.le_succ _
  split
  · exact Nat.le_succ _
  split
  · exact Nat.le_succ _
  split
  · exact Nat.le_succ _
  split
  · have := giveL_len l.1 ⟨p.1, p.2, m⟩
    dsimp only
    omega
  split
  · exact Nat.le_succ _
  · dsimp only
    rw [List.length_append, List.length_cons, List.length_take, List.length_drop]
    omega
theorem Nxt.bnd {qs qs' : List (S × Qv)} {k : S} {p : Int × Int} {m : Int} {N : Nat} (h : Nxt qs k (askL (lineOf qs k) p m).1 qs') (hb : Bnd qs N) : Bnd qs' (N + 1) := fun k' => by
  by_cases e : k' = k
  · subst e
    rw [h.line]
    have := askL_len (lineOf qs k') p m
    have := hb k'
    omega
  · rw [h.other e]
    have := hb k'
    omega
/-- What is known behind an Ask. -/
def AskV (w : World) (B lt mb : Nat) (qs : List (S × Qv)) (k : S) (l' : Line) (a : Int) (N : Nat) (e : Ending) (w' : World) : Prop := e = .returned (.int .i64 a) ∧ ∃ qs', Tb w' B lt mb qs' ∧ TGo w w' mb qs qs' ∧ lineOf qs' k = l' ∧ (∀ k', k' ≠ k → lineOf qs' k' = lineOf qs k') ∧ Bnd qs' (N + 1)
theorem ask_val {w : World} {B lt mb : Nat} {qs : List (S × Qv)} (h : Tb w B lt mb qs) {k : S} (hk : OkS k) (p : Int × Int) (m : Int) {N : Nat} (hN : N ≤ 50000) (hb : Bnd qs N) {l l' : Line} {a : Int} (hl : lineOf qs k = l) (hv : askL l p m = (l', a)) :
    Calls Try.prog 13 #[.pointer (some ⟨lt, 0, none⟩), .agg #[.int .u64 p.1, .int .i64 p.2], .string k, .int .i64 m] w (AskV w B lt mb qs k l' a N) := by
  refine (ask_any h hk p m fun k q hq => by have := hb.rows hq; omega).mono ?_
  rintro e w' ⟨he, qs', h1, h2, h3⟩
  have h4 := h3.bnd hb
  rw [hl, hv] at he h3
  exact ⟨he, qs', h1, h2, h3.line, fun k' hk' => h3.other hk', h4⟩
theorem new_any (w : World) : Calls Try.prog 12 #[] w fun e w' => e = .returned (.pointer (some ⟨w.heap.size + 1, 0, none⟩)) ∧ Tb w' w.heap.size (w.heap.size + 1) w.heap.size [] ∧ Below w.heap.size w w' := by
  have hmm := @run_makeMap Try.prog
  go_enter Try.func12, Try.ntmps12
  go_wp2_with fail
  go_ret
  exact ⟨rfl, Tb.new w, ((Below.refl _ _).alloc (Nat.le_refl _) _).alloc (by simp) _⟩
theorem Bnd.nil : Bnd [] 0 := fun k => Nat.le_refl _
theorem Tb.else_ {w w' : World} {B lt mb mb1 : Nat} {qs qs1 : List (S × Qv)} (h : Tb w B lt mb qs) (hg : TGo w w' mb1 [] qs1) (hm : mb1 < B) : Tb w' B lt mb qs := by
  have hf : ∀ g, TFeet mb1 [] g → g = mb1 := fun g hx => by
    rcases hx with e | ⟨_, _, e, _⟩
    · exact e
    · cases e
  refine h.other hg.fr (fun k q hq g h1 h2 => ?_) (fun h2 => ?_) (fun h2 => ?_)
  · have := ((h.rows k q hq).feet h1).1
    have := hf g h2
    omega
  · have := h.ll
    have := hf _ h2
    omega
  · have := h.lm
    have := hf _ h2
    omega
def ka : S := ⟨#[97]⟩
theorem line_nil (k : S) : lineOf [] k = ([], []) := rfl
theorem okA : OkS ka := by unfold OkS ka maxLen; decide
theorem v1 : askL ([], []) (2, 0) 2 = (([⟨2, 0, 2⟩], []), 1) := by rfl
theorem v2 : askL ([⟨2, 0, 2⟩], []) (1, 0) 2 = (([⟨2, 0, 2⟩], [⟨1, 0, 2⟩]), 2) := by rfl
theorem v3 : askL ([], []) (1, 0) 2 = (([⟨1, 0, 2⟩], []), 1) := by rfl
theorem v4 : askL ([⟨1, 0, 2⟩], []) (2, 0) 1 = (([⟨1, 0, 2⟩], []), 3) := by rfl
set_option maxHeartbeats 4000000 in
set_option maxRecDepth 100000 in
theorem head_any (w : World) : Calls Try.prog 10 #[] w fun e w' => e = .returned (.bool true) ∧ Below w.heap.size w w' := by
  go_enter Try.func10, Try.ntmps10
  go_upto_region 3 with fail
  obtain ⟨ga, hga⟩ : ∃ g, g = w.heap.size := ⟨_, rfl⟩
  obtain ⟨X, hX⟩ : ∃ X, X = (w.alloc (.cells #[.int .u64 1, .int .i64 0] 24)).alloc (.cells #[.int .u64 2, .int .i64 0] 24) := ⟨_, rfl⟩
  rw [← hX, ← hga]
  have HXB : Hid (Below w.heap.size w X) := Lib.hid (by rw [hX]; exact ((Below.refl _ _).alloc (Nat.le_refl _) _).alloc (by simp) _)
  have HXa : Hid (X.heap[ga]? = some (.cells #[.int .u64 1, .int .i64 0] 24 (0, 0))) := Lib.hid (by rw [hX, hga]; exact (Below.heap_alloc _ _ _ (by simp)).trans (heap_alloc_new w _))
  have HXb : Hid (X.heap[ga + 1]? = some (.cells #[.int .u64 2, .int .i64 0] 24 (0, 0))) := Lib.hid (by rw [hX, hga]; have := heap_alloc_new (w.alloc (.cells #[.int .u64 1, .int .i64 0] 24)) (.cells #[.int .u64 2, .int .i64 0] 24); simpa using this)
  clear hX hga
  go_upto_region 4 with (go_at_call 12; refine (new_any X).mono ?_; rintro e W1 ⟨rfl, ht1, hb1⟩; have HT1 := Lib.hid ht1; have HB1 := Lib.hid hb1; clear ht1 hb1)
  go_upto_region 5 with (go_at_call 12; refine (new_any W1).mono ?_; rintro e W2 ⟨rfl, ht2, hb2⟩; have HT2 := Lib.hid ht2; have HB2 := Lib.hid hb2; clear ht2 hb2)
  have HT1' := Lib.hid (HT1.out.below HB2.out)
  have hsX1 := HB1.out.size
  have hm1 : X.heap.size < W1.heap.size := HT1.out.fm.lt
  have HBX : Hid (Below X.heap.size X W2) := Lib.hid (HB1.out.trans (HB2.out.mono HB1.out.size))
  have HA1 := Lib.hid (ask_val HT1'.out okA (2, 0) 2 (by omega) Bnd.nil (line_nil ka) v1)
  have HC : Hid (∀ V, Below X.heap.size X V → V.cell? ⟨ga, 0, none⟩ = some (.int .u64 1) ∧ V.cell? ⟨ga, 1, none⟩ = some (.int .i64 0) ∧ V.cell? ⟨ga + 1, 0, none⟩ = some (.int .u64 2) ∧ V.cell? ⟨ga + 1, 1, none⟩ = some (.int .i64 0)) := Lib.hid (fun V hb => ⟨(row2c (blk_below HXa.out hb)).1, (row2c (blk_below HXa.out hb)).2, (row2c (blk_below HXb.out hb)).1, (row2c (blk_below HXb.out hb)).2⟩)
  obtain ⟨a0, a1, b0, b1⟩ := HC.out W2 HBX.out
  unfold ka at HA1
  dsimp only at HA1
  go_wp2_with (go_at_call 13; first
    | (refine HA1.out.mono ?_; rintro e w3 ⟨rfl, qs3, ht3, hg3, hl3, _, hb3⟩; have HT3 := Lib.hid ht3; have HG3 := Lib.hid hg3; have HB3 : Hid (Below X.heap.size X w3) := Lib.hid (HBX.out.trans (hg3.below HT1'.out)); have HA2 := Lib.hid (ask_val ht3 okA (1, 0) 2 (by omega) hb3 hl3 v2); unfold ka at HA2; dsimp only at HA2; obtain ⟨c0, c1, d0, d1⟩ := HC.out w3 HB3.out; clear ht3 hg3 hl3 hb3 HA1)
    | (refine HA2.out.mono ?_; rintro e w4 ⟨rfl, qs4, ht4, hg4, hl4, _, hb4⟩; have HG4 := Lib.hid (HG3.out.trans hg4); have HB4 : Hid (Below X.heap.size X w4) := Lib.hid (HB3.out.trans (hg4.below HT3.out)); have HT5 := Lib.hid (HT2.out.else_ HG4.out hm1); have HA3 := Lib.hid (ask_val HT5.out okA (1, 0) 2 (by omega) Bnd.nil (line_nil ka) v3); unfold ka at HA3; dsimp only at HA3; obtain ⟨e0, e1, f0, f1⟩ := HC.out w4 HB4.out; clear ht4 hg4 hl4 hb4 HA2)
    | (refine HA3.out.mono ?_; rintro e w5 ⟨rfl, qs5, ht5, hg5, hl5, _, hb5⟩; have HT6 := Lib.hid ht5; have HB5 : Hid (Below X.heap.size X w5) := Lib.hid (HB4.out.trans ((hg5.below HT5.out).mono hsX1)); have HA4 := Lib.hid (ask_val ht5 okA (2, 0) 1 (by omega) hb5 hl5 v4); unfold ka at HA4; dsimp only at HA4; obtain ⟨g0, g1, h0, h1⟩ := HC.out w5 HB5.out; clear ht5 hg5 hl5 hb5 HA3)
    | (refine HA4.out.mono ?_; rintro e w6 ⟨rfl, qs6, ht6, hg6, hl6, _, hb6⟩; have HB6 : Hid (Below X.heap.size X w6) := Lib.hid (HB5.out.trans ((hg6.below HT6.out).mono hsX1)); clear ht6 hg6 hl6 hb6 HA4))
  go_ret
  exact ⟨rfl, HXB.out.trans (HB6.out.mono HXB.out.size)⟩
#print axioms head_any
end Go.Proofs.Ytcceankldiafpaa.Lock
