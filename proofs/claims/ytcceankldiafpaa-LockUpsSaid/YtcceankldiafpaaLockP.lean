/- LockUps: the walk; arguments opened. -/
import Derived.Test.YtcceankldiafpaaLockO
set_option linter.unusedVariables false
set_option linter.unusedSimpArgs false
set_option linter.unusedSectionVars false
set_option maxRecDepth 100000
namespace Go.Proofs.Ytcceankldiafpaa.Lock
open Go.RowKit Go.WideShapes Go.Deep Go.Proofs.Ytcceankldiafpaa.Mem Go.Proofs.Ytcceankldiafpaa.Open Go.Proofs.Ytcceankldiafpaa.Maps
def Free2 (w : World) (B lt mb : Nat) (k : S) (l' : Line) (N : Nat) (t : Wt) (e : Ending) (w' : World) : Prop := ∃ g off c, e = .returned (.slice (some ⟨g, off, none⟩) 1 c) ∧ g < w'.heap.size ∧
  (w'.cell? ⟨g, off, none⟩ = some (.int .u64 t.num) ∧ w'.cell? ⟨g, off + 1, none⟩ = some (.int .i64 t.nd) ∧ w'.cell? ⟨g, off + 2, none⟩ = some (.string k) ∧ w'.cell? ⟨g, off + 3, none⟩ = some (.int .i64 t.md)) ∧ (∃ qs', One1 w' B lt mb k l' (N + N) qs') ∧ Below B w w'
theorem One1.free_one {w : World} {B lt mb : Nat} {k : S} {l l' : Line} {t : Wt} {N : Nat} {qs : List (S × Qv)} (h : One1 w B lt mb k l N qs) (p : Int × Int) (hN : N ≤ 100) (hl : l ≠ ([], [])) (hf : freeL l p = (l', [t])) :
    Calls Try.prog 14 #[.pointer (some ⟨lt, 0, none⟩), .agg #[.int .u64 p.1, .int .i64 p.2]] w (Free2 w B lt mb k l' N t) := by
  refine (h.free p hN hl hf).mono ?_
  rintro e w' ⟨A, c, he, hg, hq, hb⟩
  obtain ⟨g, off, c', ev, hlt, _, _, hx⟩ := (Own.rd hg).cells (by rw [grs_len]; exact Nat.zero_lt_one)
  injection ev with e1 e2 e3
  subst e1
  have hcs : gc (grs k [t]) = Gr.cs (t, k) := by simp [gc, grs]
  rw [hcs] at hx
  exact ⟨g, off, c, he, hlt, ⟨hx 0 _ rfl, hx 1 _ rfl, hx 2 _ rfl, hx 3 _ rfl⟩, hq, hb⟩
def Has1 (W : World) (n : Nat) (e : Ending) (w' : World) : Prop := ∃ A c, e = .returned (.slice A n c) ∧ Below W.heap.size W w'
theorem One1.has {w : World} {B lt mb : Nat} {k : S} {l : Line} {N : Nat} {qs : List (S × Qv)} (h : One1 w B lt mb k l N qs) (hk : OkS k) (hN : N ≤ 50000) {n : Nat} (hn : n = l.1.length) {V : World} (hb : Below w.heap.size w V) :
    Calls Try.prog 15 #[.pointer (some ⟨lt, 0, none⟩), .string k] V (Has1 w n) := by
  refine (has_any (h.tb.below hb) hk hN h.bnd).mono ?_
  rintro e w' ⟨A, c, he, _, hb'⟩
  rw [h.line, ← hn] at he
  exact ⟨A, c, he, hb.trans (hb'.mono hb.size)⟩
set_option maxHeartbeats 8000000 in
theorem ups_any (w : World) (a b : Int × Int) (k : S) (hk : k.size ≤ 140737488351232) :
    Calls Try.prog 3 #[.agg #[.int .u64 a.1, .int .i64 a.2], .agg #[.int .u64 b.1, .int .i64 b.2], .string k] w fun e w' => e = .returned (.bool true) ∧ Below w.heap.size w w' := by
  have HK : Hid (OkS k) := Lib.hid (by unfold OkS maxLen; omega)
  go_enter Try.func3, Try.ntmps3
  go_upto_region 1 with fail
  obtain ⟨ga, hga⟩ : ∃ g, g = w.heap.size := ⟨_, rfl⟩
  obtain ⟨X0, hX⟩ : ∃ X, X = (w.alloc (.cells #[.int .u64 a.1, .int .i64 a.2] 24)).alloc (.cells #[.int .u64 b.1, .int .i64 b.2] 24) := ⟨_, rfl⟩
  rw [← hX, ← hga]
  have HXB0 : Hid (Below w.heap.size w X0) := Lib.hid (by rw [hX]; exact ((Below.refl _ _).alloc (Nat.le_refl _) _).alloc (by simp) _)
  have HXa0 : Hid (X0.heap[ga]? = some (.cells #[.int .u64 a.1, .int .i64 a.2] 24 (0, 0))) := Lib.hid (by rw [hX, hga]; exact (Below.heap_alloc _ _ _ (by simp)).trans (heap_alloc_new w _))
  have HXb0 : Hid (X0.heap[ga + 1]? = some (.cells #[.int .u64 b.1, .int .i64 b.2] 24 (0, 0))) := Lib.hid (by rw [hX, hga]; have := heap_alloc_new (w.alloc (.cells #[.int .u64 a.1, .int .i64 a.2] 24)) (.cells #[.int .u64 b.1, .int .i64 b.2] 24); simpa using this)
  clear hX hga
  go_upto_region 3 with (go_at_call 10; refine (head_any X0).mono ?_; rintro e X ⟨rfl, hb1⟩; have HXB1 := Lib.hid hb1; clear hb1)
  have HXB : Hid (Below w.heap.size w X) := Lib.hid (HXB0.out.trans (HXB1.out.mono HXB0.out.size))
  have HXa := Lib.hid (blk_below HXa0.out HXB1.out)
  have HXb := Lib.hid (blk_below HXb0.out HXB1.out)
  have HC : Hid (∀ V, Below X.heap.size X V → V.cell? ⟨ga, 0, none⟩ = some (.int .u64 a.1) ∧ V.cell? ⟨ga, 1, none⟩ = some (.int .i64 a.2) ∧ V.cell? ⟨ga + 1, 0, none⟩ = some (.int .u64 b.1) ∧ V.cell? ⟨ga + 1, 1, none⟩ = some (.int .i64 b.2)) := Lib.hid (fun V hb => ⟨(row2c (blk_below HXa.out hb)).1, (row2c (blk_below HXa.out hb)).2, (row2c (blk_below HXb.out hb)).1, (row2c (blk_below HXb.out hb)).2⟩)
  clear HXB0 HXa0 HXb0 HXB1
  by_cases hlong : 40 < k.size
  · go_wp2_with fail
    go_ret
    exact ⟨rfl, HXB.out⟩
  obtain ⟨el, hel⟩ : ∃ x, x = elder a b := ⟨_, rfl⟩
  have HEL := Lib.hid hel
  have HE := Lib.hid (elderL_any X a b)
  rw [← hel] at HE
  clear hel
  obtain ⟨a0, a1, b0, b1⟩ := HC.out X (Below.refl _ _)
  cases el with
  | false =>
    go_wp2_with (go_at_call 11; refine HE.out.mono ?_; rintro e W1 ⟨rfl, hb1⟩; have HB1 := Lib.hid hb1; clear hb1)
    go_ret
    exact ⟨rfl, HXB.out.trans (HB1.out.mono HXB.out.size)⟩
  | true =>
    go_upto_region 5 with (go_at_call 11; refine HE.out.mono ?_; rintro e W1 ⟨rfl, hb1⟩; have HB1 := Lib.hid hb1; clear hb1)
    have hX1 := HB1.out.size
    clear a0 a1 b0 b1
    go_upto_region 6 with (go_at_call 12; refine (new_any W1).mono ?_; rintro e W2 ⟨rfl, ht2, hb2⟩; have HT2 := Lib.hid ht2; have HB2 : Hid (Below X.heap.size X W2) := Lib.hid (HB1.out.trans (hb2.mono HB1.out.size)); clear ht2 hb2)
    have HA11 := Lib.hid ((One1.new HT2.out k).ask HK.out a 1 (by omega) (u1 a))
    try dsimp only at HA11
    obtain ⟨a0, a1, b0, b1⟩ := HC.out W2 HB2.out
    go_upto_region 8 with (go_at_call 13; first
    | (refine HA11.out.mono ?_; rintro e w11 ⟨rfl, ⟨qs11, ho11⟩, hb11⟩; have HO11 := Lib.hid ho11; have HB11 : Hid (Below X.heap.size X w11) := Lib.hid (HB2.out.trans (hb11.mono hX1)); have HA12 := Lib.hid (ho11.ask HK.out a 2 (by omega) (u2 a)); (try dsimp only at HA12); obtain ⟨a0, a1, b0, b1⟩ := HC.out w11 HB11.out; clear ho11 hb11 HA11)
    | (refine HA12.out.mono ?_; rintro e w12 ⟨rfl, ⟨qs12, ho12⟩, hb12⟩; have HO12 := Lib.hid ho12; have HB12 : Hid (Below X.heap.size X w12) := Lib.hid (HB11.out.trans (hb12.mono hX1)); have HA13 := Lib.hid (ho12.ask HK.out a 1 (by omega) (u3 a)); (try dsimp only at HA13); obtain ⟨a0, a1, b0, b1⟩ := HC.out w12 HB12.out; clear ho12 hb12 HA12)
    | (refine HA13.out.mono ?_; rintro e w13 ⟨rfl, ⟨qs13, ho13⟩, hb13⟩; have HO13 := Lib.hid ho13; have HB13 : Hid (Below X.heap.size X w13) := Lib.hid (HB12.out.trans (hb13.mono hX1)); have HA14 := Lib.hid (ho13.ask HK.out b 1 (by omega) (u4 HEL.out.symm)); (try dsimp only at HA14); obtain ⟨a0, a1, b0, b1⟩ := HC.out w13 HB13.out; clear ho13 hb13 HA13)
    | (refine HA14.out.mono ?_; rintro e w14 ⟨rfl, ⟨qs14, ho14⟩, hb14⟩; have HO14 := Lib.hid ho14; have HB14 : Hid (Below X.heap.size X w14) := Lib.hid (HB13.out.trans (hb14.mono hX1)); obtain ⟨a0, a1, b0, b1⟩ := HC.out w14 HB14.out; clear ho14 hb14 HA14))
    have hX2 := HB14.out.size
    clear a0 a1 b0 b1
    go_upto_region 9 with (go_at_call 12; refine (new_any w14).mono ?_; rintro e W3 ⟨rfl, ht3, hb3⟩; have HT3 := Lib.hid ht3; have HB3 : Hid (Below X.heap.size X W3) := Lib.hid (HB14.out.trans (hb3.mono HB14.out.size)); clear ht3 hb3)
    have HA21 := Lib.hid ((One1.new HT3.out k).ask HK.out a 1 (by omega) (u1 a))
    try dsimp only at HA21
    obtain ⟨a0, a1, b0, b1⟩ := HC.out W3 HB3.out
    go_upto_region 11 with (go_at_call 13; first
    | (refine HA21.out.mono ?_; rintro e w21 ⟨rfl, ⟨qs21, ho21⟩, hb21⟩; have HO21 := Lib.hid ho21; have HB21 : Hid (Below X.heap.size X w21) := Lib.hid (HB3.out.trans (hb21.mono hX2)); have HA22 := Lib.hid (ho21.ask HK.out b 1 (by omega) (u5 HEL.out.symm)); (try dsimp only at HA22); obtain ⟨a0, a1, b0, b1⟩ := HC.out w21 HB21.out; clear ho21 hb21 HA21)
    | (refine HA22.out.mono ?_; rintro e w22 ⟨rfl, ⟨qs22, ho22⟩, hb22⟩; have HO22 := Lib.hid ho22; have HB22 : Hid (Below X.heap.size X w22) := Lib.hid (HB21.out.trans (hb22.mono hX2)); have HA23 := Lib.hid (ho22.ask HK.out a 2 (by omega) (u6 HEL.out.symm)); (try dsimp only at HA23); obtain ⟨a0, a1, b0, b1⟩ := HC.out w22 HB22.out; clear ho22 hb22 HA22)
    | (refine HA23.out.mono ?_; rintro e w23 ⟨rfl, ⟨qs23, ho23⟩, hb23⟩; have HO23 := Lib.hid ho23; have HB23 : Hid (Below X.heap.size X w23) := Lib.hid (HB22.out.trans (hb23.mono hX2)); have HA24 := Lib.hid (ho23.ask HK.out b 2 (by omega) (u7 HEL.out.symm)); (try dsimp only at HA24); obtain ⟨a0, a1, b0, b1⟩ := HC.out w23 HB23.out; clear ho23 hb23 HA23)
    | (refine HA24.out.mono ?_; rintro e w24 ⟨rfl, ⟨qs24, ho24⟩, hb24⟩; have HO24 := Lib.hid ho24; have HB24 : Hid (Below X.heap.size X w24) := Lib.hid (HB23.out.trans (hb24.mono hX2)); obtain ⟨a0, a1, b0, b1⟩ := HC.out w24 HB24.out; clear ho24 hb24 HA24))
    have HFR := Lib.hid (HO24.out.free_one b (by omega) (by intro e; cases e) (u8 HEL.out.symm))
    go_upto_region 12 with (go_at_call 14; refine HFR.out.mono ?_; rintro e W4 ⟨g4, o4, c4, rfl, hl4, hc4, ⟨qs4, ho4⟩, hb4⟩; have HL4 := Lib.hid hl4; have HC4 := Lib.hid hc4; have HO4 := Lib.hid ho4; have HB4 : Hid (Below X.heap.size X W4) := Lib.hid (HB24.out.trans (hb4.mono hX2)); clear hl4 hc4 ho4 hb4)
    clear a0 a1 b0 b1
    have HHAS : Hid (∀ V, Below W4.heap.size W4 V → Calls Try.prog 15 #[.pointer (some ⟨w14.heap.size + 1, 0, none⟩), .string k] V (Has1 W4 1)) := Lib.hid (fun V hb => HO4.out.has HK.out (by omega) rfl hb)
    have HS : Hid (∀ V, Below W4.heap.size W4 V → (V.cell? ⟨g4, o4, none⟩ = some (.int .u64 a.1) ∧ V.cell? ⟨g4, o4 + 1, none⟩ = some (.int .i64 a.2) ∧ V.cell? ⟨g4, o4 + 2, none⟩ = some (.string k) ∧ V.cell? ⟨g4, o4 + 3, none⟩ = some (.int .i64 2)) ∧ V.cell? ⟨ga, 0, none⟩ = some (.int .u64 a.1) ∧ V.cell? ⟨ga, 1, none⟩ = some (.int .i64 a.2)) := Lib.hid (fun V hb => by
      have h1 := HC.out V (HB4.out.trans (hb.mono HB4.out.size))
      have h2 := HC4.out
      have hl := HL4.out
      exact ⟨⟨(hb.cell (p := ⟨g4, o4, none⟩) hl).trans h2.1, (hb.cell (p := ⟨g4, o4 + 1, none⟩) hl).trans h2.2.1, (hb.cell (p := ⟨g4, o4 + 2, none⟩) hl).trans h2.2.2.1, (hb.cell (p := ⟨g4, o4 + 3, none⟩) hl).trans h2.2.2.2⟩, h1.1, h1.2.1⟩)
    go_region_held3 (fun V => (V.cell? ⟨g4, o4, none⟩ = some (.int .u64 a.1) ∧ V.cell? ⟨g4, o4 + 1, none⟩ = some (.int .i64 a.2) ∧ V.cell? ⟨g4, o4 + 2, none⟩ = some (.string k) ∧ V.cell? ⟨g4, o4 + 3, none⟩ = some (.int .i64 2)) ∧ V.cell? ⟨ga, 0, none⟩ = some (.int .u64 a.1) ∧ V.cell? ⟨ga, 1, none⟩ = some (.int .i64 a.2))
      ((first | (refine HS.out _ ?_; repeat (first | with_reducible exact Below.refl _ _ | exact HB5.out | with_reducible refine Below.drew ?_))))
      ((first | (go_at_call 15; refine (HHAS.out _ ?_).mono ?_; (repeat (first | with_reducible exact Below.refl _ _ | with_reducible refine Below.drew ?_)); rintro e w5 ⟨A5, c5, rfl, hb5⟩; have HB5 := Lib.hid hb5; clear hb5)))
    all_goals
      rename_i hheld
      clear hheld
      go_wp2_with fail
      go_ret
      exact ⟨rfl, HXB.out.trans ((HB4.out.trans (HB5.out.mono HB4.out.size)).mono HXB.out.size)⟩
#print axioms ups_any
theorem ups_row {H : Type} {enc : TypeId × Value → H} {w : World} {base : Nat} {spare : Nat → Bool} {held : Bool}
    (v0 : Value) (ok0 : Value.okWide Try.prog w .any base 24 v0) (h0 : Reads1 enc Try.prog w 0 spare held 24 v0.cells.toList)
    (v1 : Value) (ok1 : Value.okWide Try.prog w .any base 24 v1) (h1 : Reads1 enc Try.prog w 0 spare held 24 v1.cells.toList) (k : S) (hk : k.size ≤ 140737488351232) :
    Calls Try.prog 3 #[v0, v1, .string k] w fun e w' => e = .returned (.bool true) ∧ Below w.heap.size w w' := by
  obtain ⟨a, rfl, _⟩ := tid_val ok0 h0
  obtain ⟨b, rfl, _⟩ := tid_val ok1 h1
  exact ups_any w a b k hk
#print axioms ups_row
end Go.Proofs.Ytcceankldiafpaa.Lock
