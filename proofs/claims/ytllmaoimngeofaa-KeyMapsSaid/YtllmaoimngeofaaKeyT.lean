/- The law KeyTurns, walked. -/
import Derived.Test.YtllmaoimngeofaaKeyN
import Derived.Test.YtllmaoimngeofaaKeyA
set_option linter.unusedVariables false
set_option linter.unusedSimpArgs false
namespace Go.Proofs.Ytllmaoimngeofaa.KeyT
open Go.RowKit Go.Proofs.Ytllmaoimngeofaa.Mem Go.Proofs.Ytllmaoimngeofaa.Kv Go.Proofs.Ytllmaoimngeofaa.KeyM Go.Proofs.Ytllmaoimngeofaa.KeyN

theorem turns_swap {ps : List P2} (h : Rise ps) (a b x y : S) (hne : a ≠ b) : withL (withL ps a x) b y = withL (withL ps b y) a x := by
  refine rise_ext (rise_with (rise_with h _ _) _ _) (rise_with (rise_with h _ _) _ _) (fun k => ?_)
  rw [getL_with (rise_with h _ _), getL_with h, getL_with (rise_with h _ _), getL_with h]
  by_cases e1 : b = k
  · subst e1; rw [if_pos rfl, if_neg hne, if_pos rfl]
  · rw [if_neg e1, if_neg e1]
theorem turns_again {ps : List P2} (h : Rise ps) (b y : S) : withL (withL ps b y) b y = withL ps b y := by
  refine rise_ext (rise_with (rise_with h _ _) _ _) (rise_with h _ _) (fun k => ?_)
  rw [getL_with (rise_with h _ _), getL_with h]
  split <;> rfl
theorem turns_back {ps : List P2} (h : Rise ps) (a x : S) : withoutL (withL ps a x) a = withoutL ps a := by
  refine rise_ext (rise_without (rise_with h _ _) _) (rise_without h _) (fun k => ?_)
  rw [getL_without (rise_with h _ _), getL_with h, getL_without h]
  split <;> rfl
theorem turns_none {ps : List P2} (h : Rise ps) (a : S) : withoutL (withoutL ps a) a = withoutL ps a := by
  refine rise_ext (rise_without (rise_without h _) _) (rise_without h _) (fun k => ?_)
  rw [getL_without (rise_without h _), getL_without h]
  split <;> rfl
theorem len_with {ps : List P2} (h : Rise ps) (k v : S) : (withL ps k v).length ≤ ps.length + 1 := by
  rw [length_with h]; split <;> omega
theorem len_without {ps : List P2} (h : Rise ps) (k : S) : (withoutL ps k).length ≤ ps.length := by
  rw [length_without h]; split <;> omega

/-- The two boxed arguments hold what they held. -/
def Bx (w W : World) (a b c d : Value) : Prop := W.cell? ⟨w.heap.size, 0, none⟩ = some a ∧ W.cell? ⟨w.heap.size, 1, none⟩ = some b ∧ W.cell? ⟨w.heap.size + 1, 0, none⟩ = some c ∧ W.cell? ⟨w.heap.size + 1, 1, none⟩ = some d
theorem Bx.drew {w W : World} {a b c d : Value} (h : Bx w W a b c d) : Bx w W.drew a b c d := h
theorem Bx.below {w W W' : World} {a b c d : Value} (h : Bx w W a b c d) (hb : Below W.heap.size W W') (hs : w.heap.size + 2 ≤ W.heap.size) : Bx w W' a b c d :=
  ⟨(hb.cell (p := ⟨w.heap.size, 0, none⟩) (by show w.heap.size < _; omega)).trans h.1, (hb.cell (p := ⟨w.heap.size, 1, none⟩) (by show w.heap.size < _; omega)).trans h.2.1,
    (hb.cell (p := ⟨w.heap.size + 1, 0, none⟩) (by show w.heap.size + 1 < _; omega)).trans h.2.2.1, (hb.cell (p := ⟨w.heap.size + 1, 1, none⟩) (by show w.heap.size + 1 < _; omega)).trans h.2.2.2⟩
theorem boxes {w wr : World} {a b c d : Value} {t : TypeId} (h : Below (w.heap.size + 2) ((w.alloc (.cells #[a, b] t)).alloc (.cells #[c, d] t)) wr) :
    wr.cell? ⟨w.heap.size, 0, none⟩ = some a ∧ wr.cell? ⟨w.heap.size, 1, none⟩ = some b ∧ wr.cell? ⟨w.heap.size + 1, 0, none⟩ = some c ∧ wr.cell? ⟨w.heap.size + 1, 1, none⟩ = some d := by
  have h1 : wr.heap[w.heap.size]? = some (.cells #[a, b] t (0, 0)) := by
    rw [h.block _ (by omega), Below.heap_alloc _ _ _ (by simp)]; exact heap_alloc_new w _
  have h2 : wr.heap[w.heap.size + 1]? = some (.cells #[c, d] t (0, 0)) := by
    rw [h.block _ (by omega)]
    have := heap_alloc_new (w.alloc (.cells #[a, b] t)) (.cells #[c, d] t)
    simpa using this
  refine ⟨?_, ?_, ?_, ?_⟩
  · rw [cell_of_row _ _ _ _ _ _ h1]; rfl
  · rw [cell_of_row _ _ _ _ _ _ h1]; rfl
  · rw [cell_of_row _ _ _ _ _ _ h2]; rfl
  · rw [cell_of_row _ _ _ _ _ _ h2]; rfl

set_option maxHeartbeats 2000000 in
set_option maxRecDepth 100000 in
theorem turns_any (v0 : Value) (qs : List P2) (ak av bk bv : S) (w : World) (h : Rd w w.heap.size 2 v0 qs.length (pc qs)) (hk : ∀ p ∈ qs, p.1.size ≤ 140737488351232) (ha : ak.size ≤ 140737488351232) (hb : bk.size ≤ 140737488351232) :
    Calls Try.prog 6 #[v0, .agg #[.string ak, .string av], .agg #[.string bk, .string bv]] w fun e w' => e = .returned (.bool true) ∧ Below w.heap.size w w' := by
  have hlen := h.len_le
  obtain ⟨hl, A, c, rfl, hc1, hc2, hx⟩ := h
  unfold maxLen at hlen
  have HX := Lib.hid hx
  have HK := Lib.hid hk
  clear hx hl hk
  obtain ⟨n, hn⟩ : ∃ n, n = qs.length := ⟨_, rfl⟩
  rw [← hn] at hlen hc1 ⊢
  have HN := Lib.hid hn
  clear hn
  by_cases g1 : 20 < n
  · go_enter Try.func6, Try.ntmps6
    go_wp2_with (go_at_call 9; refine (KeyA.head_any _).mono ?_; rintro e w' ⟨rfl, rfl⟩)
    go_ret
    exact ⟨rfl, ((Below.refl _ _).alloc (Nat.le_refl _) _).alloc (by simp) _⟩
  by_cases g2 : 80 < (ak.size : Int) + (bk.size : Int)
  · go_enter Try.func6, Try.ntmps6
    go_wp2_with (go_at_call 9; refine (KeyA.head_any _).mono ?_; rintro e w' ⟨rfl, rfl⟩)
    go_ret
    exact ⟨rfl, ((Below.refl _ _).alloc (Nat.le_refl _) _).alloc (by simp) _⟩
  go_enter Try.func6, Try.ntmps6
  go_wp2_with (go_at_call 9; refine (KeyA.head_any _).mono ?_; rintro e w' ⟨rfl, rfl⟩)
  go_loopw [7, 9, 31] (fun m _ i wr => ∃ (j : Nat) (ps : List P2), j ≤ n ∧ ps.length ≤ j ∧ i = .int .i64 j ∧ IsMap wr m ps ∧ Below (w.heap.size + 2) ((w.alloc (.cells #[.string ak, .string av] 33)).alloc (.cells #[.string bk, .string bv] 33)) wr) (fun _ _ i _ => n - (intOf i).toNat)
  case atStart => exact ⟨0, [], Nat.zero_le _, Nat.zero_le _, rfl, ⟨⟨rfl, _, _, rfl, Nat.le_refl _, Nat.zero_le _, fun h => absurd h (by decide)⟩, rise_nil, by decide⟩, (Below.refl _ _).alloc (by simp) _⟩
  case round =>
    obtain ⟨j, ps, hj, hpl, rfl, him, hbl⟩ := hrel
    by_cases hlt : j < n
    · obtain ⟨g, off, rfl, hg, hx⟩ := HX.out (by rw [← HN.out]; omega)
      obtain ⟨p, hp⟩ : ∃ p, qs[j]? = some p := ⟨qs[j]'(by rw [← HN.out]; omega), List.getElem?_eq_getElem _⟩
      have hb0 : Below w.heap.size w wr := (((Below.refl _ w).alloc (Nat.le_refl _) _).alloc (by simp) _).trans (hbl.mono (by omega))
      have k0 : wr.cell? ⟨g, off + j * 2, none⟩ = some (.string p.1) := (hb0.cell (p := ⟨g, off + j * 2, none⟩) hg).trans (hx _ _ (pc_key hp))
      have k1 : wr.cell? ⟨g, off + j * 2 + 1, none⟩ = some (.string p.2) := (hb0.cell (p := ⟨g, off + j * 2 + 1, none⟩) hg).trans (hx _ _ (pc_val hp))
      have hps := HK.out p (List.mem_of_getElem? hp)
      have HB := Lib.hid hb0
      have HBL := Lib.hid hbl
      have HIM := Lib.hid him
      have hsz := hb0.size
      clear hx hb0 hbl him hp
      by_cases h40 : 40 < p.1.size
      · go_wp2
        go_ret
        exact ⟨rfl, HB.out.alloc hsz _⟩
      · go_wp2_with fail
        refine (with_any _ (HIM.out.up ((Below.refl _ _).alloc (Nat.le_refl _) _)) p.1 p.2).mono ?_
        rintro e w1 ⟨v1, rfl, hm⟩
        have HM := Lib.hid hm
        clear hm
        go_wp2_with fail
        have hl1 := len_with HIM.out.rise p.1 p.2
        go_roundw
        case rel => exact ⟨j + 1, withL ps p.1 p.2, by omega, by omega, by go_num, HM.out.is (rise_with HIM.out.rise _ _) (by omega), (HBL.out.alloc (by have := HBL.out.size; simp at this; omega) _).trans (HM.out.2.mono (by have := HBL.out.size; simp at this; simp; omega))⟩
        case measure => simp [intOf]; omega
    · obtain ⟨b0, b1, b2, b3⟩ := boxes hbl
      have hszl := hbl.size
      simp only [World.size_alloc] at hszl
      have HBL := Lib.hid hbl
      have HIM := Lib.hid him
      have HIMd : Hid (IsMap wr.drew _ ps) := ⟨him.rd, him.rise, him.len⟩
      have hr := him.rise
      clear hbl him
      go_wp2
      have HL1 := len_with hr ak av
      have HL2 := len_with (rise_with hr ak av) bk bv
      have HL3 := len_with hr bk bv
      have HL4 := len_with (rise_with hr bk bv) ak av
      have HX0 : Hid (Bx w wr (.string ak) (.string av) (.string bk) (.string bv)) := ⟨b0, b1, b2, b3⟩
      go_region_held3 (fun W' => W'.cell? ⟨w.heap.size, 0, none⟩ = some (.string ak) ∧ W'.cell? ⟨w.heap.size, 1, none⟩ = some (.string av) ∧ W'.cell? ⟨w.heap.size + 1, 0, none⟩ = some (.string bk) ∧ W'.cell? ⟨w.heap.size + 1, 1, none⟩ = some (.string bv))
        (first | exact HX0.out | exact HX1.out | exact HX2.out)
        (first
          | (go_at_call 14; (with_reducible refine (with_any (ps := ps) _ HIMd.out ak av).mono ?_); rintro e w1 ⟨x1, rfl, hm1⟩; have HM1 := Lib.hid hm1; have HX1 := Lib.hid ((HX0.out.drew).below hm1.2 hszl); have HS1 := Lib.hid hm1.2.size; clear hm1)
          | (go_at_call 14; (with_reducible refine (with_any (ps := withL ps ak av) _ (HM1.out.is (rise_with hr ak av) (by omega)) bk bv).mono ?_); rintro e w2 ⟨x2, rfl, hm2⟩; have HM2 := Lib.hid hm2; have HX2 := Lib.hid (HX1.out.below hm2.2 (by have := HS1.out; simp at this; omega)); clear hm2))
      have HBw2 := Lib.hid (below_then HM1.out.2 HM1.out.2.size HM2.out.2)
      have hs2 : w.heap.size + 2 ≤ w2.heap.size := by have := HBw2.out.size; simp at this; omega
      have HIM2 : Hid (IsMap w2.drew u7 ps) := ⟨(HIMd.out.up HBw2.out).rd, hr, HIMd.out.len⟩
      obtain ⟨b0', b1', b2', b3'⟩ := HX2.out
      go_wp2
      go_region_held3 (fun W' => W'.cell? ⟨w.heap.size, 0, none⟩ = some (.string ak) ∧ W'.cell? ⟨w.heap.size, 1, none⟩ = some (.string av) ∧ W'.cell? ⟨w.heap.size + 1, 0, none⟩ = some (.string bk) ∧ W'.cell? ⟨w.heap.size + 1, 1, none⟩ = some (.string bv))
        (first | exact HX2.out | exact HX3.out | exact HX4.out)
        (first
          | (go_at_call 14; (with_reducible refine (with_any (ps := ps) _ HIM2.out bk bv).mono ?_); rintro e w3 ⟨x3, rfl, hm3⟩; have HM3 := Lib.hid hm3; have HX3 := Lib.hid ((HX2.out.drew).below hm3.2 hs2); have HS3 := Lib.hid hm3.2.size; clear hm3)
          | (go_at_call 14; (with_reducible refine (with_any (ps := withL ps bk bv) _ (HM3.out.is (rise_with hr bk bv) (by omega)) ak av).mono ?_); rintro e w4 ⟨x4, rfl, hm4⟩; have HM4 := Lib.hid hm4; have HX4 := Lib.hid (HX3.out.below hm4.2 (by have := HS3.out; simp at this; omega)); clear hm4))
      have HBw4 := Lib.hid (below_then HM3.out.2 HM3.out.2.size HM4.out.2)
      have hs4 : w.heap.size + 2 ≤ w4.heap.size := by have := HBw4.out.size; simp at this; omega
      have HIM4 := Lib.hid (HIM2.out.up HBw4.out)
      have HX4' : Hid (IsMap w4 x4 (withL (withL ps bk bv) ak av)) := HM4.out.is (rise_with (rise_with hr bk bv) ak av) (by omega)
      have HX2' : Hid (IsMap w4 x2 (withL (withL ps ak av) bk bv)) := IsMap.up (w := w2.drew) ⟨HM2.out.1.rd, rise_with (rise_with hr ak av) bk bv, by omega⟩ HBw4.out
      obtain ⟨c0, c1, c2, c3⟩ := HX4.out
      have e1 : ∀ x y : S, (x.toList == y.toList) = decide (x = y) := fun x y => by
        rw [ByteArray.toList_eq, ByteArray.toList_eq]
        by_cases h : x = y
        · subst h; simp
        · rw [decide_eq_false h, beq_eq_false_iff_ne]
          exact fun e => h (S_ext e)
      have hB0 : Hid (Below w.heap.size w w4) := by
        have h1 := HBL.out
        have h2 : Below w.heap.size w wr := (((Below.refl _ w).alloc (Nat.le_refl _) _).alloc (by simp) _).trans (h1.mono (by omega))
        have h3 : Below w.heap.size w w2 := (h2.drew).trans (HBw2.out.mono (by simp; omega))
        exact (h3.drew).trans (HBw4.out.mono (by simp; omega))
      by_cases hab : ak = bk
      · have d0 : (ak.toList == bk.toList) = true := by rw [e1, decide_eq_true hab]
        have HX5 := HX4
        have HS5 := Lib.hid hs4
        have HI5 := HIM4
        have HI5x := HX2'
        have HB5 := hB0
        clear e1 hab HX4' HX2' HIM4 HX4 hB0 c0 c1 c2 c3 hs4
        obtain ⟨c0, c1, c2, c3⟩ := HX5.out
        go_wp2_with fail
        refine (with_any _ HI5x.out bk bv).mono ?_
        rintro e w6 ⟨x6, rfl, hm6⟩
        have hB6 := hm6.2
        have HI6 : Hid (IsMap w6 x6 (withL (withL (withL ps ak av) bk bv) bk bv)) := hm6.is (rise_with (rise_with (rise_with hr ak av) bk bv) bk bv) (by have := len_with (rise_with (rise_with hr ak av) bk bv) bk bv; omega)
        have HI6x := Lib.hid (HI5x.out.up hB6)
        have HI6m := Lib.hid (HI5.out.up hB6)
        have HX6 := Lib.hid (HX5.out.below hB6 HS5.out)
        have HS6 : Hid (w.heap.size + 2 ≤ w6.heap.size) := by have := hB6.size; have := HS5.out; show _ ≤ _; omega
        have HB6 := Lib.hid (HB5.out.trans (hB6.mono (by have := HS5.out; omega)))
        clear hm6 hB6 c0 c1 c2 c3
        obtain ⟨c0, c1, c2, c3⟩ := HX6.out
        go_wp2_with fail
        refine (same_rd _ HI6x.out.rd HI6.out.rd).mono ?_
        rintro e w7 ⟨he, hb7⟩
        rw [decide_eq_true (turns_again (rise_with hr ak av) bk bv).symm] at he
        subst he
        have HI7 : Hid (IsMap w7.drew u7 ps) := ⟨(HI6m.out.up hb7).rd, hr, HI6m.out.len⟩
        have HX7 := Lib.hid (HX6.out.below hb7 HS6.out)
        have hs7 : w.heap.size + 2 ≤ w7.heap.size := by have := hb7.size; have := HS6.out; omega
        have HB7 := Lib.hid (HB6.out.trans (hb7.mono (by have := HS6.out; omega)))
        clear hb7 c0 c1 c2 c3
        obtain ⟨c0, c1, c2, c3⟩ := HX7.out
        go_wp2_with fail
        go_region_held3 (fun W' => W'.cell? ⟨w.heap.size, 0, none⟩ = some (.string ak) ∧ W'.cell? ⟨w.heap.size, 1, none⟩ = some (.string av) ∧ W'.cell? ⟨w.heap.size + 1, 0, none⟩ = some (.string bk) ∧ W'.cell? ⟨w.heap.size + 1, 1, none⟩ = some (.string bv))
          (first | exact HX7.out | exact HX8.out | exact HX9.out)
          (first
            | (go_at_call 14; (with_reducible refine (with_any (ps := ps) _ HI7.out ak av).mono ?_); rintro e w8 ⟨x8, rfl, hm8⟩; have HM8 := Lib.hid hm8; have HX8 := Lib.hid ((HX7.out.drew).below hm8.2 hs7); have HS8 := Lib.hid hm8.2.size; clear hm8)
            | (go_at_call 16; (with_reducible refine (without_any (ps := withL ps ak av) _ (HM8.out.is (rise_with hr ak av) (by omega)) ak).mono ?_); rintro e w9 ⟨x9, rfl, hm9⟩; have HM9 := Lib.hid hm9; have HX9 := Lib.hid (HX8.out.below hm9.2 (by have := HS8.out; simp at this; omega)); clear hm9))
        have HB9' := Lib.hid (below_then HM8.out.2 HM8.out.2.size HM9.out.2)
        have hs9 : w.heap.size + 2 ≤ w9.heap.size := by have := HB9'.out.size; simp at this; omega
        have HI9m := Lib.hid (HI7.out.up HB9'.out)
        have HI9 : Hid (IsMap w9 x9 (withoutL ps ak)) := by
          have h := HM9.out.is (rise_without (rise_with hr ak av) ak) (by have := len_without (rise_with hr ak av) ak; omega)
          rw [turns_back hr] at h
          exact h
        have HB9 := Lib.hid ((HB7.out.drew).trans (HB9'.out.mono (by simp; omega)))
        clear c0 c1 c2 c3
        obtain ⟨c0, c1, c2, c3⟩ := HX9.out
        go_wp2_with fail
        refine (without_any _ HI9m.out ak).mono ?_
        rintro e w10 ⟨x10, rfl, hm10⟩
        have HI10 : Hid (IsMap w10 x10 (withoutL ps ak)) := hm10.is (rise_without hr ak) (by have := len_without hr ak; omega)
        have HI10x := Lib.hid (HI9.out.up hm10.2)
        have HX10 := Lib.hid (HX9.out.below hm10.2 hs9)
        have hs10 : w.heap.size + 2 ≤ w10.heap.size := by have := hm10.2.size; omega
        have HB10 := Lib.hid (HB9.out.trans (hm10.2.mono (by omega)))
        clear hm10 c0 c1 c2 c3
        go_wp2_with fail
        refine (same_rd _ HI10x.out.rd HI10.out.rd).mono ?_
        rintro e w11 ⟨he, hb11⟩
        rw [decide_eq_true rfl] at he
        subst he
        have HI11x := Lib.hid (HI10x.out.up hb11)
        have HX11 := Lib.hid (HX10.out.below hb11 hs10)
        have hs11 : w.heap.size + 2 ≤ w11.heap.size := by have := hb11.size; omega
        have HB11 := Lib.hid (HB10.out.trans (hb11.mono (by omega)))
        clear hb11
        obtain ⟨c0, c1, c2, c3⟩ := HX11.out
        go_wp2_with fail
        refine (without_any _ HI11x.out ak).mono ?_
        rintro e w12 ⟨x12, rfl, hm12⟩
        have HI12 : Hid (IsMap w12 x12 (withoutL (withoutL ps ak) ak)) := hm12.is (rise_without (rise_without hr ak) ak) (by have := len_without (rise_without hr ak) ak; have := len_without hr ak; omega)
        have HI12x := Lib.hid (HI11x.out.up hm12.2)
        have HB12 := Lib.hid (HB11.out.trans (hm12.2.mono (by omega)))
        have HS12 : Hid (w.heap.size ≤ w12.heap.size) := by have := hm12.2.size; show _ ≤ _; omega
        clear hm12 c0 c1 c2 c3
        go_wp2_with fail
        refine (same_rd _ HI12x.out.rd HI12.out.rd).mono ?_
        rintro e w13 ⟨he, hb13⟩
        rw [decide_eq_true (turns_none hr ak).symm] at he
        subst he
        have HB13 := Lib.hid (HB12.out.trans (hb13.mono HS12.out))
        clear hb13
        go_wp2_with fail
        go_ret
        exact ⟨rfl, HB13.out⟩
      · have d0 : (ak.toList == bk.toList) = false := by rw [e1, decide_eq_false hab]
        have hsw := turns_swap hr ak bk av bv hab
        have HSW := Lib.hid hsw
        clear e1 hab hsw
        go_wp2_with fail
        refine (same_rd _ HX2'.out.rd HX4'.out.rd).mono ?_
        rintro e w5 ⟨he, hb5⟩
        rw [decide_eq_true HSW.out] at he
        subst he
        have HX5 := Lib.hid (HX4.out.below hb5 hs4)
        have HS5 : Hid (w.heap.size + 2 ≤ w5.heap.size) := by have := hb5.size; show _ ≤ _; omega
        have HI5 := Lib.hid (HIM4.out.up hb5)
        have HI5x := Lib.hid (HX2'.out.up hb5)
        have HB5 := Lib.hid (hB0.out.trans (hb5.mono (by omega)))
        clear HX4' HX2' HIM4 HX4 hB0 c0 c1 c2 c3 hs4 hb5
        obtain ⟨c0, c1, c2, c3⟩ := HX5.out
        go_wp2_with fail
        refine (with_any _ HI5x.out bk bv).mono ?_
        rintro e w6 ⟨x6, rfl, hm6⟩
        have hB6 := hm6.2
        have HI6 : Hid (IsMap w6 x6 (withL (withL (withL ps ak av) bk bv) bk bv)) := hm6.is (rise_with (rise_with (rise_with hr ak av) bk bv) bk bv) (by have := len_with (rise_with (rise_with hr ak av) bk bv) bk bv; omega)
        have HI6x := Lib.hid (HI5x.out.up hB6)
        have HI6m := Lib.hid (HI5.out.up hB6)
        have HX6 := Lib.hid (HX5.out.below hB6 HS5.out)
        have HS6 : Hid (w.heap.size + 2 ≤ w6.heap.size) := by have := hB6.size; have := HS5.out; show _ ≤ _; omega
        have HB6 := Lib.hid (HB5.out.trans (hB6.mono (by have := HS5.out; omega)))
        clear hm6 hB6 c0 c1 c2 c3
        obtain ⟨c0, c1, c2, c3⟩ := HX6.out
        go_wp2_with fail
        refine (same_rd _ HI6x.out.rd HI6.out.rd).mono ?_
        rintro e w7 ⟨he, hb7⟩
        rw [decide_eq_true (turns_again (rise_with hr ak av) bk bv).symm] at he
        subst he
        have HI7 : Hid (IsMap w7.drew u7 ps) := ⟨(HI6m.out.up hb7).rd, hr, HI6m.out.len⟩
        have HX7 := Lib.hid (HX6.out.below hb7 HS6.out)
        have hs7 : w.heap.size + 2 ≤ w7.heap.size := by have := hb7.size; have := HS6.out; omega
        have HB7 := Lib.hid (HB6.out.trans (hb7.mono (by have := HS6.out; omega)))
        clear hb7 c0 c1 c2 c3
        obtain ⟨c0, c1, c2, c3⟩ := HX7.out
        go_wp2_with fail
        go_region_held3 (fun W' => W'.cell? ⟨w.heap.size, 0, none⟩ = some (.string ak) ∧ W'.cell? ⟨w.heap.size, 1, none⟩ = some (.string av) ∧ W'.cell? ⟨w.heap.size + 1, 0, none⟩ = some (.string bk) ∧ W'.cell? ⟨w.heap.size + 1, 1, none⟩ = some (.string bv))
          (first | exact HX7.out | exact HX8.out | exact HX9.out)
          (first
            | (go_at_call 14; (with_reducible refine (with_any (ps := ps) _ HI7.out ak av).mono ?_); rintro e w8 ⟨x8, rfl, hm8⟩; have HM8 := Lib.hid hm8; have HX8 := Lib.hid ((HX7.out.drew).below hm8.2 hs7); have HS8 := Lib.hid hm8.2.size; clear hm8)
            | (go_at_call 16; (with_reducible refine (without_any (ps := withL ps ak av) _ (HM8.out.is (rise_with hr ak av) (by omega)) ak).mono ?_); rintro e w9 ⟨x9, rfl, hm9⟩; have HM9 := Lib.hid hm9; have HX9 := Lib.hid (HX8.out.below hm9.2 (by have := HS8.out; simp at this; omega)); clear hm9))
        have HB9' := Lib.hid (below_then HM8.out.2 HM8.out.2.size HM9.out.2)
        have hs9 : w.heap.size + 2 ≤ w9.heap.size := by have := HB9'.out.size; simp at this; omega
        have HI9m := Lib.hid (HI7.out.up HB9'.out)
        have HI9 : Hid (IsMap w9 x9 (withoutL ps ak)) := by
          have h := HM9.out.is (rise_without (rise_with hr ak av) ak) (by have := len_without (rise_with hr ak av) ak; omega)
          rw [turns_back hr] at h
          exact h
        have HB9 := Lib.hid ((HB7.out.drew).trans (HB9'.out.mono (by simp; omega)))
        clear c0 c1 c2 c3
        obtain ⟨c0, c1, c2, c3⟩ := HX9.out
        go_wp2_with fail
        refine (without_any _ HI9m.out ak).mono ?_
        rintro e w10 ⟨x10, rfl, hm10⟩
        have HI10 : Hid (IsMap w10 x10 (withoutL ps ak)) := hm10.is (rise_without hr ak) (by have := len_without hr ak; omega)
        have HI10x := Lib.hid (HI9.out.up hm10.2)
        have HX10 := Lib.hid (HX9.out.below hm10.2 hs9)
        have hs10 : w.heap.size + 2 ≤ w10.heap.size := by have := hm10.2.size; omega
        have HB10 := Lib.hid (HB9.out.trans (hm10.2.mono (by omega)))
        clear hm10 c0 c1 c2 c3
        go_wp2_with fail
        refine (same_rd _ HI10x.out.rd HI10.out.rd).mono ?_
        rintro e w11 ⟨he, hb11⟩
        rw [decide_eq_true rfl] at he
        subst he
        have HI11x := Lib.hid (HI10x.out.up hb11)
        have HX11 := Lib.hid (HX10.out.below hb11 hs10)
        have hs11 : w.heap.size + 2 ≤ w11.heap.size := by have := hb11.size; omega
        have HB11 := Lib.hid (HB10.out.trans (hb11.mono (by omega)))
        clear hb11
        obtain ⟨c0, c1, c2, c3⟩ := HX11.out
        go_wp2_with fail
        refine (without_any _ HI11x.out ak).mono ?_
        rintro e w12 ⟨x12, rfl, hm12⟩
        have HI12 : Hid (IsMap w12 x12 (withoutL (withoutL ps ak) ak)) := hm12.is (rise_without (rise_without hr ak) ak) (by have := len_without (rise_without hr ak) ak; have := len_without hr ak; omega)
        have HI12x := Lib.hid (HI11x.out.up hm12.2)
        have HB12 := Lib.hid (HB11.out.trans (hm12.2.mono (by omega)))
        have HS12 : Hid (w.heap.size ≤ w12.heap.size) := by have := hm12.2.size; show _ ≤ _; omega
        clear hm12 c0 c1 c2 c3
        go_wp2_with fail
        refine (same_rd _ HI12x.out.rd HI12.out.rd).mono ?_
        rintro e w13 ⟨he, hb13⟩
        rw [decide_eq_true (turns_none hr ak).symm] at he
        subst he
        have HB13 := Lib.hid (HB12.out.trans (hb13.mono HS12.out))
        clear hb13
        go_wp2_with fail
        go_ret
        exact ⟨rfl, HB13.out⟩
end Go.Proofs.Ytllmaoimngeofaa.KeyT
