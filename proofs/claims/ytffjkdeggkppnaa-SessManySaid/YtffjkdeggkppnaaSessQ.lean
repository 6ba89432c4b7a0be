/- SessMany: the walk. -/
import Derived.Test.YtffjkdeggkppnaaSessP
set_option linter.unusedVariables false
set_option linter.unusedSimpArgs false
set_option linter.unusedSectionVars false
namespace Go.Proofs.Ytffjkdeggkppnaa.Sess
open Go.RowKit Go.WideShapes Go.Deep Go.Proofs.Ytffjkdeggkppnaa.Mem Go.Proofs.Ytffjkdeggkppnaa.Open Go.Proofs.Ytffjkdeggkppnaa.Maps Go.Proofs.Ytffjkdeggkppnaa.Tid Go.Proofs.Ytffjkdeggkppnaa.KeyA Go.Proofs.Ytffjkdeggkppnaa.Bits
/-- j sessions, from 0 on, each under way. -/
structure AllB (ss : List (Int × (Nat × One))) (j : Nat) : Prop where
  len : ss.length = j
  each : ∀ p ∈ ss, p.1 < (j : Int) ∧ p.2.2.busy = true
theorem AllB.none {ss : List (Int × (Nat × One))} {j : Nat} (h : AllB ss j) : getM ss (j : Int) = none := getM_none.2 fun p hp e => by have := (h.each p hp).1; omega
theorem AllB.more {ss : List (Int × (Nat × One))} {j : Nat} (h : AllB ss j) {g : Nat} {o : One} (ho : o.busy = true) : AllB (setM ss (j : Int) (g, o)) (j + 1) := by
  rw [setM_new (fun p hp e => by have := (h.each p hp).1; omega)]
  refine ⟨by simp [h.len], fun p hp => ?_⟩
  rcases List.mem_append.1 hp with hp | hp
  · have := h.each p hp
    exact ⟨by omega, this.2⟩
  · have e : p = ((j : Int), (g, o)) := by simpa using hp
    subst e
    exact ⟨by show (j : Int) < ((j + 1 : Nat) : Int); omega, ho⟩
theorem AllB.cnt {ss : List (Int × (Nat × One))} {j : Nat} (h : AllB ss j) (hk : Keys1 ss) : cnt ss (ss.map (·.1)) = j := by
  unfold Sess.cnt
  rw [List.filter_eq_self.2, List.length_map, h.len]
  intro k hk'
  obtain ⟨p, hp, rfl⟩ := List.mem_map.1 hk'
  obtain ⟨i, hi⟩ := List.getElem?_of_mem hp
  obtain ⟨a, b⟩ := p
  unfold busyOf
  rw [getM_at hk hi]
  exact (h.each _ hp).2
theorem cal_val {H : Type} {enc : TypeId × Value → H} {w : World} {base : Nat} {spare : Nat → Bool} {held : Bool} {v : Value} {r : Reach} {b : Nat} (ok : Value.okWide Try.prog w r b 30 v) (h : Reads1 enc Try.prog w base spare held 30 v.cells.toList) : ∃ c : Cal, v = calV c ∧ OkI c.sess := by
  obtain ⟨cs, rfl, _⟩ := okWide_struct Try.underlying30 ok
  obtain ⟨c, h1, h2, _⟩ := cal_of h
  exact ⟨c, by unfold calV; rw [← Array.toArray_toList (xs := cs), show cs.toList = _ from h1], h2⟩
set_option maxHeartbeats 4000000 in
set_option maxRecDepth 100000 in
theorem many_any (w : World) (c : Cal) (t : Int × Int) :
    Calls Try.prog 6 #[calV c, .agg #[.int .u64 t.1, .int .i64 t.2]] w fun e w' => e = .returned (.bool true) ∧ Below w.heap.size w w' := by
  obtain ⟨X0, hX0⟩ : ∃ X, X = (w.alloc (calR c)).alloc (tidR t) := ⟨_, rfl⟩
  have HX0 : Hid (Below w.heap.size w X0) := Lib.hid (by rw [hX0]; exact ((Below.refl _ _).alloc (Nat.le_refl _) _).alloc (by simp) _)
  have HCR0 : Hid (X0.heap[w.heap.size]? = some (calR c)) := Lib.hid (by rw [hX0, Below.heap_alloc _ _ _ (by simp)]; exact heap_alloc_new w _)
  have HTR0 : Hid (X0.heap[w.heap.size + 1]? = some (tidR t)) := Lib.hid (by
    rw [hX0]
    have h9 := heap_alloc_new (w.alloc (calR c)) (tidR t)
    rwa [World.size_alloc] at h9)
  obtain ⟨cs, cr, ck, ckey, cval⟩ := c
  unfold calR tidR at hX0
  dsimp only at hX0
  unfold calV
  go_enter Try.func6, Try.ntmps6
  go_upto_region 1 with fail
  rw [← hX0]
  clear hX0
  go_wp2_with fail
  refine (head_any X0).mono ?_
  rintro e w1 ⟨rfl, hb1⟩
  have HB1 : Hid (Below w.heap.size w w1) := HX0.out.trans (hb1.mono HX0.out.size)
  have HTR1 : Hid (w1.heap[w.heap.size + 1]? = some (tidR t)) := Lib.hid ((hb1.block _ (lt_size HTR0.out)).trans HTR0.out)
  have HCR1 : Hid (w1.heap[w.heap.size]? = some (calR ⟨cs, cr, ck, ckey, cval⟩)) := Lib.hid ((hb1.block _ (lt_size HCR0.out)).trans HCR0.out)
  clear hb1 HTR0 HCR0
  go_wp2_with fail
  refine (new_any w1).mono ?_
  rintro e X2 ⟨rfl, hT2, hb2⟩
  have HB2 : Hid (Below w.heap.size w X2) := HB1.out.trans (hb2.mono HB1.out.size)
  have HTR2 : Hid (X2.heap[w.heap.size + 1]? = some (tidR t)) := Lib.hid ((hb2.block _ (lt_size HTR1.out)).trans HTR1.out)
  have HCR2 : Hid (X2.heap[w.heap.size]? = some (calR ⟨cs, cr, ck, ckey, cval⟩)) := Lib.hid ((hb2.block _ (lt_size HCR1.out)).trans HCR1.out)
  have HT2 := Lib.hid hT2
  have HBB : Hid (w.heap.size ≤ w1.heap.size) := Lib.hid HB1.out.size
  clear hb2 hT2 HTR1 HCR1
  go_wp2_with fail
  go_loopw [6] (fun i wr => ∃ (j : Nat) (ss : List (Int × (Nat × One))), j ≤ 100 ∧ i = .int .i64 j ∧ AllB ss j ∧ Tab wr w1.heap.size (w1.heap.size + 1 + 1) w1.heap.size (w1.heap.size + 1) ss [] ∧ Below w.heap.size w wr ∧ wr.heap[w.heap.size]? = some (calR ⟨cs, cr, ck, ckey, cval⟩) ∧ wr.heap[w.heap.size + 1]? = some (tidR t)) (fun i _ => 100 - (intOf i).toNat)
  case atStart => exact ⟨0, [], by omega, rfl, ⟨rfl, fun p hp => absurd hp (by simp)⟩, HT2.out, HB2.out, HCR2.out, HTR2.out⟩
  case round =>
    clear HT2 HB2 HCR2 HTR2
    obtain ⟨j, ss, hj, rfl, hall, htab, hbw, hcr, htr⟩ := hrel
    have HB3 := Lib.hid hbw
    have HT3 := Lib.hid htab
    have HCR3 := Lib.hid hcr
    have HTR3 := Lib.hid htr
    have HALL := Lib.hid hall
    clear hall htab hbw hcr htr
    by_cases hlt : j < 100
    · have i0 : (0 : Int) ≤ (j : Int) := by omega
      have i1 : (j : Int) < 100 := by omega
      have htk := take_new_ok HT3.out ⟨(j : Int), 1, 1, ⟨#[]⟩, ⟨#[]⟩⟩ (okI _ (by dsimp only; omega) (by dsimp only; omega)) (by simp) HALL.out.none rfl (by have := HALL.out.len; omega) sz0 sz0 rfl (by simp [checkZ, zeroO])
      unfold calV ansV zeroA tidV at htk
      try dsimp only at htk
      have HTK := Lib.hid htk
      clear htk
      go_wp2_with fail
      refine HTK.out.mono ?_
      rintro e X4 ⟨rfl, g, hg, hT4, hk4⟩
      clear HTK hg
      have HB4 : Hid (Below w.heap.size w X4) := Lib.hid (HB3.out.trans (hk4.below.mono HBB.out))
      have HCR4 : Hid (X4.heap[w.heap.size]? = some (calR ⟨cs, cr, ck, ckey, cval⟩)) := Lib.hid (hk4.cells _ _ _ _ HCR3.out (by decide))
      have HTR4 : Hid (X4.heap[w.heap.size + 1]? = some (tidR t)) := Lib.hid (hk4.cells _ _ _ _ HTR3.out (by decide))
      clear HB3 HCR3 HTR3 HT3
      have HT4 := Lib.hid hT4
      clear hT4 hk4
      obtain ⟨X5, hX5⟩ : ∃ X, X = (X4.alloc (ansR zeroA)).alloc (tidR (0, 0)) := ⟨_, rfl⟩
      have hb5 : Below X4.heap.size X4 X5 := by rw [hX5]; exact (((Below.refl _ _).alloc (Nat.le_refl _) _).alloc (by simp) _)
      have HB5 : Hid (Below w.heap.size w X5) := Lib.hid (HB4.out.trans (hb5.mono HB4.out.size))
      have HCR5 := Lib.hid ((hb5.block _ (lt_size HCR4.out)).trans HCR4.out)
      have HTR5 := Lib.hid ((hb5.block _ (lt_size HTR4.out)).trans HTR4.out)
      have HT5 := Lib.hid (HT4.out.below hb5)
      clear HB4 HCR4 HTR4 HT4
      clear hb5
      unfold ansR zeroA tidR at hX5
      try dsimp only at hX5
      have HX5 := Lib.hid hX5
      clear hX5
      go_upto_region 8 with fail
      rw [← HX5.out]
      clear HX5
      have HALL2 : Hid (AllB (setM ss (j : Int) (g, called zeroO ⟨(j : Int), 1, 1, ⟨#[]⟩, ⟨#[]⟩⟩)) (j + 1)) := Lib.hid (HALL.out.more rfl)
      go_wp2_with fail
      go_roundw
      case rel => exact ⟨j + 1, _, by omega, by go_num, HALL2.out, HT5.out, HB5.out, HCR5.out, HTR5.out⟩
      case measure => simp [intOf]; omega
    · obtain rfl : j = 100 := by omega
      have i1 : ¬ ((100 : Nat) : Int) < 100 := by omega
      have hlen := HALL.out.len
      clear hlt hj
      have htk := take_none_full HT3.out ⟨100, 1, 1, ⟨#[]⟩, ⟨#[]⟩⟩ (okI _ (by decide) (by decide)) (by decide) (by exact HALL.out.none) rfl (by omega)
      unfold calV ansV badA tidV at htk
      try dsimp only at htk
      have HTK := Lib.hid htk
      clear htk
      go_wp2_with fail
      refine HTK.out.mono ?_
      rintro e X4 ⟨rfl, hb4⟩
      clear HTK
      have HB4 : Hid (Below w.heap.size w X4) := Lib.hid (HB3.out.trans (hb4.mono HB3.out.size))
      have HCR4 := Lib.hid ((hb4.block _ (lt_size HCR3.out)).trans HCR3.out)
      have HTR4 := Lib.hid ((hb4.block _ (lt_size HTR3.out)).trans HTR3.out)
      have HT4 := Lib.hid (HT3.out.below hb4)
      clear HB3 HCR3 HTR3 HT3
      clear hb4
      obtain ⟨X5, hX5⟩ : ∃ X, X = (X4.alloc (ansR ⟨100, 1, 17, ⟨#[]⟩, false, (0, 0)⟩)).alloc (tidR (0, 0)) := ⟨_, rfl⟩
      have hb5 : Below X4.heap.size X4 X5 := by rw [hX5]; exact (((Below.refl _ _).alloc (Nat.le_refl _) _).alloc (by simp) _)
      have hrAR : X5.heap[X4.heap.size]? = some (ansR ⟨100, 1, 17, ⟨#[]⟩, false, (0, 0)⟩) := by rw [hX5, Below.heap_alloc _ _ _ (by simp)]; exact heap_alloc_new _ _
      have HB5 : Hid (Below w.heap.size w X5) := Lib.hid (HB4.out.trans (hb5.mono HB4.out.size))
      have HCR5 := Lib.hid ((hb5.block _ (lt_size HCR4.out)).trans HCR4.out)
      have HTR5 := Lib.hid ((hb5.block _ (lt_size HTR4.out)).trans HTR4.out)
      have HT5 := Lib.hid (HT4.out.below hb5)
      clear HB4 HCR4 HTR4 HT4
      have HAR5 := Lib.hid hrAR
      clear hb5 hrAR
      unfold ansR tidR at hX5
      try dsimp only at hX5
      have HX5 := Lib.hid hX5
      clear hX5
      go_upto_region 11 with fail
      rw [← HX5.out]
      clear HX5
      have htk := take_nil X5 ⟨cs, cr, ck, ckey, cval⟩
      unfold calV ansV badA tidV at htk
      try dsimp only at htk
      have HTK := Lib.hid htk
      clear htk
      obtain ⟨f0, f1, f2, f3, f4⟩ := cal_cells HCR5.out
      dsimp only at f0 f1 f2 f3 f4
      go_wp2_with fail
      refine HTK.out.mono ?_
      rintro e X6 ⟨rfl, hb6⟩
      clear HTK f0 f1 f2 f3 f4
      have HB6 : Hid (Below w.heap.size w X6) := Lib.hid (HB5.out.trans (hb6.mono HB5.out.size))
      have HCR6 := Lib.hid ((hb6.block _ (lt_size HCR5.out)).trans HCR5.out)
      have HTR6 := Lib.hid ((hb6.block _ (lt_size HTR5.out)).trans HTR5.out)
      have HAR6 := Lib.hid ((hb6.block _ (lt_size HAR5.out)).trans HAR5.out)
      have HT6 := Lib.hid (HT5.out.below hb6)
      clear HB5 HCR5 HTR5 HAR5 HT5
      clear hb6
      obtain ⟨X7, hX7⟩ : ∃ X, X = (X6.alloc (ansR ⟨cs, cr, 17, ⟨#[]⟩, false, (0, 0)⟩)).alloc (tidR (0, 0)) := ⟨_, rfl⟩
      have hb7 : Below X6.heap.size X6 X7 := by rw [hX7]; exact (((Below.refl _ _).alloc (Nat.le_refl _) _).alloc (by simp) _)
      have hrBR : X7.heap[X6.heap.size]? = some (ansR ⟨cs, cr, 17, ⟨#[]⟩, false, (0, 0)⟩) := by rw [hX7, Below.heap_alloc _ _ _ (by simp)]; exact heap_alloc_new _ _
      have HB7 : Hid (Below w.heap.size w X7) := Lib.hid (HB6.out.trans (hb7.mono HB6.out.size))
      have HCR7 := Lib.hid ((hb7.block _ (lt_size HCR6.out)).trans HCR6.out)
      have HTR7 := Lib.hid ((hb7.block _ (lt_size HTR6.out)).trans HTR6.out)
      have HAR7 := Lib.hid ((hb7.block _ (lt_size HAR6.out)).trans HAR6.out)
      have HT7 := Lib.hid (HT6.out.below hb7)
      clear HB6 HCR6 HTR6 HAR6 HT6
      have HBR7 := Lib.hid hrBR
      clear hb7 hrBR
      unfold ansR tidR at hX7
      try dsimp only at hX7
      have HX7 := Lib.hid hX7
      clear hX7
      go_upto_region 13 with fail
      rw [← HX7.out]
      clear HX7
      have htk := open_nil X7 cs t
      unfold ansV zeroA at htk
      try dsimp only at htk
      have HTK := Lib.hid htk
      clear htk
      obtain ⟨f0, f1, f2, f3, f4⟩ := cal_cells HCR7.out
      dsimp only at f0 f1 f2 f3 f4
      obtain ⟨y0, y1, yf⟩ := tid_cells HTR7.out
      go_wp2_with fail
      refine HTK.out.mono ?_
      rintro e X8 ⟨rfl, hb8⟩
      clear HTK f0 f1 f2 f3 f4 y0 y1 yf
      have HB8 : Hid (Below w.heap.size w X8) := Lib.hid (HB7.out.trans (hb8.mono HB7.out.size))
      have HCR8 := Lib.hid ((hb8.block _ (lt_size HCR7.out)).trans HCR7.out)
      have HTR8 := Lib.hid ((hb8.block _ (lt_size HTR7.out)).trans HTR7.out)
      have HAR8 := Lib.hid ((hb8.block _ (lt_size HAR7.out)).trans HAR7.out)
      have HBR8 := Lib.hid ((hb8.block _ (lt_size HBR7.out)).trans HBR7.out)
      have HT8 := Lib.hid (HT7.out.below hb8)
      clear HB7 HCR7 HTR7 HAR7 HBR7 HT7
      clear hb8
      obtain ⟨X9, hX9⟩ : ∃ X, X = X8.alloc (ansR zeroA) := ⟨_, rfl⟩
      have hb9 : Below X8.heap.size X8 X9 := by rw [hX9]; exact ((Below.refl _ _).alloc (Nat.le_refl _) _)
      have HB9 : Hid (Below w.heap.size w X9) := Lib.hid (HB8.out.trans (hb9.mono HB8.out.size))
      have HCR9 := Lib.hid ((hb9.block _ (lt_size HCR8.out)).trans HCR8.out)
      have HTR9 := Lib.hid ((hb9.block _ (lt_size HTR8.out)).trans HTR8.out)
      have HAR9 := Lib.hid ((hb9.block _ (lt_size HAR8.out)).trans HAR8.out)
      have HBR9 := Lib.hid ((hb9.block _ (lt_size HBR8.out)).trans HBR8.out)
      have HT9 := Lib.hid (HT8.out.below hb9)
      clear HB8 HCR8 HTR8 HAR8 HBR8 HT8
      clear hb9
      unfold ansR zeroA at hX9
      try dsimp only at hX9
      have HX9 := Lib.hid hX9
      clear hX9
      go_upto_region 14 with fail
      rw [← HX9.out]
      clear HX9
      have htk := fail_nil X9 cs 0
      unfold ansV zeroA at htk
      try dsimp only at htk
      have HTK := Lib.hid htk
      clear htk
      obtain ⟨f0, f1, f2, f3, f4⟩ := cal_cells HCR9.out
      dsimp only at f0 f1 f2 f3 f4
      go_wp2_with fail
      refine HTK.out.mono ?_
      rintro e X10 ⟨rfl, hb10⟩
      clear HTK f0 f1 f2 f3 f4
      have HB10 : Hid (Below w.heap.size w X10) := Lib.hid (HB9.out.trans (hb10.mono HB9.out.size))
      have HCR10 := Lib.hid ((hb10.block _ (lt_size HCR9.out)).trans HCR9.out)
      have HTR10 := Lib.hid ((hb10.block _ (lt_size HTR9.out)).trans HTR9.out)
      have HAR10 := Lib.hid ((hb10.block _ (lt_size HAR9.out)).trans HAR9.out)
      have HBR10 := Lib.hid ((hb10.block _ (lt_size HBR9.out)).trans HBR9.out)
      have HT10 := Lib.hid (HT9.out.below hb10)
      clear HB9 HCR9 HTR9 HAR9 HBR9 HT9
      clear hb10
      obtain ⟨X11, hX11⟩ : ∃ X, X = X10.alloc (ansR zeroA) := ⟨_, rfl⟩
      have hb11 : Below X10.heap.size X10 X11 := by rw [hX11]; exact ((Below.refl _ _).alloc (Nat.le_refl _) _)
      have HB11 : Hid (Below w.heap.size w X11) := Lib.hid (HB10.out.trans (hb11.mono HB10.out.size))
      have HCR11 := Lib.hid ((hb11.block _ (lt_size HCR10.out)).trans HCR10.out)
      have HTR11 := Lib.hid ((hb11.block _ (lt_size HTR10.out)).trans HTR10.out)
      have HAR11 := Lib.hid ((hb11.block _ (lt_size HAR10.out)).trans HAR10.out)
      have HBR11 := Lib.hid ((hb11.block _ (lt_size HBR10.out)).trans HBR10.out)
      have HT11 := Lib.hid (HT10.out.below hb11)
      clear HB10 HCR10 HTR10 HAR10 HBR10 HT10
      clear hb11
      unfold ansR zeroA at hX11
      try dsimp only at hX11
      have HX11 := Lib.hid hX11
      clear hX11
      go_upto_region 15 with fail
      rw [← HX11.out]
      clear HX11
      have htk := told_nil X11 t 0 ⟨#[]⟩ false true
      unfold ansV zeroA at htk
      try dsimp only at htk
      have HTK := Lib.hid htk
      clear htk
      obtain ⟨y0, y1, yf⟩ := tid_cells HTR11.out
      go_wp2_with fail
      refine HTK.out.mono ?_
      rintro e X12 ⟨rfl, hb12⟩
      clear HTK y0 y1 yf
      have HB12 : Hid (Below w.heap.size w X12) := Lib.hid (HB11.out.trans (hb12.mono HB11.out.size))
      have HCR12 := Lib.hid ((hb12.block _ (lt_size HCR11.out)).trans HCR11.out)
      have HTR12 := Lib.hid ((hb12.block _ (lt_size HTR11.out)).trans HTR11.out)
      have HAR12 := Lib.hid ((hb12.block _ (lt_size HAR11.out)).trans HAR11.out)
      have HBR12 := Lib.hid ((hb12.block _ (lt_size HBR11.out)).trans HBR11.out)
      have HT12 := Lib.hid (HT11.out.below hb12)
      clear HB11 HCR11 HTR11 HAR11 HBR11 HT11
      clear hb12
      obtain ⟨X13, hX13⟩ : ∃ X, X = X12.alloc (ansR zeroA) := ⟨_, rfl⟩
      have hb13 : Below X12.heap.size X12 X13 := by rw [hX13]; exact ((Below.refl _ _).alloc (Nat.le_refl _) _)
      have HB13 : Hid (Below w.heap.size w X13) := Lib.hid (HB12.out.trans (hb13.mono HB12.out.size))
      have HCR13 := Lib.hid ((hb13.block _ (lt_size HCR12.out)).trans HCR12.out)
      have HTR13 := Lib.hid ((hb13.block _ (lt_size HTR12.out)).trans HTR12.out)
      have HAR13 := Lib.hid ((hb13.block _ (lt_size HAR12.out)).trans HAR12.out)
      have HBR13 := Lib.hid ((hb13.block _ (lt_size HBR12.out)).trans HBR12.out)
      have HT13 := Lib.hid (HT12.out.below hb13)
      clear HB12 HCR12 HTR12 HAR12 HBR12 HT12
      clear hb13
      unfold ansR zeroA at hX13
      try dsimp only at hX13
      have HX13 := Lib.hid hX13
      clear hX13
      go_upto_region 16 with fail
      rw [← HX13.out]
      clear HX13
      have hl := len_any HT13.out
      have hbz := busy_any HT13.out (by omega)
      rw [HALL.out.cnt HT13.out.fa.keys] at hbz
      rw [hlen] at hl
      have HL := Lib.hid hl
      have HBZ := Lib.hid hbz
      clear hl hbz
      obtain ⟨a0, a1, a2, a3, a4, a5, a6, _⟩ := ans_cells HAR13.out
      dsimp only at a2
      clear a0 a1 a3 a4 a5 a6
      obtain ⟨b0, b1, b2, b3, b4, b5, b6, _⟩ := ans_cells HBR13.out
      dsimp only at b2
      clear b0 b1 b3 b4 b5 b6
      go_wp2_with fail
      refine HL.out.mono ?_
      rintro e w2 ⟨rfl, rfl⟩
      go_wp2_with fail
      refine HBZ.out.mono ?_
      rintro e w3 ⟨⟨A9, c9, rfl⟩, hb9⟩
      have HB9 : Hid (Below w.heap.size w w3) := HB13.out.trans (hb9.mono HB13.out.size)
      obtain ⟨b0, b1, b2', b3, b4, b5, b6, _⟩ := ans_cells ((hb9.block _ (lt_size HBR13.out)).trans HBR13.out)
      dsimp only at b2'
      clear b0 b1 b3 b4 b5 b6 hb9 a2 b2
      go_wp2_with fail
      refine (busy_nil w3).mono ?_
      rintro e w4 ⟨rfl, rfl⟩
      go_wp2_with fail
      refine (len_nil _).mono ?_
      rintro e w5 ⟨rfl, rfl⟩
      go_wp2_with fail
      go_ret
      exact ⟨rfl, HB9.out⟩
theorem many_row {H : Type} {enc : TypeId × Value → H} {w : World} {base : Nat} {spare : Nat → Bool} {held : Bool} (v0 : Value) (ok0 : Value.okWide Try.prog w .any base 30 v0) (h0 : Reads1 enc Try.prog w 0 spare held 30 v0.cells.toList)
    (v1 : Value) (ok1 : Value.okWide Try.prog w .any base 25 v1) (h1 : Reads1 enc Try.prog w 0 spare held 25 v1.cells.toList) :
    Calls Try.prog 6 #[v0, v1] w fun e w' => e = .returned (.bool true) ∧ Below w.heap.size w w' := by
  obtain ⟨c, rfl, _⟩ := cal_val ok0 h0
  obtain ⟨t, rfl, ht⟩ := tid_val ok1 h1
  exact many_any w c t
#print axioms many_row
end Go.Proofs.Ytffjkdeggkppnaa.Sess
