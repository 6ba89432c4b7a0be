/- SessOnce: the walk. -/
import Derived.Test.YtffjkdeggkppnaaSessL
import Derived.Test.YtffjkdeggkppnaaSessN
import Derived.Test.YtffjkdeggkppnaaBits
set_option linter.unusedVariables false
set_option linter.unusedSimpArgs false
set_option linter.unusedSectionVars false
namespace Go.Proofs.Ytffjkdeggkppnaa.Sess
open Go.RowKit Go.WideShapes Go.Deep Go.Proofs.Ytffjkdeggkppnaa.Mem Go.Proofs.Ytffjkdeggkppnaa.Open Go.Proofs.Ytffjkdeggkppnaa.Maps Go.Proofs.Ytffjkdeggkppnaa.Tid Go.Proofs.Ytffjkdeggkppnaa.KeyA Go.Proofs.Ytffjkdeggkppnaa.Bits
theorem sz0 : ByteArray.size ⟨#[]⟩ ≤ 9223372036854775807 := by decide
set_option maxHeartbeats 4000000 in
set_option maxRecDepth 100000 in
theorem once_any (w : World) (n : Int) (hn : OkI n) (t : Int × Int) (ht : IdOk t) (k v : S) (hks : k.size ≤ 140737488351232) (hvs : v.size ≤ 140737488351232) (times : Int) :
    Calls Try.prog 5 #[.int .i64 n, .agg #[.int .u64 t.1, .int .i64 t.2], .string k, .string v, .int .i64 times] w fun e w' => e = .returned (.bool true) ∧ Below w.heap.size w w' := by
  have hks' : k.size ≤ 9223372036854775807 := by omega
  have hvs' : v.size ≤ 9223372036854775807 := by omega
  have hal := andN_le times 7
  have hand : bits .and .i64 times 7 = (andN times 7 : Int) := and_eq times 7 (by decide)
  obtain ⟨m, hm⟩ : ∃ m, m = andN times 7 := ⟨_, rfl⟩
  rw [← hm] at hal hand
  clear hm
  go_enter Try.func5, Try.ntmps5
  go_upto_region 1 with fail
  obtain ⟨X0, hX0⟩ : ∃ X, X = w.alloc (tidR t) := ⟨_, rfl⟩
  have HX0 : Hid (Below w.heap.size w X0) := Lib.hid (by rw [hX0]; exact (Below.refl _ _).alloc (Nat.le_refl _) _)
  have htr0 : X0.heap[w.heap.size]? = some (tidR t) := by rw [hX0]; exact heap_alloc_new w _
  have HTR0 := Lib.hid htr0
  unfold tidR at hX0
  rw [← hX0]
  clear hX0 htr0
  go_wp2_with fail
  refine (head_any X0).mono ?_
  rintro e w1 ⟨rfl, hb1⟩
  have HB1 : Hid (Below w.heap.size w w1) := HX0.out.trans (hb1.mono HX0.out.size)
  have HTR1 : Hid (w1.heap[w.heap.size]? = some (tidR t)) := Lib.hid ((hb1.block _ (lt_size HTR0.out)).trans HTR0.out)
  clear hb1 HTR0
  by_cases g1 : n < 0
  · go_wp2_with fail
    go_ret
    exact ⟨rfl, HB1.out⟩
  have HRG := Lib.hid (right_any k w1 hks')
  obtain ⟨rz, hrz⟩ : ∃ rz, rz = rightZ k.size := ⟨_, rfl⟩
  rw [← hrz] at HRG
  have HRZ := Lib.hid hrz
  clear hrz
  by_cases g3 : ¬ rz = 0
  · have g3b : (rz == 0) = false := by simp [g3]
    have g3c : (rz != 0) = true := by simp [g3]
    go_wp2_with fail
    refine HRG.out.mono ?_
    rintro e w2 ⟨rfl, rfl⟩
    go_wp2_with fail
    go_ret
    exact ⟨rfl, HB1.out⟩
  have g3' : rz = 0 := by omega
  subst g3'
  clear g3
  go_wp2_with fail
  refine HRG.out.mono ?_
  rintro e w2 ⟨rfl, rfl⟩
  clear HRG
  by_cases g2 : 48 < v.size
  · have g2' : (48 : Int) < (v.size : Int) := by omega
    go_wp2_with fail
    go_ret
    exact ⟨rfl, HB1.out⟩
  have g2' : ¬ (48 : Int) < (v.size : Int) := by omega
  go_wp2_with fail
  refine (new_any w1).mono ?_
  rintro e X2 ⟨rfl, hT2, hb2⟩
  have HB2 : Hid (Below w.heap.size w X2) := HB1.out.trans (hb2.mono HB1.out.size)
  have HTR2 : Hid (X2.heap[w.heap.size]? = some (tidR t)) := Lib.hid ((hb2.block _ (lt_size HTR1.out)).trans HTR1.out)
  have HT2 := Lib.hid hT2
  have HBB : Hid (w.heap.size ≤ w1.heap.size) := Lib.hid HB1.out.size
  clear hb2 hT2 HTR1
  obtain ⟨X3, hX3⟩ : ∃ X, X = X2.alloc (calR ⟨n, 1, 1, ⟨#[]⟩, ⟨#[]⟩⟩) := ⟨_, rfl⟩
  have hb3 : Below X2.heap.size X2 X3 := by rw [hX3]; exact ((Below.refl _ _).alloc (Nat.le_refl _) _)
  have hrCR : X3.heap[X2.heap.size]? = some (calR ⟨n, 1, 1, ⟨#[]⟩, ⟨#[]⟩⟩) := by rw [hX3]; exact heap_alloc_new _ _
  have HB3 : Hid (Below w.heap.size w X3) := Lib.hid (HB2.out.trans (hb3.mono HB2.out.size))
  have HTR3 := Lib.hid ((hb3.block _ (lt_size HTR2.out)).trans HTR2.out)
  have HT3 := Lib.hid (HT2.out.below hb3)
  clear HB2 HTR2 HT2
  have HCR3 := Lib.hid hrCR
  clear hb3 hrCR
  unfold calR at hX3
  try dsimp only at hX3
  have HX3 := Lib.hid hX3
  clear hX3
  go_upto_region 7 with fail
  rw [← HX3.out]
  clear HX3
  have htk := take_new_ok HT3.out ⟨n, 1, 1, ⟨#[]⟩, ⟨#[]⟩⟩ hn (by simp; omega) rfl rfl (by simp) sz0 sz0 rfl (by simp [checkZ, zeroO])
  unfold calV ansV zeroA tidV at htk
  try dsimp only at htk
  have HTK := Lib.hid htk
  clear htk
  obtain ⟨f0, f1, f2, f3, f4⟩ := cal_cells HCR3.out
  dsimp only at f0 f1 f2 f3 f4
  go_wp2_with fail
  refine HTK.out.mono ?_
  rintro e X4 ⟨rfl, g, hg, hT4, hk4⟩
  clear HTK f0 f1 f2 f3 f4 hg
  have HB4 : Hid (Below w.heap.size w X4) := Lib.hid (HB3.out.trans (hk4.below.mono HBB.out))
  have HTR4 : Hid (X4.heap[w.heap.size]? = some (tidR t)) := Lib.hid (hk4.cells _ _ _ _ HTR3.out (by decide))
  have HCR4 : Hid (X4.heap[X2.heap.size]? = some (calR ⟨n, 1, 1, ⟨#[]⟩, ⟨#[]⟩⟩)) := Lib.hid (hk4.cells _ _ _ _ HCR3.out (by decide))
  clear HB3 HTR3 HCR3 HT3
  have HT4 := Lib.hid hT4
  clear hT4 hk4
  obtain ⟨X5, hX5⟩ : ∃ X, X = (X4.alloc (ansR zeroA)).alloc (tidR (0, 0)) := ⟨_, rfl⟩
  have hb5 : Below X4.heap.size X4 X5 := by rw [hX5]; exact (((Below.refl _ _).alloc (Nat.le_refl _) _).alloc (by simp) _)
  have HB5 : Hid (Below w.heap.size w X5) := Lib.hid (HB4.out.trans (hb5.mono HB4.out.size))
  have HTR5 := Lib.hid ((hb5.block _ (lt_size HTR4.out)).trans HTR4.out)
  have HCR5 := Lib.hid ((hb5.block _ (lt_size HCR4.out)).trans HCR4.out)
  have HT5 := Lib.hid (HT4.out.below hb5)
  clear HB4 HTR4 HCR4 HT4
  clear hb5
  unfold ansR zeroA tidR at hX5
  try dsimp only at hX5
  have HX5 := Lib.hid hX5
  clear hX5
  go_upto_region 8 with fail
  rw [← HX5.out]
  clear HX5
  obtain ⟨o1, ho1⟩ : ∃ o1, o1 = called zeroO (Cal.mk n 1 1 ⟨#[]⟩ ⟨#[]⟩) := ⟨_, rfl⟩
  have HE1 : Hid (o1.req = 1 ∧ o1.busy = true ∧ o1.op = false) := Lib.hid (by rw [ho1]; exact ⟨rfl, rfl, rfl⟩)
  rw [← ho1] at HT5
  clear ho1
  have htk := take_waits HT5.out ⟨n, 1, 1, ⟨#[]⟩, ⟨#[]⟩⟩ hn (by simp; omega) (g := g) (o := o1) (getM_set_same _ _ _) HE1.out.1.symm HE1.out.2.1
  unfold calV ansV zeroA tidV at htk
  try dsimp only at htk
  have HTK := Lib.hid htk
  clear htk
  obtain ⟨f0, f1, f2, f3, f4⟩ := cal_cells HCR5.out
  dsimp only at f0 f1 f2 f3 f4
  go_wp2_with fail
  refine HTK.out.mono ?_
  rintro e X6 ⟨rfl, hb6⟩
  clear HTK f0 f1 f2 f3 f4
  have HB6 : Hid (Below w.heap.size w X6) := Lib.hid (HB5.out.trans (hb6.mono HB5.out.size))
  have HTR6 := Lib.hid ((hb6.block _ (lt_size HTR5.out)).trans HTR5.out)
  have HCR6 := Lib.hid ((hb6.block _ (lt_size HCR5.out)).trans HCR5.out)
  have HT6 := Lib.hid (HT5.out.below hb6)
  clear HB5 HTR5 HCR5 HT5
  clear hb6
  obtain ⟨X7, hX7⟩ : ∃ X, X = (X6.alloc (ansR zeroA)).alloc (tidR (0, 0)) := ⟨_, rfl⟩
  have hb7 : Below X6.heap.size X6 X7 := by rw [hX7]; exact (((Below.refl _ _).alloc (Nat.le_refl _) _).alloc (by simp) _)
  have HB7 : Hid (Below w.heap.size w X7) := Lib.hid (HB6.out.trans (hb7.mono HB6.out.size))
  have HTR7 := Lib.hid ((hb7.block _ (lt_size HTR6.out)).trans HTR6.out)
  have HCR7 := Lib.hid ((hb7.block _ (lt_size HCR6.out)).trans HCR6.out)
  have HT7 := Lib.hid (HT6.out.below hb7)
  clear HB6 HTR6 HCR6 HT6
  clear hb7
  unfold ansR zeroA tidR at hX7
  try dsimp only at hX7
  have HX7 := Lib.hid hX7
  clear hX7
  go_upto_region 9 with fail
  rw [← HX7.out]
  clear HX7
  obtain ⟨y0, y1, yf⟩ := tid_cells HTR7.out
  obtain ⟨a, ha⟩ : ∃ a, a = fill zeroA n (opened o1 t) := ⟨_, rfl⟩
  obtain ⟨o2, ho2⟩ : ∃ o2, o2 = done (opened o1 t) a := ⟨_, rfl⟩
  have HE2 : Hid (o2.req = 1 ∧ o2.busy = false ∧ o2.op = true ∧ o2.tid = t) := Lib.hid (by rw [ho2]; exact ⟨HE1.out.1, rfl, rfl, rfl⟩)
  have HA : Hid (a.tid = t) := Lib.hid (by rw [ha]; rfl)
  have htk := open_ok HT7.out hn t ht (g := g) (o := o1) (getM_set_same _ _ _) HE1.out.2.1 HE1.out.2.2
  rw [← ha, ← ho2, setM_set] at htk
  clear ha ho2
  unfold ansV at htk
  try dsimp only at htk
  have HTK := Lib.hid htk
  clear htk
  go_wp2_with fail
  refine HTK.out.mono ?_
  rintro e X8 ⟨rfl, hT8, hk8⟩
  clear HTK y0 y1 yf
  have HB8 : Hid (Below w.heap.size w X8) := Lib.hid (HB7.out.trans (hk8.below.mono HBB.out))
  have HTR8 : Hid (X8.heap[w.heap.size]? = some (tidR t)) := Lib.hid (hk8.cells _ _ _ _ HTR7.out (by decide))
  have HCR8 : Hid (X8.heap[X2.heap.size]? = some (calR ⟨n, 1, 1, ⟨#[]⟩, ⟨#[]⟩⟩)) := Lib.hid (hk8.cells _ _ _ _ HCR7.out (by decide))
  clear HB7 HTR7 HCR7 HT7
  have HT8 := Lib.hid hT8
  clear hT8 hk8
  obtain ⟨X9, hX9⟩ : ∃ X, X = X8.alloc (ansR a) := ⟨_, rfl⟩
  have hb9 : Below X8.heap.size X8 X9 := by rw [hX9]; exact ((Below.refl _ _).alloc (Nat.le_refl _) _)
  have hrAR : X9.heap[X8.heap.size]? = some (ansR a) := by rw [hX9]; exact heap_alloc_new _ _
  have HB9 : Hid (Below w.heap.size w X9) := Lib.hid (HB8.out.trans (hb9.mono HB8.out.size))
  have HTR9 := Lib.hid ((hb9.block _ (lt_size HTR8.out)).trans HTR8.out)
  have HCR9 := Lib.hid ((hb9.block _ (lt_size HCR8.out)).trans HCR8.out)
  have HT9 := Lib.hid (HT8.out.below hb9)
  clear HB8 HTR8 HCR8 HT8
  have HAR9 := Lib.hid hrAR
  clear hb9 hrAR
  unfold ansR at hX9
  try dsimp only at hX9
  have HX9 := Lib.hid hX9
  clear hX9
  go_upto_region 10 with fail
  rw [← HX9.out]
  clear HX9
  obtain ⟨a0, a1, a2, a3, a4, a5, a6, _⟩ := ans_cells HAR9.out
  obtain ⟨y0, y1, yf⟩ := tid_cells HTR9.out
  rw [HA.out] at a5 a6
  clear a0 a1 a2 a3 a4
  go_upto_region 12 with fail
  clear a5 a6 y0 y1 yf
  clear HAR9
  obtain ⟨X10, hX10⟩ : ∃ X, X = X9.alloc (calR ⟨n, 2, 2, k, ⟨#[]⟩⟩) := ⟨_, rfl⟩
  have hb10 : Below X9.heap.size X9 X10 := by rw [hX10]; exact ((Below.refl _ _).alloc (Nat.le_refl _) _)
  have hrPR : X10.heap[X9.heap.size]? = some (calR ⟨n, 2, 2, k, ⟨#[]⟩⟩) := by rw [hX10]; exact heap_alloc_new _ _
  have HB10 : Hid (Below w.heap.size w X10) := Lib.hid (HB9.out.trans (hb10.mono HB9.out.size))
  have HTR10 := Lib.hid ((hb10.block _ (lt_size HTR9.out)).trans HTR9.out)
  have HCR10 := Lib.hid ((hb10.block _ (lt_size HCR9.out)).trans HCR9.out)
  have HT10 := Lib.hid (HT9.out.below hb10)
  clear HB9 HTR9 HCR9 HT9
  have HPR10 := Lib.hid hrPR
  clear hb10 hrPR
  unfold calR at hX10
  try dsimp only at hX10
  have HX10 := Lib.hid hX10
  clear hX10
  go_upto_region 13 with fail
  rw [← HX10.out]
  clear HX10
  have htk := take_next_ok HT10.out ⟨n, 2, 2, k, ⟨#[]⟩⟩ hn (by simp; omega) (g := g) (o := o2) (getM_set_same _ _ _) (by rw [HE2.out.1]; simp) HE2.out.2.1 (by rw [HE2.out.1]; rfl) hks' sz0 rfl (by rw [HE2.out.2.2.1]; simp [checkZ, ← HRZ.out])
  rw [HE2.out.2.2.2, setM_set] at htk
  unfold calV ansV zeroA tidV at htk
  try dsimp only at htk
  have HTK := Lib.hid htk
  clear htk
  obtain ⟨f0, f1, f2, f3, f4⟩ := cal_cells HPR10.out
  dsimp only at f0 f1 f2 f3 f4
  go_wp2_with fail
  refine HTK.out.mono ?_
  rintro e X11 ⟨rfl, hT11, hk11⟩
  clear HTK f0 f1 f2 f3 f4
  have HB11 : Hid (Below w.heap.size w X11) := Lib.hid (HB10.out.trans (hk11.below.mono HBB.out))
  have HTR11 : Hid (X11.heap[w.heap.size]? = some (tidR t)) := Lib.hid (hk11.cells _ _ _ _ HTR10.out (by decide))
  have HCR11 : Hid (X11.heap[X2.heap.size]? = some (calR ⟨n, 1, 1, ⟨#[]⟩, ⟨#[]⟩⟩)) := Lib.hid (hk11.cells _ _ _ _ HCR10.out (by decide))
  have HPR11 : Hid (X11.heap[X9.heap.size]? = some (calR ⟨n, 2, 2, k, ⟨#[]⟩⟩)) := Lib.hid (hk11.cells _ _ _ _ HPR10.out (by decide))
  clear HB10 HTR10 HCR10 HPR10 HT10
  have HT11 := Lib.hid hT11
  clear hT11 hk11
  obtain ⟨X12, hX12⟩ : ∃ X, X = (X11.alloc (ansR zeroA)).alloc (tidR t) := ⟨_, rfl⟩
  have hb12 : Below X11.heap.size X11 X12 := by rw [hX12]; exact (((Below.refl _ _).alloc (Nat.le_refl _) _).alloc (by simp) _)
  have hrUR : X12.heap[X11.heap.size + 1]? = some (tidR t) := by
    rw [hX12]
    have h9 := heap_alloc_new (X11.alloc (ansR zeroA)) (tidR t)
    rwa [World.size_alloc] at h9
  have HB12 : Hid (Below w.heap.size w X12) := Lib.hid (HB11.out.trans (hb12.mono HB11.out.size))
  have HTR12 := Lib.hid ((hb12.block _ (lt_size HTR11.out)).trans HTR11.out)
  have HCR12 := Lib.hid ((hb12.block _ (lt_size HCR11.out)).trans HCR11.out)
  have HPR12 := Lib.hid ((hb12.block _ (lt_size HPR11.out)).trans HPR11.out)
  have HT12 := Lib.hid (HT11.out.below hb12)
  clear HB11 HTR11 HCR11 HPR11 HT11
  have HUR12 := Lib.hid hrUR
  clear hb12 hrUR
  unfold ansR zeroA tidR at hX12
  try dsimp only at hX12
  have HX12 := Lib.hid hX12
  clear hX12
  go_upto_region 14 with fail
  rw [← HX12.out]
  clear HX12
  obtain ⟨o3, ho3⟩ : ∃ o3, o3 = called o2 (Cal.mk n 2 2 k ⟨#[]⟩) := ⟨_, rfl⟩
  have HE3 : Hid (o3.req = 2 ∧ o3.busy = true ∧ o3.op = true ∧ o3.tid = t) := Lib.hid (by rw [ho3]; exact ⟨rfl, rfl, HE2.out.2.2.1, HE2.out.2.2.2⟩)
  rw [← ho3] at HT12
  obtain ⟨u0, u1, _⟩ := tid_cells HUR12.out
  obtain ⟨y0, y1, yf⟩ := tid_cells HTR12.out
  clear ho3
  go_upto_region 16 with fail
  obtain ⟨a', ha'⟩ : ∃ a', a' = fill ⟨0, 0, 0, v, true, (0, 0)⟩ n o3 := ⟨_, rfl⟩
  obtain ⟨o4, ho4⟩ : ∃ o4, o4 = done o3 a' := ⟨_, rfl⟩
  have HE4 : Hid (o4.req = 2 ∧ o4.busy = false ∧ o4.op = true ∧ o4.tid = t ∧ o4.last = a') := Lib.hid (by rw [ho4]; exact ⟨HE3.out.1, rfl, HE3.out.2.2.1, HE3.out.2.2.2, rfl⟩)
  have HA' : Hid (a'.val = v ∧ a'.has = true) := Lib.hid (by rw [ha']; exact ⟨rfl, rfl⟩)
  have htk := told_ok HT12.out t ht 0 v true false (n := n) (getM_set_same _ _ _) (g := g) (o := o3) (getM_set_same _ _ _) HE3.out.2.1 rfl
  rw [← ha', ← ho4, setM_set] at htk
  clear ha' ho4
  unfold ansV at htk
  try dsimp only at htk
  have HTK := Lib.hid htk
  clear htk
  go_wp2_with fail
  refine HTK.out.mono ?_
  rintro e X13 ⟨rfl, hT13, hk13⟩
  clear HTK y0 y1 yf u0 u1
  have HB13 : Hid (Below w.heap.size w X13) := Lib.hid (HB12.out.trans (hk13.below.mono HBB.out))
  have HTR13 : Hid (X13.heap[w.heap.size]? = some (tidR t)) := Lib.hid (hk13.cells _ _ _ _ HTR12.out (by decide))
  have HCR13 : Hid (X13.heap[X2.heap.size]? = some (calR ⟨n, 1, 1, ⟨#[]⟩, ⟨#[]⟩⟩)) := Lib.hid (hk13.cells _ _ _ _ HCR12.out (by decide))
  have HPR13 : Hid (X13.heap[X9.heap.size]? = some (calR ⟨n, 2, 2, k, ⟨#[]⟩⟩)) := Lib.hid (hk13.cells _ _ _ _ HPR12.out (by decide))
  have HUR13 : Hid (X13.heap[X11.heap.size + 1]? = some (tidR t)) := Lib.hid (hk13.cells _ _ _ _ HUR12.out (by decide))
  clear HB12 HTR12 HCR12 HPR12 HUR12 HT12
  have HT13 := Lib.hid hT13
  clear hT13 hk13
  clear HUR13
  obtain ⟨X14, hX14⟩ : ∃ X, X = X13.alloc (ansR a') := ⟨_, rfl⟩
  have hb14 : Below X13.heap.size X13 X14 := by rw [hX14]; exact ((Below.refl _ _).alloc (Nat.le_refl _) _)
  have hrTA : X14.heap[X13.heap.size]? = some (ansR a') := by rw [hX14]; exact heap_alloc_new _ _
  have HB14 : Hid (Below w.heap.size w X14) := Lib.hid (HB13.out.trans (hb14.mono HB13.out.size))
  have HTR14 := Lib.hid ((hb14.block _ (lt_size HTR13.out)).trans HTR13.out)
  have HCR14 := Lib.hid ((hb14.block _ (lt_size HCR13.out)).trans HCR13.out)
  have HPR14 := Lib.hid ((hb14.block _ (lt_size HPR13.out)).trans HPR13.out)
  have HT14 := Lib.hid (HT13.out.below hb14)
  clear HB13 HTR13 HCR13 HPR13 HT13
  have HTA14 := Lib.hid hrTA
  clear hb14 hrTA
  unfold ansR at hX14
  try dsimp only at hX14
  have HX14 := Lib.hid hX14
  clear hX14
  go_upto_region 17 with fail
  rw [← HX14.out]
  clear HX14
  obtain ⟨a0, a1, a2, a3, a4, a5, a6, _⟩ := ans_cells HTA14.out
  rw [HA'.out.1] at a3
  rw [HA'.out.2] at a4
  clear a0 a1 a2 a5 a6
  have hvv : (v.toList == v.toList) = true := by simp
  go_wp2_with fail
  clear a3 a4
  go_loopw [26] (fun i wr => ∃ j : Nat, j ≤ m ∧ i = .int .i64 j ∧ Below w.heap.size w wr ∧ Tab wr w1.heap.size (w1.heap.size + 1 + 1) w1.heap.size (w1.heap.size + 1) (setM [] n (g, o4)) (setM [] t n) ∧ wr.heap[X2.heap.size]? = some (calR ⟨n, 1, 1, ⟨#[]⟩, ⟨#[]⟩⟩) ∧ wr.heap[X9.heap.size]? = some (calR ⟨n, 2, 2, k, ⟨#[]⟩⟩) ∧ wr.heap[X13.heap.size]? = some (ansR a')) (fun i _ => m - (intOf i).toNat)
  case atStart => exact ⟨0, Nat.zero_le _, rfl, HB14.out, HT14.out, HCR14.out, HPR14.out, HTA14.out⟩
  case round =>
    obtain ⟨j, hj, rfl, hbl, htab, hcr, hpr, hta⟩ := hrel
    have HB15 := Lib.hid hbl
    have HT15 := Lib.hid htab
    have HCR15 := Lib.hid hcr
    have HPR15 := Lib.hid hpr
    have HTA15 := Lib.hid hta
    clear hbl htab hcr hpr hta
    by_cases hlt : j < m
    · have i0 : (0 : Int) ≤ (j : Int) := by omega
      have i1 : (j : Int) < (m : Int) := by omega
      have htk := take_last HT15.out ⟨n, 2, 2, k, ⟨#[]⟩⟩ hn (by simp; omega) (g := g) (o := o4) (getM_set_same _ _ _) HE4.out.1.symm HE4.out.2.1
      rw [HE4.out.2.2.2.2] at htk
      unfold calV ansV tidV at htk
      try dsimp only at htk
      have HTK := Lib.hid htk
      clear htk
      obtain ⟨f0, f1, f2, f3, f4⟩ := cal_cells HPR15.out
      dsimp only at f0 f1 f2 f3 f4
      go_wp2_with fail
      refine HTK.out.mono ?_
      rintro e X16 ⟨rfl, hb16⟩
      clear HTK f0 f1 f2 f3 f4
      have HB16 : Hid (Below w.heap.size w X16) := Lib.hid (HB15.out.trans (hb16.mono HB15.out.size))
      have HCR16 := Lib.hid ((hb16.block _ (lt_size HCR15.out)).trans HCR15.out)
      have HPR16 := Lib.hid ((hb16.block _ (lt_size HPR15.out)).trans HPR15.out)
      have HTA16 := Lib.hid ((hb16.block _ (lt_size HTA15.out)).trans HTA15.out)
      have HT16 := Lib.hid (HT15.out.below hb16)
      clear HB15 HCR15 HPR15 HTA15 HT15
      clear hb16
      obtain ⟨X17, hX17⟩ : ∃ X, X = (X16.alloc (ansR a')).alloc (tidR (0, 0)) := ⟨_, rfl⟩
      have hb17 : Below X16.heap.size X16 X17 := by rw [hX17]; exact (((Below.refl _ _).alloc (Nat.le_refl _) _).alloc (by simp) _)
      have hrBR : X17.heap[X16.heap.size]? = some (ansR a') := by rw [hX17, Below.heap_alloc _ _ _ (by simp)]; exact heap_alloc_new _ _
      have HB17 : Hid (Below w.heap.size w X17) := Lib.hid (HB16.out.trans (hb17.mono HB16.out.size))
      have HCR17 := Lib.hid ((hb17.block _ (lt_size HCR16.out)).trans HCR16.out)
      have HPR17 := Lib.hid ((hb17.block _ (lt_size HPR16.out)).trans HPR16.out)
      have HTA17 := Lib.hid ((hb17.block _ (lt_size HTA16.out)).trans HTA16.out)
      have HT17 := Lib.hid (HT16.out.below hb17)
      clear HB16 HCR16 HPR16 HTA16 HT16
      have HBR17 := Lib.hid hrBR
      clear hb17 hrBR
      unfold ansR tidR at hX17
      try dsimp only at hX17
      have HX17 := Lib.hid hX17
      clear hX17
      go_upto_region 23 with fail
      rw [← HX17.out]
      clear HX17
      obtain ⟨a0, a1, a2, a3, a4, a5, a6, _⟩ := ans_cells HTA17.out
      obtain ⟨b0, b1, b2, b3, b4, b5, b6, _⟩ := ans_cells HBR17.out
      go_upto_region 25 with fail
      clear a0 a1 a2 a3 a4 a5 a6 b0 b1 b2 b3 b4 b5 b6
      clear HBR17
      have htk := take_past HT17.out ⟨n, 1, 1, ⟨#[]⟩, ⟨#[]⟩⟩ hn (by simp; omega) (g := g) (o := o4) (getM_set_same _ _ _) (by rw [HE4.out.1]; simp) HE4.out.2.1 (by rw [HE4.out.1]; exact (by decide : (1 : Int) ≠ IntKind.i64.wrap (2 + 1)))
      unfold calV ansV tidV badA at htk
      try dsimp only at htk
      have HTK := Lib.hid htk
      clear htk
      obtain ⟨f0, f1, f2, f3, f4⟩ := cal_cells HCR17.out
      dsimp only at f0 f1 f2 f3 f4
      go_wp2_with fail
      refine HTK.out.mono ?_
      rintro e X18 ⟨rfl, hb18⟩
      clear HTK f0 f1 f2 f3 f4
      have HB18 : Hid (Below w.heap.size w X18) := Lib.hid (HB17.out.trans (hb18.mono HB17.out.size))
      have HCR18 := Lib.hid ((hb18.block _ (lt_size HCR17.out)).trans HCR17.out)
      have HPR18 := Lib.hid ((hb18.block _ (lt_size HPR17.out)).trans HPR17.out)
      have HTA18 := Lib.hid ((hb18.block _ (lt_size HTA17.out)).trans HTA17.out)
      have HT18 := Lib.hid (HT17.out.below hb18)
      clear HB17 HCR17 HPR17 HTA17 HT17
      clear hb18
      obtain ⟨X19, hX19⟩ : ∃ X, X = (X18.alloc (ansR ⟨n, 1, 17, ⟨#[]⟩, false, (0, 0)⟩)).alloc (tidR (0, 0)) := ⟨_, rfl⟩
      have hb19 : Below X18.heap.size X18 X19 := by rw [hX19]; exact (((Below.refl _ _).alloc (Nat.le_refl _) _).alloc (by simp) _)
      have hrDR : X19.heap[X18.heap.size]? = some (ansR ⟨n, 1, 17, ⟨#[]⟩, false, (0, 0)⟩) := by rw [hX19, Below.heap_alloc _ _ _ (by simp)]; exact heap_alloc_new _ _
      have HB19 : Hid (Below w.heap.size w X19) := Lib.hid (HB18.out.trans (hb19.mono HB18.out.size))
      have HCR19 := Lib.hid ((hb19.block _ (lt_size HCR18.out)).trans HCR18.out)
      have HPR19 := Lib.hid ((hb19.block _ (lt_size HPR18.out)).trans HPR18.out)
      have HTA19 := Lib.hid ((hb19.block _ (lt_size HTA18.out)).trans HTA18.out)
      have HT19 := Lib.hid (HT18.out.below hb19)
      clear HB18 HCR18 HPR18 HTA18 HT18
      have HDR19 := Lib.hid hrDR
      clear hb19 hrDR
      unfold ansR tidR at hX19
      try dsimp only at hX19
      have HX19 := Lib.hid hX19
      clear hX19
      go_upto_region 26 with fail
      rw [← HX19.out]
      clear HX19
      obtain ⟨a0, a1, a2, a3, a4, a5, a6, _⟩ := ans_cells HDR19.out
      dsimp only at a2
      clear a0 a1 a3 a4 a5 a6
      go_wp2_with fail
      go_roundw
      case rel => exact ⟨j + 1, by omega, by go_num, HB19.out, HT19.out, HCR19.out, HPR19.out, HTA19.out⟩
      case measure => simp [intOf]; omega
    · obtain rfl : j = m := by omega
      have i1 : ¬ ((j : Int) < (j : Int)) := by omega
      have hlen := len_any HT15.out
      have HLEN := Lib.hid hlen
      have hz : cnt (setM [] n (g, o4)) ((setM [] n (g, o4)).map (·.1)) = 0 := by
        have e : setM ([] : List (Int × (Nat × One))) n (g, o4) = [(n, (g, o4))] := rfl
        rw [e]
        show (List.filter (busyOf [(n, (g, o4))]) [n]).length = 0
        have hb : busyOf [(n, (g, o4))] n = false := by unfold busyOf; rw [getM_cons, if_pos rfl]; exact HE4.out.2.1
        simp [hb]
      have hbz := busy_any HT15.out (by show (setM ([] : List (Int × (Nat × One))) n (g, o4)).length ≤ 1000; exact (by decide : 1 ≤ 1000))
      rw [hz] at hbz
      have HBZ := Lib.hid hbz
      have hl1 : ((setM ([] : List (Int × (Nat × One))) n (g, o4)).length : Int) = 1 := rfl
      rw [hl1] at HLEN
      clear hlen hz hbz hl1
      go_wp2_with fail
      refine HLEN.out.mono ?_
      rintro e w2 ⟨rfl, rfl⟩
      go_wp2_with fail
      refine HBZ.out.mono ?_
      rintro e w3 ⟨⟨A9, c9, rfl⟩, hb9⟩
      have HB9 : Hid (Below w.heap.size w w3) := HB15.out.trans (hb9.mono HB15.out.size)
      clear hb9
      go_wp2_with fail
      go_ret
      exact ⟨rfl, HB9.out⟩
theorem once_row {H : Type} {enc : TypeId × Value → H} {w : World} {base : Nat} {spare : Nat → Bool} {held : Bool} (n : Int) (hn : (Lit.int .i64 n).wf = true)
    (v1 : Value) (ok1 : Value.okWide Try.prog w .any base 25 v1) (h1 : Reads1 enc Try.prog w 0 spare held 25 v1.cells.toList) (k : S) (hk : k.size ≤ 140737488351232) (v : S) (hv : v.size ≤ 140737488351232) (times : Int) (_ : (Lit.int .i64 times).wf = true) :
    Calls Try.prog 5 #[.int .i64 n, v1, .string k, .string v, .int .i64 times] w fun e w' => e = .returned (.bool true) ∧ Below w.heap.size w w' := by
  obtain ⟨t, rfl, ht⟩ := tid_val ok1 h1
  exact once_any w n hn t ht k v hk hv times
#print axioms once_row
end Go.Proofs.Ytffjkdeggkppnaa.Sess
