/- SessErrors: the walk. -/
import Derived.Test.YtffjkdeggkppnaaSessO
import Derived.Deep.CutBlock
set_option linter.unusedVariables false
set_option linter.unusedSimpArgs false
set_option linter.unusedSectionVars false
namespace Go.Proofs.Ytffjkdeggkppnaa.Sess
open Go.RowKit Go.WideShapes Go.Deep Go.Proofs.Ytffjkdeggkppnaa.Mem Go.Proofs.Ytffjkdeggkppnaa.Open Go.Proofs.Ytffjkdeggkppnaa.Maps Go.Proofs.Ytffjkdeggkppnaa.Tid Go.Proofs.Ytffjkdeggkppnaa.KeyA Go.Proofs.Ytffjkdeggkppnaa.Bits
theorem two_out {X : World} {ga : Nat} {b : Ans} (h : X.heap[ga]? = some (ansR b)) (a : Ans) (t : Int × Int) : ∃ V, V = ((((((((((X.alloc (.cells #[.int .u64 0, .int .i64 0] 25)).setCell ⟨ga, 0, none⟩ (.int .i64 a.sess)).setCell ⟨ga, 1, none⟩ (.int .i64 a.req)).setCell ⟨ga, 2, none⟩ (.int .i64 a.code)).setCell ⟨ga, 3, none⟩ (.string a.val)).setCell ⟨ga, 4, none⟩ (.bool a.has)).setCell ⟨ga, 5, none⟩ (.int .u64 a.tid.1)).setCell ⟨ga, 6, none⟩ (.int .i64 a.tid.2)).setCell ⟨X.heap.size, 0, none⟩ (.int .u64 t.1)).setCell ⟨X.heap.size, 1, none⟩ (.int .i64 t.2)) ∧
    V.heap[ga]? = some (ansR a) ∧ V.heap[X.heap.size]? = some (tidR t) ∧ Fr (fun k => k = ga) X V := by
  have hlt := lt_size h
  refine ⟨sets (sets (X.alloc (tidR (0, 0))) ga [(0, .int .i64 a.sess), (1, .int .i64 a.req), (2, .int .i64 a.code), (3, .string a.val), (4, .bool a.has), (5, .int .u64 a.tid.1), (6, .int .i64 a.tid.2)]) X.heap.size [(0, .int .u64 t.1), (1, .int .i64 t.2)], rfl, ?_, ?_, ?_⟩
  · rw [sets_ne _ _ (by omega)]
    exact ans_copied ((Below.heap_alloc _ _ _ hlt).trans h)
  · exact tid_copied ((sets_ne _ _ (by omega)).trans (heap_alloc_new X _))
  · have h1 : Fr (fun k => k = ga) X (sets (X.alloc (tidR (0, 0))) ga [(0, .int .i64 a.sess), (1, .int .i64 a.req), (2, .int .i64 a.code), (3, .string a.val), (4, .bool a.has), (5, .int .u64 a.tid.1), (6, .int .i64 a.tid.2)]) :=
      fr_own (fr_own (fr_own (fr_own (fr_own (fr_own (fr_own ((Fr.refl _ X).alloc _)))))))
    exact (h1.setCell (p := ⟨X.heap.size, 0, none⟩) (.inr (Nat.le_refl _)) _).setCell (p := ⟨X.heap.size, 1, none⟩) (.inr (Nat.le_refl _)) _
theorem rows_ne {X : World} {g k : Nat} {b : Ans} {t : Int × Int} (h : X.heap[g]? = some (ansR b)) (h2 : X.heap[k]? = some (tidR t)) : k ≠ g := fun e => by
  subst e
  have := h.symm.trans h2
  injection this with this
  injection this with _ e
  exact absurd e (by decide)
theorem rows_ne2 {X : World} {g k : Nat} {b : Ans} {c : Cal} (h : X.heap[g]? = some (ansR b)) (h2 : X.heap[k]? = some (calR c)) : k ≠ g := fun e => by
  subst e
  have := h.symm.trans h2
  injection this with this
  injection this with _ e
  exact absurd e (by decide)
theorem cnt_one (n : Int) (g : Nat) (o : One) : cnt (setM [] n (g, o)) ((setM [] n (g, o)).map (·.1)) = if o.busy = true then 1 else 0 := by
  have e : setM ([] : List (Int × (Nat × One))) n (g, o) = [(n, (g, o))] := rfl
  rw [e]
  show (List.filter (busyOf [(n, (g, o))]) [n]).length = _
  have hb : busyOf [(n, (g, o))] n = o.busy := by unfold busyOf; rw [getM_cons, if_pos rfl]
  cases h : o.busy <;> simp [hb, h]
theorem busy_one {B gt ba bo : Nat} {w : World} {n : Int} {g : Nat} {o : One} {of : List ((Int × Int) × Int)} (h : Tab w B gt ba bo (setM [] n (g, o)) of) {b : Nat} (hb : (if o.busy = true then 1 else 0) = b) :
    Calls Try.prog 15 #[.pointer (some ⟨gt, 0, none⟩)] w fun e w' => (∃ A c, e = .returned (.slice A b c)) ∧ Below w.heap.size w w' := by
  have := busy_any h (by show (setM ([] : List (Int × (Nat × One))) n (g, o)).length ≤ 1000; exact (by decide : 1 ≤ 1000))
  rw [cnt_one, hb] at this
  exact this
theorem errA_facts (c : Cal) (o : One) (z : Int) : (errA c o z).code = z ∧ (errA c o z).tid = o.tid := ⟨rfl, rfl⟩
set_option maxHeartbeats 4000000 in
set_option maxRecDepth 100000 in
theorem errs_any (w : World) (n : Int) (hn : OkI n) (t : Int × Int) (ht : IdOk t) (ck : Int) (k v : S) :
    Calls Try.prog 4 #[.int .i64 n, .agg #[.int .u64 t.1, .int .i64 t.2], .int .i64 ck, .string k, .string v] w fun e w' => e = .returned (.bool true) ∧ Below w.heap.size w w' := by
  go_enter Try.func4, Try.ntmps4
  go_upto_region 1 with fail
  obtain ⟨X0, hX0⟩ : ∃ X, X = w.alloc (tidR t) := ⟨_, rfl⟩
  have HX0 : Hid (Below w.heap.size w X0) := Lib.hid (by rw [hX0]; exact (Below.refl _ _).alloc (Nat.le_refl _) _)
  have htr0 : X0.heap[w.heap.size]? = some (tidR t) := by rw [hX0]; exact heap_alloc_new w _
  have HTR0 := Lib.hid htr0
  unfold tidR at hX0
  rw [← hX0]
  clear hX0 htr0
  go_wp2_with fail
  refine (head_any X0).mono ?_
  rintro e w1 ⟨rfl, hb1⟩
  have HB1 : Hid (Below w.heap.size w w1) := HX0.out.trans (hb1.mono HX0.out.size)
  have HTR1 : Hid (w1.heap[w.heap.size]? = some (tidR t)) := Lib.hid ((hb1.block _ (lt_size HTR0.out)).trans HTR0.out)
  clear hb1 HTR0
  by_cases g1 : n < 0
  · go_wp2_with fail
    go_ret
    exact ⟨rfl, HB1.out⟩
  by_cases g2 : 100 < k.size
  · have g2' : (100 : Int) < (k.size : Int) := by omega
    go_wp2_with fail
    go_ret
    exact ⟨rfl, HB1.out⟩
  have g2' : ¬ (100 : Int) < (k.size : Int) := by omega
  by_cases g3 : 100 < v.size
  · have g3' : (100 : Int) < (v.size : Int) := by omega
    go_wp2_with fail
    go_ret
    exact ⟨rfl, HB1.out⟩
  have g3' : ¬ (100 : Int) < (v.size : Int) := by omega
  have hks' : k.size ≤ 9223372036854775807 := by omega
  have hvs' : v.size ≤ 9223372036854775807 := by omega
  go_wp2_with fail
  refine (new_any w1).mono ?_
  rintro e X2 ⟨rfl, hT2, hb2⟩
  have HB2 : Hid (Below w.heap.size w X2) := HB1.out.trans (hb2.mono HB1.out.size)
  have HTR2 : Hid (X2.heap[w.heap.size]? = some (tidR t)) := Lib.hid ((hb2.block _ (lt_size HTR1.out)).trans HTR1.out)
  have HT2 := Lib.hid hT2
  have HBB : Hid (w.heap.size ≤ w1.heap.size) := Lib.hid HB1.out.size
  clear hb2 hT2 HTR1
  obtain ⟨X3, hX3⟩ : ∃ X, X = X2.alloc (calR ⟨n, 1, 3, ⟨#[97]⟩, ⟨#[]⟩⟩) := ⟨_, rfl⟩
  have hb3 : Below X2.heap.size X2 X3 := by rw [hX3]; exact ((Below.refl _ _).alloc (Nat.le_refl _) _)
  have hrCR : X3.heap[X2.heap.size]? = some (calR ⟨n, 1, 3, ⟨#[97]⟩, ⟨#[]⟩⟩) := by rw [hX3]; exact heap_alloc_new _ _
  have HB3 : Hid (Below w.heap.size w X3) := Lib.hid (HB2.out.trans (hb3.mono HB2.out.size))
  have HTR3 := Lib.hid ((hb3.block _ (lt_size HTR2.out)).trans HTR2.out)
  have HT3 := Lib.hid (HT2.out.below hb3)
  clear HB2 HTR2 HT2
  have HCR3 := Lib.hid hrCR
  clear hb3 hrCR
  unfold calR at hX3
  try dsimp only at hX3
  have HX3 := Lib.hid hX3
  clear hX3
  go_upto_region 7 with fail
  rw [← HX3.out]
  clear HX3
  obtain ⟨a1, ha1⟩ : ∃ a1, a1 = errA ⟨n, 1, 3, ⟨#[97]⟩, ⟨#[]⟩⟩ zeroO 5 := ⟨_, rfl⟩
  obtain ⟨o1, ho1⟩ : ∃ o1, o1 = done (called zeroO ⟨n, 1, 3, ⟨#[97]⟩, ⟨#[]⟩⟩) a1 := ⟨_, rfl⟩
  have HE1 : Hid (o1.req = 1 ∧ o1.busy = false ∧ o1.op = false ∧ o1.tid = (0, 0)) := Lib.hid (by rw [ho1]; exact ⟨rfl, rfl, rfl, rfl⟩)
  have HA1 : Hid (a1.code = 5 ∧ a1.tid = (0, 0)) := Lib.hid (by rw [ha1]; exact ⟨rfl, rfl⟩)
  have htk := take_new_err HT3.out ⟨n, 1, 3, ⟨#[97]⟩, ⟨#[]⟩⟩ hn (by simp; omega) rfl rfl (by simp) (by exact (by decide : ByteArray.size ⟨#[97]⟩ ≤ 9223372036854775807)) sz0 (z := 5) (by simp [checkZ, zeroO]) (by decide)
  rw [← ha1, ← ho1] at htk
  clear ha1 ho1
  unfold calV ansV tidV at htk
  try dsimp only at htk
  have HTK := Lib.hid htk
  clear htk
  obtain ⟨f0, f1, f2, f3, f4⟩ := cal_cells HCR3.out
  dsimp only at f0 f1 f2 f3 f4
  go_wp2_with fail
  refine HTK.out.mono ?_
  rintro e X4 ⟨rfl, g, hg, hT4, hk4⟩
  clear HTK f0 f1 f2 f3 f4 hg
  have HB4 : Hid (Below w.heap.size w X4) := Lib.hid (HB3.out.trans (hk4.below.mono HBB.out))
  have HTR4 : Hid (X4.heap[w.heap.size]? = some (tidR t)) := Lib.hid (hk4.cells _ _ _ _ HTR3.out (by decide))
  have HCR4 : Hid (X4.heap[X2.heap.size]? = some (calR ⟨n, 1, 3, ⟨#[97]⟩, ⟨#[]⟩⟩)) := Lib.hid (hk4.cells _ _ _ _ HCR3.out (by decide))
  clear HB3 HTR3 HCR3 HT3
  have HT4 := Lib.hid hT4
  clear hT4 hk4
  clear HCR4
  have HX4 := Lib.hid HB4.out.size
  obtain ⟨X5, hX5⟩ : ∃ X, X = (X4.alloc (ansR a1)).alloc (tidR (0, 0)) := ⟨_, rfl⟩
  have hb5 : Below X4.heap.size X4 X5 := by rw [hX5]; exact (((Below.refl _ _).alloc (Nat.le_refl _) _).alloc (by simp) _)
  have hrAR : X5.heap[X4.heap.size]? = some (ansR a1) := by rw [hX5, Below.heap_alloc _ _ _ (by simp)]; exact heap_alloc_new _ _
  have HB5 : Hid (Below w.heap.size w X5) := Lib.hid (HB4.out.trans (hb5.mono HB4.out.size))
  have HTR5 := Lib.hid ((hb5.block _ (lt_size HTR4.out)).trans HTR4.out)
  have HT5 := Lib.hid (HT4.out.below hb5)
  clear HB4 HTR4 HT4
  have HAR5 := Lib.hid hrAR
  clear hb5 hrAR
  unfold ansR tidR at hX5
  try dsimp only at hX5
  have HX5 := Lib.hid hX5
  clear hX5
  go_upto_region 8 with fail
  rw [← HX5.out]
  clear HX5
  obtain ⟨a0, a1', a2, a3, a4, a5, a6, _⟩ := ans_cells HAR5.out
  rw [HA1.out.1] at a2
  rw [HA1.out.2] at a5 a6
  clear a0 a1' a3 a4
  dsimp only at a5 a6
  go_upto_region 10 with fail
  clear a2 a5 a6
  have htk := take_next_ok HT5.out ⟨n, 2, 1, ⟨#[]⟩, ⟨#[]⟩⟩ hn (by simp; omega) (g := g) (o := o1) (getM_set_same _ _ _) (by rw [HE1.out.1]; simp) HE1.out.2.1 (by rw [HE1.out.1]; rfl) sz0 sz0 rfl (by rw [HE1.out.2.2.1]; simp [checkZ])
  rw [HE1.out.2.2.2, setM_set] at htk
  unfold calV ansV zeroA tidV at htk
  try dsimp only at htk
  have HTK := Lib.hid htk
  clear htk
  go_wp2_with fail
  refine HTK.out.mono ?_
  rintro e X6 ⟨rfl, hT6, hk6⟩
  clear HTK
  have HB6 : Hid (Below w.heap.size w X6) := Lib.hid (HB5.out.trans (hk6.below.mono HBB.out))
  have HTR6 : Hid (X6.heap[w.heap.size]? = some (tidR t)) := Lib.hid (hk6.cells _ _ _ _ HTR5.out (by decide))
  have HAR6 : Hid (X6.heap[X4.heap.size]? = some (ansR a1)) := Lib.hid (hk6.cells _ _ _ _ HAR5.out (by decide))
  clear HB5 HTR5 HAR5 HT5
  have HT6 := Lib.hid hT6
  clear hT6 hk6
  obtain ⟨X7, hX7⟩ : ∃ X, X = (X6.alloc (ansR zeroA)).alloc (tidR (0, 0)) := ⟨_, rfl⟩
  have hb7 : Below X6.heap.size X6 X7 := by rw [hX7]; exact (((Below.refl _ _).alloc (Nat.le_refl _) _).alloc (by simp) _)
  have HB7 : Hid (Below w.heap.size w X7) := Lib.hid (HB6.out.trans (hb7.mono HB6.out.size))
  have HTR7 := Lib.hid ((hb7.block _ (lt_size HTR6.out)).trans HTR6.out)
  have HAR7 := Lib.hid ((hb7.block _ (lt_size HAR6.out)).trans HAR6.out)
  have HT7 := Lib.hid (HT6.out.below hb7)
  clear HB6 HTR6 HAR6 HT6
  clear hb7
  unfold ansR zeroA tidR at hX7
  try dsimp only at hX7
  have HX7 := Lib.hid hX7
  clear hX7
  go_upto_region 11 with fail
  rw [← HX7.out]
  clear HX7
  go_upto_region 13 with fail
  obtain ⟨y0, y1, yf⟩ := tid_cells HTR7.out
  obtain ⟨o2, ho2⟩ : ∃ o2, o2 = called o1 (Cal.mk n 2 1 ⟨#[]⟩ ⟨#[]⟩) := ⟨_, rfl⟩
  have HE2 : Hid (o2.req = 2 ∧ o2.busy = true ∧ o2.op = false) := Lib.hid (by rw [ho2]; exact ⟨rfl, rfl, HE1.out.2.2.1⟩)
  rw [← ho2] at HT7
  obtain ⟨a, ha⟩ : ∃ a, a = fill zeroA n (opened o2 t) := ⟨_, rfl⟩
  obtain ⟨o3, ho3⟩ : ∃ o3, o3 = done (opened o2 t) a := ⟨_, rfl⟩
  have HE3 : Hid (o3.req = 2 ∧ o3.busy = false ∧ o3.op = true ∧ o3.tid = t) := Lib.hid (by rw [ho3]; exact ⟨HE2.out.1, rfl, rfl, rfl⟩)
  clear ho2
  have htk := open_ok HT7.out hn t ht (g := g) (o := o2) (getM_set_same _ _ _) HE2.out.2.1 HE2.out.2.2
  rw [← ha, ← ho3, setM_set] at htk
  clear ha ho3
  unfold ansV at htk
  try dsimp only at htk
  have HTK := Lib.hid htk
  clear htk
  go_wp2_with fail
  refine HTK.out.mono ?_
  rintro e X8 ⟨rfl, hT8, hk8⟩
  clear HTK y0 y1 yf
  have HB8 : Hid (Below w.heap.size w X8) := Lib.hid (HB7.out.trans (hk8.below.mono HBB.out))
  have HTR8 : Hid (X8.heap[w.heap.size]? = some (tidR t)) := Lib.hid (hk8.cells _ _ _ _ HTR7.out (by decide))
  have HAR8 : Hid (X8.heap[X4.heap.size]? = some (ansR a1)) := Lib.hid (hk8.cells _ _ _ _ HAR7.out (by decide))
  clear HB7 HTR7 HAR7 HT7
  have HT8 := Lib.hid hT8
  clear hT8 hk8
  obtain ⟨X9, hX9⟩ : ∃ X, X = X8.alloc (ansR a) := ⟨_, rfl⟩
  have hb9 : Below X8.heap.size X8 X9 := by rw [hX9]; exact ((Below.refl _ _).alloc (Nat.le_refl _) _)
  have HB9 : Hid (Below w.heap.size w X9) := Lib.hid (HB8.out.trans (hb9.mono HB8.out.size))
  have HTR9 := Lib.hid ((hb9.block _ (lt_size HTR8.out)).trans HTR8.out)
  have HAR9 := Lib.hid ((hb9.block _ (lt_size HAR8.out)).trans HAR8.out)
  have HT9 := Lib.hid (HT8.out.below hb9)
  clear HB8 HTR8 HAR8 HT8
  clear hb9
  unfold ansR at hX9
  try dsimp only at hX9
  have HX9 := Lib.hid hX9
  clear hX9
  go_upto_region 14 with fail
  rw [← HX9.out]
  clear HX9
  go_upto_region 16 with fail
  obtain ⟨X10, hX10⟩ : ∃ X, X = X9.alloc (calR ⟨n, 3, ck, k, v⟩) := ⟨_, rfl⟩
  have hb10 : Below X9.heap.size X9 X10 := by rw [hX10]; exact ((Below.refl _ _).alloc (Nat.le_refl _) _)
  have hrCR : X10.heap[X9.heap.size]? = some (calR ⟨n, 3, ck, k, v⟩) := by rw [hX10]; exact heap_alloc_new _ _
  have HB10 : Hid (Below w.heap.size w X10) := Lib.hid (HB9.out.trans (hb10.mono HB9.out.size))
  have HTR10 := Lib.hid ((hb10.block _ (lt_size HTR9.out)).trans HTR9.out)
  have HAR10 := Lib.hid ((hb10.block _ (lt_size HAR9.out)).trans HAR9.out)
  have HT10 := Lib.hid (HT9.out.below hb10)
  clear HB9 HTR9 HAR9 HT9
  have HCR10 := Lib.hid hrCR
  clear hb10 hrCR
  unfold calR at hX10
  try dsimp only at hX10
  have HX10 := Lib.hid hX10
  clear hX10
  go_upto_region 17 with fail
  rw [← HX10.out]
  clear HX10
  obtain ⟨z, hz⟩ : ∃ z, z = checkZ true ⟨n, 3, ck, k, v⟩ := ⟨_, rfl⟩
  have HZ := Lib.hid hz
  unfold checkZ at hz
  dsimp only at hz
  obtain ⟨rz, hrz⟩ : ∃ r, r = rightZ k.size := ⟨_, rfl⟩
  obtain ⟨vz, hvz⟩ : ∃ r, r = valueZ v.size := ⟨_, rfl⟩
  have hR := fun W => right_any k W hks'
  have hV := fun W => value_any v W hvs'
  simp only [← hrz] at hR hz
  simp only [← hvz] at hV hz
  have HZ0 := Lib.hid hz
  have HR := Lib.hid hR
  have HV := Lib.hid hV
  clear hz hR hV hrz hvz
  go_upto_block 0 with fail
  go_cut [22] from 88 to 110 (fun s wx => s = .int .i64 z ∧ wx = X10)
  case first =>
    by_cases k1 : ck < 1
    · have hz : z = 1 := by rw [HZ0.out, if_pos (.inl k1)]
      subst hz
      go_wp2_with fail
      go_meet
      case rel => exact ⟨rfl, rfl⟩
    by_cases k6 : 6 < ck
    · have hz : z = 1 := by rw [HZ0.out, if_pos (.inr k6)]
      subst hz
      go_wp2_with fail
      go_meet
      case rel => exact ⟨rfl, rfl⟩
    have hz1 := HZ0.out
    rw [if_neg (by omega)] at hz1
    have HZ1 := Lib.hid hz1
    clear hz1 HZ0
    by_cases e1 : ck = 1
    · subst e1
      have hz : z = 5 := by rw [HZ1.out]; rfl
      subst hz
      go_wp2_with fail
      go_meet
      case rel => exact ⟨rfl, rfl⟩
    have b1 : (ck == 1) = false := by simp [e1]
    have hz1 := HZ1.out
    rw [decide_eq_false e1, if_neg (by decide)] at hz1
    have HZ2 := Lib.hid hz1
    clear hz1 HZ1
    by_cases k4 : ck ≤ 4
    · have hz1 := HZ2.out
      rw [if_neg (by omega)] at hz1
      have HZ3 := Lib.hid hz1
      clear hz1 HZ2
      by_cases r0 : rz = 0
      · subst r0
        have hz1 := HZ3.out
        rw [if_neg (by simp)] at hz1
        by_cases e3 : ck = 3
        · subst e3
          have hz : z = vz := by rw [hz1, if_neg (by simp)]
          subst hz
          clear hz1 HZ3
          go_wp2_with fail
          refine (HR.out _).mono ?_
          rintro e w9 ⟨rfl, rfl⟩
          go_wp2_with fail
          refine (HV.out _).mono ?_
          rintro e w9 ⟨rfl, rfl⟩
          go_wp2_with fail
          go_meet
          case rel => exact ⟨rfl, rfl⟩
        · have b3 : (ck == 3) = false := by simp [e3]
          have hz : z = 0 := by rw [hz1, if_pos e3]
          subst hz
          clear hz1 HZ3
          go_wp2_with fail
          refine (HR.out _).mono ?_
          rintro e w9 ⟨rfl, rfl⟩
          go_wp2_with fail
          go_meet
          case rel => exact ⟨rfl, rfl⟩
      · have r0b : (rz == 0) = false := by simp [r0]
        have hz : z = rz := by rw [HZ3.out, if_pos r0]
        subst hz
        clear HZ3
        go_wp2_with fail
        refine (HR.out _).mono ?_
        rintro e w9 ⟨rfl, rfl⟩
        go_wp2_with fail
        go_meet
        case rel => exact ⟨rfl, rfl⟩
    · have hz : z = 0 := by rw [HZ2.out, if_pos (by omega)]
      subst hz
      go_wp2_with fail
      go_meet
      case rel => exact ⟨rfl, rfl⟩
  case rest =>
    obtain ⟨rfl, rfl⟩ := hcut
    clear HZ0 HR HV
    by_cases z0 : z = 0
    · subst z0
      have htk := take_next_ok HT10.out ⟨n, 3, ck, k, v⟩ hn (by simp; omega) (g := g) (o := o3) (getM_set_same _ _ _) (by rw [HE3.out.1]; simp) HE3.out.2.1 (by rw [HE3.out.1]; rfl) hks' hvs' rfl (by rw [HE3.out.2.2.1]; exact HZ.out.symm)
      rw [HE3.out.2.2.2, setM_set] at htk
      unfold calV ansV zeroA tidV at htk
      dsimp only at htk
      have HTK := Lib.hid htk
      clear htk
      obtain ⟨f0, f1, f2, f3, f4⟩ := cal_cells HCR10.out
      dsimp only at f0 f1 f2 f3 f4
      go_wp2_with fail
      refine HTK.out.mono ?_
      rintro e X11 ⟨rfl, hT11, hk11⟩
      clear HTK f0 f1 f2 f3 f4
      have HB11 : Hid (Below w.heap.size w X11) := Lib.hid (HB10.out.trans (hk11.below.mono HBB.out))
      have HTR11 : Hid (X11.heap[w.heap.size]? = some (tidR t)) := Lib.hid (hk11.cells _ _ _ _ HTR10.out (by decide))
      have HAR11 : Hid (X11.heap[X4.heap.size]? = some (ansR a1)) := Lib.hid (hk11.cells _ _ _ _ HAR10.out (by decide))
      have HT11 := Lib.hid hT11
      clear hT11 hk11 HB10 HTR10 HAR10 HCR10 HT10
      have hx12 : (X11.alloc (.cells #[.int .u64 0, .int .i64 0] 25)).heap[X4.heap.size]? = some (ansR a1) := (Below.heap_alloc _ _ _ (lt_size HAR11.out)).trans HAR11.out
      have hz12 : (X11.alloc (.cells #[.int .u64 0, .int .i64 0] 25)).heap[X11.heap.size]? = some (tidR (0, 0)) := heap_alloc_new X11 _
      have hlt12 : X4.heap.size < X11.heap.size := lt_size HAR11.out
      have hne12 : X4.heap.size ≠ X11.heap.size := by omega
      have hne21 : X11.heap.size ≠ X4.heap.size := by omega
      clear hlt12
      obtain ⟨a0, a1', a2, a3, a4, a5, a6, af⟩ := ans_cells hx12
      obtain ⟨z0, z1, zf⟩ := tid_cells hz12
      clear hx12 hz12
      go_upto_region 27 with fail
      obtain ⟨V, hV, hVa, hVt, hVf⟩ := two_out HAR11.out zeroA t
      have HVB : Hid (Below w.heap.size w V) := Lib.hid (HB11.out.trans (hVf.below HB11.out.size (fun i _ e => by have := HX4.out; omega)))
      have HVT := Lib.hid (HT11.out.skip hVf HAR11.out (by decide) (by decide))
      have HVR : Hid (V.heap[w.heap.size]? = some (tidR t)) := Lib.hid (hVf.blk HTR11.out (rows_ne HAR11.out HTR11.out))
      have HVU := Lib.hid hVt
      dsimp only [zeroA] at hV
      rw [← hV]
      clear hV hVa hVt hVf a0 a1' a2 a3 a4 a5 a6 af z0 z1 zf hne12 hne21
      obtain ⟨y0, y1, _⟩ := tid_cells HVR.out
      obtain ⟨u0, u1, _⟩ := tid_cells HVU.out
      have HBZ := Lib.hid (busy_one HVT.out (b := 1) rfl)
      go_wp2_with fail
      refine HBZ.out.mono ?_
      rintro e W9 ⟨⟨A9, c9, rfl⟩, hb9⟩
      have HB9 : Hid (Below w.heap.size w W9) := HVB.out.trans (hb9.mono HVB.out.size)
      clear hb9 y0 y1 u0 u1 HBZ
      go_wp2_with fail
      go_ret
      exact ⟨rfl, HB9.out⟩
    · have zb : (z == 0) = false := by simp [z0]
      obtain ⟨a9, ha9⟩ : ∃ a9, a9 = errA ⟨n, 3, ck, k, v⟩ o3 z := ⟨_, rfl⟩
      have HA9 : Hid (a9.code = z ∧ a9.tid = t) := Lib.hid (by rw [ha9]; exact ⟨rfl, HE3.out.2.2.2⟩)
      obtain ⟨o9, ho9⟩ : ∃ o9, o9 = done (called o3 ⟨n, 3, ck, k, v⟩) a9 := ⟨_, rfl⟩
      have HE9 : Hid (o9.req = 3 ∧ o9.busy = false ∧ o9.op = true ∧ o9.tid = t) := Lib.hid (by rw [ho9]; exact ⟨rfl, rfl, HE3.out.2.2.1, HE3.out.2.2.2⟩)
      have htk := take_next_err HT10.out ⟨n, 3, ck, k, v⟩ hn (by simp; omega) (g := g) (o := o3) (getM_set_same _ _ _) (by rw [HE3.out.1]; simp) HE3.out.2.1 (by rw [HE3.out.1]; rfl) hks' hvs' (z := z) (by rw [HE3.out.2.2.1]; exact HZ.out.symm) z0
      rw [← ha9, ← ho9, setM_set] at htk
      unfold calV ansV tidV at htk
      dsimp only at htk
      have HTK := Lib.hid htk
      clear htk ha9 ho9
      obtain ⟨f0, f1, f2, f3, f4⟩ := cal_cells HCR10.out
      dsimp only at f0 f1 f2 f3 f4
      go_wp2_with fail
      refine HTK.out.mono ?_
      rintro e X11 ⟨rfl, hT11, hk11⟩
      clear HTK f0 f1 f2 f3 f4
      have HB11 : Hid (Below w.heap.size w X11) := Lib.hid (HB10.out.trans (hk11.below.mono HBB.out))
      have HTR11 : Hid (X11.heap[w.heap.size]? = some (tidR t)) := Lib.hid (hk11.cells _ _ _ _ HTR10.out (by decide))
      have HAR11 : Hid (X11.heap[X4.heap.size]? = some (ansR a1)) := Lib.hid (hk11.cells _ _ _ _ HAR10.out (by decide))
      have HT11 := Lib.hid hT11
      clear hT11 hk11 HB10 HTR10 HAR10 HCR10 HT10
      have hx12 : (X11.alloc (.cells #[.int .u64 0, .int .i64 0] 25)).heap[X4.heap.size]? = some (ansR a1) := (Below.heap_alloc _ _ _ (lt_size HAR11.out)).trans HAR11.out
      have hz12 : (X11.alloc (.cells #[.int .u64 0, .int .i64 0] 25)).heap[X11.heap.size]? = some (tidR (0, 0)) := heap_alloc_new X11 _
      have hlt12 : X4.heap.size < X11.heap.size := lt_size HAR11.out
      have hne12 : X4.heap.size ≠ X11.heap.size := by omega
      have hne21 : X11.heap.size ≠ X4.heap.size := by omega
      clear hlt12
      obtain ⟨a0, a1', a2, a3, a4, a5, a6, af⟩ := ans_cells hx12
      obtain ⟨z1, z2, zf⟩ := tid_cells hz12
      clear hx12 hz12
      go_upto_region 27 with fail
      obtain ⟨V, hV, hVa, hVt, hVf⟩ := two_out HAR11.out a9 (0, 0)
      have HVB : Hid (Below w.heap.size w V) := Lib.hid (HB11.out.trans (hVf.below HB11.out.size (fun i _ e => by have := HX4.out; omega)))
      have HVT := Lib.hid (HT11.out.skip hVf HAR11.out (by decide) (by decide))
      have HVR : Hid (V.heap[w.heap.size]? = some (tidR t)) := Lib.hid (hVf.blk HTR11.out (rows_ne HAR11.out HTR11.out))
      have HVA := Lib.hid hVa
      try dsimp only at hV
      rw [← hV]
      clear hV hVa hVt hVf a0 a1' a2 a3 a4 a5 a6 af z1 z2 zf hne12 hne21
      obtain ⟨y0, y1, _⟩ := tid_cells HVR.out
      obtain ⟨a0, a1', a2, a3, a4, a5, a6, _⟩ := ans_cells HVA.out
      rw [HA9.out.1] at a2
      rw [HA9.out.2] at a5 a6
      clear a0 a1' a3 a4
      have HBZ := Lib.hid (busy_one HVT.out (b := 0) (by rw [HE9.out.2.1]; rfl))
      go_wp2_with fail
      refine HBZ.out.mono ?_
      rintro e W9 ⟨⟨A9, c9, rfl⟩, hb9⟩
      have HB9 : Hid (Below w.heap.size w W9) := HVB.out.trans (hb9.mono HVB.out.size)
      have HT9 := Lib.hid (HVT.out.below hb9)
      have HR9 : Hid (W9.heap[w.heap.size]? = some (tidR t)) := Lib.hid ((hb9.block _ (lt_size HVR.out)).trans HVR.out)
      clear hb9 y0 y1 a2 a5 a6 HBZ
      have htk := take_next_ok HT9.out ⟨n, 4, 6, ⟨#[]⟩, ⟨#[]⟩⟩ hn (by simp; omega) (g := g) (o := o9) (getM_set_same _ _ _) (by rw [HE9.out.1]; simp) HE9.out.2.1 (by rw [HE9.out.1]; rfl) sz0 sz0 rfl (by rw [HE9.out.2.2.1]; simp [checkZ])
      rw [HE9.out.2.2.2, setM_set] at htk
      unfold calV ansV zeroA tidV at htk
      dsimp only at htk
      have HTK := Lib.hid htk
      clear htk
      go_wp2_with fail
      refine HTK.out.mono ?_
      rintro e W10 ⟨rfl, hT10, hk10⟩
      have HB10 : Hid (Below w.heap.size w W10) := Lib.hid (HB9.out.trans (hk10.below.mono HBB.out))
      have HR10 : Hid (W10.heap[w.heap.size]? = some (tidR t)) := Lib.hid (hk10.cells _ _ _ _ HR9.out (by decide))
      clear hT10 hk10 HTK HB9 HT9 HR9
      obtain ⟨W11, hW11⟩ : ∃ X, X = (W10.alloc (ansR zeroA)).alloc (tidR t) := ⟨_, rfl⟩
      have hb11 : Below W10.heap.size W10 W11 := by rw [hW11]; exact (((Below.refl _ _).alloc (Nat.le_refl _) _).alloc (by simp) _)
      have hu11 : W11.heap[W10.heap.size + 1]? = some (tidR t) := by
        rw [hW11]
        have h9 := heap_alloc_new (W10.alloc (ansR zeroA)) (tidR t)
        rwa [World.size_alloc] at h9
      have HB11' : Hid (Below w.heap.size w W11) := Lib.hid (HB10.out.trans (hb11.mono HB10.out.size))
      obtain ⟨y0, y1, _⟩ := tid_cells ((hb11.block _ (lt_size HR10.out)).trans HR10.out)
      obtain ⟨u0, u1, _⟩ := tid_cells hu11
      unfold ansR zeroA tidR at hW11
      dsimp only at hW11
      have HW11 := Lib.hid hW11
      clear hW11 hb11 hu11
      go_upto_region 32 with fail
      rw [← HW11.out]
      clear HW11
      go_wp2_with fail
      go_ret
      exact ⟨rfl, HB11'.out⟩
theorem errs_row {H : Type} {enc : TypeId × Value → H} {w : World} {base : Nat} {spare : Nat → Bool} {held : Bool} (n : Int) (hn : (Lit.int .i64 n).wf = true)
    (v1 : Value) (ok1 : Value.okWide Try.prog w .any base 25 v1) (h1 : Reads1 enc Try.prog w 0 spare held 25 v1.cells.toList) (kd : Int) (_ : (Lit.int .i64 kd).wf = true) (k : S) (hk : k.size ≤ 140737488351232) (v : S) (hv : v.size ≤ 140737488351232) :
    Calls Try.prog 4 #[.int .i64 n, v1, .int .i64 kd, .string k, .string v] w fun e w' => e = .returned (.bool true) ∧ Below w.heap.size w w' := by
  obtain ⟨t, rfl, ht⟩ := tid_val ok1 h1
  exact errs_any w n hn t ht kd k v
#print axioms errs_row
end Go.Proofs.Ytffjkdeggkppnaa.Sess
