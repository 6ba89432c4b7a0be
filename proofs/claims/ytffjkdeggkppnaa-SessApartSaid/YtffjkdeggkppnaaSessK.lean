/- SessApart: the walk. -/
import Derived.Test.YtffjkdeggkppnaaSessJ
set_option linter.unusedVariables false
set_option linter.unusedSimpArgs false
set_option linter.unusedSectionVars false
namespace Go.Proofs.Ytffjkdeggkppnaa.Sess
open Go.RowKit Go.WideShapes Go.Deep Go.Proofs.Ytffjkdeggkppnaa.Mem Go.Proofs.Ytffjkdeggkppnaa.Open Go.Proofs.Ytffjkdeggkppnaa.Maps Go.Proofs.Ytffjkdeggkppnaa.Tid Go.Proofs.Ytffjkdeggkppnaa.KeyA
def opR (o : OpS) : Obj := .cells #[.int .i64 o.k, .int .i64 o.c.sess, .int .i64 o.c.req, .int .i64 o.c.kind, .string o.c.key, .string o.c.val, .int .i64 o.n, .int .u64 o.t.1, .int .i64 o.t.2, .int .i64 o.code, .string o.v, .bool o.hs, .bool o.ov] 40 (0, 0)
theorem op_slice {w : World} {A : Option Addr} {n c : Nat} {os : List OpS} (h : Rd w w.heap.size 13 (.slice A n c) n (opC os)) {j : Nat} {o : OpS} (ho : os[j]? = some o) (hn : 0 < n) : ∃ g off, A = some ⟨g, off, none⟩ ∧
    w.cell? ⟨g, off + j * 13, none⟩ = some (.int .i64 o.k) ∧ w.cell? ⟨g, off + j * 13 + 1, none⟩ = some (.int .i64 o.c.sess) ∧ w.cell? ⟨g, off + j * 13 + 2, none⟩ = some (.int .i64 o.c.req) ∧ w.cell? ⟨g, off + j * 13 + 3, none⟩ = some (.int .i64 o.c.kind) ∧ w.cell? ⟨g, off + j * 13 + 4, none⟩ = some (.string o.c.key) ∧ w.cell? ⟨g, off + j * 13 + 5, none⟩ = some (.string o.c.val) ∧ w.cell? ⟨g, off + j * 13 + 6, none⟩ = some (.int .i64 o.n) ∧ w.cell? ⟨g, off + j * 13 + 7, none⟩ = some (.int .u64 o.t.1) ∧ w.cell? ⟨g, off + j * 13 + 8, none⟩ = some (.int .i64 o.t.2) ∧ w.cell? ⟨g, off + j * 13 + 9, none⟩ = some (.int .i64 o.code) ∧ w.cell? ⟨g, off + j * 13 + 10, none⟩ = some (.string o.v) ∧ w.cell? ⟨g, off + j * 13 + 11, none⟩ = some (.bool o.hs) ∧ w.cell? ⟨g, off + j * 13 + 12, none⟩ = some (.bool o.ov) := by
  obtain ⟨g, off, cz, e, hg, _, _, hx⟩ := h.cells hn
  injection e with e1 e2 e3
  have hr : ∀ j' u, (opC1 o)[j']? = some u → w.cell? ⟨g, off + j * 13 + j', none⟩ = some u := fun j' u hu => by rw [Nat.add_assoc]; exact hx _ _ (flat_row (k := 13) (f := opC1) (fun _ => rfl) ho j' u hu)
  exact ⟨g, off, e1, hr 0 _ rfl, hr 1 _ rfl, hr 2 _ rfl, hr 3 _ rfl, hr 4 _ rfl, hr 5 _ rfl, hr 6 _ rfl, hr 7 _ rfl, hr 8 _ rfl, hr 9 _ rfl, hr 10 _ rfl, hr 11 _ rfl, hr 12 _ rfl⟩
theorem op_cells {w : World} {g : Nat} {o : OpS} (h : w.heap[g]? = some (opR o)) :
    w.cell? ⟨g, 0, none⟩ = some (.int .i64 o.k) ∧ w.cell? ⟨g, 1, none⟩ = some (.int .i64 o.c.sess) ∧ w.cell? ⟨g, 2, none⟩ = some (.int .i64 o.c.req) ∧ w.cell? ⟨g, 3, none⟩ = some (.int .i64 o.c.kind) ∧ w.cell? ⟨g, 4, none⟩ = some (.string o.c.key) ∧ w.cell? ⟨g, 5, none⟩ = some (.string o.c.val) ∧ w.cell? ⟨g, 6, none⟩ = some (.int .i64 o.n) ∧ w.cell? ⟨g, 7, none⟩ = some (.int .u64 o.t.1) ∧ w.cell? ⟨g, 8, none⟩ = some (.int .i64 o.t.2) ∧ w.cell? ⟨g, 9, none⟩ = some (.int .i64 o.code) ∧ w.cell? ⟨g, 10, none⟩ = some (.string o.v) ∧ w.cell? ⟨g, 11, none⟩ = some (.bool o.hs) ∧ w.cell? ⟨g, 12, none⟩ = some (.bool o.ov) :=
  ⟨cell_at h rfl, cell_at h rfl, cell_at h rfl, cell_at h rfl, cell_at h rfl, cell_at h rfl, cell_at h rfl, cell_at h rfl, cell_at h rfl, cell_at h rfl, cell_at h rfl, cell_at h rfl, cell_at h rfl⟩
set_option maxHeartbeats 4000000 in
set_option maxRecDepth 100000 in
theorem apart_any {os : List OpS} (w : World) {A : Option Addr} {c : Nat} (h : Rd w w.heap.size 13 (.slice A os.length c) os.length (opC os)) (hok : ∀ o ∈ os, OpOk o) (n : Int) (hn : OkI n) (t : Int × Int) (ht : IdOk t) :
    Calls Try.prog 3 #[.slice A os.length c, .int .i64 n, .agg #[.int .u64 t.1, .int .i64 t.2]] w fun e w' => e = .returned (.bool true) ∧ Below w.heap.size w w' := by
  have HO : Hid (∀ W, Below w.heap.size w W → Rd W W.heap.size 13 (.slice A os.length c) os.length (opC os)) := fun W hb => h.up hb
  have HOK := Lib.hid hok
  have hlm := h.len_le
  clear h hok
  obtain ⟨m, hm⟩ : ∃ m, m = os.length := ⟨_, rfl⟩
  rw [← hm] at HO hlm ⊢
  have HM := Lib.hid hm
  clear hm
  unfold maxLen at hlm
  go_enter Try.func3, Try.ntmps3
  go_upto_region 1 with fail
  obtain ⟨X0, hX0⟩ : ∃ X, X = w.alloc (tidR t) := ⟨_, rfl⟩
  have HX0 : Hid (Below w.heap.size w X0) := Lib.hid (by rw [hX0]; exact (Below.refl _ _).alloc (Nat.le_refl _) _)
  have htr0 : X0.heap[w.heap.size]? = some (tidR t) := by rw [hX0]; exact heap_alloc_new w _
  have HTR0 := Lib.hid htr0
  unfold tidR at hX0
  rw [← hX0]
  clear hX0 htr0
  go_wp2_with fail
  refine (head_any X0).mono ?_
  rintro e w1 ⟨rfl, hb1⟩
  have HB1 : Hid (Below w.heap.size w w1) := HX0.out.trans (hb1.mono HX0.out.size)
  have HTR1 : Hid (w1.heap[w.heap.size]? = some (tidR t)) := Lib.hid ((hb1.block _ (lt_size HTR0.out)).trans HTR0.out)
  clear hb1 HTR0
  by_cases g1 : n < 0
  · go_wp2_with fail
    go_ret
    exact ⟨rfl, HB1.out⟩
  by_cases g2 : 30 < m
  · have g2' : (30 : Int) < (m : Int) := by omega
    go_wp2_with fail
    go_ret
    exact ⟨rfl, HB1.out⟩
  have g2' : ¬ (30 : Int) < (m : Int) := by omega
  go_wp2_with fail
  refine (new_any w1).mono ?_
  rintro e X2 ⟨rfl, hT2, hb2⟩
  have HB2 : Hid (Below w.heap.size w X2) := HB1.out.trans (hb2.mono HB1.out.size)
  have HTR2 : Hid (X2.heap[w.heap.size]? = some (tidR t)) := Lib.hid ((hb2.block _ (lt_size HTR1.out)).trans HTR1.out)
  have HT2 := Lib.hid hT2
  have HBB : Hid (w.heap.size ≤ w1.heap.size) := Lib.hid HB1.out.size
  clear hb2 hT2 HTR1
  obtain ⟨c1, hc1⟩ : ∃ c1 : Cal, c1 = ⟨n, 1, 1, ⟨#[]⟩, ⟨#[]⟩⟩ := ⟨_, rfl⟩
  obtain ⟨X3, hX3⟩ : ∃ X, X = X2.alloc (calR c1) := ⟨_, rfl⟩
  have hb3 : Below X2.heap.size X2 X3 := by rw [hX3]; exact ((Below.refl _ _).alloc (Nat.le_refl _) _)
  have hrCR : X3.heap[X2.heap.size]? = some (calR c1) := by rw [hX3]; exact heap_alloc_new _ _
  have HB3 : Hid (Below w.heap.size w X3) := Lib.hid (HB2.out.trans (hb3.mono HB2.out.size))
  have HTR3 := Lib.hid ((hb3.block _ (lt_size HTR2.out)).trans HTR2.out)
  have HT3 := Lib.hid (HT2.out.below hb3)
  clear HB2 HTR2 HT2
  have HCR3 := Lib.hid hrCR
  clear hb3 hrCR
  rw [hc1] at hX3
  unfold calR at hX3
  dsimp only at hX3
  have HX3 := Lib.hid hX3
  clear hX3
  go_upto_region 7 with fail
  rw [← HX3.out]
  clear HX3
  have hcr := HCR3.out
  rw [hc1] at hcr
  obtain ⟨f0, f1, f2, f3, f4⟩ := cal_cells hcr
  dsimp only at f0 f1 f2 f3 f4
  have hce : calV c1 = .agg #[.int .i64 n, .int .i64 1, .int .i64 1, .string ⟨#[]⟩, .string ⟨#[]⟩] := by rw [hc1]; rfl
  have hse : c1.sess = n := by rw [hc1]
  have hke : c1.key.size ≤ 9223372036854775807 := by rw [hc1]; exact (by decide : ByteArray.size ⟨#[]⟩ ≤ 9223372036854775807)
  have hve : c1.val.size ≤ 9223372036854775807 := by rw [hc1]; exact (by decide : ByteArray.size ⟨#[]⟩ ≤ 9223372036854775807)
  have htk := take_new_ok HT3.out c1 (by rw [hse]; exact hn) (by rw [hse]; omega) rfl (by rw [hc1]) (by simp) hke hve rfl (by rw [hc1]; simp [checkZ, zeroO])
  rw [hce, hse] at htk
  unfold ansV zeroA tidV at htk
  dsimp only at htk
  have HTK := Lib.hid htk
  have HCE := Lib.hid hce
  have HSE := Lib.hid hse
  have HRE : Hid (c1.req = 1) := Lib.hid (by rw [hc1])
  have HC1 := Lib.hid hc1
  clear hcr htk hc1 hce hse hke hve
  go_wp2_with fail
  refine HTK.out.mono ?_
  rintro e X4 ⟨rfl, g, hg, hT4, hk4⟩
  clear HTK f0 f1 f2 f3 f4 hg
  have HB4 : Hid (Below w.heap.size w X4) := Lib.hid (HB3.out.trans (hk4.below.mono HBB.out))
  have HTR4 := Lib.hid (hk4.cells _ _ _ _ HTR3.out (by decide))
  have HCR4 := Lib.hid (hk4.cells _ _ _ _ HCR3.out (by decide))
  clear HB3 HTR3 HCR3 HT3
  have HT4 := Lib.hid hT4
  clear hT4 hk4
  obtain ⟨X5, hX5⟩ : ∃ X, X = (X4.alloc (ansR zeroA)).alloc (tidR (0, 0)) := ⟨_, rfl⟩
  have hb5 : Below X4.heap.size X4 X5 := by rw [hX5]; exact (((Below.refl _ _).alloc (Nat.le_refl _) _).alloc (by simp) _)
  have HB5 : Hid (Below w.heap.size w X5) := Lib.hid (HB4.out.trans (hb5.mono HB4.out.size))
  have HTR5 := Lib.hid ((hb5.block _ (lt_size HTR4.out)).trans HTR4.out)
  have HCR5 := Lib.hid ((hb5.block _ (lt_size HCR4.out)).trans HCR4.out)
  have HT5 := Lib.hid (HT4.out.below hb5)
  clear HB4 HTR4 HCR4 HT4
  clear hb5
  unfold ansR zeroA tidR at hX5
  try dsimp only at hX5
  have HX5 := Lib.hid hX5
  clear hX5
  go_upto_region 8 with fail
  rw [← HX5.out]
  clear HX5
  go_upto_region 10 with fail
  obtain ⟨y0, y1, yf⟩ := tid_cells HTR5.out
  obtain ⟨o1, ho1⟩ : ∃ o1, o1 = called zeroO c1 := ⟨_, rfl⟩
  obtain ⟨a, ha⟩ : ∃ a, a = fill zeroA n (opened o1 t) := ⟨_, rfl⟩
  obtain ⟨o2, ho2⟩ : ∃ o2, o2 = done (opened o1 t) a := ⟨_, rfl⟩
  have hop := open_ok HT5.out hn t ht (g := g) (o := called zeroO c1) (getM_set_same _ _ _) rfl rfl
  rw [← ho1, ← ha, ← ho2, setM_set] at hop
  unfold ansV at hop
  have HOP := Lib.hid hop
  have HE : Hid (o2.req = 1 ∧ o2.busy = false ∧ o2.op = true ∧ o2.tid = t ∧ o2.last = a) := Lib.hid (by rw [ho2, ho1]; exact ⟨HRE.out, rfl, rfl, rfl, rfl⟩)
  clear hop ha ho1 ho2
  go_wp2_with fail
  refine HOP.out.mono ?_
  rintro e X6 ⟨rfl, hT6, hk6⟩
  clear HOP y0 y1 yf
  have HB6 : Hid (Below w.heap.size w X6) := Lib.hid (HB5.out.trans (hk6.below.mono HBB.out))
  have HTR6 := Lib.hid (hk6.cells _ _ _ _ HTR5.out (by decide))
  have HCR6 := Lib.hid (hk6.cells _ _ _ _ HCR5.out (by decide))
  clear HB5 HTR5 HCR5 HT5
  have HT6 := Lib.hid hT6
  clear hT6 hk6
  obtain ⟨X7, hX7⟩ : ∃ X, X = X6.alloc (ansR a) := ⟨_, rfl⟩
  have hb7 : Below X6.heap.size X6 X7 := by rw [hX7]; exact ((Below.refl _ _).alloc (Nat.le_refl _) _)
  have hrAR : X7.heap[X6.heap.size]? = some (ansR a) := by rw [hX7]; exact heap_alloc_new _ _
  have HB7 : Hid (Below w.heap.size w X7) := Lib.hid (HB6.out.trans (hb7.mono HB6.out.size))
  have HTR7 := Lib.hid ((hb7.block _ (lt_size HTR6.out)).trans HTR6.out)
  have HCR7 := Lib.hid ((hb7.block _ (lt_size HCR6.out)).trans HCR6.out)
  have HT7 := Lib.hid (HT6.out.below hb7)
  clear HB6 HTR6 HCR6 HT6
  have HAR7 := Lib.hid hrAR
  clear hb7 hrAR
  unfold ansR at hX7
  try dsimp only at hX7
  have HX7 := Lib.hid hX7
  clear hX7
  go_upto_region 11 with fail
  rw [← HX7.out]
  clear HX7
  go_wp2_with fail
  go_loopw [54] (fun i wr => ∃ (j : Nat) (ss : List (Int × (Nat × One))) (of : List ((Int × Int) × Int)), j ≤ m ∧ i = .int .i64 j ∧ Tab wr w1.heap.size (w1.heap.size + 1 + 1) w1.heap.size (w1.heap.size + 1) ss of ∧ getM ss n = some (g, o2) ∧ (∀ t' m, getM of t' = some m → m = n → t' = t) ∧ Kp w1.heap.size X7 wr) (fun i _ => m - (intOf i).toNat)
  case atStart => exact ⟨0, _, _, Nat.zero_le _, rfl, HT7.out, getM_set_same _ _ _, (fun t' m' hm _ => by
    rw [getM_set] at hm
    split at hm
    · rename_i e; exact e.symm
    · cases hm), Kp.refl _ _⟩
  case round =>
    obtain ⟨j, ss, of, hj, rfl, htab, hgn, hof, hkp⟩ := hrel
    have HTAB := Lib.hid htab
    have HGN := Lib.hid hgn
    have HOF := Lib.hid hof
    have HKP := Lib.hid hkp
    have HBW : Hid (Below w.heap.size w wr) := Lib.hid (HB7.out.trans (hkp.below.mono HBB.out))
    clear htab hgn hof hkp
    by_cases hlt : j < m
    · obtain ⟨o, hoj⟩ : ∃ o, os[j]? = some o := ⟨os[j]'(by rw [← HM.out]; omega), List.getElem?_eq_getElem _⟩
      obtain ⟨gs, off, rfl, c0, c1', c2, c3, c4, c5, c6, c7, c8, c9, c10, c11, c12⟩ := op_slice (HO.out wr HBW.out) hoj (by omega)
      have HOO := Lib.hid (HOK.out o (List.mem_of_getElem? hoj))
      obtain ⟨Y, hY⟩ : ∃ Y, Y = wr.alloc (opR o) := ⟨_, rfl⟩
      have hby : Below wr.heap.size wr Y := by rw [hY]; exact (Below.refl _ _).alloc (Nat.le_refl _) _
      have hyr : Y.heap[wr.heap.size]? = some (opR o) := by rw [hY]; exact heap_alloc_new wr _
      have HYT := Lib.hid (HTAB.out.below hby)
      have HYK : Hid (Kp w1.heap.size X7 Y) := Lib.hid (HKP.out.trans (Kp.of_below hby HTAB.out.size))
      have HYR := Lib.hid hyr
      unfold opR at hY
      have HYE := Lib.hid hY
      have i0 : (0 : Int) ≤ (j : Int) := by omega
      have i1 : (j : Int) < (m : Int) := by omega
      clear hY hby hyr hoj
      go_upto_region 16 with fail
      rw [← HYE.out]
      clear HYE c0 c1' c2 c3 c4 c5 c6 c7 c8 c9 c10 c11 c12 HTAB HKP HBW
      obtain ⟨d0, d1, d2, d3, d4, d5, d6, d7, d8, d9, d10, d11, d12⟩ := op_cells HYR.out
      obtain ⟨y0, y1, yf⟩ := tid_cells (HYK.out.cells _ _ _ _ HTR7.out (by decide))
      obtain ⟨ok, ⟨cs, cr, ck, ckey, cval⟩, on, ot, oz, ov, ohs, oov⟩ := o
      dsimp only at d0 d1 d2 d3 d4 d5 d6 d7 d8 d9 d10 d11 d12
      by_cases e1 : cs = n
      · have e1b : (cs == n) = true := by simp [e1]
        have E1 := Lib.hid e1
        clear e1
        go_wp2_with fail
        go_roundw
        case rel => exact ⟨j + 1, ss, of, by omega, by go_num, HYT.out, HGN.out, HOF.out, HYK.out⟩
        case measure => simp [intOf]; omega
      have e1b : (cs == n) = false := by simp [e1]
      by_cases e2 : on = n
      · have e2b : (on == n) = true := by simp [e2]
        have E2 := Lib.hid e2
        clear e2
        go_wp2_with fail
        go_roundw
        case rel => exact ⟨j + 1, ss, of, by omega, by go_num, HYT.out, HGN.out, HOF.out, HYK.out⟩
        case measure => simp [intOf]; omega
      have e2b : (on == n) = false := by simp [e2]
      by_cases e3 : ot = t
      · have e3b : (ot.1 == t.1) = true := by simp [e3]
        have e3c : (ot.2 == t.2) = true := by simp [e3]
        have E3 := Lib.hid e3
        clear e3
        go_wp2_with fail
        go_roundw
        case rel => exact ⟨j + 1, ss, of, by omega, by go_num, HYT.out, HGN.out, HOF.out, HYK.out⟩
        case measure => simp [intOf]; omega
      have HE1 := Lib.hid e1
      have HE2 := Lib.hid e2
      have HE3 := Lib.hid e3
      clear e1 e2
      go_cut [94] from 58 to 94 (fun s wx => s = .bool (decide (100 < ckey.size) || decide (100 < cval.size) || decide (100 < ov.size)) ∧ wx = Y)
      case first =>
        by_cases k1 : ot.1 = t.1
        · have k1b : (ot.1 == t.1) = true := by simp [k1]
          have k2 : ¬ ot.2 = t.2 := fun k2 => e3 (Prod.ext k1 k2)
          have k2b : (ot.2 == t.2) = false := by simp [k2]
          clear k1 k2 e3
          by_cases l1 : 100 < ckey.size
          · have l1' : (100 : Int) < (ckey.size : Int) := by omega
            have L1 := Lib.hid l1
            go_wp2_with fail
            go_meet
            case rel => exact ⟨by rw [decide_eq_true L1.out]; rfl, rfl⟩
          · have l1' : ¬ (100 : Int) < (ckey.size : Int) := by omega
            have L1 := Lib.hid (decide_eq_false l1)
            by_cases l2 : 100 < cval.size
            · have l2' : (100 : Int) < (cval.size : Int) := by omega
              have L2 := Lib.hid l2
              go_wp2_with fail
              go_meet
              case rel => exact ⟨by rw [L1.out, decide_eq_true L2.out]; rfl, rfl⟩
            · have l2' : ¬ (100 : Int) < (cval.size : Int) := by omega
              have L2 := Lib.hid (decide_eq_false l2)
              by_cases l3 : 100 < ov.size
              · have l3' : (100 : Int) < (ov.size : Int) := by omega
                have L3 := Lib.hid l3
                go_wp2_with fail
                go_meet
                case rel => exact ⟨by rw [L1.out, L2.out, decide_eq_true L3.out]; rfl, rfl⟩
              · have l3' : ¬ (100 : Int) < (ov.size : Int) := by omega
                have L3 := Lib.hid (decide_eq_false l3)
                go_wp2_with fail
                go_meet
                case rel => exact ⟨by rw [L1.out, L2.out, L3.out]; rfl, rfl⟩
        · have k1b : (ot.1 == t.1) = false := by simp [k1]
          clear k1 e3
          by_cases l1 : 100 < ckey.size
          · have l1' : (100 : Int) < (ckey.size : Int) := by omega
            have L1 := Lib.hid l1
            go_wp2_with fail
            go_meet
            case rel => exact ⟨by rw [decide_eq_true L1.out]; rfl, rfl⟩
          · have l1' : ¬ (100 : Int) < (ckey.size : Int) := by omega
            have L1 := Lib.hid (decide_eq_false l1)
            by_cases l2 : 100 < cval.size
            · have l2' : (100 : Int) < (cval.size : Int) := by omega
              have L2 := Lib.hid l2
              go_wp2_with fail
              go_meet
              case rel => exact ⟨by rw [L1.out, decide_eq_true L2.out]; rfl, rfl⟩
            · have l2' : ¬ (100 : Int) < (cval.size : Int) := by omega
              have L2 := Lib.hid (decide_eq_false l2)
              by_cases l3 : 100 < ov.size
              · have l3' : (100 : Int) < (ov.size : Int) := by omega
                have L3 := Lib.hid l3
                go_wp2_with fail
                go_meet
                case rel => exact ⟨by rw [L1.out, L2.out, decide_eq_true L3.out]; rfl, rfl⟩
              · have l3' : ¬ (100 : Int) < (ov.size : Int) := by omega
                have L3 := Lib.hid (decide_eq_false l3)
                go_wp2_with fail
                go_meet
                case rel => exact ⟨by rw [L1.out, L2.out, L3.out]; rfl, rfl⟩
      case rest =>
        obtain ⟨rfl, rfl⟩ := hcut
        by_cases hbig : 100 < ckey.size ∨ 100 < cval.size ∨ 100 < ov.size
        · have hd : (decide (100 < ckey.size) || decide (100 < cval.size) || decide (100 < ov.size)) = true := by
            rcases hbig with h | h | h <;> simp [h]
          rw [hd]
          clear hd hbig
          go_wp2_with fail
          go_roundw
          case rel => exact ⟨j + 1, ss, of, by omega, by go_num, HYT.out, HGN.out, HOF.out, HYK.out⟩
          case measure => simp [intOf]; omega
        · have hd : (decide (100 < ckey.size) || decide (100 < cval.size) || decide (100 < ov.size)) = false := by
            rw [decide_eq_false (by omega), decide_eq_false (by omega), decide_eq_false (by omega)]; rfl
          rw [hd]
          have hck : ckey.size ≤ 9223372036854775807 := by omega
          have hcv : cval.size ≤ 9223372036854775807 := by omega
          clear hd hbig
          by_cases k0 : ok = 0
          · have k0b : (ok == 0) = true := by simp [k0]
            have htk := take_far HYT.out ⟨cs, cr, ck, ckey, cval⟩ HOO.out.1 hck hcv
            unfold calV at htk
            dsimp only at htk
            have HTK := Lib.hid htk
            clear htk k0
            go_wp2_with fail
            refine HTK.out.mono ?_
            rintro e W9 ⟨⟨r, rfl⟩, ss9, ht9, hk9, hf9⟩
            clear HTK
            have HT9 := Lib.hid ht9
            have HK9 : Hid (Kp w1.heap.size X7 W9) := Lib.hid (HYK.out.trans hk9)
            have HG9 : Hid (getM ss9 n = some (g, o2)) := Lib.hid ((hf9 n (fun e => HE1.out e.symm)).trans HGN.out)
            have HO9 : Hid (∀ t' m, getM of t' = some m → m = n → t' = t) := Lib.hid (HOF.out)
            clear ht9 hk9 hf9
            go_wp2_with fail
            go_roundw
            case rel => exact ⟨j + 1, ss9, of, by omega, by go_num, HT9.out, HG9.out, HO9.out, HK9.out⟩
            case measure => simp [intOf]; omega
          have k0b : (ok == 0) = false := by simp [k0]
          by_cases k1 : ok = 1
          · have k1b : (ok == 1) = true := by simp [k1]
            have htk := open_far HYT.out HOO.out.2.1 ot HOO.out.2.2
            try dsimp only at htk
            have HTK := Lib.hid htk
            clear htk k1
            go_wp2_with fail
            refine HTK.out.mono ?_
            rintro e W9 ⟨⟨r, rfl⟩, ss9, of9, ht9, hk9, hf9, ho9⟩
            clear HTK
            have HT9 := Lib.hid ht9
            have HK9 : Hid (Kp w1.heap.size X7 W9) := Lib.hid (HYK.out.trans hk9)
            have HG9 : Hid (getM ss9 n = some (g, o2)) := Lib.hid ((hf9 n (fun e => HE2.out e.symm)).trans HGN.out)
            have HO9 : Hid (∀ t' m, getM of9 t' = some m → m = n → t' = t) := Lib.hid (fun t' m' hm e => (ho9 t' m' hm).elim (fun h => HOF.out t' m' h e) (fun h => absurd (h.2.symm.trans e) HE2.out))
            clear ht9 hk9 hf9 ho9
            go_wp2_with fail
            go_roundw
            case rel => exact ⟨j + 1, ss9, of9, by omega, by go_num, HT9.out, HG9.out, HO9.out, HK9.out⟩
            case measure => simp [intOf]; omega
          have k1b : (ok == 1) = false := by simp [k1]
          by_cases k2 : ok = 2
          · have k2b : (ok == 2) = true := by simp [k2]
            have htk := fail_far HYT.out HOO.out.2.1 oz
            try dsimp only at htk
            have HTK := Lib.hid htk
            clear htk k2
            go_wp2_with fail
            refine HTK.out.mono ?_
            rintro e W9 ⟨⟨r, rfl⟩, ss9, ht9, hk9, hf9⟩
            clear HTK
            have HT9 := Lib.hid ht9
            have HK9 : Hid (Kp w1.heap.size X7 W9) := Lib.hid (HYK.out.trans hk9)
            have HG9 : Hid (getM ss9 n = some (g, o2)) := Lib.hid ((hf9 n (fun e => HE2.out e.symm)).trans HGN.out)
            have HO9 : Hid (∀ t' m, getM of t' = some m → m = n → t' = t) := Lib.hid (HOF.out)
            clear ht9 hk9 hf9
            go_wp2_with fail
            go_roundw
            case rel => exact ⟨j + 1, ss9, of, by omega, by go_num, HT9.out, HG9.out, HO9.out, HK9.out⟩
            case measure => simp [intOf]; omega
          have k2b : (ok == 2) = false := by simp [k2]
          by_cases k3 : ok = 3
          · have k3b : (ok == 3) = true := by simp [k3]
            have htk := told_far HYT.out ot HOO.out.2.2 oz ov ohs oov
            try dsimp only at htk
            have HTK := Lib.hid htk
            clear htk k3
            go_wp2_with fail
            refine HTK.out.mono ?_
            rintro e W9 ⟨⟨r, rfl⟩, ss9, of9, ht9, hk9, hf9, ho9⟩
            clear HTK
            have HT9 := Lib.hid ht9
            have HK9 : Hid (Kp w1.heap.size X7 W9) := Lib.hid (HYK.out.trans hk9)
            have HG9 : Hid (getM ss9 n = some (g, o2)) := Lib.hid ((hf9 n (fun e => HE3.out (HOF.out ot n e rfl))).trans HGN.out)
            have HO9 : Hid (∀ t' m, getM of9 t' = some m → m = n → t' = t) := Lib.hid (fun t' m' hm e => HOF.out t' m' (ho9 t' m' hm) e)
            clear ht9 hk9 hf9 ho9
            go_wp2_with fail
            go_roundw
            case rel => exact ⟨j + 1, ss9, of9, by omega, by go_num, HT9.out, HG9.out, HO9.out, HK9.out⟩
            case measure => simp [intOf]; omega
          have k3b : (ok == 3) = false := by simp [k3]
          go_wp2_with fail
          go_roundw
          case rel => exact ⟨j + 1, ss, of, by omega, by go_num, HYT.out, HGN.out, HOF.out, HYK.out⟩
          case measure => simp [intOf]; omega
    · obtain rfl : j = m := by omega
      have i1 : ¬ ((j : Int) < (j : Int)) := by omega
      have HCRa : Hid (wr.heap[X2.heap.size]? = some (calR c1)) := Lib.hid (HKP.out.cells _ _ _ _ HCR7.out (by decide))
      have HARa : Hid (wr.heap[X6.heap.size]? = some (ansR a)) := Lib.hid (HKP.out.cells _ _ _ _ HAR7.out (by decide))
      have HTRa : Hid (wr.heap[w.heap.size]? = some (tidR t)) := Lib.hid (HKP.out.cells _ _ _ _ HTR7.out (by decide))
      have HB8 := HBW
      have HT8 := HTAB
      clear HBW HTAB HTR7 HCR7 HAR7 HKP
      have HTR8 := HTRa
      have HCR8 := HCRa
      have HAR8 := HARa
      clear HTRa HCRa HARa
      have htk := take_last HT8.out c1 (by rw [HSE.out]; exact hn) (by rw [HSE.out]; omega) (by rw [HSE.out]; exact HGN.out) (by rw [HRE.out, HE.out.1]) HE.out.2.1
      rw [HCE.out, HE.out.2.2.2.2] at htk
      unfold ansV tidV at htk
      dsimp only at htk
      have HTK := Lib.hid htk
      have HCV : Hid (calR c1 = calR ⟨n, 1, 1, ⟨#[]⟩, ⟨#[]⟩⟩) := Lib.hid (by rw [HC1.out])
      have hcr := HCR8.out
      rw [HCV.out] at hcr
      obtain ⟨f0, f1, f2, f3, f4⟩ := cal_cells hcr
      dsimp only at f0 f1 f2 f3 f4
      clear htk hcr
      go_wp2_with fail
      refine HTK.out.mono ?_
      rintro e X9 ⟨rfl, hb9⟩
      clear HTK f0 f1 f2 f3 f4
      have HB9 : Hid (Below w.heap.size w X9) := Lib.hid (HB8.out.trans (hb9.mono HB8.out.size))
      have HTR9 := Lib.hid ((hb9.block _ (lt_size HTR8.out)).trans HTR8.out)
      have HCR9 := Lib.hid ((hb9.block _ (lt_size HCR8.out)).trans HCR8.out)
      have HAR9 := Lib.hid ((hb9.block _ (lt_size HAR8.out)).trans HAR8.out)
      have HT9 := Lib.hid (HT8.out.below hb9)
      clear HB8 HTR8 HCR8 HAR8 HT8
      clear hb9
      obtain ⟨X10, hX10⟩ : ∃ X, X = (X9.alloc (ansR a)).alloc (tidR (0, 0)) := ⟨_, rfl⟩
      have hb10 : Below X9.heap.size X9 X10 := by rw [hX10]; exact (((Below.refl _ _).alloc (Nat.le_refl _) _).alloc (by simp) _)
      have hrBR : X10.heap[X9.heap.size]? = some (ansR a) := by rw [hX10, Below.heap_alloc _ _ _ (by simp)]; exact heap_alloc_new _ _
      have HB10 : Hid (Below w.heap.size w X10) := Lib.hid (HB9.out.trans (hb10.mono HB9.out.size))
      have HTR10 := Lib.hid ((hb10.block _ (lt_size HTR9.out)).trans HTR9.out)
      have HCR10 := Lib.hid ((hb10.block _ (lt_size HCR9.out)).trans HCR9.out)
      have HAR10 := Lib.hid ((hb10.block _ (lt_size HAR9.out)).trans HAR9.out)
      have HT10 := Lib.hid (HT9.out.below hb10)
      clear HB9 HTR9 HCR9 HAR9 HT9
      have HBR10 := Lib.hid hrBR
      clear hb10 hrBR
      unfold ansR tidR at hX10
      try dsimp only at hX10
      have HX10 := Lib.hid hX10
      clear hX10
      go_upto_region 28 with fail
      rw [← HX10.out]
      clear HX10
      have htk := take_next_ok HT10.out ⟨n, 2, 5, ⟨#[]⟩, ⟨#[]⟩⟩ hn (by simp; omega) HGN.out (by rw [HE.out.1]; simp) HE.out.2.1 (by rw [HE.out.1]; rfl) (by exact (by decide : ByteArray.size ⟨#[]⟩ ≤ 9223372036854775807)) (by exact (by decide : ByteArray.size ⟨#[]⟩ ≤ 9223372036854775807)) rfl (by rw [HE.out.2.2.1]; simp [checkZ])
      rw [HE.out.2.2.2.1] at htk
      unfold calV ansV zeroA tidV at htk
      dsimp only at htk
      have HTK := Lib.hid htk
      clear htk
      go_wp2_with fail
      refine HTK.out.mono ?_
      rintro e X11 ⟨rfl, hT11, hk11⟩
      clear HTK
      have HB11 : Hid (Below w.heap.size w X11) := Lib.hid (HB10.out.trans (hk11.below.mono HBB.out))
      have HTR11 := Lib.hid (hk11.cells _ _ _ _ HTR10.out (by decide))
      have HCR11 := Lib.hid (hk11.cells _ _ _ _ HCR10.out (by decide))
      have HAR11 := Lib.hid (hk11.cells _ _ _ _ HAR10.out (by decide))
      have HBR11 := Lib.hid (hk11.cells _ _ _ _ HBR10.out (by decide))
      clear HB10 HTR10 HCR10 HAR10 HBR10 HT10
      have HT11 := Lib.hid hT11
      clear hT11 hk11
      obtain ⟨X12, hX12⟩ : ∃ X, X = (X11.alloc (ansR zeroA)).alloc (tidR t) := ⟨_, rfl⟩
      have hb12 : Below X11.heap.size X11 X12 := by rw [hX12]; exact (((Below.refl _ _).alloc (Nat.le_refl _) _).alloc (by simp) _)
      have hrUR : X12.heap[X11.heap.size + 1]? = some (tidR t) := by
        rw [hX12]
        have h9 := heap_alloc_new (X11.alloc (ansR zeroA)) (tidR t)
        rwa [World.size_alloc] at h9
      have HB12 : Hid (Below w.heap.size w X12) := Lib.hid (HB11.out.trans (hb12.mono HB11.out.size))
      have HTR12 := Lib.hid ((hb12.block _ (lt_size HTR11.out)).trans HTR11.out)
      have HCR12 := Lib.hid ((hb12.block _ (lt_size HCR11.out)).trans HCR11.out)
      have HAR12 := Lib.hid ((hb12.block _ (lt_size HAR11.out)).trans HAR11.out)
      have HBR12 := Lib.hid ((hb12.block _ (lt_size HBR11.out)).trans HBR11.out)
      have HT12 := Lib.hid (HT11.out.below hb12)
      clear HB11 HTR11 HCR11 HAR11 HBR11 HT11
      have HUR12 := Lib.hid hrUR
      clear hb12 hrUR
      unfold ansR zeroA tidR at hX12
      try dsimp only at hX12
      have HX12 := Lib.hid hX12
      clear hX12
      go_upto_region 29 with fail
      rw [← HX12.out]
      clear HX12
      obtain ⟨a0, a1, a2, a3, a4, a5, a6, _⟩ := ans_cells HAR12.out
      obtain ⟨b0, b1, b2, b3, b4, b5, b6, _⟩ := ans_cells HBR12.out
      obtain ⟨y0, y1, _⟩ := tid_cells HTR12.out
      obtain ⟨u0, u1, _⟩ := tid_cells HUR12.out
      have he0 : (a.sess == a.sess) = true := by simp
      have hen : (t.1 == t.1) = true := by simp
      go_wp2_with fail
      go_ret
      exact ⟨rfl, HB12.out⟩
theorem apart_row {H : Type} {enc : TypeId × Value → H} {w : World} {base : Nat} {spare : Nat → Bool} {held : Bool} (v0 : Value) (ok0 : Value.okWide Try.prog w .any base 22 v0) (h0 : Reads1 enc Try.prog w 0 spare held 22 v0.cells.toList)
    (n : Int) (hn : (Lit.int .i64 n).wf = true) (v2 : Value) (ok2 : Value.okWide Try.prog w .any base 25 v2) (h2 : Reads1 enc Try.prog w 0 spare held 25 v2.cells.toList) :
    Calls Try.prog 3 #[v0, .int .i64 n, v2] w fun e w' => e = .returned (.bool true) ∧ Below w.heap.size w w' := by
  obtain ⟨os, hr, ho⟩ := ops_val ok0 h0
  obtain ⟨t, rfl, ht⟩ := tid_val ok2 h2
  obtain ⟨A, c, rfl⟩ : ∃ A c, v0 = .slice A os.length c := by
    obtain ⟨_, A, c, e, _⟩ := hr; exact ⟨A, c, e⟩
  exact apart_any w hr ho n hn t ht
#print axioms apart_row
end Go.Proofs.Ytffjkdeggkppnaa.Sess
