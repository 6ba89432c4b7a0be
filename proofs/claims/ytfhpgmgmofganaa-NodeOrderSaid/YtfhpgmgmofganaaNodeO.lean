/- NodeOrder: the walk. -/
import Derived.Test.YtfhpgmgmofganaaNodeZ
import Derived.Test.YtfhpgmgmofganaaNodeV
set_option linter.unusedVariables false
set_option linter.unusedSimpArgs false
set_option linter.unusedSectionVars false
namespace Go.Proofs.Ytfhpgmgmofganaa.NodeA
open Go.RowKit Go.WideShapes Go.Deep Go.Proofs.Ytfhpgmgmofganaa.Mem Go.Proofs.Ytfhpgmgmofganaa.Open Go.Proofs.Ytfhpgmgmofganaa.Kv
theorem PgO.forms {w : World} {base : Nat} {kv vv nv : Value} {p : Pg} (h : PgO w base kv vv nv p) : ∃ Ak ck Av cv An cn, kv = .slice Ak p.keys.length ck ∧ vv = .slice Av p.vals.length cv ∧ nv = .slice An p.kids.length cn := h.rd.forms
set_option maxHeartbeats 2000000 in
set_option maxRecDepth 100000 in
theorem order_any {v : Value} {keys : List S} (w : World) (h : Rd w w.heap.size 1 v keys.length (sc keys)) (hn : keys.length ≤ 20) (hsz : ∀ k ∈ keys, k.size < 9223372036854775807) (turn : Int) (ht : (Lit.int .i64 turn).wf = true) :
    Calls Try.prog 6 #[v, .int .i64 turn] w fun e w' => e = .returned (.bool true) ∧ Below w.heap.size w w' := by
  obtain ⟨t, het, htl⟩ : ∃ t : Nat, bits .and .i64 turn 255 = (t : Int) ∧ t < 256 := by
    have hk : ∀ n : Nat, n < 256 → IntKind.i64.wrap (n : Int) = n := fun n hn => by rw [IntKind.wrap_i64]; omega
    refine ⟨((BitVec.ofInt 64 turn).toNat &&& 255), ?_, Nat.lt_succ_of_le Nat.and_le_right⟩
    have e : bits .and .i64 turn 255 = IntKind.i64.wrap (((BitVec.ofInt 64 turn &&& BitVec.ofInt 64 255).toNat : Nat) : Int) := rfl
    rw [e, BitVec.toNat_and, show (BitVec.ofInt 64 255).toNat = 255 from rfl]
    exact hk _ (Nat.lt_succ_of_le Nat.and_le_right)
  have HR : Hid (∀ W, Below w.heap.size w W → Rd W W.heap.size 1 v keys.length (sc keys)) := fun W hb => h.up hb
  obtain ⟨_, A, c, rfl, hc1, hc2, hx⟩ := h
  have HX := Lib.hid hx
  have HSZ := Lib.hid hsz
  clear hx hsz
  obtain ⟨n, hnn⟩ : ∃ n, n = keys.length := ⟨_, rfl⟩
  have HLF : Hid (∀ W, Below w.heap.size w W → Calls Try.prog 9 #[.slice A n c] W fun e w' => ∃ kv vv, e = .returned (pv 1 kv vv (.slice none 0 0)) ∧ PgO w' W.heap.size kv vv (.slice none 0 0) (leafOf (leafK keys)) ∧ Below W.heap.size W w') := by
    rw [hnn]; exact Lib.hid fun W hb => leaf_any W (HR.out W hb) hn HSZ.out
  rw [← hnn] at hn hc1 ⊢
  have HN := Lib.hid hnn
  clear hnn HR
  have hn2 : (n : Int) ≤ 20 := by omega
  unfold pv at *
  go_enter Try.func6, Try.ntmps6
  go_wp2_with fail
  refine (head_any w).mono ?_
  rintro e w0 ⟨rfl, hb0⟩
  have HB0 := Lib.hid hb0
  clear hb0
  go_wp2_with fail
  go_loopw [7, 8, 9, 20] (fun _ _ _ i wr => ∃ (j : Nat) (ka va na kb vb nb : Value), j ≤ n ∧ i = .int .i64 j ∧ wr.heap[w0.heap.size]? = some (.cells #[.int .i64 1, ka, va, na, .int .i64 0, .int .i64 0, .int .i64 0, .int .i64 0] 26 (0, 0)) ∧ wr.heap[w0.heap.size + 1]? = some (.cells #[.int .i64 1, kb, vb, nb, .int .i64 0, .int .i64 0, .int .i64 0, .int .i64 0] 26 (0, 0)) ∧ PgO wr w.heap.size ka va na (leafOf (leafK (keys.take j))) ∧ PgO wr w.heap.size kb vb nb (leafOf (leafK (rot keys t j))) ∧ Below w0.heap.size w0 wr) (fun _ _ _ i _ => n - (intOf i).toNat)
  case atStart =>
    refine ⟨0, .slice none 0 0, .slice none 0 0, .slice none 0 0, .slice none 0 0, .slice none 0 0, .slice none 0 0, Nat.zero_le _, rfl, ?_, ?_, ⟨Own.nil_ _ _ _ _, Own.nil_ _ _ _ _, Own.nil_ _ _ _ _, ⟨Nat.zero_le _, Nat.zero_le _, Nat.zero_le _⟩, fun g h _ => by simp [Value.ownBlock] at h⟩, ⟨Own.nil_ _ _ _ _, Own.nil_ _ _ _ _, Own.nil_ _ _ _ _, ⟨Nat.zero_le _, Nat.zero_le _, Nat.zero_le _⟩, fun g h _ => by simp [Value.ownBlock] at h⟩, ((Below.refl _ w0).alloc (Nat.le_refl _) _).alloc (by simp) _⟩
    · rw [Below.heap_alloc _ _ _ (by simp)]; exact heap_alloc_new w0 _
    · have h9 := heap_alloc_new (w0.alloc (.cells #[.int .i64 1, .slice none 0 0, .slice none 0 0, .slice none 0 0, .int .i64 0, .int .i64 0, .int .i64 0, .int .i64 0] 26)) (.cells #[.int .i64 1, .slice none 0 0, .slice none 0 0, .slice none 0 0, .int .i64 0, .int .i64 0, .int .i64 0, .int .i64 0] 26)
      rw [World.size_alloc] at h9
      exact h9
  case round =>
    obtain ⟨j, ka, va, na, kb, vb, nb, hj, rfl, hra, hrb, hoa, hob, hbl⟩ := hrel
    obtain ⟨la, hla⟩ : ∃ l, l = leafK (keys.take j) := ⟨_, rfl⟩
    obtain ⟨lb, hlb⟩ : ∃ l, l = leafK (rot keys t j) := ⟨_, rfl⟩
    obtain ⟨hria, hlea⟩ := leafK_rise _ (keys.take j) rfl
    obtain ⟨hrib, hleb⟩ := leafK_rise _ (rot keys t j) rfl
    rw [← hla] at hoa hria hlea
    rw [← hlb] at hob hrib hleb
    have hlj : (keys.take j).length = j := by have := HN.out; simp; omega
    have hrj : (rot keys t j).length = j := by simp [rot]
    rw [hlj] at hlea
    rw [hrj] at hleb
    obtain ⟨Aka, cka, Ava, cva, Ana, cna, e1, e2, e3⟩ := hoa.forms
    obtain ⟨Akb, ckb, Avb, cvb, Anb, cnb, e4, e5, e6⟩ := hob.forms
    dsimp only [leafOf, List.length_nil] at e1 e2 e3 e4 e5 e6
    rw [List.length_map] at e2 e5
    subst e1 e2 e3 e4 e5 e6
    have HOA := Lib.hid hoa
    have HOB := Lib.hid hob
    have HRA := Lib.hid hra
    have HRB := Lib.hid hrb
    have HBL := Lib.hid hbl
    have HLA := Lib.hid hla
    have HLB := Lib.hid hlb
    have HRIA := Lib.hid hria
    have HRIB := Lib.hid hrib
    have HWB : Hid (Below w.heap.size w wr) := HB0.out.trans (hbl.mono HB0.out.size)
    have ha50 : la.length ≤ 50 := by omega
    have hb50 : lb.length ≤ 50 := by omega
    have HGA : Hid (w0.heap.size < wr.heap.size) := (Array.getElem?_eq_some_iff.1 hra).1
    have HGB : Hid (w0.heap.size + 1 < wr.heap.size) := (Array.getElem?_eq_some_iff.1 hrb).1
    clear hoa hob hra hrb hbl hla hlb hria hrib hlj hrj hlea hleb
    by_cases hlt : j < n
    · obtain ⟨g, off, rfl, hg, hx⟩ := HX.out (by rw [← HN.out]; omega)
      obtain ⟨k, hk⟩ : ∃ k, keys[j]? = some k := ⟨keys[j]'(by rw [← HN.out]; omega), List.getElem?_eq_getElem _⟩
      obtain ⟨m, hm⟩ : ∃ m, m = (j + t) % n := ⟨_, rfl⟩
      have hmn : m < n := by rw [hm]; exact Nat.mod_lt _ (by omega)
      obtain ⟨q, hq⟩ : ∃ q, keys[m]? = some q := ⟨keys[m]'(by rw [← HN.out]; omega), List.getElem?_eq_getElem _⟩
      have k0 : wr.cell? ⟨g, off + j, none⟩ = some (.string k) := (HWB.out.cell (p := ⟨g, off + j, none⟩) hg).trans (hx _ _ (sc_at hk))
      have em : ((j : Int) + (t : Int)) % (n : Int) = (m : Int) := by subst hm; simp
      have HCQ : Hid (∀ W', Below w.heap.size w W' → W'.cell? ⟨g, off + m, none⟩ = some (.string q)) := fun W' hb => (hb.cell (p := ⟨g, off + m, none⟩) hg).trans (hx _ _ (sc_at hq))
      have hks := HSZ.out k (List.mem_of_getElem? hk)
      have hqs := HSZ.out q (List.mem_of_getElem? hq)
      have z1 : ¬ (9223372036854775807 < 1 + k.size) := by omega
      have z2 : ¬ (9223372036854775807 < 1 + q.size) := by omega
      have HKJ := Lib.hid hk
      have HKM := Lib.hid hq
      have HM := Lib.hid hm
      clear hx hk hq hm hks hqs
      obtain ⟨f0, f1, f2, f3, f4, f5, f6, f7, f8⟩ := row8_facts (HRA.out)
      go_wp2_with fail
      clear f0 f1 f2 f3 f4 f5 f6 f7 f8
      refine (put_vk wr HOA.out.rd HRIA.out ha50 k).mono ?_
      rintro e W1 ⟨kv1, vv1, nv1, rfl, ho, hb⟩
      obtain ⟨l1, hl1⟩ : ∃ l, l = insK la k := ⟨_, rfl⟩
      rw [← hl1] at ho
      obtain ⟨Ak1, ck1, Av1, cv1, An1, cn1, e1, e2, e3⟩ := ho.forms
      dsimp only [leafOf, List.length_nil] at e1 e2 e3
      rw [List.length_map] at e2
      subst e1 e2 e3
      have HO1 := Lib.hid (ho.base_ HWB.out.size)
      have HB1 := Lib.hid hb
      have HL1 := Lib.hid hl1
      have HRA1 := Lib.hid ((hb.block _ HGA.out).trans HRA.out)
      have HRB1 := Lib.hid ((hb.block _ HGB.out).trans HRB.out)
      have HOB1 := Lib.hid (HOB.out.below hb)
      clear ho hb hl1
      unfold pv
      obtain ⟨f0, f1, f2, f3, f4, f5, f6, f7, f8⟩ := row8_facts (HRA1.out)
      go_upto_region 12 with fail
      clear f0 f1 f2 f3 f4 f5 f6 f7 f8
      obtain ⟨X, hX⟩ : ∃ X, X = ((((((((W1.setCell ⟨w0.heap.size, 0, none⟩ (.int .i64 1)).setCell ⟨w0.heap.size, 1, none⟩ (.slice Ak1 l1.length ck1)).setCell ⟨w0.heap.size, 2, none⟩ (.slice Av1 l1.length cv1)).setCell ⟨w0.heap.size, 3, none⟩ (.slice An1 0 cn1)).setCell ⟨w0.heap.size, 4, none⟩ (.int .i64 0)).setCell ⟨w0.heap.size, 5, none⟩ (.int .i64 0)).setCell ⟨w0.heap.size, 6, none⟩ (.int .i64 0)).setCell ⟨w0.heap.size, 7, none⟩ (.int .i64 0)) := ⟨_, rfl⟩
      rw [← hX]
      have hkp : ∀ g, g ≠ w0.heap.size → X.heap[g]? = W1.heap[g]? := fun g hg => by rw [hX]; exact set8_ne _ hg _ _ _ _ _ _ _ _
      have HXA : Hid (X.heap[w0.heap.size]? = some (.cells #[.int .i64 1, .slice Ak1 l1.length ck1, .slice Av1 l1.length cv1, .slice An1 0 cn1, .int .i64 0, .int .i64 0, .int .i64 0, .int .i64 0] 26 (0, 0))) := by rw [hX]; exact row8_set HRA1.out _ _ _ _ _ _ _ _
      have HXB : Hid (X.heap[w0.heap.size + 1]? = some (.cells #[.int .i64 1, .slice Akb lb.length ckb, .slice Avb lb.length cvb, .slice Anb 0 cnb, .int .i64 0, .int .i64 0, .int .i64 0, .int .i64 0] 26 (0, 0))) := Lib.hid ((hkp _ (by omega)).trans HRB1.out)
      have HXO := Lib.hid (HO1.out.keep HRA1.out hkp)
      have HXOB := Lib.hid (HOB1.out.keep HRA1.out hkp)
      have HXL : Hid (Below w0.heap.size w0 X) := by rw [hX]; exact set8_below (HBL.out.trans (HB1.out.mono HBL.out.size)) (Nat.le_refl _) _ _ _ _ _ _ _ _
      clear hX hkp
      refine Held3.ways_start (fun i W W' => decide (i ≠ 11) = true → (fun W : World => W.heap[w0.heap.size + 1]? = some (.cells #[.int .i64 1, .slice Akb lb.length ckb, .slice Avb lb.length cvb, .slice Anb 0 cnb, .int .i64 0, .int .i64 0, .int .i64 0, .int .i64 0] 26 (0, 0)) ∧ W.cell? ⟨g, off + m, none⟩ = some (.string q)) W → (fun W : World => W.heap[w0.heap.size + 1]? = some (.cells #[.int .i64 1, .slice Akb lb.length ckb, .slice Avb lb.length cvb, .slice Anb 0 cnb, .int .i64 0, .int .i64 0, .int .i64 0, .int .i64 0] 26 (0, 0)) ∧ W.cell? ⟨g, off + m, none⟩ = some (.string q)) W') (by kernel_rfl) ?_
      obtain ⟨D, hD⟩ : ∃ D, D = X.drew := ⟨_, rfl⟩
      rw [← hD]
      have HDL : Hid (Below w0.heap.size w0 D) := by rw [hD]; exact HXL.out.drew
      have HDA : Hid (D.heap[w0.heap.size]? = some (.cells #[.int .i64 1, .slice Ak1 l1.length ck1, .slice Av1 l1.length cv1, .slice An1 0 cn1, .int .i64 0, .int .i64 0, .int .i64 0, .int .i64 0] 26 (0, 0))) := by rw [hD]; exact HXA
      have HDB : Hid (D.heap[w0.heap.size + 1]? = some (.cells #[.int .i64 1, .slice Akb lb.length ckb, .slice Avb lb.length cvb, .slice Anb 0 cnb, .int .i64 0, .int .i64 0, .int .i64 0, .int .i64 0] 26 (0, 0))) := by rw [hD]; exact HXB
      have HDO := Lib.hid HXO.out.drew
      have HDOB := Lib.hid HXOB.out.drew
      rw [← hD] at HDO HDOB
      have HDW : Hid (Below w.heap.size w D) := HB0.out.trans (HDL.out.mono HB0.out.size)
      clear hD
      have HSX := And.intro HDB.out (HCQ.out D HDW.out)
      refine Held3.Ways.take (i := 0) (oi := ?oy11) (fun W : World => W.heap[w0.heap.size + 1]? = some (.cells #[.int .i64 1, .slice Akb lb.length ckb, .slice Avb lb.length cvb, .slice Anb 0 cnb, .int .i64 0, .int .i64 0, .int .i64 0, .int .i64 0] 26 (0, 0)) ∧ W.cell? ⟨g, off + m, none⟩ = some (.string q)) (fun i => decide (i ≠ 11)) ?vy11 ?hiy11 ?hsy11 ?hfy11 ?hlwy11 ?hry11 ?hQy11 HSX ?hyy11 (fun _ _ _ h => h) (fun _ _ _ => id) ?resty11
      case hiy11 => exact rfl
      case hsy11 => kernel_rfl
      case hfy11 => kernel_rfl
      case hlwy11 => kernel_rfl
      case hry11 => kernel_rfl
      case hQy11 => exact fun _ _ _ h => h
      case hyy11 =>
        refine .inl ⟨by rfl, fun W hW => ?_⟩
        obtain ⟨hW1, hW2⟩ := hW
        obtain ⟨f0, f1, f2, f3, f4, f5, f6, f7, f8⟩ := row8_facts (hW1)
        go_simp
        try with_reducible rfl
      try simp only [Act.put, List.setIfInBounds_toArray, List.set_cons_zero, List.set_cons_succ]
      refine Held3.Ways.plain (i := 1) (oi := ?oy12) ?vy12 ?hiy12 ?hsy12 ?hfy12 ?hry12 ?hQy12 ?hyy12 (fun _ _ _ => id) ?resty12
      case hiy12 => exact rfl
      case hsy12 => kernel_rfl
      case hfy12 => kernel_rfl
      case hry12 => kernel_rfl
      case hQy12 => exact fun _ _ _ h => h
      case hyy12 =>
        refine .inl ⟨by rfl, fun W _ => ?_⟩
        go_simp
        try with_reducible rfl
      try simp only [Act.put, List.setIfInBounds_toArray, List.set_cons_zero, List.set_cons_succ]
      refine Held3.Ways.plain (i := 2) (oi := ?oy13) ?vy13 ?hiy13 ?hsy13 ?hfy13 ?hry13 ?hQy13 ?hyy13 (fun _ _ _ => id) ?resty13
      case hiy13 => exact rfl
      case hsy13 => kernel_rfl
      case hfy13 => kernel_rfl
      case hry13 => kernel_rfl
      case hQy13 => exact fun _ _ _ h => h
      case hyy13 =>
        refine .inl ⟨by rfl, fun W _ => ?_⟩
        go_simp
        try with_reducible rfl
      try simp only [Act.put, List.setIfInBounds_toArray, List.set_cons_zero, List.set_cons_succ]
      refine Held3.Ways.plain (i := 3) (oi := ?oy14) ?vy14 ?hiy14 ?hsy14 ?hfy14 ?hry14 ?hQy14 ?hyy14 (fun _ _ _ => id) ?resty14
      case hiy14 => exact rfl
      case hsy14 => kernel_rfl
      case hfy14 => kernel_rfl
      case hry14 => kernel_rfl
      case hQy14 => exact fun _ _ _ h => h
      case hyy14 =>
        refine .inl ⟨by rfl, fun W _ => ?_⟩
        go_simp
        try with_reducible rfl
      try simp only [Act.put, List.setIfInBounds_toArray, List.set_cons_zero, List.set_cons_succ]
      refine Held3.Ways.take (i := 4) (oi := ?oy15) (fun W : World => W.heap[w0.heap.size + 1]? = some (.cells #[.int .i64 1, .slice Akb lb.length ckb, .slice Avb lb.length cvb, .slice Anb 0 cnb, .int .i64 0, .int .i64 0, .int .i64 0, .int .i64 0] 26 (0, 0)) ∧ W.cell? ⟨g, off + m, none⟩ = some (.string q)) (fun i => decide (i ≠ 11)) ?vy15 ?hiy15 ?hsy15 ?hfy15 ?hlwy15 ?hry15 ?hQy15 HSX ?hyy15 (fun _ _ _ h => h) (fun _ _ _ => id) ?resty15
      case hiy15 => exact rfl
      case hsy15 => kernel_rfl
      case hfy15 => kernel_rfl
      case hlwy15 => kernel_rfl
      case hry15 => kernel_rfl
      case hQy15 => exact fun _ _ _ h => h
      case hyy15 =>
        refine .inl ⟨by rfl, fun W hW => ?_⟩
        obtain ⟨hW1, hW2⟩ := hW
        obtain ⟨f0, f1, f2, f3, f4, f5, f6, f7, f8⟩ := row8_facts (hW1)
        go_simp
        try with_reducible rfl
      try simp only [Act.put, List.setIfInBounds_toArray, List.set_cons_zero, List.set_cons_succ]
      refine Held3.Ways.plain (i := 5) (oi := ?oy16) ?vy16 ?hiy16 ?hsy16 ?hfy16 ?hry16 ?hQy16 ?hyy16 (fun _ _ _ => id) ?resty16
      case hiy16 => exact rfl
      case hsy16 => kernel_rfl
      case hfy16 => kernel_rfl
      case hry16 => kernel_rfl
      case hQy16 => exact fun _ _ _ h => h
      case hyy16 =>
        refine .inl ⟨by rfl, fun W _ => ?_⟩
        go_simp
        try with_reducible rfl
      try simp only [Act.put, List.setIfInBounds_toArray, List.set_cons_zero, List.set_cons_succ]
      refine Held3.Ways.plain (i := 6) (oi := ?oy17) ?vy17 ?hiy17 ?hsy17 ?hfy17 ?hry17 ?hQy17 ?hyy17 (fun _ _ _ => id) ?resty17
      case hiy17 => exact rfl
      case hsy17 => kernel_rfl
      case hfy17 => kernel_rfl
      case hry17 => kernel_rfl
      case hQy17 => exact fun _ _ _ h => h
      case hyy17 =>
        refine .inl ⟨by rfl, fun W _ => ?_⟩
        go_simp
        try with_reducible rfl
      try simp only [Act.put, List.setIfInBounds_toArray, List.set_cons_zero, List.set_cons_succ]
      refine Held3.Ways.plain (i := 7) (oi := ?oy18) ?vy18 ?hiy18 ?hsy18 ?hfy18 ?hry18 ?hQy18 ?hyy18 (fun _ _ _ => id) ?resty18
      case hiy18 => exact rfl
      case hsy18 => kernel_rfl
      case hfy18 => kernel_rfl
      case hry18 => kernel_rfl
      case hQy18 => exact fun _ _ _ h => h
      case hyy18 =>
        refine .inl ⟨by rfl, fun W _ => ?_⟩
        go_simp
        try with_reducible rfl
      try simp only [Act.put, List.setIfInBounds_toArray, List.set_cons_zero, List.set_cons_succ]
      refine Held3.Ways.take (i := 8) (oi := ?oy19) (fun W : World => W.heap[w0.heap.size + 1]? = some (.cells #[.int .i64 1, .slice Akb lb.length ckb, .slice Avb lb.length cvb, .slice Anb 0 cnb, .int .i64 0, .int .i64 0, .int .i64 0, .int .i64 0] 26 (0, 0)) ∧ W.cell? ⟨g, off + m, none⟩ = some (.string q)) (fun i => decide (i ≠ 11)) ?vy19 ?hiy19 ?hsy19 ?hfy19 ?hlwy19 ?hry19 ?hQy19 HSX ?hyy19 (fun _ _ _ h => h) (fun _ _ _ => id) ?resty19
      case hiy19 => exact rfl
      case hsy19 => kernel_rfl
      case hfy19 => kernel_rfl
      case hlwy19 => kernel_rfl
      case hry19 => kernel_rfl
      case hQy19 => exact fun _ _ _ h => h
      case hyy19 =>
        refine .inl ⟨by rfl, fun W hW => ?_⟩
        obtain ⟨hW1, hW2⟩ := hW
        obtain ⟨f0, f1, f2, f3, f4, f5, f6, f7, f8⟩ := row8_facts (hW1)
        go_simp
        try with_reducible rfl
      try simp only [Act.put, List.setIfInBounds_toArray, List.set_cons_zero, List.set_cons_succ]
      refine Held3.Ways.plain (i := 9) (oi := ?oy110) ?vy110 ?hiy110 ?hsy110 ?hfy110 ?hry110 ?hQy110 ?hyy110 (fun _ _ _ => id) ?resty110
      case hiy110 => exact rfl
      case hsy110 => kernel_rfl
      case hfy110 => kernel_rfl
      case hry110 => kernel_rfl
      case hQy110 => exact fun _ _ _ h => h
      case hyy110 =>
        refine .inl ⟨by rfl, fun W _ => ?_⟩
        go_simp
        try with_reducible rfl
      try simp only [Act.put, List.setIfInBounds_toArray, List.set_cons_zero, List.set_cons_succ]
      refine Held3.Ways.one (i := 10) (by rfl) (by kernel_rfl) (fun K hK => ?_)
      go_simp
      go_at_call 19
      refine (put_vk D HDOB.out.rd HRIB.out hb50 q).mono ?_
      rintro e Y ⟨kv2, vv2, nv2, rfl, ho, hb⟩
      obtain ⟨l2, hl2⟩ : ∃ l, l = insK lb q := ⟨_, rfl⟩
      rw [← hl2] at ho
      obtain ⟨Ak2, ck2, Av2, cv2, An2, cn2, e1, e2, e3⟩ := ho.forms
      dsimp only [leafOf, List.length_nil] at e1 e2 e3
      rw [List.length_map] at e2
      subst e1 e2 e3
      have HO2 := Lib.hid (ho.base_ HDW.out.size)
      have HL2 := Lib.hid hl2
      have HYA := Lib.hid ((hb.block _ (Array.getElem?_eq_some_iff.1 HDA.out).1).trans HDA.out)
      have HYB := Lib.hid ((hb.block _ (Array.getElem?_eq_some_iff.1 HDB.out).1).trans HDB.out)
      have HYO := Lib.hid (HDO.out.below hb)
      have HYL : Hid (Below w0.heap.size w0 Y) := HDL.out.trans (hb.mono HDL.out.size)
      have HYW : Hid (Below w.heap.size w Y) := HDW.out.trans (hb.mono HDW.out.size)
      clear ho hb hl2
      unfold pv
      dsimp only
      refine hK.out _ _ (fun _ _ => ⟨HYB.out, HCQ.out Y HYW.out⟩) ?_
      clear hK K
      try simp only [Act.put, List.setIfInBounds_toArray, List.set_cons_zero, List.set_cons_succ]
      obtain ⟨f0, f1, f2, f3, f4, f5, f6, f7, f8⟩ := row8_facts (HYB.out)
      refine Held3.Ways.one (i := 11) (by rfl) (by kernel_rfl) (fun K hK => ?_)
      go_simp
      refine hK.out _ _ (fun h => absurd h (by decide)) ?_
      clear hK K
      try simp only [Act.put, List.setIfInBounds_toArray, List.set_cons_zero, List.set_cons_succ]
      refine Held3.Ways.done (by kernel_rfl) ?_ _
      clear f0 f1 f2 f3 f4 f5 f6 f7 f8
      obtain ⟨Z, hZ⟩ : ∃ Z, Z = ((((((((Y.setCell ⟨(w0.heap.size + 1), 0, none⟩ (.int .i64 1)).setCell ⟨(w0.heap.size + 1), 1, none⟩ (.slice Ak2 l2.length ck2)).setCell ⟨(w0.heap.size + 1), 2, none⟩ (.slice Av2 l2.length cv2)).setCell ⟨(w0.heap.size + 1), 3, none⟩ (.slice An2 0 cn2)).setCell ⟨(w0.heap.size + 1), 4, none⟩ (.int .i64 0)).setCell ⟨(w0.heap.size + 1), 5, none⟩ (.int .i64 0)).setCell ⟨(w0.heap.size + 1), 6, none⟩ (.int .i64 0)).setCell ⟨(w0.heap.size + 1), 7, none⟩ (.int .i64 0)) := ⟨_, rfl⟩
      rw [← hZ]
      have hkp : ∀ g, g ≠ w0.heap.size + 1 → Z.heap[g]? = Y.heap[g]? := fun g hg => by rw [hZ]; exact set8_ne _ hg _ _ _ _ _ _ _ _
      have HZB : Hid (Z.heap[w0.heap.size + 1]? = some (.cells #[.int .i64 1, .slice Ak2 l2.length ck2, .slice Av2 l2.length cv2, .slice An2 0 cn2, .int .i64 0, .int .i64 0, .int .i64 0, .int .i64 0] 26 (0, 0))) := by rw [hZ]; exact row8_set HYB.out _ _ _ _ _ _ _ _
      have HZA : Hid (Z.heap[w0.heap.size]? = some (.cells #[.int .i64 1, .slice Ak1 l1.length ck1, .slice Av1 l1.length cv1, .slice An1 0 cn1, .int .i64 0, .int .i64 0, .int .i64 0, .int .i64 0] 26 (0, 0))) := Lib.hid ((hkp _ (by omega)).trans HYA.out)
      have HZOB := Lib.hid (HO2.out.keep HYB.out hkp)
      have HZOA := Lib.hid (HYO.out.keep HYB.out hkp)
      have HZL : Hid (Below w0.heap.size w0 Z) := by rw [hZ]; exact set8_below HYL.out (Nat.le_succ _) _ _ _ _ _ _ _ _
      clear hZ hkp HSX
      go_wp2_with fail
      go_roundw
      case rel =>
        refine ⟨j + 1, _, _, _, _, _, _, by omega, by go_num, HZA.out, HZB.out, ?_, ?_, HZL.out⟩
        · have e9 : leafK (keys.take (j + 1)) = l1 := by
            rw [List.take_add_one, HKJ.out]
            show leafK (keys.take j ++ [k]) = _
            rw [leafK_snoc, ← HLA.out, HL1.out]
          rw [e9]; exact HZOA.out
        · have e9 : leafK (rot keys t (j + 1)) = l2 := by
            rw [rot_snoc, leafK_snoc, ← HLB.out, HL2.out, ← HN.out, ← HM.out, List.getD_eq_getElem?_getD, HKM.out]; rfl
          rw [e9]; exact HZOB.out
      case measure => simp [intOf]; omega
    · obtain rfl : j = n := by omega
      clear hlt
      have hla2 : la = leafK keys := by rw [HLA.out]; congr 1; rw [HN.out]; exact List.take_length
      have hlb2 : lb = leafK keys := by rw [HLB.out, HN.out]; exact leafK_rot keys t
      have HLK := Lib.hid hla2
      have HAB : Hid (lb = la) := Lib.hid (hlb2.trans hla2.symm)
      clear hla2 hlb2
      go_wp2_with fail
      refine Held3.ways_start (fun _ W W' => (fun W : World => Below wr.heap.size wr W) W → (fun W : World => Below wr.heap.size wr W) W') (by kernel_rfl) ?_
      obtain ⟨D, hD⟩ : ∃ D, D = wr.drew := ⟨_, rfl⟩
      rw [← hD]
      have HBD : Hid (Below wr.heap.size wr D) := by rw [hD]; exact (Below.refl _ wr).drew
      clear hD
      refine Held3.Ways.take (i := 0) (oi := ?oy211) (fun W : World => Below wr.heap.size wr W) (fun _ => true) ?vy211 ?hiy211 ?hsy211 ?hfy211 ?hlwy211 ?hry211 ?hQy211 HBD.out ?hyy211 (fun _ _ _ h _ => h) (fun _ _ => id) ?resty211
      case hiy211 => exact rfl
      case hsy211 => kernel_rfl
      case hfy211 => kernel_rfl
      case hlwy211 => kernel_rfl
      case hry211 => kernel_rfl
      case hQy211 => exact fun _ _ _ h => h
      case hyy211 =>
        refine .inl ⟨by rfl, fun W hW => ?_⟩
        obtain ⟨f0, f1, f2, f3, f4, f5, f6, f7, f8⟩ := row8_facts ((hW.block _ HGA.out).trans HRA.out)
        obtain ⟨z0, z1, z2, z3, z4, z5, z6, z7, z8⟩ := row8_facts ((hW.block _ HGB.out).trans HRB.out)
        go_simp
        try with_reducible rfl
      try simp only [Act.put, List.setIfInBounds_toArray, List.set_cons_zero, List.set_cons_succ]
      refine Held3.Ways.take (i := 1) (oi := ?oy212) (fun W : World => Below wr.heap.size wr W) (fun _ => true) ?vy212 ?hiy212 ?hsy212 ?hfy212 ?hlwy212 ?hry212 ?hQy212 HBD.out ?hyy212 (fun _ _ _ h _ => h) (fun _ _ => id) ?resty212
      case hiy212 => exact rfl
      case hsy212 => kernel_rfl
      case hfy212 => kernel_rfl
      case hlwy212 => kernel_rfl
      case hry212 => kernel_rfl
      case hQy212 => exact fun _ _ _ h => h
      case hyy212 =>
        refine .inl ⟨by rfl, fun W hW => ?_⟩
        obtain ⟨f0, f1, f2, f3, f4, f5, f6, f7, f8⟩ := row8_facts ((hW.block _ HGA.out).trans HRA.out)
        obtain ⟨z0, z1, z2, z3, z4, z5, z6, z7, z8⟩ := row8_facts ((hW.block _ HGB.out).trans HRB.out)
        go_simp
        try with_reducible rfl
      try simp only [Act.put, List.setIfInBounds_toArray, List.set_cons_zero, List.set_cons_succ]
      refine Held3.Ways.one (i := 2) (by rfl) (by kernel_rfl) (fun K hK => ?_)
      go_simp
      go_at_call 13
      refine (same_any D (HOA.out.rd.up HBD.out) (HOB.out.rd.up HBD.out) rfl).mono ?_
      rintro e Y2 ⟨he, hb⟩
      have he' : e = .returned (.bool true) := he.trans (by simp [leafOf, HAB.out, HLK.out])
      clear he
      subst he'
      have HBY2 := Lib.hid (HBD.out.trans (hb.mono HBD.out.size))
      have HLY2 := Lib.hid hb
      clear hb
      dsimp only
      refine hK.out _ _ (fun h => h.trans (HLY2.out.mono h.size)) ?_
      clear hK K
      try simp only [Act.put, List.setIfInBounds_toArray, List.set_cons_zero, List.set_cons_succ]
      refine Held3.Ways.plain (i := 3) (oi := ?oy213) ?vy213 ?hiy213 ?hsy213 ?hfy213 ?hry213 ?hQy213 ?hyy213 (fun _ _ => id) ?resty213
      case hiy213 => exact rfl
      case hsy213 => kernel_rfl
      case hfy213 => kernel_rfl
      case hry213 => kernel_rfl
      case hQy213 => exact fun _ _ _ h => h
      case hyy213 =>
        refine .inl ⟨by rfl, fun W _ => ?_⟩
        go_simp
        try with_reducible rfl
      try simp only [Act.put, List.setIfInBounds_toArray, List.set_cons_zero, List.set_cons_succ]
      refine Held3.Ways.plain (i := 4) (oi := ?oy214) ?vy214 ?hiy214 ?hsy214 ?hfy214 ?hry214 ?hQy214 ?hyy214 (fun _ _ => id) ?resty214
      case hiy214 => exact rfl
      case hsy214 => kernel_rfl
      case hfy214 => kernel_rfl
      case hry214 => kernel_rfl
      case hQy214 => exact fun _ _ _ h => h
      case hyy214 =>
        refine .inl ⟨by rfl, fun W _ => ?_⟩
        go_simp
        try with_reducible rfl
      try simp only [Act.put, List.setIfInBounds_toArray, List.set_cons_zero, List.set_cons_succ]
      refine Held3.Ways.take (i := 5) (oi := ?oy215) (fun W : World => Below wr.heap.size wr W) (fun _ => true) ?vy215 ?hiy215 ?hsy215 ?hfy215 ?hlwy215 ?hry215 ?hQy215 HBY2.out ?hyy215 (fun _ _ _ h _ => h) (fun _ _ => id) ?resty215
      case hiy215 => exact rfl
      case hsy215 => kernel_rfl
      case hfy215 => kernel_rfl
      case hlwy215 => kernel_rfl
      case hry215 => kernel_rfl
      case hQy215 => exact fun _ _ _ h => h
      case hyy215 =>
        refine .inl ⟨by rfl, fun W hW => ?_⟩
        obtain ⟨f0, f1, f2, f3, f4, f5, f6, f7, f8⟩ := row8_facts ((hW.block _ HGA.out).trans HRA.out)
        obtain ⟨z0, z1, z2, z3, z4, z5, z6, z7, z8⟩ := row8_facts ((hW.block _ HGB.out).trans HRB.out)
        go_simp
        try with_reducible rfl
      try simp only [Act.put, List.setIfInBounds_toArray, List.set_cons_zero, List.set_cons_succ]
      refine Held3.Ways.plain (i := 6) (oi := ?oy216) ?vy216 ?hiy216 ?hsy216 ?hfy216 ?hry216 ?hQy216 ?hyy216 (fun _ _ => id) ?resty216
      case hiy216 => exact rfl
      case hsy216 => kernel_rfl
      case hfy216 => kernel_rfl
      case hry216 => kernel_rfl
      case hQy216 => exact fun _ _ _ h => h
      case hyy216 =>
        refine .inl ⟨by rfl, fun W _ => ?_⟩
        go_simp
        try with_reducible rfl
      try simp only [Act.put, List.setIfInBounds_toArray, List.set_cons_zero, List.set_cons_succ]
      refine Held3.Ways.one (i := 7) (by rfl) (by kernel_rfl) (fun K hK => ?_)
      go_simp
      go_at_call 9
      refine (HLF.out Y2 (HWB.out.trans (HBY2.out.mono HWB.out.size))).mono ?_
      rintro e Y7 ⟨kvl, vvl, rfl, ho, hb⟩
      obtain ⟨Akl, ckl, Avl, cvl, Anl, cnl, e1, e2, e3⟩ := ho.forms
      dsimp only [leafOf, List.length_nil] at e1 e2 e3
      rw [List.length_map] at e2
      subst e1 e2
      clear e3
      have HOL := Lib.hid ho
      clear ho
      have HBY7 := Lib.hid (HBY2.out.trans (hb.mono HBY2.out.size))
      have HLY7 := Lib.hid hb
      clear hb
      dsimp only
      refine hK.out _ _ (fun h => h.trans (HLY7.out.mono h.size)) ?_
      clear hK K
      try simp only [Act.put, List.setIfInBounds_toArray, List.set_cons_zero, List.set_cons_succ]
      refine Held3.Ways.one (i := 8) (by rfl) (by kernel_rfl) (fun K hK => ?_)
      go_simp
      go_at_call 13
      refine (same_any Y7 (HOA.out.rd.up HBY7.out) (HOL.out.rd) rfl).mono ?_
      rintro e Y8 ⟨he, hb⟩
      have he' : e = .returned (.bool true) := he.trans (by simp [leafOf, HAB.out, HLK.out])
      clear he
      subst he'
      have HBY8 := Lib.hid (HBY7.out.trans (hb.mono HBY7.out.size))
      have HLY8 := Lib.hid hb
      clear hb
      dsimp only
      refine hK.out _ _ (fun h => h.trans (HLY8.out.mono h.size)) ?_
      clear hK K
      try simp only [Act.put, List.setIfInBounds_toArray, List.set_cons_zero, List.set_cons_succ]
      refine Held3.Ways.plain (i := 9) (oi := ?oy217) ?vy217 ?hiy217 ?hsy217 ?hfy217 ?hry217 ?hQy217 ?hyy217 (fun _ _ => id) ?resty217
      case hiy217 => exact rfl
      case hsy217 => kernel_rfl
      case hfy217 => kernel_rfl
      case hry217 => kernel_rfl
      case hQy217 => exact fun _ _ _ h => h
      case hyy217 =>
        refine .inl ⟨by rfl, fun W _ => ?_⟩
        go_simp
        try with_reducible rfl
      try simp only [Act.put, List.setIfInBounds_toArray, List.set_cons_zero, List.set_cons_succ]
      refine Held3.Ways.plain (i := 10) (oi := ?oy218) ?vy218 ?hiy218 ?hsy218 ?hfy218 ?hry218 ?hQy218 ?hyy218 (fun _ _ => id) ?resty218
      case hiy218 => exact rfl
      case hsy218 => kernel_rfl
      case hfy218 => kernel_rfl
      case hry218 => kernel_rfl
      case hQy218 => exact fun _ _ _ h => h
      case hyy218 =>
        refine .inl ⟨by rfl, fun W _ => ?_⟩
        go_simp
        try with_reducible rfl
      try simp only [Act.put, List.setIfInBounds_toArray, List.set_cons_zero, List.set_cons_succ]
      refine Held3.Ways.done (by kernel_rfl) ?_ _
      try clear f0 f1 f2 f3 f4 f5 f6 f7 f8 z0 z1 z2 z3 z4 z5 z6 z7 z8
      go_wp2_with fail
      go_loopw [10, 62] (fun _ i wr2 => ∃ (x : Nat) (ka va na : Value), x ≤ j ∧ i = .int .i64 x ∧ wr2.heap[w0.heap.size]? = some (.cells #[.int .i64 1, ka, va, na, .int .i64 0, .int .i64 0, .int .i64 0, .int .i64 0] 26 (0, 0)) ∧ PgO wr2 w.heap.size ka va na (leafOf (delsK la (rot keys t x))) ∧ Below w0.heap.size w0 wr2) (fun _ i _ => j - (intOf i).toNat)
      case atStart =>
        exact ⟨0, _, _, _, Nat.zero_le _, rfl, (HBY8.out.block _ HGA.out).trans HRA.out, HOA.out.below HBY8.out, HBL.out.trans (HBY8.out.mono HBL.out.size)⟩
      case round =>
        obtain ⟨x, ka, va, na, hxj, rfl, hrd, hod, hbl⟩ := hrel
        obtain ⟨hrid, hled, hmd⟩ := delsK_facts HRIA.out _ (rot keys t x) rfl
        obtain ⟨ld, hld⟩ : ∃ l, l = delsK la (rot keys t x) := ⟨_, rfl⟩
        rw [← hld] at hod hrid hled
        obtain ⟨Akd, ckd, Avd, cvd, Anz, cnz, e1, e2, e3⟩ := hod.forms
        dsimp only [leafOf, List.length_nil] at e1 e2 e3
        rw [List.length_map] at e2
        subst e1 e2 e3
        have HOD := Lib.hid hod
        have HRD := Lib.hid hrd
        have HBL2 := Lib.hid hbl
        have HLD := Lib.hid hld
        have HRID := Lib.hid hrid
        have HWB2 : Hid (Below w.heap.size w wr) := HB0.out.trans (hbl.mono HB0.out.size)
        have hd50 : ld.length ≤ 50 := by omega
        clear hod hrd hbl hld hrid hled hmd
        by_cases hlt : x < j
        · obtain ⟨g, off, rfl, hg, hx⟩ := HX.out (by rw [← HN.out]; omega)
          obtain ⟨m, hm⟩ : ∃ m, m = (x + t) % j := ⟨_, rfl⟩
          have hmn : m < j := by rw [hm]; exact Nat.mod_lt _ (by omega)
          obtain ⟨q, hq⟩ : ∃ q, keys[m]? = some q := ⟨keys[m]'(by rw [← HN.out]; omega), List.getElem?_eq_getElem _⟩
          have em : ((x : Int) + (t : Int)) % (j : Int) = (m : Int) := by subst hm; simp
          have HCQ : Hid (∀ W', Below w.heap.size w W' → W'.cell? ⟨g, off + m, none⟩ = some (.string q)) := fun W' hb => (hb.cell (p := ⟨g, off + m, none⟩) hg).trans (hx _ _ (sc_at hq))
          have HKM := Lib.hid hq
          have HM := Lib.hid hm
          have ej : ¬ (j = 0) := by omega
          have ew : IntKind.i64.wrap ((x : Int) + (t : Int)) = (x : Int) + (t : Int) := by rw [IntKind.wrap_i64]; omega
          have et : ((x : Int) + (t : Int)).tmod (j : Int) = (m : Int) := by rw [Int.tmod_eq_emod_of_nonneg (by omega)]; exact em
          clear hx hq hm
          go_upto_region 19 with fail
          refine Held3.ways_start (fun i W W' => decide (i ≠ 12) = true → (fun W : World => W.heap[w0.heap.size]? = some (.cells #[.int .i64 1, .slice Akd ld.length ckd, .slice Avd ld.length cvd, .slice Anz 0 cnz, .int .i64 0, .int .i64 0, .int .i64 0, .int .i64 0] 26 (0, 0)) ∧ W.cell? ⟨g, off + m, none⟩ = some (.string q)) W → (fun W : World => W.heap[w0.heap.size]? = some (.cells #[.int .i64 1, .slice Akd ld.length ckd, .slice Avd ld.length cvd, .slice Anz 0 cnz, .int .i64 0, .int .i64 0, .int .i64 0, .int .i64 0] 26 (0, 0)) ∧ W.cell? ⟨g, off + m, none⟩ = some (.string q)) W') (by kernel_rfl) ?_
          obtain ⟨D, hD⟩ : ∃ D, D = wr.drew := ⟨_, rfl⟩
          rw [← hD]
          have HDL : Hid (Below w0.heap.size w0 D) := by rw [hD]; exact HBL2.out.drew
          have HDA : Hid (D.heap[w0.heap.size]? = some (.cells #[.int .i64 1, .slice Akd ld.length ckd, .slice Avd ld.length cvd, .slice Anz 0 cnz, .int .i64 0, .int .i64 0, .int .i64 0, .int .i64 0] 26 (0, 0))) := by rw [hD]; exact HRD
          have HDO := Lib.hid HOD.out.drew
          rw [← hD] at HDO
          have HDW : Hid (Below w.heap.size w D) := HB0.out.trans (HDL.out.mono HB0.out.size)
          clear hD
          have HSX := And.intro HDA.out (HCQ.out D HDW.out)
          refine Held3.Ways.take (i := 0) (oi := ?oy319) (fun W : World => W.heap[w0.heap.size]? = some (.cells #[.int .i64 1, .slice Akd ld.length ckd, .slice Avd ld.length cvd, .slice Anz 0 cnz, .int .i64 0, .int .i64 0, .int .i64 0, .int .i64 0] 26 (0, 0)) ∧ W.cell? ⟨g, off + m, none⟩ = some (.string q)) (fun i => decide (i ≠ 12)) ?vy319 ?hiy319 ?hsy319 ?hfy319 ?hlwy319 ?hry319 ?hQy319 HSX ?hyy319 (fun _ _ _ h => h) (fun _ _ _ => id) ?resty319
          case hiy319 => exact rfl
          case hsy319 => kernel_rfl
          case hfy319 => kernel_rfl
          case hlwy319 => kernel_rfl
          case hry319 => kernel_rfl
          case hQy319 => exact fun _ _ _ h => h
          case hyy319 =>
            refine .inl ⟨by rfl, fun W hW => ?_⟩
            obtain ⟨hW1, hW2⟩ := hW
            obtain ⟨f0, f1, f2, f3, f4, f5, f6, f7, f8⟩ := row8_facts (hW1)
            go_simp
            try with_reducible rfl
          try simp only [Act.put, List.setIfInBounds_toArray, List.set_cons_zero, List.set_cons_succ]
          refine Held3.Ways.plain (i := 1) (oi := ?oy320) ?vy320 ?hiy320 ?hsy320 ?hfy320 ?hry320 ?hQy320 ?hyy320 (fun _ _ _ => id) ?resty320
          case hiy320 => exact rfl
          case hsy320 => kernel_rfl
          case hfy320 => kernel_rfl
          case hry320 => kernel_rfl
          case hQy320 => exact fun _ _ _ h => h
          case hyy320 =>
            refine .inl ⟨by rfl, fun W _ => ?_⟩
            go_simp
            try with_reducible rfl
          try simp only [Act.put, List.setIfInBounds_toArray, List.set_cons_zero, List.set_cons_succ]
          refine Held3.Ways.plain (i := 2) (oi := ?oy321) ?vy321 ?hiy321 ?hsy321 ?hfy321 ?hry321 ?hQy321 ?hyy321 (fun _ _ _ => id) ?resty321
          case hiy321 => exact rfl
          case hsy321 => kernel_rfl
          case hfy321 => kernel_rfl
          case hry321 => kernel_rfl
          case hQy321 => exact fun _ _ _ h => h
          case hyy321 =>
            refine .inl ⟨by rfl, fun W _ => ?_⟩
            go_simp
            try with_reducible rfl
          try simp only [Act.put, List.setIfInBounds_toArray, List.set_cons_zero, List.set_cons_succ]
          refine Held3.Ways.plain (i := 3) (oi := ?oy322) ?vy322 ?hiy322 ?hsy322 ?hfy322 ?hry322 ?hQy322 ?hyy322 (fun _ _ _ => id) ?resty322
          case hiy322 => exact rfl
          case hsy322 => kernel_rfl
          case hfy322 => kernel_rfl
          case hry322 => kernel_rfl
          case hQy322 => exact fun _ _ _ h => h
          case hyy322 =>
            refine .inl ⟨by rfl, fun W _ => ?_⟩
            go_simp
            try with_reducible rfl
          try simp only [Act.put, List.setIfInBounds_toArray, List.set_cons_zero, List.set_cons_succ]
          refine Held3.Ways.plain (i := 4) (oi := ?oy323) ?vy323 ?hiy323 ?hsy323 ?hfy323 ?hry323 ?hQy323 ?hyy323 (fun _ _ _ => id) ?resty323
          case hiy323 => exact rfl
          case hsy323 => kernel_rfl
          case hfy323 => kernel_rfl
          case hry323 => kernel_rfl
          case hQy323 => exact fun _ _ _ h => h
          case hyy323 =>
            refine .inl ⟨by rfl, fun W _ => ?_⟩
            go_simp
            try with_reducible rfl
          try simp only [Act.put, List.setIfInBounds_toArray, List.set_cons_zero, List.set_cons_succ]
          refine Held3.Ways.plain (i := 5) (oi := ?oy324) ?vy324 ?hiy324 ?hsy324 ?hfy324 ?hry324 ?hQy324 ?hyy324 (fun _ _ _ => id) ?resty324
          case hiy324 => exact rfl
          case hsy324 => kernel_rfl
          case hfy324 => kernel_rfl
          case hry324 => kernel_rfl
          case hQy324 => exact fun _ _ _ h => h
          case hyy324 =>
            refine .inl ⟨by rfl, fun W _ => ?_⟩
            go_simp
            try with_reducible rfl
          try simp only [Act.put, List.setIfInBounds_toArray, List.set_cons_zero, List.set_cons_succ]
          refine Held3.Ways.plain (i := 6) (oi := ?oy325) ?vy325 ?hiy325 ?hsy325 ?hfy325 ?hry325 ?hQy325 ?hyy325 (fun _ _ _ => id) ?resty325
          case hiy325 => exact rfl
          case hsy325 => kernel_rfl
          case hfy325 => kernel_rfl
          case hry325 => kernel_rfl
          case hQy325 => exact fun _ _ _ h => h
          case hyy325 =>
            refine .inl ⟨by rfl, fun W _ => ?_⟩
            go_simp
            try with_reducible rfl
          try simp only [Act.put, List.setIfInBounds_toArray, List.set_cons_zero, List.set_cons_succ]
          refine Held3.Ways.plain (i := 7) (oi := ?oy326) ?vy326 ?hiy326 ?hsy326 ?hfy326 ?hry326 ?hQy326 ?hyy326 (fun _ _ _ => id) ?resty326
          case hiy326 => exact rfl
          case hsy326 => kernel_rfl
          case hfy326 => kernel_rfl
          case hry326 => kernel_rfl
          case hQy326 => exact fun _ _ _ h => h
          case hyy326 =>
            refine .inl ⟨by rfl, fun W _ => ?_⟩
            go_simp
            try with_reducible rfl
          try simp only [Act.put, List.setIfInBounds_toArray, List.set_cons_zero, List.set_cons_succ]
          refine Held3.Ways.plain (i := 8) (oi := ?oy327) ?vy327 ?hiy327 ?hsy327 ?hfy327 ?hry327 ?hQy327 ?hyy327 (fun _ _ _ => id) ?resty327
          case hiy327 => exact rfl
          case hsy327 => kernel_rfl
          case hfy327 => kernel_rfl
          case hry327 => kernel_rfl
          case hQy327 => exact fun _ _ _ h => h
          case hyy327 =>
            refine .inl ⟨by rfl, fun W _ => ?_⟩
            go_simp
            try with_reducible rfl
          try simp only [Act.put, List.setIfInBounds_toArray, List.set_cons_zero, List.set_cons_succ]
          refine Held3.Ways.plain (i := 9) (oi := ?oy328) ?vy328 ?hiy328 ?hsy328 ?hfy328 ?hry328 ?hQy328 ?hyy328 (fun _ _ _ => id) ?resty328
          case hiy328 => exact rfl
          case hsy328 => kernel_rfl
          case hfy328 => kernel_rfl
          case hry328 => kernel_rfl
          case hQy328 => exact fun _ _ _ h => h
          case hyy328 =>
            refine .inl ⟨by rfl, fun W _ => ?_⟩
            go_simp
            try with_reducible rfl
          try simp only [Act.put, List.setIfInBounds_toArray, List.set_cons_zero, List.set_cons_succ]
          refine Held3.Ways.take (i := 10) (oi := ?oy329) (fun W : World => W.heap[w0.heap.size]? = some (.cells #[.int .i64 1, .slice Akd ld.length ckd, .slice Avd ld.length cvd, .slice Anz 0 cnz, .int .i64 0, .int .i64 0, .int .i64 0, .int .i64 0] 26 (0, 0)) ∧ W.cell? ⟨g, off + m, none⟩ = some (.string q)) (fun i => decide (i ≠ 12)) ?vy329 ?hiy329 ?hsy329 ?hfy329 ?hlwy329 ?hry329 ?hQy329 HSX ?hyy329 (fun _ _ _ h => h) (fun _ _ _ => id) ?resty329
          case hiy329 => exact rfl
          case hsy329 => kernel_rfl
          case hfy329 => kernel_rfl
          case hlwy329 => kernel_rfl
          case hry329 => kernel_rfl
          case hQy329 => exact fun _ _ _ h => h
          case hyy329 =>
            refine .inl ⟨by rfl, fun W hW => ?_⟩
            obtain ⟨hW1, hW2⟩ := hW
            obtain ⟨f0, f1, f2, f3, f4, f5, f6, f7, f8⟩ := row8_facts (hW1)
            go_simp
            try with_reducible rfl
          try simp only [Act.put, List.setIfInBounds_toArray, List.set_cons_zero, List.set_cons_succ]
          refine Held3.Ways.one (i := 11) (by rfl) (by kernel_rfl) (fun K hK => ?_)
          go_simp
          go_at_call 20
          refine (drop_vk D HDO.out.rd HRID.out hd50 q).mono ?_
          rintro e Y ⟨kv2, vv2, nv2, rfl, ho, hb⟩
          obtain ⟨l3, hl3⟩ : ∃ l, l = delK ld q := ⟨_, rfl⟩
          rw [← hl3] at ho
          obtain ⟨Ak3, ck3, Av3, cv3, An3, cn3, e1, e2, e3⟩ := ho.forms
          dsimp only [leafOf, List.length_nil] at e1 e2 e3
          rw [List.length_map] at e2
          subst e1 e2 e3
          have HO2 := Lib.hid (ho.base_ HDW.out.size)
          have HL3 := Lib.hid hl3
          have HYA := Lib.hid ((hb.block _ (Array.getElem?_eq_some_iff.1 HDA.out).1).trans HDA.out)
          have HYL : Hid (Below w0.heap.size w0 Y) := HDL.out.trans (hb.mono HDL.out.size)
          have HYW : Hid (Below w.heap.size w Y) := HDW.out.trans (hb.mono HDW.out.size)
          clear ho hb hl3
          unfold pv
          dsimp only
          refine hK.out _ _ (fun _ _ => ⟨HYA.out, HCQ.out Y HYW.out⟩) ?_
          clear hK K
          try simp only [Act.put, List.setIfInBounds_toArray, List.set_cons_zero, List.set_cons_succ]
          obtain ⟨f0, f1, f2, f3, f4, f5, f6, f7, f8⟩ := row8_facts (HYA.out)
          refine Held3.Ways.one (i := 12) (by rfl) (by kernel_rfl) (fun K hK => ?_)
          go_simp
          refine hK.out _ _ (fun h => absurd h (by decide)) ?_
          clear hK K
          try simp only [Act.put, List.setIfInBounds_toArray, List.set_cons_zero, List.set_cons_succ]
          refine Held3.Ways.done (by kernel_rfl) ?_ _
          clear f0 f1 f2 f3 f4 f5 f6 f7 f8
          obtain ⟨Z, hZ⟩ : ∃ Z, Z = ((((((((Y.setCell ⟨w0.heap.size, 0, none⟩ (.int .i64 1)).setCell ⟨w0.heap.size, 1, none⟩ (.slice Ak3 l3.length ck3)).setCell ⟨w0.heap.size, 2, none⟩ (.slice Av3 l3.length cv3)).setCell ⟨w0.heap.size, 3, none⟩ (.slice An3 0 cn3)).setCell ⟨w0.heap.size, 4, none⟩ (.int .i64 0)).setCell ⟨w0.heap.size, 5, none⟩ (.int .i64 0)).setCell ⟨w0.heap.size, 6, none⟩ (.int .i64 0)).setCell ⟨w0.heap.size, 7, none⟩ (.int .i64 0)) := ⟨_, rfl⟩
          rw [← hZ]
          have hkp : ∀ g, g ≠ w0.heap.size → Z.heap[g]? = Y.heap[g]? := fun g hg => by rw [hZ]; exact set8_ne _ hg _ _ _ _ _ _ _ _
          have HZA : Hid (Z.heap[w0.heap.size]? = some (.cells #[.int .i64 1, .slice Ak3 l3.length ck3, .slice Av3 l3.length cv3, .slice An3 0 cn3, .int .i64 0, .int .i64 0, .int .i64 0, .int .i64 0] 26 (0, 0))) := by rw [hZ]; exact row8_set HYA.out _ _ _ _ _ _ _ _
          have HZOA := Lib.hid (HO2.out.keep HYA.out hkp)
          have HZL : Hid (Below w0.heap.size w0 Z) := by rw [hZ]; exact set8_below HYL.out (Nat.le_refl _) _ _ _ _ _ _ _ _
          clear hZ hkp HSX
          go_wp2_with fail
          go_roundw
          case rel =>
            refine ⟨x + 1, _, _, _, by omega, by go_num, HZA.out, ?_, HZL.out⟩
            have e9 : delsK la (rot keys t (x + 1)) = l3 := by
              rw [rot_snoc, delsK_snoc, ← HLD.out, HL3.out, ← HN.out, ← HM.out, List.getD_eq_getElem?_getD, HKM.out]; rfl
            rw [e9]; exact HZOA.out
          case measure => simp [intOf]; omega
        · obtain rfl : x = j := by omega
          have h0 : ld = [] := by rw [HLD.out, HN.out, HLK.out]; exact delsK_rot keys t
          subst h0
          obtain ⟨f0, f1, f2, f3, f4, f5, f6, f7, f8⟩ := row8_facts HRD.out
          dsimp only [List.length_nil] at f1 f2
          go_wp2_with fail
          go_ret
          exact ⟨rfl, HWB2.out⟩
set_option maxRecDepth 100000 in
theorem order_row {H : Type} {enc : TypeId × Value → H} {w : World} {base : Nat} {spare : Nat → Bool} {held : Bool}
    (v0 : Value) (ok0 : Value.okWide Try.prog w .any base 22 v0) (h0 : Reads1 enc Try.prog w 0 spare held 22 v0.cells.toList) (turn : Int) (ht : (Lit.int .i64 turn).wf = true) :
    Calls Try.prog 6 #[v0, .int .i64 turn] w fun e w' => e = .returned (.bool true) ∧ Below w.heap.size w w' := by
  obtain ⟨a, l, c, e⟩ := okWide_slice Try.underlying22 ok0
  obtain ⟨keys, hk, hsz⟩ := strings_of h0 (by rw [e]; rfl)
  by_cases hn : keys.length ≤ 20
  · exact order_any w hk hn hsz turn ht
  · obtain ⟨_, A, c, rfl, _, _, _⟩ := hk
    have hn2 : ¬ ((keys.length : Int) ≤ 20) := by omega
    have hn3 : (20 : Int) < (keys.length : Int) := by omega
    go_enter Try.func6, Try.ntmps6
    go_wp2_with fail
    refine (head_any w).mono ?_
    rintro e w0 ⟨rfl, hb0⟩
    have HB0 := Lib.hid hb0
    clear hb0
    go_wp2_with fail
    go_ret
    exact ⟨rfl, HB0.out⟩
#print axioms order_row
end Go.Proofs.Ytfhpgmgmofganaa.NodeA
