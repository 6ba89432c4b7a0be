/- NodeWays: the walk. -/
import Derived.Test.YtfhpgmgmofganaaNodeT
import Derived.Test.YtfhpgmgmofganaaHeld3
set_option linter.unusedVariables false
set_option linter.unusedSimpArgs false
set_option linter.unusedSectionVars false
namespace Go.Proofs.Ytfhpgmgmofganaa.NodeA
open Go.RowKit Go.WideShapes Go.Deep Go.Proofs.Ytfhpgmgmofganaa.Mem Go.Proofs.Ytfhpgmgmofganaa.Open Go.Proofs.Ytfhpgmgmofganaa.Kv
theorem run_leq {a b : S} {x y : Bool} (h : Op.bytesLess a.toList b.toList = x) (h2 : (a.toList == b.toList) = y) (W : World) : Sem.run Try.prog (binOp .leq 9 (.string a) (.string b)) W = .ok (.bool (x || y)) W := by simp [binOp, Op.stringOp, h, h2]
/-- The argument's first test. -/
theorem PgR.nil (w : World) (kind : Int) : PgR w (.slice none 0 0) (.slice none 0 0) (.slice none 0 0) ⟨kind, [], [], []⟩ := ⟨Rd.nil_ _ _ _, Rd.nil_ _ _ _, Rd.nil_ _ _ _, by simp⟩
set_option maxHeartbeats 2000000 in
set_option maxRecDepth 100000 in
theorem nodeWays_any {v : Value} {keys : List S} (w : World) (h : Rd w w.heap.size 1 v keys.length (sc keys)) (hsz : ∀ k ∈ keys, k.size < 9223372036854775807) (k : S) :
    Calls Try.prog 5 #[v, .string k] w fun e w' => e = .returned (.bool true) ∧ Below w.heap.size w w' := by
  have HR : Hid (∀ W, Below w.heap.size w W → Rd W W.heap.size 1 v keys.length (sc keys)) := fun W hb => h.up hb
  obtain ⟨_, A, c, rfl, hc1, hc2, _⟩ := h
  have HSZ := Lib.hid hsz
  clear hsz
  by_cases hn : keys.length ≤ 20
  · have hI : Hid (∀ W, Below w.heap.size w W → Calls Try.prog 10 #[.slice A keys.length c, .int .i64 1] W fun e w' => ∃ kv nv, e = .returned (pv 2 kv (.slice none 0 0) nv) ∧ PgO w' W.heap.size kv (.slice none 0 0) nv (innerP keys 1) ∧ Below W.heap.size W w') := fun W hb => inner_any W (HR.out W hb) hn HSZ.out 1 (by omega)
    have hn2 : (keys.length : Int) ≤ 20 := by omega
    unfold pv at *
    go_enter Try.func5, Try.ntmps5
    go_wp2_with fail
    refine (head_any w).mono ?_
    rintro e w0 ⟨rfl, hb0⟩
    have HB0 := Lib.hid hb0
    clear hb0
    go_wp2_with fail
    refine (hI.out w0 HB0.out).mono ?_
    rintro e W1 ⟨kv, nv, rfl, ho, hb1⟩
    obtain ⟨Ak, ck, Av, cv, An, cn, e1, e2, e3⟩ := ho.rd.forms
    subst e1 e3
    clear e2 Av cv
    obtain ⟨hri, hle⟩ := leafK_rise _ keys rfl
    obtain ⟨ks, hks⟩ : ∃ ks, ks = leafK keys := ⟨_, rfl⟩
    rw [← hks] at hri hle
    have hip : innerP keys 1 = ⟨2, ks, [], kidsOf (ks.length + 1) 1⟩ := by unfold innerP; rw [← hks]
    have hkl : (kidsOf (ks.length + 1) 1).length = ks.length + 1 := by simp [kidsOf]
    rw [hip] at ho ⊢
    dsimp only at ho ⊢
    rw [hkl] at ho ⊢
    have HW1 : Hid (Below w.heap.size w W1) := HB0.out.trans (hb1.mono HB0.out.size)
    have HO := Lib.hid ho
    have HRI := Lib.hid hri
    have hks20 : ks.length ≤ 20 := by omega
    clear hks hip hkl hri hle ho hb1 hI HR HSZ
    go_wp2_with fail
    obtain ⟨X, hX⟩ : ∃ X, X = W1.alloc (.cells #[.int .i64 2, .slice Ak ks.length ck, .slice none 0 0, .slice An (ks.length + 1) cn, .int .i64 0, .int .i64 0, .int .i64 0, .int .i64 0] 26) := ⟨_, rfl⟩
    rw [← hX]
    have HX : Hid (X.heap[W1.heap.size]? = some (.cells #[.int .i64 2, .slice Ak ks.length ck, .slice none 0 0, .slice An (ks.length + 1) cn, .int .i64 0, .int .i64 0, .int .i64 0, .int .i64 0] 26 (0, 0))) := by rw [hX]; exact heap_alloc_new W1 _
    have HPG : Hid (∀ W, Below X.heap.size X W → PgR W (.slice Ak ks.length ck) (.slice none 0 0) (.slice An (ks.length + 1) cn) ⟨2, ks, [], kidsOf (ks.length + 1) 1⟩) := by
      have hkl : (kidsOf (ks.length + 1) 1).length = ks.length + 1 := by simp [kidsOf]
      have h9 : PgR X (.slice Ak ks.length ck) (.slice none 0 0) (.slice An (ks.length + 1) cn) ⟨2, ks, [], kidsOf (ks.length + 1) 1⟩ := by
        rw [hX]
        have := HO.out
        exact PgO.rd ⟨this.keys.alloc _, this.vals.alloc _, (by have h8 := this.kids.alloc (.cells #[.int .i64 2, .slice Ak ks.length ck, .slice none 0 0, .slice An (ks.length + 1) cn, .int .i64 0, .int .i64 0, .int .i64 0, .int .i64 0] 26); exact h8), this.lens, this.apart⟩
      exact Lib.hid fun W hb => h9.up hb
    have HXL : Hid (Below w.heap.size w X) := by rw [hX]; exact HW1.out.alloc HW1.out.size _
    clear hX HO
    obtain ⟨g5, hg5⟩ : ∃ g, g = W1.heap.size := ⟨_, rfl⟩
    rw [← hg5] at HX ⊢
    clear hg5
    have hul := upTo_le HRI.out k
    obtain ⟨u, hu⟩ : ∃ u, u = upTo ks k := ⟨_, rfl⟩
    obtain ⟨m, hm⟩ : ∃ m, m = pos (kp ks) k := ⟨_, rfl⟩
    obtain ⟨hb, hhb⟩ : ∃ b, b = here (kp ks) k := ⟨_, rfl⟩
    have HU : Hid (u = if hb = true then m + 1 else m) := by rw [hu, hhb, hm]; rfl
    have HML : Hid (m ≤ ks.length) := by rw [hm, ← kp_len ks]; exact Lib.hid (pos_le _ _)
    rw [← hu] at hul
    have HUU := Lib.hid hu
    have HMM := Lib.hid hm
    have HHB := Lib.hid hhb
    clear hu hm hhb
    go_loopw [6, 7, 24] (fun wa th i wr => ∃ (j : Nat) (b : Bool), j ≤ ks.length ∧ i = .int .i64 j ∧ wa = .int .i64 (min j u : Nat) ∧ th = .bool b ∧ b = (hb && decide (m < j)) ∧ wr = X) (fun _ _ i _ => ks.length - (intOf i).toNat)
    case atStart => exact ⟨0, false, Nat.zero_le _, rfl, by simp, rfl, by simp, rfl⟩
    case round =>
      obtain ⟨j, b, hj, rfl, rfl, rfl, hbj, rfl⟩ := hrel
      obtain ⟨f0, f1, f2, f3, f4, f5, f6, f7, f8⟩ := row8_facts HX.out
      have HBJ := Lib.hid hbj
      clear hbj
      by_cases hlt : j < ks.length
      · obtain ⟨g, off, cz, e, hg, _, _, hx⟩ := (HPG.out _ (Below.refl _ _)).keys.cells (show 0 < ks.length by omega)
        injection e with e1 e2 e3
        clear e2 e3
        subst e1
        obtain ⟨q, hq⟩ : ∃ q, ks[j]? = some q := ⟨ks[j], List.getElem?_eq_getElem _⟩
        have hc := hx j _ (sc_at hq)
        have h1 := at_lt HRI.out (k := k) hq
        have h2 := at_eq HRI.out (k := k) hq
        have h3 := at_le HRI.out (k := k) hq
        rw [← HMM.out] at h1 h2
        rw [← HHB.out] at h2
        rw [← HUU.out] at h3
        have hu := HU.out
        have i0 : (0 : Int) ≤ (j : Int) := by omega
        have i1 : (j : Int) < (ks.length : Int) := by omega
        clear hx hq
        by_cases hju : j < u
        · have ha : (min j u : Nat) = j := by omega
          have hb2 : (min (j + 1) u : Nat) = j + 1 := by omega
          rw [ha]
          have HB2 := Lib.hid hb2
          by_cases hqk : q = k
          · obtain ⟨hbt, hjm⟩ := h2.1 hqk
            have d0 : Op.bytesLess q.toList k.toList = false := by rw [bl_lt, hqk]; exact lt_irrefl _
            have d1 : (q.toList == k.toList) = true := by rw [str_beq, decide_eq_true hqk]
            have hle : ∀ W : World, Sem.run Try.prog (binOp .leq 9 (.string q) (.string k)) W = .ok (.bool true) W := run_leq d0 d1
            obtain rfl : b = false := by rw [HBJ.out, hjm]; simp
            have hnew : true = (hb && decide (m < j + 1)) := by rw [hbt, hjm]; simp
            have HNEW := Lib.hid hnew
            clear h1 h2 h3 hu hju ha hb2 hqk hbt hjm hnew
            go_wp2_with fail
            go_roundw
            case rel => exact ⟨j + 1, true, by omega, by go_num, by rw [HB2.out]; go_num, rfl, HNEW.out, by first | rfl | trivial⟩
            case measure => simp [intOf]; omega
          · have d1 : (q.toList == k.toList) = false := by rw [str_beq, decide_eq_false hqk]
            have d0 : Op.bytesLess q.toList k.toList = true := by
              rw [bl_lt]
              refine h1.2 ?_
              cases hb with
              | false => rw [if_neg (by decide)] at hu; omega
              | true =>
                rw [if_pos rfl] at hu
                have : ¬ j = m := fun e => hqk (h2.2 ⟨rfl, e⟩)
                omega
            have hle : ∀ W : World, Sem.run Try.prog (binOp .leq 9 (.string q) (.string k)) W = .ok (.bool true) W := run_leq d0 d1
            obtain rfl : b = false := by
              rw [HBJ.out]
              cases hb with
              | false => rfl
              | true =>
                have : ¬ m < j := by rw [if_pos rfl] at hu; omega
                simp [this]
            have hnew : false = (hb && decide (m < j + 1)) := by
              cases hb with
              | false => rfl
              | true =>
                have : ¬ m < j + 1 := by
                  rw [if_pos rfl] at hu
                  have : ¬ j = m := fun e => hqk (h2.2 ⟨rfl, e⟩)
                  omega
                simp [this]
            have HNEW := Lib.hid hnew
            clear h1 h2 h3 hu hju ha hb2 hqk hnew
            go_wp2_with fail
            go_roundw
            case rel => exact ⟨j + 1, false, by omega, by go_num, by rw [HB2.out]; go_num, rfl, HNEW.out, by first | rfl | trivial⟩
            case measure => simp [intOf]; omega
        · have d0 : Op.bytesLess q.toList k.toList = false := by
            rw [bl_lt]
            cases hh : lt q k with
            | false => rfl
            | true =>
              have := h1.1 hh
              split at hu <;> omega
          have ha : (min j u : Nat) = u := by omega
          have hb2 : (min (j + 1) u : Nat) = u := by omega
          rw [ha]
          have HB2 := Lib.hid hb2
          have hqk : ¬ q = k := fun e => by
            obtain ⟨hbt, hjm⟩ := h2.1 e
            rw [if_pos hbt] at hu
            omega
          have d1 : (q.toList == k.toList) = false := by rw [str_beq, decide_eq_false hqk]
          have hle : ∀ W : World, Sem.run Try.prog (binOp .leq 9 (.string q) (.string k)) W = .ok (.bool false) W := run_leq d0 d1
          have hnew : b = (hb && decide (m < j + 1)) := by
            rw [HBJ.out]
            cases hb with
            | false => rfl
            | true =>
              rw [if_pos rfl] at hu
              have t1 : m < j := by omega
              have t2 : m < j + 1 := by omega
              simp [t1, t2]
          have HNEW := Lib.hid hnew
          clear h1 h2 h3 hu hju ha hb2 hqk hnew HBJ
          cases b with
          | true =>
            go_wp2_with fail
            go_roundw
            case rel => exact ⟨j + 1, true, by omega, by go_num, by rw [HB2.out], rfl, HNEW.out, by first | rfl | trivial⟩
            case measure => simp [intOf]; omega
          | false =>
            go_wp2_with fail
            go_roundw
            case rel => exact ⟨j + 1, false, by omega, by go_num, by rw [HB2.out], rfl, HNEW.out, by first | rfl | trivial⟩
            case measure => simp [intOf]; omega
      · obtain rfl : j = ks.length := by omega
        have ha : (min ks.length u : Nat) = u := by omega
        rw [ha]
        have hbb : hb = b := by
          rw [HBJ.out]
          cases hb with
          | false => rfl
          | true =>
            have hu := HU.out
            rw [if_pos rfl] at hu
            have : m < ks.length := by omega
            simp [this]
        have HHB2 : Hid (here (kp ks) k = b) := by rw [← hbb]; exact Lib.hid HHB.out.symm
        have HAT : Hid (∀ W, Below wr.heap.size wr W → Calls Try.prog 17 #[.agg #[.int .i64 2, .slice Ak ks.length ck, .slice none 0 0, .slice An (ks.length + 1) cn, .int .i64 0, .int .i64 0, .int .i64 0, .int .i64 0], .string k] W fun e w' => e = .returned (.tuple #[.int .i64 u, .bool b]) ∧ Below W.heap.size W w') := fun W hb => (at_any W (HPG.out W hb) HRI.out k).mono fun e w' he => ⟨he.1.trans (by
          have e1 : atZ ⟨2, ks, [], kidsOf (ks.length + 1) 1⟩ k = u := by rw [HUU.out]; unfold atZ upTo; simp
          rw [e1]
          show _ = _
          rw [HHB2.out]), he.2⟩
        have HGT : Hid (∀ W, Below wr.heap.size wr W → Calls Try.prog 18 #[.agg #[.int .i64 2, .slice Ak ks.length ck, .slice none 0 0, .slice An (ks.length + 1) cn, .int .i64 0, .int .i64 0, .int .i64 0, .int .i64 0], .string k] W fun e w' => ∃ s, e = .returned (.tuple #[.string s, .bool false]) ∧ Below W.heap.size W w') := fun W hb => (get_any W (HPG.out W hb) HRI.out (fun h => absurd (show (2 : Int) = 1 from h) (by decide)) k).mono fun e w' he => ⟨_, he.1, he.2⟩
        have HOV : Hid (∀ W, Below wr.heap.size wr W → Calls Try.prog 16 #[.agg #[.int .i64 2, .slice Ak ks.length ck, .slice none 0 0, .slice An (ks.length + 1) cn, .int .i64 0, .int .i64 0, .int .i64 0, .int .i64 0]] W fun e w' => e = .returned (.bool (decide (8 < ks.length + 1))) ∧ Below W.heap.size W w') := fun W hb => (over_any W (HPG.out W hb)).mono fun e w' he => ⟨he.1.trans (by simp [kidsOf]), he.2⟩
        have HUN : Hid (∀ W, Below wr.heap.size wr W → Calls Try.prog 15 #[.agg #[.int .i64 2, .slice Ak ks.length ck, .slice none 0 0, .slice An (ks.length + 1) cn, .int .i64 0, .int .i64 0, .int .i64 0, .int .i64 0]] W fun e w' => e = .returned (.bool (decide (ks.length + 1 < 4))) ∧ Below W.heap.size W w') := fun W hb => (under_any W (HPG.out W hb)).mono fun e w' he => ⟨he.1.trans (by simp [kidsOf]), he.2⟩
        have HO0 : Hid (∀ W, Calls Try.prog 16 #[.agg #[.int .i64 0, .slice none 0 0, .slice none 0 0, .slice none 0 0, .int .i64 0, .int .i64 0, .int .i64 0, .int .i64 0]] W fun e w' => e = .returned (.bool false) ∧ Below W.heap.size W w') := fun W => (over_any W (PgR.nil W 0)).mono fun e w' he => ⟨he.1.trans (by simp), he.2⟩
        have HU3 : Hid (∀ W, Calls Try.prog 15 #[.agg #[.int .i64 3, .slice none 0 0, .slice none 0 0, .slice none 0 0, .int .i64 0, .int .i64 0, .int .i64 0, .int .i64 0]] W fun e w' => e = .returned (.bool false) ∧ Below W.heap.size W w') := fun W => (under_any W (PgR.nil W 3)).mono fun e w' he => ⟨he.1.trans (by simp), he.2⟩
        clear ha HBJ hbb HHB HHB2 HU HML hj hlt
        go_wp2_with fail
        refine (HAT.out _ (Below.refl _ _)).mono ?_
        rintro e w2 ⟨rfl, hb2⟩
        have HB2 := Lib.hid hb2
        clear f0 f1 f2 f3 f4 f5 f6 f7 f8 hb2
        obtain ⟨f0, f1, f2, f3, f4, f5, f6, f7, f8⟩ := row8_facts ((HB2.out.block _ (Array.getElem?_eq_some_iff.1 HX.out).1).trans HX.out)
        go_wp2_with fail
        refine (HGT.out _ HB2.out).mono ?_
        rintro e w3 ⟨s, rfl, hb3⟩
        have HB3 := Lib.hid (HB2.out.trans (hb3.mono HB2.out.size))
        clear f0 f1 f2 f3 f4 f5 f6 f7 f8 hb3
        go_wp2_with fail
        by_cases c1 : 8 < ks.length + 1
        · have c2 : ¬ (ks.length + 1 < 4) := by omega
          have HO8 : Hid (decide (8 < ks.length + 1) = true) := Lib.hid (by simp; omega)
          have HU4 : Hid (decide (ks.length + 1 < 4) = false) := Lib.hid (by simp; omega)
          have p1 : (8 : Int) < ((ks.length + 1 : Nat) : Int) := by omega
          have p2 : (8 : Int) < (ks.length : Int) + 1 := by omega
          have p3 : ¬ (((ks.length + 1 : Nat) : Int) < 4) := by omega
          have p4 : ¬ ((ks.length : Int) + 1 < 4) := by omega
          clear c1 c2
          refine Held3.ways_start (fun _ W W' => (fun W : World => Below wr.heap.size wr W) W → (fun W : World => Below wr.heap.size wr W) W') (by kernel_rfl) ?_
          obtain ⟨D, hD⟩ : ∃ D, D = w3.drew := ⟨_, rfl⟩
          rw [← hD]
          have HBD : Hid (Below wr.heap.size wr D) := by rw [hD]; exact HB3.out.drew
          clear hD
          refine Held3.Ways.plain (i := 0) (oi := ?oa1) ?va1 ?hia1 ?hsa1 ?hfa1 ?hra1 ?hQa1 ?hya1 (fun _ _ => id) ?resta1
          case hia1 => exact rfl
          case hsa1 => kernel_rfl
          case hfa1 => kernel_rfl
          case hra1 => kernel_rfl
          case hQa1 => exact fun _ _ _ h => h
          case hya1 =>
            refine .inl ⟨by rfl, fun W _ => ?_⟩
            go_simp
            try with_reducible rfl
          try simp only [Act.put, List.setIfInBounds_toArray, List.set_cons_zero, List.set_cons_succ]
          refine Held3.Ways.plain (i := 1) (oi := ?oa2) ?va2 ?hia2 ?hsa2 ?hfa2 ?hra2 ?hQa2 ?hya2 (fun _ _ => id) ?resta2
          case hia2 => exact rfl
          case hsa2 => kernel_rfl
          case hfa2 => kernel_rfl
          case hra2 => kernel_rfl
          case hQa2 => exact fun _ _ _ h => h
          case hya2 =>
            refine .inl ⟨by rfl, fun W _ => ?_⟩
            go_simp
            try with_reducible rfl
          try simp only [Act.put, List.setIfInBounds_toArray, List.set_cons_zero, List.set_cons_succ]
          refine Held3.Ways.plain (i := 2) (oi := ?oa3) ?va3 ?hia3 ?hsa3 ?hfa3 ?hra3 ?hQa3 ?hya3 (fun _ _ => id) ?resta3
          case hia3 => exact rfl
          case hsa3 => kernel_rfl
          case hfa3 => kernel_rfl
          case hra3 => kernel_rfl
          case hQa3 => exact fun _ _ _ h => h
          case hya3 =>
            refine .inl ⟨by rfl, fun W _ => ?_⟩
            go_simp
            try with_reducible rfl
          try simp only [Act.put, List.setIfInBounds_toArray, List.set_cons_zero, List.set_cons_succ]
          refine Held3.Ways.plain (i := 3) (oi := ?oa4) ?va4 ?hia4 ?hsa4 ?hfa4 ?hra4 ?hQa4 ?hya4 (fun _ _ => id) ?resta4
          case hia4 => exact rfl
          case hsa4 => kernel_rfl
          case hfa4 => kernel_rfl
          case hra4 => kernel_rfl
          case hQa4 => exact fun _ _ _ h => h
          case hya4 =>
            refine .inl ⟨by rfl, fun W _ => ?_⟩
            go_simp
            try with_reducible rfl
          try simp only [Act.put, List.setIfInBounds_toArray, List.set_cons_zero, List.set_cons_succ]
          refine Held3.Ways.plain (i := 4) (oi := ?oa5) ?va5 ?hia5 ?hsa5 ?hfa5 ?hra5 ?hQa5 ?hya5 (fun _ _ => id) ?resta5
          case hia5 => exact rfl
          case hsa5 => kernel_rfl
          case hfa5 => kernel_rfl
          case hra5 => kernel_rfl
          case hQa5 => exact fun _ _ _ h => h
          case hya5 =>
            refine .inl ⟨by rfl, fun W _ => ?_⟩
            go_simp
            try with_reducible rfl
          try simp only [Act.put, List.setIfInBounds_toArray, List.set_cons_zero, List.set_cons_succ]
          refine Held3.Ways.plain (i := 5) (oi := ?oa6) ?va6 ?hia6 ?hsa6 ?hfa6 ?hra6 ?hQa6 ?hya6 (fun _ _ => id) ?resta6
          case hia6 => exact rfl
          case hsa6 => kernel_rfl
          case hfa6 => kernel_rfl
          case hra6 => kernel_rfl
          case hQa6 => exact fun _ _ _ h => h
          case hya6 =>
            refine .inl ⟨by rfl, fun W _ => ?_⟩
            go_simp
            try with_reducible rfl
          try simp only [Act.put, List.setIfInBounds_toArray, List.set_cons_zero, List.set_cons_succ]
          refine Held3.Ways.plain (i := 6) (oi := ?oa7) ?va7 ?hia7 ?hsa7 ?hfa7 ?hra7 ?hQa7 ?hya7 (fun _ _ => id) ?resta7
          case hia7 => exact rfl
          case hsa7 => kernel_rfl
          case hfa7 => kernel_rfl
          case hra7 => kernel_rfl
          case hQa7 => exact fun _ _ _ h => h
          case hya7 =>
            refine .inl ⟨by rfl, fun W _ => ?_⟩
            go_simp
            try with_reducible rfl
          try simp only [Act.put, List.setIfInBounds_toArray, List.set_cons_zero, List.set_cons_succ]
          refine Held3.Ways.plain (i := 7) (oi := ?oa8) ?va8 ?hia8 ?hsa8 ?hfa8 ?hra8 ?hQa8 ?hya8 (fun _ _ => id) ?resta8
          case hia8 => exact rfl
          case hsa8 => kernel_rfl
          case hfa8 => kernel_rfl
          case hra8 => kernel_rfl
          case hQa8 => exact fun _ _ _ h => h
          case hya8 =>
            refine .inl ⟨by rfl, fun W _ => ?_⟩
            go_simp
            try with_reducible rfl
          try simp only [Act.put, List.setIfInBounds_toArray, List.set_cons_zero, List.set_cons_succ]
          refine Held3.Ways.plain (i := 8) (oi := ?oa9) ?va9 ?hia9 ?hsa9 ?hfa9 ?hra9 ?hQa9 ?hya9 (fun _ _ => id) ?resta9
          case hia9 => exact rfl
          case hsa9 => kernel_rfl
          case hfa9 => kernel_rfl
          case hra9 => kernel_rfl
          case hQa9 => exact fun _ _ _ h => h
          case hya9 =>
            refine .inl ⟨by rfl, fun W _ => ?_⟩
            go_simp
            try with_reducible rfl
          try simp only [Act.put, List.setIfInBounds_toArray, List.set_cons_zero, List.set_cons_succ]
          refine Held3.Ways.plain (i := 9) (oi := ?oa10) ?va10 ?hia10 ?hsa10 ?hfa10 ?hra10 ?hQa10 ?hya10 (fun _ _ => id) ?resta10
          case hia10 => exact rfl
          case hsa10 => kernel_rfl
          case hfa10 => kernel_rfl
          case hra10 => kernel_rfl
          case hQa10 => exact fun _ _ _ h => h
          case hya10 =>
            refine .inl ⟨by rfl, fun W _ => ?_⟩
            go_simp
            try with_reducible rfl
          try simp only [Act.put, List.setIfInBounds_toArray, List.set_cons_zero, List.set_cons_succ]
          refine Held3.Ways.plain (i := 10) (oi := ?oa11) ?va11 ?hia11 ?hsa11 ?hfa11 ?hra11 ?hQa11 ?hya11 (fun _ _ => id) ?resta11
          case hia11 => exact rfl
          case hsa11 => kernel_rfl
          case hfa11 => kernel_rfl
          case hra11 => kernel_rfl
          case hQa11 => exact fun _ _ _ h => h
          case hya11 =>
            refine .inl ⟨by rfl, fun W _ => ?_⟩
            go_simp
            try with_reducible rfl
          try simp only [Act.put, List.setIfInBounds_toArray, List.set_cons_zero, List.set_cons_succ]
          refine Held3.Ways.plain (i := 11) (oi := ?oa12) ?va12 ?hia12 ?hsa12 ?hfa12 ?hra12 ?hQa12 ?hya12 (fun _ _ => id) ?resta12
          case hia12 => exact rfl
          case hsa12 => kernel_rfl
          case hfa12 => kernel_rfl
          case hra12 => kernel_rfl
          case hQa12 => exact fun _ _ _ h => h
          case hya12 =>
            refine .inl ⟨by rfl, fun W _ => ?_⟩
            go_simp
            try with_reducible rfl
          try simp only [Act.put, List.setIfInBounds_toArray, List.set_cons_zero, List.set_cons_succ]
          refine Held3.Ways.plain (i := 12) (oi := ?oa13) ?va13 ?hia13 ?hsa13 ?hfa13 ?hra13 ?hQa13 ?hya13 (fun _ _ => id) ?resta13
          case hia13 => exact rfl
          case hsa13 => kernel_rfl
          case hfa13 => kernel_rfl
          case hra13 => kernel_rfl
          case hQa13 => exact fun _ _ _ h => h
          case hya13 =>
            refine .inl ⟨by rfl, fun W _ => ?_⟩
            go_simp
            try with_reducible rfl
          try simp only [Act.put, List.setIfInBounds_toArray, List.set_cons_zero, List.set_cons_succ]
          refine Held3.Ways.take (i := 13) (oi := ?oa14) (fun W : World => Below wr.heap.size wr W) (fun _ => true) ?va14 ?hia14 ?hsa14 ?hfa14 ?hlwa14 ?hra14 ?hQa14 HBD.out ?hya14 (fun _ _ _ h _ => h) (fun _ _ => id) ?resta14
          case hia14 => exact rfl
          case hsa14 => kernel_rfl
          case hfa14 => kernel_rfl
          case hlwa14 => kernel_rfl
          case hra14 => kernel_rfl
          case hQa14 => exact fun _ _ _ h => h
          case hya14 =>
            refine .inl ⟨by rfl, fun W hW => ?_⟩
            obtain ⟨f0, f1, f2, f3, f4, f5, f6, f7, f8⟩ := row8_facts ((hW.block _ (Array.getElem?_eq_some_iff.1 HX.out).1).trans HX.out)
            go_simp
            try with_reducible rfl
          try simp only [Act.put, List.setIfInBounds_toArray, List.set_cons_zero, List.set_cons_succ]
          refine Held3.Ways.plain (i := 15) (oi := ?oa15) ?va15 ?hia15 ?hsa15 ?hfa15 ?hra15 ?hQa15 ?hya15 (fun _ _ => id) ?resta15
          case hia15 => exact rfl
          case hsa15 => kernel_rfl
          case hfa15 => kernel_rfl
          case hra15 => kernel_rfl
          case hQa15 => exact fun _ _ _ h => h
          case hya15 =>
            refine .inl ⟨by rfl, fun W _ => ?_⟩
            go_simp
            try with_reducible rfl
          try simp only [Act.put, List.setIfInBounds_toArray, List.set_cons_zero, List.set_cons_succ]
          refine Held3.Ways.take (i := 16) (oi := ?oa16) (fun W : World => Below wr.heap.size wr W) (fun _ => true) ?va16 ?hia16 ?hsa16 ?hfa16 ?hlwa16 ?hra16 ?hQa16 HBD.out ?hya16 (fun _ _ _ h _ => h) (fun _ _ => id) ?resta16
          case hia16 => exact rfl
          case hsa16 => kernel_rfl
          case hfa16 => kernel_rfl
          case hlwa16 => kernel_rfl
          case hra16 => kernel_rfl
          case hQa16 => exact fun _ _ _ h => h
          case hya16 =>
            refine .inl ⟨by rfl, fun W hW => ?_⟩
            obtain ⟨f0, f1, f2, f3, f4, f5, f6, f7, f8⟩ := row8_facts ((hW.block _ (Array.getElem?_eq_some_iff.1 HX.out).1).trans HX.out)
            go_simp
            try with_reducible rfl
          try simp only [Act.put, List.setIfInBounds_toArray, List.set_cons_zero, List.set_cons_succ]
          refine Held3.Ways.plain (i := 17) (oi := ?oa17) ?va17 ?hia17 ?hsa17 ?hfa17 ?hra17 ?hQa17 ?hya17 (fun _ _ => id) ?resta17
          case hia17 => exact rfl
          case hsa17 => kernel_rfl
          case hfa17 => kernel_rfl
          case hra17 => kernel_rfl
          case hQa17 => exact fun _ _ _ h => h
          case hya17 =>
            refine .inl ⟨by rfl, fun W _ => ?_⟩
            go_simp
            try with_reducible rfl
          try simp only [Act.put, List.setIfInBounds_toArray, List.set_cons_zero, List.set_cons_succ]
          refine Held3.Ways.plain (i := 18) (oi := ?oa18) ?va18 ?hia18 ?hsa18 ?hfa18 ?hra18 ?hQa18 ?hya18 (fun _ _ => id) ?resta18
          case hia18 => exact rfl
          case hsa18 => kernel_rfl
          case hfa18 => kernel_rfl
          case hra18 => kernel_rfl
          case hQa18 => exact fun _ _ _ h => h
          case hya18 =>
            refine .inl ⟨by rfl, fun W _ => ?_⟩
            go_simp
            try with_reducible rfl
          try simp only [Act.put, List.setIfInBounds_toArray, List.set_cons_zero, List.set_cons_succ]
          refine Held3.Ways.one (i := 14) (by rfl) (by kernel_rfl) (fun K hK => ?_)
          go_simp
          go_at_call 16
          refine (HOV.out D HBD.out).mono ?_
          rintro e Y14 ⟨he, hb⟩
          rw [HO8.out] at he
          subst he
          have HBY14 := Lib.hid (HBD.out.trans (hb.mono HBD.out.size))
          have HLY14 := Lib.hid hb
          clear hb
          dsimp only
          refine hK.out _ _ (fun h => h.trans (HLY14.out.mono h.size)) ?_
          clear hK K
          try simp only [Act.put, List.setIfInBounds_toArray, List.set_cons_zero, List.set_cons_succ]
          refine Held3.Ways.plain (i := 19) (oi := ?oa19) ?va19 ?hia19 ?hsa19 ?hfa19 ?hra19 ?hQa19 ?hya19 (fun _ _ => id) ?resta19
          case hia19 => exact rfl
          case hsa19 => kernel_rfl
          case hfa19 => kernel_rfl
          case hra19 => kernel_rfl
          case hQa19 => exact fun _ _ _ h => h
          case hya19 =>
            refine .inl ⟨by rfl, fun W _ => ?_⟩
            go_simp
            try with_reducible rfl
          try simp only [Act.put, List.setIfInBounds_toArray, List.set_cons_zero, List.set_cons_succ]
          refine Held3.Ways.plain (i := 20) (oi := ?oa20) ?va20 ?hia20 ?hsa20 ?hfa20 ?hra20 ?hQa20 ?hya20 (fun _ _ => id) ?resta20
          case hia20 => exact rfl
          case hsa20 => kernel_rfl
          case hfa20 => kernel_rfl
          case hra20 => kernel_rfl
          case hQa20 => exact fun _ _ _ h => h
          case hya20 =>
            refine .inl ⟨by rfl, fun W _ => ?_⟩
            go_simp
            try with_reducible rfl
          try simp only [Act.put, List.setIfInBounds_toArray, List.set_cons_zero, List.set_cons_succ]
          refine Held3.Ways.plain (i := 21) (oi := ?oa21) ?va21 ?hia21 ?hsa21 ?hfa21 ?hra21 ?hQa21 ?hya21 (fun _ _ => id) ?resta21
          case hia21 => exact rfl
          case hsa21 => kernel_rfl
          case hfa21 => kernel_rfl
          case hra21 => kernel_rfl
          case hQa21 => exact fun _ _ _ h => h
          case hya21 =>
            refine .inl ⟨by rfl, fun W _ => ?_⟩
            go_simp
            try with_reducible rfl
          try simp only [Act.put, List.setIfInBounds_toArray, List.set_cons_zero, List.set_cons_succ]
          refine Held3.Ways.take (i := 22) (oi := ?oa22) (fun W : World => Below wr.heap.size wr W) (fun _ => true) ?va22 ?hia22 ?hsa22 ?hfa22 ?hlwa22 ?hra22 ?hQa22 HBY14.out ?hya22 (fun _ _ _ h _ => h) (fun _ _ => id) ?resta22
          case hia22 => exact rfl
          case hsa22 => kernel_rfl
          case hfa22 => kernel_rfl
          case hlwa22 => kernel_rfl
          case hra22 => kernel_rfl
          case hQa22 => exact fun _ _ _ h => h
          case hya22 =>
            refine .inl ⟨by rfl, fun W hW => ?_⟩
            obtain ⟨f0, f1, f2, f3, f4, f5, f6, f7, f8⟩ := row8_facts ((hW.block _ (Array.getElem?_eq_some_iff.1 HX.out).1).trans HX.out)
            go_simp
            try with_reducible rfl
          try simp only [Act.put, List.setIfInBounds_toArray, List.set_cons_zero, List.set_cons_succ]
          refine Held3.Ways.plain (i := 24) (oi := ?oa23) ?va23 ?hia23 ?hsa23 ?hfa23 ?hra23 ?hQa23 ?hya23 (fun _ _ => id) ?resta23
          case hia23 => exact rfl
          case hsa23 => kernel_rfl
          case hfa23 => kernel_rfl
          case hra23 => kernel_rfl
          case hQa23 => exact fun _ _ _ h => h
          case hya23 =>
            refine .inl ⟨by rfl, fun W _ => ?_⟩
            go_simp
            try with_reducible rfl
          try simp only [Act.put, List.setIfInBounds_toArray, List.set_cons_zero, List.set_cons_succ]
          refine Held3.Ways.take (i := 25) (oi := ?oa24) (fun W : World => Below wr.heap.size wr W) (fun _ => true) ?va24 ?hia24 ?hsa24 ?hfa24 ?hlwa24 ?hra24 ?hQa24 HBY14.out ?hya24 (fun _ _ _ h _ => h) (fun _ _ => id) ?resta24
          case hia24 => exact rfl
          case hsa24 => kernel_rfl
          case hfa24 => kernel_rfl
          case hlwa24 => kernel_rfl
          case hra24 => kernel_rfl
          case hQa24 => exact fun _ _ _ h => h
          case hya24 =>
            refine .inl ⟨by rfl, fun W hW => ?_⟩
            obtain ⟨f0, f1, f2, f3, f4, f5, f6, f7, f8⟩ := row8_facts ((hW.block _ (Array.getElem?_eq_some_iff.1 HX.out).1).trans HX.out)
            go_simp
            try with_reducible rfl
          try simp only [Act.put, List.setIfInBounds_toArray, List.set_cons_zero, List.set_cons_succ]
          refine Held3.Ways.plain (i := 26) (oi := ?oa25) ?va25 ?hia25 ?hsa25 ?hfa25 ?hra25 ?hQa25 ?hya25 (fun _ _ => id) ?resta25
          case hia25 => exact rfl
          case hsa25 => kernel_rfl
          case hfa25 => kernel_rfl
          case hra25 => kernel_rfl
          case hQa25 => exact fun _ _ _ h => h
          case hya25 =>
            refine .inl ⟨by rfl, fun W _ => ?_⟩
            go_simp
            try with_reducible rfl
          try simp only [Act.put, List.setIfInBounds_toArray, List.set_cons_zero, List.set_cons_succ]
          refine Held3.Ways.plain (i := 27) (oi := ?oa26) ?va26 ?hia26 ?hsa26 ?hfa26 ?hra26 ?hQa26 ?hya26 (fun _ _ => id) ?resta26
          case hia26 => exact rfl
          case hsa26 => kernel_rfl
          case hfa26 => kernel_rfl
          case hra26 => kernel_rfl
          case hQa26 => exact fun _ _ _ h => h
          case hya26 =>
            refine .inl ⟨by rfl, fun W _ => ?_⟩
            go_simp
            try with_reducible rfl
          try simp only [Act.put, List.setIfInBounds_toArray, List.set_cons_zero, List.set_cons_succ]
          refine Held3.Ways.one (i := 23) (by rfl) (by kernel_rfl) (fun K hK => ?_)
          go_simp
          go_at_call 15
          refine (HUN.out Y14 HBY14.out).mono ?_
          rintro e Y23 ⟨he, hb⟩
          rw [HU4.out] at he
          subst he
          have HBY23 := Lib.hid (HBY14.out.trans (hb.mono HBY14.out.size))
          have HLY23 := Lib.hid hb
          clear hb
          dsimp only
          refine hK.out _ _ (fun h => h.trans (HLY23.out.mono h.size)) ?_
          clear hK K
          try simp only [Act.put, List.setIfInBounds_toArray, List.set_cons_zero, List.set_cons_succ]
          refine Held3.Ways.plain (i := 28) (oi := ?oa27) ?va27 ?hia27 ?hsa27 ?hfa27 ?hra27 ?hQa27 ?hya27 (fun _ _ => id) ?resta27
          case hia27 => exact rfl
          case hsa27 => kernel_rfl
          case hfa27 => kernel_rfl
          case hra27 => kernel_rfl
          case hQa27 => exact fun _ _ _ h => h
          case hya27 =>
            refine .inl ⟨by rfl, fun W _ => ?_⟩
            go_simp
            try with_reducible rfl
          try simp only [Act.put, List.setIfInBounds_toArray, List.set_cons_zero, List.set_cons_succ]
          refine Held3.Ways.plain (i := 29) (oi := ?oa28) ?va28 ?hia28 ?hsa28 ?hfa28 ?hra28 ?hQa28 ?hya28 (fun _ _ => id) ?resta28
          case hia28 => exact rfl
          case hsa28 => kernel_rfl
          case hfa28 => kernel_rfl
          case hra28 => kernel_rfl
          case hQa28 => exact fun _ _ _ h => h
          case hya28 =>
            refine .inl ⟨by rfl, fun W _ => ?_⟩
            go_simp
            try with_reducible rfl
          try simp only [Act.put, List.setIfInBounds_toArray, List.set_cons_zero, List.set_cons_succ]
          refine Held3.Ways.plain (i := 30) (oi := ?oa29) ?va29 ?hia29 ?hsa29 ?hfa29 ?hra29 ?hQa29 ?hya29 (fun _ _ => id) ?resta29
          case hia29 => exact rfl
          case hsa29 => kernel_rfl
          case hfa29 => kernel_rfl
          case hra29 => kernel_rfl
          case hQa29 => exact fun _ _ _ h => h
          case hya29 =>
            refine .inl ⟨by rfl, fun W _ => ?_⟩
            go_simp
            try with_reducible rfl
          try simp only [Act.put, List.setIfInBounds_toArray, List.set_cons_zero, List.set_cons_succ]
          refine Held3.Ways.plain (i := 31) (oi := ?oa30) ?va30 ?hia30 ?hsa30 ?hfa30 ?hra30 ?hQa30 ?hya30 (fun _ _ => id) ?resta30
          case hia30 => exact rfl
          case hsa30 => kernel_rfl
          case hfa30 => kernel_rfl
          case hra30 => kernel_rfl
          case hQa30 => exact fun _ _ _ h => h
          case hya30 =>
            refine .inl ⟨by rfl, fun W _ => ?_⟩
            go_simp
            try with_reducible rfl
          try simp only [Act.put, List.setIfInBounds_toArray, List.set_cons_zero, List.set_cons_succ]
          refine Held3.Ways.one (i := 32) (by rfl) (by kernel_rfl) (fun K hK => ?_)
          go_simp
          go_at_call 16
          refine (HO0.out Y23).mono ?_
          rintro e Y32 ⟨he, hb⟩
          subst he
          have HBY32 := Lib.hid (HBY23.out.trans (hb.mono HBY23.out.size))
          have HLY32 := Lib.hid hb
          clear hb
          dsimp only
          refine hK.out _ _ (fun h => h.trans (HLY32.out.mono h.size)) ?_
          clear hK K
          try simp only [Act.put, List.setIfInBounds_toArray, List.set_cons_zero, List.set_cons_succ]
          refine Held3.Ways.plain (i := 33) (oi := ?oa31) ?va31 ?hia31 ?hsa31 ?hfa31 ?hra31 ?hQa31 ?hya31 (fun _ _ => id) ?resta31
          case hia31 => exact rfl
          case hsa31 => kernel_rfl
          case hfa31 => kernel_rfl
          case hra31 => kernel_rfl
          case hQa31 => exact fun _ _ _ h => h
          case hya31 =>
            refine .inl ⟨by rfl, fun W _ => ?_⟩
            go_simp
            try with_reducible rfl
          try simp only [Act.put, List.setIfInBounds_toArray, List.set_cons_zero, List.set_cons_succ]
          refine Held3.Ways.plain (i := 34) (oi := ?oa32) ?va32 ?hia32 ?hsa32 ?hfa32 ?hra32 ?hQa32 ?hya32 (fun _ _ => id) ?resta32
          case hia32 => exact rfl
          case hsa32 => kernel_rfl
          case hfa32 => kernel_rfl
          case hra32 => kernel_rfl
          case hQa32 => exact fun _ _ _ h => h
          case hya32 =>
            refine .inl ⟨by rfl, fun W _ => ?_⟩
            go_simp
            try with_reducible rfl
          try simp only [Act.put, List.setIfInBounds_toArray, List.set_cons_zero, List.set_cons_succ]
          refine Held3.Ways.plain (i := 35) (oi := ?oa33) ?va33 ?hia33 ?hsa33 ?hfa33 ?hra33 ?hQa33 ?hya33 (fun _ _ => id) ?resta33
          case hia33 => exact rfl
          case hsa33 => kernel_rfl
          case hfa33 => kernel_rfl
          case hra33 => kernel_rfl
          case hQa33 => exact fun _ _ _ h => h
          case hya33 =>
            refine .inl ⟨by rfl, fun W _ => ?_⟩
            go_simp
            try with_reducible rfl
          try simp only [Act.put, List.setIfInBounds_toArray, List.set_cons_zero, List.set_cons_succ]
          refine Held3.Ways.plain (i := 36) (oi := ?oa34) ?va34 ?hia34 ?hsa34 ?hfa34 ?hra34 ?hQa34 ?hya34 (fun _ _ => id) ?resta34
          case hia34 => exact rfl
          case hsa34 => kernel_rfl
          case hfa34 => kernel_rfl
          case hra34 => kernel_rfl
          case hQa34 => exact fun _ _ _ h => h
          case hya34 =>
            refine .inl ⟨by rfl, fun W _ => ?_⟩
            go_simp
            try with_reducible rfl
          try simp only [Act.put, List.setIfInBounds_toArray, List.set_cons_zero, List.set_cons_succ]
          refine Held3.Ways.one (i := 37) (by rfl) (by kernel_rfl) (fun K hK => ?_)
          go_simp
          go_at_call 15
          refine (HU3.out Y32).mono ?_
          rintro e Y37 ⟨he, hb⟩
          subst he
          have HBY37 := Lib.hid (HBY32.out.trans (hb.mono HBY32.out.size))
          have HLY37 := Lib.hid hb
          clear hb
          dsimp only
          refine hK.out _ _ (fun h => h.trans (HLY37.out.mono h.size)) ?_
          clear hK K
          try simp only [Act.put, List.setIfInBounds_toArray, List.set_cons_zero, List.set_cons_succ]
          refine Held3.Ways.plain (i := 38) (oi := ?oa35) ?va35 ?hia35 ?hsa35 ?hfa35 ?hra35 ?hQa35 ?hya35 (fun _ _ => id) ?resta35
          case hia35 => exact rfl
          case hsa35 => kernel_rfl
          case hfa35 => kernel_rfl
          case hra35 => kernel_rfl
          case hQa35 => exact fun _ _ _ h => h
          case hya35 =>
            refine .inl ⟨by rfl, fun W _ => ?_⟩
            go_simp
            try with_reducible rfl
          try simp only [Act.put, List.setIfInBounds_toArray, List.set_cons_zero, List.set_cons_succ]
          refine Held3.Ways.plain (i := 39) (oi := ?oa36) ?va36 ?hia36 ?hsa36 ?hfa36 ?hra36 ?hQa36 ?hya36 (fun _ _ => id) ?resta36
          case hia36 => exact rfl
          case hsa36 => kernel_rfl
          case hfa36 => kernel_rfl
          case hra36 => kernel_rfl
          case hQa36 => exact fun _ _ _ h => h
          case hya36 =>
            refine .inl ⟨by rfl, fun W _ => ?_⟩
            go_simp
            try with_reducible rfl
          try simp only [Act.put, List.setIfInBounds_toArray, List.set_cons_zero, List.set_cons_succ]
          refine Held3.Ways.plain (i := 40) (oi := ?oa37) ?va37 ?hia37 ?hsa37 ?hfa37 ?hra37 ?hQa37 ?hya37 (fun _ _ => id) ?resta37
          case hia37 => exact rfl
          case hsa37 => kernel_rfl
          case hfa37 => kernel_rfl
          case hra37 => kernel_rfl
          case hQa37 => exact fun _ _ _ h => h
          case hya37 =>
            refine .inl ⟨by rfl, fun W _ => ?_⟩
            go_simp
            try with_reducible rfl
          try simp only [Act.put, List.setIfInBounds_toArray, List.set_cons_zero, List.set_cons_succ]
          refine Held3.Ways.done (by kernel_rfl) ?_ _
          go_wp2_with fail
          go_ret
          exact ⟨rfl, HXL.out.trans (HBY37.out.mono HXL.out.size)⟩
        · by_cases c2 : ks.length + 1 < 4
          · have HO8 : Hid (decide (8 < ks.length + 1) = false) := Lib.hid (by simp; omega)
            have HU4 : Hid (decide (ks.length + 1 < 4) = true) := Lib.hid (by simp; omega)
            have p1 : ¬ ((8 : Int) < ((ks.length + 1 : Nat) : Int)) := by omega
            have p2 : ¬ ((8 : Int) < (ks.length : Int) + 1) := by omega
            have p3 : ((ks.length + 1 : Nat) : Int) < 4 := by omega
            have p4 : (ks.length : Int) + 1 < 4 := by omega
            clear c1 c2
            refine Held3.ways_start (fun _ W W' => (fun W : World => Below wr.heap.size wr W) W → (fun W : World => Below wr.heap.size wr W) W') (by kernel_rfl) ?_
            obtain ⟨D, hD⟩ : ∃ D, D = w3.drew := ⟨_, rfl⟩
            rw [← hD]
            have HBD : Hid (Below wr.heap.size wr D) := by rw [hD]; exact HB3.out.drew
            clear hD
            refine Held3.Ways.plain (i := 0) (oi := ?ob38) ?vb38 ?hib38 ?hsb38 ?hfb38 ?hrb38 ?hQb38 ?hyb38 (fun _ _ => id) ?restb38
            case hib38 => exact rfl
            case hsb38 => kernel_rfl
            case hfb38 => kernel_rfl
            case hrb38 => kernel_rfl
            case hQb38 => exact fun _ _ _ h => h
            case hyb38 =>
              refine .inl ⟨by rfl, fun W _ => ?_⟩
              go_simp
              try with_reducible rfl
            try simp only [Act.put, List.setIfInBounds_toArray, List.set_cons_zero, List.set_cons_succ]
            refine Held3.Ways.plain (i := 1) (oi := ?ob39) ?vb39 ?hib39 ?hsb39 ?hfb39 ?hrb39 ?hQb39 ?hyb39 (fun _ _ => id) ?restb39
            case hib39 => exact rfl
            case hsb39 => kernel_rfl
            case hfb39 => kernel_rfl
            case hrb39 => kernel_rfl
            case hQb39 => exact fun _ _ _ h => h
            case hyb39 =>
              refine .inl ⟨by rfl, fun W _ => ?_⟩
              go_simp
              try with_reducible rfl
            try simp only [Act.put, List.setIfInBounds_toArray, List.set_cons_zero, List.set_cons_succ]
            refine Held3.Ways.plain (i := 2) (oi := ?ob40) ?vb40 ?hib40 ?hsb40 ?hfb40 ?hrb40 ?hQb40 ?hyb40 (fun _ _ => id) ?restb40
            case hib40 => exact rfl
            case hsb40 => kernel_rfl
            case hfb40 => kernel_rfl
            case hrb40 => kernel_rfl
            case hQb40 => exact fun _ _ _ h => h
            case hyb40 =>
              refine .inl ⟨by rfl, fun W _ => ?_⟩
              go_simp
              try with_reducible rfl
            try simp only [Act.put, List.setIfInBounds_toArray, List.set_cons_zero, List.set_cons_succ]
            refine Held3.Ways.plain (i := 3) (oi := ?ob41) ?vb41 ?hib41 ?hsb41 ?hfb41 ?hrb41 ?hQb41 ?hyb41 (fun _ _ => id) ?restb41
            case hib41 => exact rfl
            case hsb41 => kernel_rfl
            case hfb41 => kernel_rfl
            case hrb41 => kernel_rfl
            case hQb41 => exact fun _ _ _ h => h
            case hyb41 =>
              refine .inl ⟨by rfl, fun W _ => ?_⟩
              go_simp
              try with_reducible rfl
            try simp only [Act.put, List.setIfInBounds_toArray, List.set_cons_zero, List.set_cons_succ]
            refine Held3.Ways.plain (i := 4) (oi := ?ob42) ?vb42 ?hib42 ?hsb42 ?hfb42 ?hrb42 ?hQb42 ?hyb42 (fun _ _ => id) ?restb42
            case hib42 => exact rfl
            case hsb42 => kernel_rfl
            case hfb42 => kernel_rfl
            case hrb42 => kernel_rfl
            case hQb42 => exact fun _ _ _ h => h
            case hyb42 =>
              refine .inl ⟨by rfl, fun W _ => ?_⟩
              go_simp
              try with_reducible rfl
            try simp only [Act.put, List.setIfInBounds_toArray, List.set_cons_zero, List.set_cons_succ]
            refine Held3.Ways.plain (i := 5) (oi := ?ob43) ?vb43 ?hib43 ?hsb43 ?hfb43 ?hrb43 ?hQb43 ?hyb43 (fun _ _ => id) ?restb43
            case hib43 => exact rfl
            case hsb43 => kernel_rfl
            case hfb43 => kernel_rfl
            case hrb43 => kernel_rfl
            case hQb43 => exact fun _ _ _ h => h
            case hyb43 =>
              refine .inl ⟨by rfl, fun W _ => ?_⟩
              go_simp
              try with_reducible rfl
            try simp only [Act.put, List.setIfInBounds_toArray, List.set_cons_zero, List.set_cons_succ]
            refine Held3.Ways.plain (i := 6) (oi := ?ob44) ?vb44 ?hib44 ?hsb44 ?hfb44 ?hrb44 ?hQb44 ?hyb44 (fun _ _ => id) ?restb44
            case hib44 => exact rfl
            case hsb44 => kernel_rfl
            case hfb44 => kernel_rfl
            case hrb44 => kernel_rfl
            case hQb44 => exact fun _ _ _ h => h
            case hyb44 =>
              refine .inl ⟨by rfl, fun W _ => ?_⟩
              go_simp
              try with_reducible rfl
            try simp only [Act.put, List.setIfInBounds_toArray, List.set_cons_zero, List.set_cons_succ]
            refine Held3.Ways.plain (i := 7) (oi := ?ob45) ?vb45 ?hib45 ?hsb45 ?hfb45 ?hrb45 ?hQb45 ?hyb45 (fun _ _ => id) ?restb45
            case hib45 => exact rfl
            case hsb45 => kernel_rfl
            case hfb45 => kernel_rfl
            case hrb45 => kernel_rfl
            case hQb45 => exact fun _ _ _ h => h
            case hyb45 =>
              refine .inl ⟨by rfl, fun W _ => ?_⟩
              go_simp
              try with_reducible rfl
            try simp only [Act.put, List.setIfInBounds_toArray, List.set_cons_zero, List.set_cons_succ]
            refine Held3.Ways.plain (i := 8) (oi := ?ob46) ?vb46 ?hib46 ?hsb46 ?hfb46 ?hrb46 ?hQb46 ?hyb46 (fun _ _ => id) ?restb46
            case hib46 => exact rfl
            case hsb46 => kernel_rfl
            case hfb46 => kernel_rfl
            case hrb46 => kernel_rfl
            case hQb46 => exact fun _ _ _ h => h
            case hyb46 =>
              refine .inl ⟨by rfl, fun W _ => ?_⟩
              go_simp
              try with_reducible rfl
            try simp only [Act.put, List.setIfInBounds_toArray, List.set_cons_zero, List.set_cons_succ]
            refine Held3.Ways.plain (i := 9) (oi := ?ob47) ?vb47 ?hib47 ?hsb47 ?hfb47 ?hrb47 ?hQb47 ?hyb47 (fun _ _ => id) ?restb47
            case hib47 => exact rfl
            case hsb47 => kernel_rfl
            case hfb47 => kernel_rfl
            case hrb47 => kernel_rfl
            case hQb47 => exact fun _ _ _ h => h
            case hyb47 =>
              refine .inl ⟨by rfl, fun W _ => ?_⟩
              go_simp
              try with_reducible rfl
            try simp only [Act.put, List.setIfInBounds_toArray, List.set_cons_zero, List.set_cons_succ]
            refine Held3.Ways.plain (i := 10) (oi := ?ob48) ?vb48 ?hib48 ?hsb48 ?hfb48 ?hrb48 ?hQb48 ?hyb48 (fun _ _ => id) ?restb48
            case hib48 => exact rfl
            case hsb48 => kernel_rfl
            case hfb48 => kernel_rfl
            case hrb48 => kernel_rfl
            case hQb48 => exact fun _ _ _ h => h
            case hyb48 =>
              refine .inl ⟨by rfl, fun W _ => ?_⟩
              go_simp
              try with_reducible rfl
            try simp only [Act.put, List.setIfInBounds_toArray, List.set_cons_zero, List.set_cons_succ]
            refine Held3.Ways.plain (i := 11) (oi := ?ob49) ?vb49 ?hib49 ?hsb49 ?hfb49 ?hrb49 ?hQb49 ?hyb49 (fun _ _ => id) ?restb49
            case hib49 => exact rfl
            case hsb49 => kernel_rfl
            case hfb49 => kernel_rfl
            case hrb49 => kernel_rfl
            case hQb49 => exact fun _ _ _ h => h
            case hyb49 =>
              refine .inl ⟨by rfl, fun W _ => ?_⟩
              go_simp
              try with_reducible rfl
            try simp only [Act.put, List.setIfInBounds_toArray, List.set_cons_zero, List.set_cons_succ]
            refine Held3.Ways.plain (i := 12) (oi := ?ob50) ?vb50 ?hib50 ?hsb50 ?hfb50 ?hrb50 ?hQb50 ?hyb50 (fun _ _ => id) ?restb50
            case hib50 => exact rfl
            case hsb50 => kernel_rfl
            case hfb50 => kernel_rfl
            case hrb50 => kernel_rfl
            case hQb50 => exact fun _ _ _ h => h
            case hyb50 =>
              refine .inl ⟨by rfl, fun W _ => ?_⟩
              go_simp
              try with_reducible rfl
            try simp only [Act.put, List.setIfInBounds_toArray, List.set_cons_zero, List.set_cons_succ]
            refine Held3.Ways.take (i := 13) (oi := ?ob51) (fun W : World => Below wr.heap.size wr W) (fun _ => true) ?vb51 ?hib51 ?hsb51 ?hfb51 ?hlwb51 ?hrb51 ?hQb51 HBD.out ?hyb51 (fun _ _ _ h _ => h) (fun _ _ => id) ?restb51
            case hib51 => exact rfl
            case hsb51 => kernel_rfl
            case hfb51 => kernel_rfl
            case hlwb51 => kernel_rfl
            case hrb51 => kernel_rfl
            case hQb51 => exact fun _ _ _ h => h
            case hyb51 =>
              refine .inl ⟨by rfl, fun W hW => ?_⟩
              obtain ⟨f0, f1, f2, f3, f4, f5, f6, f7, f8⟩ := row8_facts ((hW.block _ (Array.getElem?_eq_some_iff.1 HX.out).1).trans HX.out)
              go_simp
              try with_reducible rfl
            try simp only [Act.put, List.setIfInBounds_toArray, List.set_cons_zero, List.set_cons_succ]
            refine Held3.Ways.plain (i := 15) (oi := ?ob52) ?vb52 ?hib52 ?hsb52 ?hfb52 ?hrb52 ?hQb52 ?hyb52 (fun _ _ => id) ?restb52
            case hib52 => exact rfl
            case hsb52 => kernel_rfl
            case hfb52 => kernel_rfl
            case hrb52 => kernel_rfl
            case hQb52 => exact fun _ _ _ h => h
            case hyb52 =>
              refine .inl ⟨by rfl, fun W _ => ?_⟩
              go_simp
              try with_reducible rfl
            try simp only [Act.put, List.setIfInBounds_toArray, List.set_cons_zero, List.set_cons_succ]
            refine Held3.Ways.take (i := 16) (oi := ?ob53) (fun W : World => Below wr.heap.size wr W) (fun _ => true) ?vb53 ?hib53 ?hsb53 ?hfb53 ?hlwb53 ?hrb53 ?hQb53 HBD.out ?hyb53 (fun _ _ _ h _ => h) (fun _ _ => id) ?restb53
            case hib53 => exact rfl
            case hsb53 => kernel_rfl
            case hfb53 => kernel_rfl
            case hlwb53 => kernel_rfl
            case hrb53 => kernel_rfl
            case hQb53 => exact fun _ _ _ h => h
            case hyb53 =>
              refine .inl ⟨by rfl, fun W hW => ?_⟩
              obtain ⟨f0, f1, f2, f3, f4, f5, f6, f7, f8⟩ := row8_facts ((hW.block _ (Array.getElem?_eq_some_iff.1 HX.out).1).trans HX.out)
              go_simp
              try with_reducible rfl
            try simp only [Act.put, List.setIfInBounds_toArray, List.set_cons_zero, List.set_cons_succ]
            refine Held3.Ways.plain (i := 17) (oi := ?ob54) ?vb54 ?hib54 ?hsb54 ?hfb54 ?hrb54 ?hQb54 ?hyb54 (fun _ _ => id) ?restb54
            case hib54 => exact rfl
            case hsb54 => kernel_rfl
            case hfb54 => kernel_rfl
            case hrb54 => kernel_rfl
            case hQb54 => exact fun _ _ _ h => h
            case hyb54 =>
              refine .inl ⟨by rfl, fun W _ => ?_⟩
              go_simp
              try with_reducible rfl
            try simp only [Act.put, List.setIfInBounds_toArray, List.set_cons_zero, List.set_cons_succ]
            refine Held3.Ways.plain (i := 18) (oi := ?ob55) ?vb55 ?hib55 ?hsb55 ?hfb55 ?hrb55 ?hQb55 ?hyb55 (fun _ _ => id) ?restb55
            case hib55 => exact rfl
            case hsb55 => kernel_rfl
            case hfb55 => kernel_rfl
            case hrb55 => kernel_rfl
            case hQb55 => exact fun _ _ _ h => h
            case hyb55 =>
              refine .inl ⟨by rfl, fun W _ => ?_⟩
              go_simp
              try with_reducible rfl
            try simp only [Act.put, List.setIfInBounds_toArray, List.set_cons_zero, List.set_cons_succ]
            refine Held3.Ways.one (i := 14) (by rfl) (by kernel_rfl) (fun K hK => ?_)
            go_simp
            go_at_call 16
            refine (HOV.out D HBD.out).mono ?_
            rintro e Y14 ⟨he, hb⟩
            rw [HO8.out] at he
            subst he
            have HBY14 := Lib.hid (HBD.out.trans (hb.mono HBD.out.size))
            have HLY14 := Lib.hid hb
            clear hb
            dsimp only
            refine hK.out _ _ (fun h => h.trans (HLY14.out.mono h.size)) ?_
            clear hK K
            try simp only [Act.put, List.setIfInBounds_toArray, List.set_cons_zero, List.set_cons_succ]
            refine Held3.Ways.plain (i := 19) (oi := ?ob56) ?vb56 ?hib56 ?hsb56 ?hfb56 ?hrb56 ?hQb56 ?hyb56 (fun _ _ => id) ?restb56
            case hib56 => exact rfl
            case hsb56 => kernel_rfl
            case hfb56 => kernel_rfl
            case hrb56 => kernel_rfl
            case hQb56 => exact fun _ _ _ h => h
            case hyb56 =>
              refine .inl ⟨by rfl, fun W _ => ?_⟩
              go_simp
              try with_reducible rfl
            try simp only [Act.put, List.setIfInBounds_toArray, List.set_cons_zero, List.set_cons_succ]
            refine Held3.Ways.plain (i := 20) (oi := ?ob57) ?vb57 ?hib57 ?hsb57 ?hfb57 ?hrb57 ?hQb57 ?hyb57 (fun _ _ => id) ?restb57
            case hib57 => exact rfl
            case hsb57 => kernel_rfl
            case hfb57 => kernel_rfl
            case hrb57 => kernel_rfl
            case hQb57 => exact fun _ _ _ h => h
            case hyb57 =>
              refine .inl ⟨by rfl, fun W _ => ?_⟩
              go_simp
              try with_reducible rfl
            try simp only [Act.put, List.setIfInBounds_toArray, List.set_cons_zero, List.set_cons_succ]
            refine Held3.Ways.plain (i := 21) (oi := ?ob58) ?vb58 ?hib58 ?hsb58 ?hfb58 ?hrb58 ?hQb58 ?hyb58 (fun _ _ => id) ?restb58
            case hib58 => exact rfl
            case hsb58 => kernel_rfl
            case hfb58 => kernel_rfl
            case hrb58 => kernel_rfl
            case hQb58 => exact fun _ _ _ h => h
            case hyb58 =>
              refine .inl ⟨by rfl, fun W _ => ?_⟩
              go_simp
              try with_reducible rfl
            try simp only [Act.put, List.setIfInBounds_toArray, List.set_cons_zero, List.set_cons_succ]
            refine Held3.Ways.take (i := 22) (oi := ?ob59) (fun W : World => Below wr.heap.size wr W) (fun _ => true) ?vb59 ?hib59 ?hsb59 ?hfb59 ?hlwb59 ?hrb59 ?hQb59 HBY14.out ?hyb59 (fun _ _ _ h _ => h) (fun _ _ => id) ?restb59
            case hib59 => exact rfl
            case hsb59 => kernel_rfl
            case hfb59 => kernel_rfl
            case hlwb59 => kernel_rfl
            case hrb59 => kernel_rfl
            case hQb59 => exact fun _ _ _ h => h
            case hyb59 =>
              refine .inl ⟨by rfl, fun W hW => ?_⟩
              obtain ⟨f0, f1, f2, f3, f4, f5, f6, f7, f8⟩ := row8_facts ((hW.block _ (Array.getElem?_eq_some_iff.1 HX.out).1).trans HX.out)
              go_simp
              try with_reducible rfl
            try simp only [Act.put, List.setIfInBounds_toArray, List.set_cons_zero, List.set_cons_succ]
            refine Held3.Ways.plain (i := 24) (oi := ?ob60) ?vb60 ?hib60 ?hsb60 ?hfb60 ?hrb60 ?hQb60 ?hyb60 (fun _ _ => id) ?restb60
            case hib60 => exact rfl
            case hsb60 => kernel_rfl
            case hfb60 => kernel_rfl
            case hrb60 => kernel_rfl
            case hQb60 => exact fun _ _ _ h => h
            case hyb60 =>
              refine .inl ⟨by rfl, fun W _ => ?_⟩
              go_simp
              try with_reducible rfl
            try simp only [Act.put, List.setIfInBounds_toArray, List.set_cons_zero, List.set_cons_succ]
            refine Held3.Ways.take (i := 25) (oi := ?ob61) (fun W : World => Below wr.heap.size wr W) (fun _ => true) ?vb61 ?hib61 ?hsb61 ?hfb61 ?hlwb61 ?hrb61 ?hQb61 HBY14.out ?hyb61 (fun _ _ _ h _ => h) (fun _ _ => id) ?restb61
            case hib61 => exact rfl
            case hsb61 => kernel_rfl
            case hfb61 => kernel_rfl
            case hlwb61 => kernel_rfl
            case hrb61 => kernel_rfl
            case hQb61 => exact fun _ _ _ h => h
            case hyb61 =>
              refine .inl ⟨by rfl, fun W hW => ?_⟩
              obtain ⟨f0, f1, f2, f3, f4, f5, f6, f7, f8⟩ := row8_facts ((hW.block _ (Array.getElem?_eq_some_iff.1 HX.out).1).trans HX.out)
              go_simp
              try with_reducible rfl
            try simp only [Act.put, List.setIfInBounds_toArray, List.set_cons_zero, List.set_cons_succ]
            refine Held3.Ways.plain (i := 26) (oi := ?ob62) ?vb62 ?hib62 ?hsb62 ?hfb62 ?hrb62 ?hQb62 ?hyb62 (fun _ _ => id) ?restb62
            case hib62 => exact rfl
            case hsb62 => kernel_rfl
            case hfb62 => kernel_rfl
            case hrb62 => kernel_rfl
            case hQb62 => exact fun _ _ _ h => h
            case hyb62 =>
              refine .inl ⟨by rfl, fun W _ => ?_⟩
              go_simp
              try with_reducible rfl
            try simp only [Act.put, List.setIfInBounds_toArray, List.set_cons_zero, List.set_cons_succ]
            refine Held3.Ways.plain (i := 27) (oi := ?ob63) ?vb63 ?hib63 ?hsb63 ?hfb63 ?hrb63 ?hQb63 ?hyb63 (fun _ _ => id) ?restb63
            case hib63 => exact rfl
            case hsb63 => kernel_rfl
            case hfb63 => kernel_rfl
            case hrb63 => kernel_rfl
            case hQb63 => exact fun _ _ _ h => h
            case hyb63 =>
              refine .inl ⟨by rfl, fun W _ => ?_⟩
              go_simp
              try with_reducible rfl
            try simp only [Act.put, List.setIfInBounds_toArray, List.set_cons_zero, List.set_cons_succ]
            refine Held3.Ways.one (i := 23) (by rfl) (by kernel_rfl) (fun K hK => ?_)
            go_simp
            go_at_call 15
            refine (HUN.out Y14 HBY14.out).mono ?_
            rintro e Y23 ⟨he, hb⟩
            rw [HU4.out] at he
            subst he
            have HBY23 := Lib.hid (HBY14.out.trans (hb.mono HBY14.out.size))
            have HLY23 := Lib.hid hb
            clear hb
            dsimp only
            refine hK.out _ _ (fun h => h.trans (HLY23.out.mono h.size)) ?_
            clear hK K
            try simp only [Act.put, List.setIfInBounds_toArray, List.set_cons_zero, List.set_cons_succ]
            refine Held3.Ways.plain (i := 28) (oi := ?ob64) ?vb64 ?hib64 ?hsb64 ?hfb64 ?hrb64 ?hQb64 ?hyb64 (fun _ _ => id) ?restb64
            case hib64 => exact rfl
            case hsb64 => kernel_rfl
            case hfb64 => kernel_rfl
            case hrb64 => kernel_rfl
            case hQb64 => exact fun _ _ _ h => h
            case hyb64 =>
              refine .inl ⟨by rfl, fun W _ => ?_⟩
              go_simp
              try with_reducible rfl
            try simp only [Act.put, List.setIfInBounds_toArray, List.set_cons_zero, List.set_cons_succ]
            refine Held3.Ways.plain (i := 29) (oi := ?ob65) ?vb65 ?hib65 ?hsb65 ?hfb65 ?hrb65 ?hQb65 ?hyb65 (fun _ _ => id) ?restb65
            case hib65 => exact rfl
            case hsb65 => kernel_rfl
            case hfb65 => kernel_rfl
            case hrb65 => kernel_rfl
            case hQb65 => exact fun _ _ _ h => h
            case hyb65 =>
              refine .inl ⟨by rfl, fun W _ => ?_⟩
              go_simp
              try with_reducible rfl
            try simp only [Act.put, List.setIfInBounds_toArray, List.set_cons_zero, List.set_cons_succ]
            refine Held3.Ways.plain (i := 30) (oi := ?ob66) ?vb66 ?hib66 ?hsb66 ?hfb66 ?hrb66 ?hQb66 ?hyb66 (fun _ _ => id) ?restb66
            case hib66 => exact rfl
            case hsb66 => kernel_rfl
            case hfb66 => kernel_rfl
            case hrb66 => kernel_rfl
            case hQb66 => exact fun _ _ _ h => h
            case hyb66 =>
              refine .inl ⟨by rfl, fun W _ => ?_⟩
              go_simp
              try with_reducible rfl
            try simp only [Act.put, List.setIfInBounds_toArray, List.set_cons_zero, List.set_cons_succ]
            refine Held3.Ways.plain (i := 31) (oi := ?ob67) ?vb67 ?hib67 ?hsb67 ?hfb67 ?hrb67 ?hQb67 ?hyb67 (fun _ _ => id) ?restb67
            case hib67 => exact rfl
            case hsb67 => kernel_rfl
            case hfb67 => kernel_rfl
            case hrb67 => kernel_rfl
            case hQb67 => exact fun _ _ _ h => h
            case hyb67 =>
              refine .inl ⟨by rfl, fun W _ => ?_⟩
              go_simp
              try with_reducible rfl
            try simp only [Act.put, List.setIfInBounds_toArray, List.set_cons_zero, List.set_cons_succ]
            refine Held3.Ways.one (i := 32) (by rfl) (by kernel_rfl) (fun K hK => ?_)
            go_simp
            go_at_call 16
            refine (HO0.out Y23).mono ?_
            rintro e Y32 ⟨he, hb⟩
            subst he
            have HBY32 := Lib.hid (HBY23.out.trans (hb.mono HBY23.out.size))
            have HLY32 := Lib.hid hb
            clear hb
            dsimp only
            refine hK.out _ _ (fun h => h.trans (HLY32.out.mono h.size)) ?_
            clear hK K
            try simp only [Act.put, List.setIfInBounds_toArray, List.set_cons_zero, List.set_cons_succ]
            refine Held3.Ways.plain (i := 33) (oi := ?ob68) ?vb68 ?hib68 ?hsb68 ?hfb68 ?hrb68 ?hQb68 ?hyb68 (fun _ _ => id) ?restb68
            case hib68 => exact rfl
            case hsb68 => kernel_rfl
            case hfb68 => kernel_rfl
            case hrb68 => kernel_rfl
            case hQb68 => exact fun _ _ _ h => h
            case hyb68 =>
              refine .inl ⟨by rfl, fun W _ => ?_⟩
              go_simp
              try with_reducible rfl
            try simp only [Act.put, List.setIfInBounds_toArray, List.set_cons_zero, List.set_cons_succ]
            refine Held3.Ways.plain (i := 34) (oi := ?ob69) ?vb69 ?hib69 ?hsb69 ?hfb69 ?hrb69 ?hQb69 ?hyb69 (fun _ _ => id) ?restb69
            case hib69 => exact rfl
            case hsb69 => kernel_rfl
            case hfb69 => kernel_rfl
            case hrb69 => kernel_rfl
            case hQb69 => exact fun _ _ _ h => h
            case hyb69 =>
              refine .inl ⟨by rfl, fun W _ => ?_⟩
              go_simp
              try with_reducible rfl
            try simp only [Act.put, List.setIfInBounds_toArray, List.set_cons_zero, List.set_cons_succ]
            refine Held3.Ways.plain (i := 35) (oi := ?ob70) ?vb70 ?hib70 ?hsb70 ?hfb70 ?hrb70 ?hQb70 ?hyb70 (fun _ _ => id) ?restb70
            case hib70 => exact rfl
            case hsb70 => kernel_rfl
            case hfb70 => kernel_rfl
            case hrb70 => kernel_rfl
            case hQb70 => exact fun _ _ _ h => h
            case hyb70 =>
              refine .inl ⟨by rfl, fun W _ => ?_⟩
              go_simp
              try with_reducible rfl
            try simp only [Act.put, List.setIfInBounds_toArray, List.set_cons_zero, List.set_cons_succ]
            refine Held3.Ways.plain (i := 36) (oi := ?ob71) ?vb71 ?hib71 ?hsb71 ?hfb71 ?hrb71 ?hQb71 ?hyb71 (fun _ _ => id) ?restb71
            case hib71 => exact rfl
            case hsb71 => kernel_rfl
            case hfb71 => kernel_rfl
            case hrb71 => kernel_rfl
            case hQb71 => exact fun _ _ _ h => h
            case hyb71 =>
              refine .inl ⟨by rfl, fun W _ => ?_⟩
              go_simp
              try with_reducible rfl
            try simp only [Act.put, List.setIfInBounds_toArray, List.set_cons_zero, List.set_cons_succ]
            refine Held3.Ways.one (i := 37) (by rfl) (by kernel_rfl) (fun K hK => ?_)
            go_simp
            go_at_call 15
            refine (HU3.out Y32).mono ?_
            rintro e Y37 ⟨he, hb⟩
            subst he
            have HBY37 := Lib.hid (HBY32.out.trans (hb.mono HBY32.out.size))
            have HLY37 := Lib.hid hb
            clear hb
            dsimp only
            refine hK.out _ _ (fun h => h.trans (HLY37.out.mono h.size)) ?_
            clear hK K
            try simp only [Act.put, List.setIfInBounds_toArray, List.set_cons_zero, List.set_cons_succ]
            refine Held3.Ways.plain (i := 38) (oi := ?ob72) ?vb72 ?hib72 ?hsb72 ?hfb72 ?hrb72 ?hQb72 ?hyb72 (fun _ _ => id) ?restb72
            case hib72 => exact rfl
            case hsb72 => kernel_rfl
            case hfb72 => kernel_rfl
            case hrb72 => kernel_rfl
            case hQb72 => exact fun _ _ _ h => h
            case hyb72 =>
              refine .inl ⟨by rfl, fun W _ => ?_⟩
              go_simp
              try with_reducible rfl
            try simp only [Act.put, List.setIfInBounds_toArray, List.set_cons_zero, List.set_cons_succ]
            refine Held3.Ways.plain (i := 39) (oi := ?ob73) ?vb73 ?hib73 ?hsb73 ?hfb73 ?hrb73 ?hQb73 ?hyb73 (fun _ _ => id) ?restb73
            case hib73 => exact rfl
            case hsb73 => kernel_rfl
            case hfb73 => kernel_rfl
            case hrb73 => kernel_rfl
            case hQb73 => exact fun _ _ _ h => h
            case hyb73 =>
              refine .inl ⟨by rfl, fun W _ => ?_⟩
              go_simp
              try with_reducible rfl
            try simp only [Act.put, List.setIfInBounds_toArray, List.set_cons_zero, List.set_cons_succ]
            refine Held3.Ways.plain (i := 40) (oi := ?ob74) ?vb74 ?hib74 ?hsb74 ?hfb74 ?hrb74 ?hQb74 ?hyb74 (fun _ _ => id) ?restb74
            case hib74 => exact rfl
            case hsb74 => kernel_rfl
            case hfb74 => kernel_rfl
            case hrb74 => kernel_rfl
            case hQb74 => exact fun _ _ _ h => h
            case hyb74 =>
              refine .inl ⟨by rfl, fun W _ => ?_⟩
              go_simp
              try with_reducible rfl
            try simp only [Act.put, List.setIfInBounds_toArray, List.set_cons_zero, List.set_cons_succ]
            refine Held3.Ways.done (by kernel_rfl) ?_ _
            go_wp2_with fail
            go_ret
            exact ⟨rfl, HXL.out.trans (HBY37.out.mono HXL.out.size)⟩
          · have HO8 : Hid (decide (8 < ks.length + 1) = false) := Lib.hid (by simp; omega)
            have HU4 : Hid (decide (ks.length + 1 < 4) = false) := Lib.hid (by simp; omega)
            have p1 : ¬ ((8 : Int) < ((ks.length + 1 : Nat) : Int)) := by omega
            have p2 : ¬ ((8 : Int) < (ks.length : Int) + 1) := by omega
            have p3 : ¬ (((ks.length + 1 : Nat) : Int) < 4) := by omega
            have p4 : ¬ ((ks.length : Int) + 1 < 4) := by omega
            clear c1 c2
            refine Held3.ways_start (fun _ W W' => (fun W : World => Below wr.heap.size wr W) W → (fun W : World => Below wr.heap.size wr W) W') (by kernel_rfl) ?_
            obtain ⟨D, hD⟩ : ∃ D, D = w3.drew := ⟨_, rfl⟩
            rw [← hD]
            have HBD : Hid (Below wr.heap.size wr D) := by rw [hD]; exact HB3.out.drew
            clear hD
            refine Held3.Ways.plain (i := 0) (oi := ?oc75) ?vc75 ?hic75 ?hsc75 ?hfc75 ?hrc75 ?hQc75 ?hyc75 (fun _ _ => id) ?restc75
            case hic75 => exact rfl
            case hsc75 => kernel_rfl
            case hfc75 => kernel_rfl
            case hrc75 => kernel_rfl
            case hQc75 => exact fun _ _ _ h => h
            case hyc75 =>
              refine .inl ⟨by rfl, fun W _ => ?_⟩
              go_simp
              try with_reducible rfl
            try simp only [Act.put, List.setIfInBounds_toArray, List.set_cons_zero, List.set_cons_succ]
            refine Held3.Ways.plain (i := 1) (oi := ?oc76) ?vc76 ?hic76 ?hsc76 ?hfc76 ?hrc76 ?hQc76 ?hyc76 (fun _ _ => id) ?restc76
            case hic76 => exact rfl
            case hsc76 => kernel_rfl
            case hfc76 => kernel_rfl
            case hrc76 => kernel_rfl
            case hQc76 => exact fun _ _ _ h => h
            case hyc76 =>
              refine .inl ⟨by rfl, fun W _ => ?_⟩
              go_simp
              try with_reducible rfl
            try simp only [Act.put, List.setIfInBounds_toArray, List.set_cons_zero, List.set_cons_succ]
            refine Held3.Ways.plain (i := 2) (oi := ?oc77) ?vc77 ?hic77 ?hsc77 ?hfc77 ?hrc77 ?hQc77 ?hyc77 (fun _ _ => id) ?restc77
            case hic77 => exact rfl
            case hsc77 => kernel_rfl
            case hfc77 => kernel_rfl
            case hrc77 => kernel_rfl
            case hQc77 => exact fun _ _ _ h => h
            case hyc77 =>
              refine .inl ⟨by rfl, fun W _ => ?_⟩
              go_simp
              try with_reducible rfl
            try simp only [Act.put, List.setIfInBounds_toArray, List.set_cons_zero, List.set_cons_succ]
            refine Held3.Ways.plain (i := 3) (oi := ?oc78) ?vc78 ?hic78 ?hsc78 ?hfc78 ?hrc78 ?hQc78 ?hyc78 (fun _ _ => id) ?restc78
            case hic78 => exact rfl
            case hsc78 => kernel_rfl
            case hfc78 => kernel_rfl
            case hrc78 => kernel_rfl
            case hQc78 => exact fun _ _ _ h => h
            case hyc78 =>
              refine .inl ⟨by rfl, fun W _ => ?_⟩
              go_simp
              try with_reducible rfl
            try simp only [Act.put, List.setIfInBounds_toArray, List.set_cons_zero, List.set_cons_succ]
            refine Held3.Ways.plain (i := 4) (oi := ?oc79) ?vc79 ?hic79 ?hsc79 ?hfc79 ?hrc79 ?hQc79 ?hyc79 (fun _ _ => id) ?restc79
            case hic79 => exact rfl
            case hsc79 => kernel_rfl
            case hfc79 => kernel_rfl
            case hrc79 => kernel_rfl
            case hQc79 => exact fun _ _ _ h => h
            case hyc79 =>
              refine .inl ⟨by rfl, fun W _ => ?_⟩
              go_simp
              try with_reducible rfl
            try simp only [Act.put, List.setIfInBounds_toArray, List.set_cons_zero, List.set_cons_succ]
            refine Held3.Ways.plain (i := 5) (oi := ?oc80) ?vc80 ?hic80 ?hsc80 ?hfc80 ?hrc80 ?hQc80 ?hyc80 (fun _ _ => id) ?restc80
            case hic80 => exact rfl
            case hsc80 => kernel_rfl
            case hfc80 => kernel_rfl
            case hrc80 => kernel_rfl
            case hQc80 => exact fun _ _ _ h => h
            case hyc80 =>
              refine .inl ⟨by rfl, fun W _ => ?_⟩
              go_simp
              try with_reducible rfl
            try simp only [Act.put, List.setIfInBounds_toArray, List.set_cons_zero, List.set_cons_succ]
            refine Held3.Ways.plain (i := 6) (oi := ?oc81) ?vc81 ?hic81 ?hsc81 ?hfc81 ?hrc81 ?hQc81 ?hyc81 (fun _ _ => id) ?restc81
            case hic81 => exact rfl
            case hsc81 => kernel_rfl
            case hfc81 => kernel_rfl
            case hrc81 => kernel_rfl
            case hQc81 => exact fun _ _ _ h => h
            case hyc81 =>
              refine .inl ⟨by rfl, fun W _ => ?_⟩
              go_simp
              try with_reducible rfl
            try simp only [Act.put, List.setIfInBounds_toArray, List.set_cons_zero, List.set_cons_succ]
            refine Held3.Ways.plain (i := 7) (oi := ?oc82) ?vc82 ?hic82 ?hsc82 ?hfc82 ?hrc82 ?hQc82 ?hyc82 (fun _ _ => id) ?restc82
            case hic82 => exact rfl
            case hsc82 => kernel_rfl
            case hfc82 => kernel_rfl
            case hrc82 => kernel_rfl
            case hQc82 => exact fun _ _ _ h => h
            case hyc82 =>
              refine .inl ⟨by rfl, fun W _ => ?_⟩
              go_simp
              try with_reducible rfl
            try simp only [Act.put, List.setIfInBounds_toArray, List.set_cons_zero, List.set_cons_succ]
            refine Held3.Ways.plain (i := 8) (oi := ?oc83) ?vc83 ?hic83 ?hsc83 ?hfc83 ?hrc83 ?hQc83 ?hyc83 (fun _ _ => id) ?restc83
            case hic83 => exact rfl
            case hsc83 => kernel_rfl
            case hfc83 => kernel_rfl
            case hrc83 => kernel_rfl
            case hQc83 => exact fun _ _ _ h => h
            case hyc83 =>
              refine .inl ⟨by rfl, fun W _ => ?_⟩
              go_simp
              try with_reducible rfl
            try simp only [Act.put, List.setIfInBounds_toArray, List.set_cons_zero, List.set_cons_succ]
            refine Held3.Ways.plain (i := 9) (oi := ?oc84) ?vc84 ?hic84 ?hsc84 ?hfc84 ?hrc84 ?hQc84 ?hyc84 (fun _ _ => id) ?restc84
            case hic84 => exact rfl
            case hsc84 => kernel_rfl
            case hfc84 => kernel_rfl
            case hrc84 => kernel_rfl
            case hQc84 => exact fun _ _ _ h => h
            case hyc84 =>
              refine .inl ⟨by rfl, fun W _ => ?_⟩
              go_simp
              try with_reducible rfl
            try simp only [Act.put, List.setIfInBounds_toArray, List.set_cons_zero, List.set_cons_succ]
            refine Held3.Ways.plain (i := 10) (oi := ?oc85) ?vc85 ?hic85 ?hsc85 ?hfc85 ?hrc85 ?hQc85 ?hyc85 (fun _ _ => id) ?restc85
            case hic85 => exact rfl
            case hsc85 => kernel_rfl
            case hfc85 => kernel_rfl
            case hrc85 => kernel_rfl
            case hQc85 => exact fun _ _ _ h => h
            case hyc85 =>
              refine .inl ⟨by rfl, fun W _ => ?_⟩
              go_simp
              try with_reducible rfl
            try simp only [Act.put, List.setIfInBounds_toArray, List.set_cons_zero, List.set_cons_succ]
            refine Held3.Ways.plain (i := 11) (oi := ?oc86) ?vc86 ?hic86 ?hsc86 ?hfc86 ?hrc86 ?hQc86 ?hyc86 (fun _ _ => id) ?restc86
            case hic86 => exact rfl
            case hsc86 => kernel_rfl
            case hfc86 => kernel_rfl
            case hrc86 => kernel_rfl
            case hQc86 => exact fun _ _ _ h => h
            case hyc86 =>
              refine .inl ⟨by rfl, fun W _ => ?_⟩
              go_simp
              try with_reducible rfl
            try simp only [Act.put, List.setIfInBounds_toArray, List.set_cons_zero, List.set_cons_succ]
            refine Held3.Ways.plain (i := 12) (oi := ?oc87) ?vc87 ?hic87 ?hsc87 ?hfc87 ?hrc87 ?hQc87 ?hyc87 (fun _ _ => id) ?restc87
            case hic87 => exact rfl
            case hsc87 => kernel_rfl
            case hfc87 => kernel_rfl
            case hrc87 => kernel_rfl
            case hQc87 => exact fun _ _ _ h => h
            case hyc87 =>
              refine .inl ⟨by rfl, fun W _ => ?_⟩
              go_simp
              try with_reducible rfl
            try simp only [Act.put, List.setIfInBounds_toArray, List.set_cons_zero, List.set_cons_succ]
            refine Held3.Ways.take (i := 13) (oi := ?oc88) (fun W : World => Below wr.heap.size wr W) (fun _ => true) ?vc88 ?hic88 ?hsc88 ?hfc88 ?hlwc88 ?hrc88 ?hQc88 HBD.out ?hyc88 (fun _ _ _ h _ => h) (fun _ _ => id) ?restc88
            case hic88 => exact rfl
            case hsc88 => kernel_rfl
            case hfc88 => kernel_rfl
            case hlwc88 => kernel_rfl
            case hrc88 => kernel_rfl
            case hQc88 => exact fun _ _ _ h => h
            case hyc88 =>
              refine .inl ⟨by rfl, fun W hW => ?_⟩
              obtain ⟨f0, f1, f2, f3, f4, f5, f6, f7, f8⟩ := row8_facts ((hW.block _ (Array.getElem?_eq_some_iff.1 HX.out).1).trans HX.out)
              go_simp
              try with_reducible rfl
            try simp only [Act.put, List.setIfInBounds_toArray, List.set_cons_zero, List.set_cons_succ]
            refine Held3.Ways.plain (i := 15) (oi := ?oc89) ?vc89 ?hic89 ?hsc89 ?hfc89 ?hrc89 ?hQc89 ?hyc89 (fun _ _ => id) ?restc89
            case hic89 => exact rfl
            case hsc89 => kernel_rfl
            case hfc89 => kernel_rfl
            case hrc89 => kernel_rfl
            case hQc89 => exact fun _ _ _ h => h
            case hyc89 =>
              refine .inl ⟨by rfl, fun W _ => ?_⟩
              go_simp
              try with_reducible rfl
            try simp only [Act.put, List.setIfInBounds_toArray, List.set_cons_zero, List.set_cons_succ]
            refine Held3.Ways.take (i := 16) (oi := ?oc90) (fun W : World => Below wr.heap.size wr W) (fun _ => true) ?vc90 ?hic90 ?hsc90 ?hfc90 ?hlwc90 ?hrc90 ?hQc90 HBD.out ?hyc90 (fun _ _ _ h _ => h) (fun _ _ => id) ?restc90
            case hic90 => exact rfl
            case hsc90 => kernel_rfl
            case hfc90 => kernel_rfl
            case hlwc90 => kernel_rfl
            case hrc90 => kernel_rfl
            case hQc90 => exact fun _ _ _ h => h
            case hyc90 =>
              refine .inl ⟨by rfl, fun W hW => ?_⟩
              obtain ⟨f0, f1, f2, f3, f4, f5, f6, f7, f8⟩ := row8_facts ((hW.block _ (Array.getElem?_eq_some_iff.1 HX.out).1).trans HX.out)
              go_simp
              try with_reducible rfl
            try simp only [Act.put, List.setIfInBounds_toArray, List.set_cons_zero, List.set_cons_succ]
            refine Held3.Ways.plain (i := 17) (oi := ?oc91) ?vc91 ?hic91 ?hsc91 ?hfc91 ?hrc91 ?hQc91 ?hyc91 (fun _ _ => id) ?restc91
            case hic91 => exact rfl
            case hsc91 => kernel_rfl
            case hfc91 => kernel_rfl
            case hrc91 => kernel_rfl
            case hQc91 => exact fun _ _ _ h => h
            case hyc91 =>
              refine .inl ⟨by rfl, fun W _ => ?_⟩
              go_simp
              try with_reducible rfl
            try simp only [Act.put, List.setIfInBounds_toArray, List.set_cons_zero, List.set_cons_succ]
            refine Held3.Ways.plain (i := 18) (oi := ?oc92) ?vc92 ?hic92 ?hsc92 ?hfc92 ?hrc92 ?hQc92 ?hyc92 (fun _ _ => id) ?restc92
            case hic92 => exact rfl
            case hsc92 => kernel_rfl
            case hfc92 => kernel_rfl
            case hrc92 => kernel_rfl
            case hQc92 => exact fun _ _ _ h => h
            case hyc92 =>
              refine .inl ⟨by rfl, fun W _ => ?_⟩
              go_simp
              try with_reducible rfl
            try simp only [Act.put, List.setIfInBounds_toArray, List.set_cons_zero, List.set_cons_succ]
            refine Held3.Ways.one (i := 14) (by rfl) (by kernel_rfl) (fun K hK => ?_)
            go_simp
            go_at_call 16
            refine (HOV.out D HBD.out).mono ?_
            rintro e Y14 ⟨he, hb⟩
            rw [HO8.out] at he
            subst he
            have HBY14 := Lib.hid (HBD.out.trans (hb.mono HBD.out.size))
            have HLY14 := Lib.hid hb
            clear hb
            dsimp only
            refine hK.out _ _ (fun h => h.trans (HLY14.out.mono h.size)) ?_
            clear hK K
            try simp only [Act.put, List.setIfInBounds_toArray, List.set_cons_zero, List.set_cons_succ]
            refine Held3.Ways.plain (i := 19) (oi := ?oc93) ?vc93 ?hic93 ?hsc93 ?hfc93 ?hrc93 ?hQc93 ?hyc93 (fun _ _ => id) ?restc93
            case hic93 => exact rfl
            case hsc93 => kernel_rfl
            case hfc93 => kernel_rfl
            case hrc93 => kernel_rfl
            case hQc93 => exact fun _ _ _ h => h
            case hyc93 =>
              refine .inl ⟨by rfl, fun W _ => ?_⟩
              go_simp
              try with_reducible rfl
            try simp only [Act.put, List.setIfInBounds_toArray, List.set_cons_zero, List.set_cons_succ]
            refine Held3.Ways.plain (i := 20) (oi := ?oc94) ?vc94 ?hic94 ?hsc94 ?hfc94 ?hrc94 ?hQc94 ?hyc94 (fun _ _ => id) ?restc94
            case hic94 => exact rfl
            case hsc94 => kernel_rfl
            case hfc94 => kernel_rfl
            case hrc94 => kernel_rfl
            case hQc94 => exact fun _ _ _ h => h
            case hyc94 =>
              refine .inl ⟨by rfl, fun W _ => ?_⟩
              go_simp
              try with_reducible rfl
            try simp only [Act.put, List.setIfInBounds_toArray, List.set_cons_zero, List.set_cons_succ]
            refine Held3.Ways.plain (i := 21) (oi := ?oc95) ?vc95 ?hic95 ?hsc95 ?hfc95 ?hrc95 ?hQc95 ?hyc95 (fun _ _ => id) ?restc95
            case hic95 => exact rfl
            case hsc95 => kernel_rfl
            case hfc95 => kernel_rfl
            case hrc95 => kernel_rfl
            case hQc95 => exact fun _ _ _ h => h
            case hyc95 =>
              refine .inl ⟨by rfl, fun W _ => ?_⟩
              go_simp
              try with_reducible rfl
            try simp only [Act.put, List.setIfInBounds_toArray, List.set_cons_zero, List.set_cons_succ]
            refine Held3.Ways.take (i := 22) (oi := ?oc96) (fun W : World => Below wr.heap.size wr W) (fun _ => true) ?vc96 ?hic96 ?hsc96 ?hfc96 ?hlwc96 ?hrc96 ?hQc96 HBY14.out ?hyc96 (fun _ _ _ h _ => h) (fun _ _ => id) ?restc96
            case hic96 => exact rfl
            case hsc96 => kernel_rfl
            case hfc96 => kernel_rfl
            case hlwc96 => kernel_rfl
            case hrc96 => kernel_rfl
            case hQc96 => exact fun _ _ _ h => h
            case hyc96 =>
              refine .inl ⟨by rfl, fun W hW => ?_⟩
              obtain ⟨f0, f1, f2, f3, f4, f5, f6, f7, f8⟩ := row8_facts ((hW.block _ (Array.getElem?_eq_some_iff.1 HX.out).1).trans HX.out)
              go_simp
              try with_reducible rfl
            try simp only [Act.put, List.setIfInBounds_toArray, List.set_cons_zero, List.set_cons_succ]
            refine Held3.Ways.plain (i := 24) (oi := ?oc97) ?vc97 ?hic97 ?hsc97 ?hfc97 ?hrc97 ?hQc97 ?hyc97 (fun _ _ => id) ?restc97
            case hic97 => exact rfl
            case hsc97 => kernel_rfl
            case hfc97 => kernel_rfl
            case hrc97 => kernel_rfl
            case hQc97 => exact fun _ _ _ h => h
            case hyc97 =>
              refine .inl ⟨by rfl, fun W _ => ?_⟩
              go_simp
              try with_reducible rfl
            try simp only [Act.put, List.setIfInBounds_toArray, List.set_cons_zero, List.set_cons_succ]
            refine Held3.Ways.take (i := 25) (oi := ?oc98) (fun W : World => Below wr.heap.size wr W) (fun _ => true) ?vc98 ?hic98 ?hsc98 ?hfc98 ?hlwc98 ?hrc98 ?hQc98 HBY14.out ?hyc98 (fun _ _ _ h _ => h) (fun _ _ => id) ?restc98
            case hic98 => exact rfl
            case hsc98 => kernel_rfl
            case hfc98 => kernel_rfl
            case hlwc98 => kernel_rfl
            case hrc98 => kernel_rfl
            case hQc98 => exact fun _ _ _ h => h
            case hyc98 =>
              refine .inl ⟨by rfl, fun W hW => ?_⟩
              obtain ⟨f0, f1, f2, f3, f4, f5, f6, f7, f8⟩ := row8_facts ((hW.block _ (Array.getElem?_eq_some_iff.1 HX.out).1).trans HX.out)
              go_simp
              try with_reducible rfl
            try simp only [Act.put, List.setIfInBounds_toArray, List.set_cons_zero, List.set_cons_succ]
            refine Held3.Ways.plain (i := 26) (oi := ?oc99) ?vc99 ?hic99 ?hsc99 ?hfc99 ?hrc99 ?hQc99 ?hyc99 (fun _ _ => id) ?restc99
            case hic99 => exact rfl
            case hsc99 => kernel_rfl
            case hfc99 => kernel_rfl
            case hrc99 => kernel_rfl
            case hQc99 => exact fun _ _ _ h => h
            case hyc99 =>
              refine .inl ⟨by rfl, fun W _ => ?_⟩
              go_simp
              try with_reducible rfl
            try simp only [Act.put, List.setIfInBounds_toArray, List.set_cons_zero, List.set_cons_succ]
            refine Held3.Ways.plain (i := 27) (oi := ?oc100) ?vc100 ?hic100 ?hsc100 ?hfc100 ?hrc100 ?hQc100 ?hyc100 (fun _ _ => id) ?restc100
            case hic100 => exact rfl
            case hsc100 => kernel_rfl
            case hfc100 => kernel_rfl
            case hrc100 => kernel_rfl
            case hQc100 => exact fun _ _ _ h => h
            case hyc100 =>
              refine .inl ⟨by rfl, fun W _ => ?_⟩
              go_simp
              try with_reducible rfl
            try simp only [Act.put, List.setIfInBounds_toArray, List.set_cons_zero, List.set_cons_succ]
            refine Held3.Ways.one (i := 23) (by rfl) (by kernel_rfl) (fun K hK => ?_)
            go_simp
            go_at_call 15
            refine (HUN.out Y14 HBY14.out).mono ?_
            rintro e Y23 ⟨he, hb⟩
            rw [HU4.out] at he
            subst he
            have HBY23 := Lib.hid (HBY14.out.trans (hb.mono HBY14.out.size))
            have HLY23 := Lib.hid hb
            clear hb
            dsimp only
            refine hK.out _ _ (fun h => h.trans (HLY23.out.mono h.size)) ?_
            clear hK K
            try simp only [Act.put, List.setIfInBounds_toArray, List.set_cons_zero, List.set_cons_succ]
            refine Held3.Ways.plain (i := 28) (oi := ?oc101) ?vc101 ?hic101 ?hsc101 ?hfc101 ?hrc101 ?hQc101 ?hyc101 (fun _ _ => id) ?restc101
            case hic101 => exact rfl
            case hsc101 => kernel_rfl
            case hfc101 => kernel_rfl
            case hrc101 => kernel_rfl
            case hQc101 => exact fun _ _ _ h => h
            case hyc101 =>
              refine .inl ⟨by rfl, fun W _ => ?_⟩
              go_simp
              try with_reducible rfl
            try simp only [Act.put, List.setIfInBounds_toArray, List.set_cons_zero, List.set_cons_succ]
            refine Held3.Ways.plain (i := 29) (oi := ?oc102) ?vc102 ?hic102 ?hsc102 ?hfc102 ?hrc102 ?hQc102 ?hyc102 (fun _ _ => id) ?restc102
            case hic102 => exact rfl
            case hsc102 => kernel_rfl
            case hfc102 => kernel_rfl
            case hrc102 => kernel_rfl
            case hQc102 => exact fun _ _ _ h => h
            case hyc102 =>
              refine .inl ⟨by rfl, fun W _ => ?_⟩
              go_simp
              try with_reducible rfl
            try simp only [Act.put, List.setIfInBounds_toArray, List.set_cons_zero, List.set_cons_succ]
            refine Held3.Ways.plain (i := 30) (oi := ?oc103) ?vc103 ?hic103 ?hsc103 ?hfc103 ?hrc103 ?hQc103 ?hyc103 (fun _ _ => id) ?restc103
            case hic103 => exact rfl
            case hsc103 => kernel_rfl
            case hfc103 => kernel_rfl
            case hrc103 => kernel_rfl
            case hQc103 => exact fun _ _ _ h => h
            case hyc103 =>
              refine .inl ⟨by rfl, fun W _ => ?_⟩
              go_simp
              try with_reducible rfl
            try simp only [Act.put, List.setIfInBounds_toArray, List.set_cons_zero, List.set_cons_succ]
            refine Held3.Ways.plain (i := 31) (oi := ?oc104) ?vc104 ?hic104 ?hsc104 ?hfc104 ?hrc104 ?hQc104 ?hyc104 (fun _ _ => id) ?restc104
            case hic104 => exact rfl
            case hsc104 => kernel_rfl
            case hfc104 => kernel_rfl
            case hrc104 => kernel_rfl
            case hQc104 => exact fun _ _ _ h => h
            case hyc104 =>
              refine .inl ⟨by rfl, fun W _ => ?_⟩
              go_simp
              try with_reducible rfl
            try simp only [Act.put, List.setIfInBounds_toArray, List.set_cons_zero, List.set_cons_succ]
            refine Held3.Ways.one (i := 32) (by rfl) (by kernel_rfl) (fun K hK => ?_)
            go_simp
            go_at_call 16
            refine (HO0.out Y23).mono ?_
            rintro e Y32 ⟨he, hb⟩
            subst he
            have HBY32 := Lib.hid (HBY23.out.trans (hb.mono HBY23.out.size))
            have HLY32 := Lib.hid hb
            clear hb
            dsimp only
            refine hK.out _ _ (fun h => h.trans (HLY32.out.mono h.size)) ?_
            clear hK K
            try simp only [Act.put, List.setIfInBounds_toArray, List.set_cons_zero, List.set_cons_succ]
            refine Held3.Ways.plain (i := 33) (oi := ?oc105) ?vc105 ?hic105 ?hsc105 ?hfc105 ?hrc105 ?hQc105 ?hyc105 (fun _ _ => id) ?restc105
            case hic105 => exact rfl
            case hsc105 => kernel_rfl
            case hfc105 => kernel_rfl
            case hrc105 => kernel_rfl
            case hQc105 => exact fun _ _ _ h => h
            case hyc105 =>
              refine .inl ⟨by rfl, fun W _ => ?_⟩
              go_simp
              try with_reducible rfl
            try simp only [Act.put, List.setIfInBounds_toArray, List.set_cons_zero, List.set_cons_succ]
            refine Held3.Ways.plain (i := 34) (oi := ?oc106) ?vc106 ?hic106 ?hsc106 ?hfc106 ?hrc106 ?hQc106 ?hyc106 (fun _ _ => id) ?restc106
            case hic106 => exact rfl
            case hsc106 => kernel_rfl
            case hfc106 => kernel_rfl
            case hrc106 => kernel_rfl
            case hQc106 => exact fun _ _ _ h => h
            case hyc106 =>
              refine .inl ⟨by rfl, fun W _ => ?_⟩
              go_simp
              try with_reducible rfl
            try simp only [Act.put, List.setIfInBounds_toArray, List.set_cons_zero, List.set_cons_succ]
            refine Held3.Ways.plain (i := 35) (oi := ?oc107) ?vc107 ?hic107 ?hsc107 ?hfc107 ?hrc107 ?hQc107 ?hyc107 (fun _ _ => id) ?restc107
            case hic107 => exact rfl
            case hsc107 => kernel_rfl
            case hfc107 => kernel_rfl
            case hrc107 => kernel_rfl
            case hQc107 => exact fun _ _ _ h => h
            case hyc107 =>
              refine .inl ⟨by rfl, fun W _ => ?_⟩
              go_simp
              try with_reducible rfl
            try simp only [Act.put, List.setIfInBounds_toArray, List.set_cons_zero, List.set_cons_succ]
            refine Held3.Ways.plain (i := 36) (oi := ?oc108) ?vc108 ?hic108 ?hsc108 ?hfc108 ?hrc108 ?hQc108 ?hyc108 (fun _ _ => id) ?restc108
            case hic108 => exact rfl
            case hsc108 => kernel_rfl
            case hfc108 => kernel_rfl
            case hrc108 => kernel_rfl
            case hQc108 => exact fun _ _ _ h => h
            case hyc108 =>
              refine .inl ⟨by rfl, fun W _ => ?_⟩
              go_simp
              try with_reducible rfl
            try simp only [Act.put, List.setIfInBounds_toArray, List.set_cons_zero, List.set_cons_succ]
            refine Held3.Ways.one (i := 37) (by rfl) (by kernel_rfl) (fun K hK => ?_)
            go_simp
            go_at_call 15
            refine (HU3.out Y32).mono ?_
            rintro e Y37 ⟨he, hb⟩
            subst he
            have HBY37 := Lib.hid (HBY32.out.trans (hb.mono HBY32.out.size))
            have HLY37 := Lib.hid hb
            clear hb
            dsimp only
            refine hK.out _ _ (fun h => h.trans (HLY37.out.mono h.size)) ?_
            clear hK K
            try simp only [Act.put, List.setIfInBounds_toArray, List.set_cons_zero, List.set_cons_succ]
            refine Held3.Ways.plain (i := 38) (oi := ?oc109) ?vc109 ?hic109 ?hsc109 ?hfc109 ?hrc109 ?hQc109 ?hyc109 (fun _ _ => id) ?restc109
            case hic109 => exact rfl
            case hsc109 => kernel_rfl
            case hfc109 => kernel_rfl
            case hrc109 => kernel_rfl
            case hQc109 => exact fun _ _ _ h => h
            case hyc109 =>
              refine .inl ⟨by rfl, fun W _ => ?_⟩
              go_simp
              try with_reducible rfl
            try simp only [Act.put, List.setIfInBounds_toArray, List.set_cons_zero, List.set_cons_succ]
            refine Held3.Ways.plain (i := 39) (oi := ?oc110) ?vc110 ?hic110 ?hsc110 ?hfc110 ?hrc110 ?hQc110 ?hyc110 (fun _ _ => id) ?restc110
            case hic110 => exact rfl
            case hsc110 => kernel_rfl
            case hfc110 => kernel_rfl
            case hrc110 => kernel_rfl
            case hQc110 => exact fun _ _ _ h => h
            case hyc110 =>
              refine .inl ⟨by rfl, fun W _ => ?_⟩
              go_simp
              try with_reducible rfl
            try simp only [Act.put, List.setIfInBounds_toArray, List.set_cons_zero, List.set_cons_succ]
            refine Held3.Ways.plain (i := 40) (oi := ?oc111) ?vc111 ?hic111 ?hsc111 ?hfc111 ?hrc111 ?hQc111 ?hyc111 (fun _ _ => id) ?restc111
            case hic111 => exact rfl
            case hsc111 => kernel_rfl
            case hfc111 => kernel_rfl
            case hrc111 => kernel_rfl
            case hQc111 => exact fun _ _ _ h => h
            case hyc111 =>
              refine .inl ⟨by rfl, fun W _ => ?_⟩
              go_simp
              try with_reducible rfl
            try simp only [Act.put, List.setIfInBounds_toArray, List.set_cons_zero, List.set_cons_succ]
            refine Held3.Ways.done (by kernel_rfl) ?_ _
            go_wp2_with fail
            go_ret
            exact ⟨rfl, HXL.out.trans (HBY37.out.mono HXL.out.size)⟩
  · have hn2 : ¬ ((keys.length : Int) ≤ 20) := by omega
    have hn3 : (20 : Int) < (keys.length : Int) := by omega
    go_enter Try.func5, Try.ntmps5
    go_wp2_with fail
    refine (head_any w).mono ?_
    rintro e w0 ⟨rfl, hb0⟩
    have HB0 := Lib.hid hb0
    clear hb0
    go_wp2_with fail
    go_ret
    exact ⟨rfl, HB0.out⟩
theorem ways_row {H : Type} {enc : TypeId × Value → H} {w : World} {base : Nat} {spare : Nat → Bool} {held : Bool}
    (v0 : Value) (ok0 : Value.okWide Try.prog w .any base 22 v0) (h0 : Reads1 enc Try.prog w 0 spare held 22 v0.cells.toList) (k : S) (_ : k.size ≤ 140737488351232) :
    Calls Try.prog 5 #[v0, .string k] w fun e w' => e = .returned (.bool true) ∧ Below w.heap.size w w' := by
  obtain ⟨a, l, c, e⟩ := okWide_slice Try.underlying22 ok0
  obtain ⟨keys, hk, hsz⟩ := strings_of h0 (by rw [e]; rfl)
  exact nodeWays_any w hk hsz k
#print axioms ways_row
end Go.Proofs.Ytfhpgmgmofganaa.NodeA
