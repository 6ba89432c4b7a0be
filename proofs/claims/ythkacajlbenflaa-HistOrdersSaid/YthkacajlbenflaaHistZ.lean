/- HistOrders: the walk. -/
import Derived.Test.YthkacajlbenflaaHistY
import Derived.Deep.Cut
import Derived.Deep.CutRange
set_option linter.unusedVariables false
set_option linter.unusedSimpArgs false
set_option linter.unusedSectionVars false
namespace Go.Proofs.Ythkacajlbenflaa.HistA
open Go.RowKit Go.WideShapes Go.Deep Go.Proofs.Ythkacajlbenflaa.Mem Go.Proofs.Ythkacajlbenflaa.Open Go.Proofs.Ythkacajlbenflaa.KeyM Go.Proofs.Ythkacajlbenflaa.KeyN Go.Proofs.Ythkacajlbenflaa.Kv Go.Proofs.Ythkacajlbenflaa.Maps
section
variable {ts : List TxV} {ps : List (Int × Int)} {p q' : Int × Int} {j q : Nat}
def BadK (ts : List TxV) (p q' : Int × Int) : Prop := ∃ x y, look ts p = some x ∧ look ts q' = some y ∧ 0 < x.en ∧ x.en < y.bg
def TimK (ts : List TxV) (ps : List (Int × Int)) (p : Int × Int) (q : Nat) : Prop := ∀ (k : Nat) (q' : Int × Int), k < q → ps[k]? = some q' → ¬ BadK ts p q'
def OneK (ps : List (Int × Int)) (p : Int × Int) (q : Nat) : Prop := ∀ k, k < q → ps[k]? ≠ some p
def Good (ts : List TxV) (p : Int × Int) : Prop := ∃ x, look ts p = some x ∧ x.lo = false ∧ x.as_ = true
theorem tim_next (hp : ps[j]? = some p) : TimP ts ps (j + 1) ↔ TimP ts ps j ∧ TimK ts ps p j := by
  constructor
  · intro h
    exact ⟨fun i k a b x y hi => h i k a b x y (by omega), fun k b hk hb ⟨x, y, hx, hy, h1⟩ => h j k p b x y (by omega) hk hp hb hx hy h1⟩
  · rintro ⟨h1, h2⟩
    exact h1.next fun k a b x y hk ha hb hx hy hbad => by
      have e : a = p := by have := hp.symm.trans ha; injection this with this; exact this.symm
      subst e
      exact h2 k b hk hb ⟨x, y, hx, hy, hbad⟩
theorem timK_next (hq : ps[q]? = some q') : TimK ts ps p (q + 1) ↔ TimK ts ps p q ∧ ¬ BadK ts p q' := by
  constructor
  · intro h
    exact ⟨fun k b hk => h k b (by omega), h q q' (by omega) hq⟩
  · rintro ⟨h1, h2⟩ k b hk hb
    by_cases e : k = q
    · subst e
      have := hq.symm.trans hb
      injection this with this
      subst this; exact h2
    · exact h1 k b (by omega) hb
theorem oneK_next (hq : ps[q]? = some q') : OneK ps p (q + 1) ↔ OneK ps p q ∧ q' ≠ p := by
  constructor
  · intro h
    exact ⟨fun k hk => h k (by omega), fun e => h q (by omega) (by rw [hq, e])⟩
  · rintro ⟨h1, h2⟩ k hk hb
    by_cases e : k = q
    · subst e
      rw [hq] at hb
      injection hb with hb
      exact h2 hb
    · exact h1 k (by omega) hb
theorem who_next (hp : ps[j]? = some p) : WhoP ts ps (j + 1) ↔ WhoP ts ps j ∧ Good ts p ∧ OneK ps p j := by
  constructor
  · intro h
    exact ⟨fun i a hi ha => h i a (by omega) ha, (h j p (by omega) hp).1, (h j p (by omega) hp).2⟩
  · rintro ⟨h1, h2, h3⟩
    exact h1.next fun a ha => by
      have e : a = p := by have := hp.symm.trans ha; injection this with this; exact this.symm
      subst e
      exact ⟨h2, h3⟩
theorem bad_iff : ((look ts p).isSome && (look ts q').isSome && decide (0 < ((look ts p).getD zeroT).en) && decide (((look ts p).getD zeroT).en < ((look ts q').getD zeroT).bg)) = true ↔ BadK ts p q' := by
  unfold BadK
  cases look ts p with
  | none => simp
  | some x => cases look ts q' with
    | none => simp
    | some y => simp
theorem good_iff : ((look ts p).isSome && !((look ts p).getD zeroT).lo && ((look ts p).getD zeroT).as_) = true ↔ Good ts p := by
  unfold Good
  cases look ts p with
  | none => simp
  | some x => simp
def InP (ts : List TxV) (ps : List (Int × Int)) (j : Nat) : Prop := ∀ (i : Nat) (x : TxV), i < j → ts[i]? = some x → 0 < x.en → 0 < x.os.length → (x.num, x.nd) ∈ ps
theorem inP_next {t : TxV} (ht : ts[j]? = some t) : InP ts ps (j + 1) ↔ InP ts ps j ∧ (0 < t.en → 0 < t.os.length → (t.num, t.nd) ∈ ps) := by
  constructor
  · intro h
    exact ⟨fun i x hi => h i x (by omega), h j t (by omega) ht⟩
  · rintro ⟨h1, h2⟩ i x hi hx
    by_cases e : i = j
    · subst e
      have := ht.symm.trans hx
      injection this with this
      subst this; exact h2
    · exact h1 i x (by omega) hx
theorem inP_all : InP ts ps ts.length ↔ AllIn ts ps := by
  constructor
  · intro h x hx
    obtain ⟨i, hi⟩ := List.getElem?_of_mem hx
    exact h i x (List.getElem?_eq_some_iff.1 hi).1 hi
  · intro h i x _ hx
    exact h x (List.mem_of_getElem? hx)
theorem in_next {x : Int × Int} (hq : ps[q]? = some q') : x ∈ ps.take (q + 1) ↔ x ∈ ps.take q ∨ q' = x := by
  rw [List.take_add_one, hq]
  simp [eq_comm]
end
set_option maxHeartbeats 4000000 in
set_option maxRecDepth 100000 in
theorem orders_any {ts : List TxV} {ps : List (Int × Int)} (w : World) {A B : Option Addr} {c d : Nat} (h : Rd w w.heap.size 7 (.slice A ts.length c) ts.length (tc ts)) (hok : ∀ t ∈ ts, TxOk w t)
    (ho : Rd w w.heap.size 2 (.slice B ps.length d) ps.length (idc ps)) (hid : ∀ p ∈ ps, Tid.IdOk p) :
    Calls Try.prog 4 #[.slice A ts.length c, .slice B ps.length d] w fun e w' => e = .returned (.bool true) ∧ Below w.heap.size w w' := by
  obtain ⟨hdm, hdc⟩ : ps.length ≤ d ∧ d ≤ maxLen := by
    obtain ⟨_, A', c', e, h1, h2, _⟩ := ho
    injection e with e1 e2 e3
    omega
  have HO : Hid (∀ W, Below w.heap.size w W → Rd W W.heap.size 2 (.slice B ps.length d) ps.length (idc ps)) := fun W hb => ho.up hb
  have HRA : Hid (∀ W, Below w.heap.size w W → Rd W W.heap.size 7 (.slice A ts.length c) ts.length (tc ts)) := fun W hb => h.up hb
  have HSM : Hid (∀ W, Below w.heap.size w W → Calls Try.prog 10 #[.slice A ts.length c, .slice B ps.length d] W fun e w' => SRes ts ps.length W e w') := fun W hb => small_any W (h.up hb) (fun t ht => (hok t ht).up hb)
  have HTI : Hid (∀ W, Below w.heap.size w W → Calls Try.prog 12 #[.slice A ts.length c, .slice B ps.length d] W fun e w' => BRes W (TimP ts ps ps.length) e w') := fun W hb => timely_any W (h.up hb) (ho.up hb)
  have HWH : Hid (∀ W, Below w.heap.size w W → Calls Try.prog 13 #[.slice A ts.length c, .slice B ps.length d] W fun e w' => BRes W (WhoP ts ps ps.length ∧ AllIn ts ps) e w') := fun W hb => whole_any W (h.up hb) (fun t ht => (hok t ht).up hb) (ho.up hb) hid
  have HF1 : Hid (∀ W gb (p : Int × Int), Below w.heap.size w W → W.heap[gb]? = some (.cells #[.slice A ts.length c] 35 (0, 0)) →
    Calls Try.prog 11 #[.agg #[.int .u64 p.1, .int .i64 p.2], .pointer (some ⟨gb, 0, none⟩)] W fun e w' => e = .returned (.tuple #[txV ((look ts p).getD zeroT), .bool (look ts p).isSome]) ∧ Below W.heap.size W w') := fun W gb p hb hg => first1_any W (h.up hb) p hg
  have hln := h.len_le
  have hlm := ho.len_le
  clear h hok ho hid
  obtain ⟨n, hn⟩ : ∃ n, n = ts.length := ⟨_, rfl⟩
  obtain ⟨m, hm⟩ : ∃ m, m = ps.length := ⟨_, rfl⟩
  rw [← hm] at HO HSM HTI HWH hlm hdm ⊢
  rw [← hn] at HRA HSM HTI HWH HF1 hln ⊢
  have HN := Lib.hid hn
  have HM := Lib.hid hm
  clear hn hm
  unfold maxLen at hln hlm hdc
  go_enter Try.func4, Try.ntmps4
  go_upto_region 1 with fail
  obtain ⟨X0, hX0⟩ : ∃ X, X = w.alloc (.cells #[.slice A n c] 35) := ⟨_, rfl⟩
  rw [← hX0]
  have HX0 : Hid (Below w.heap.size w X0) := Lib.hid (by rw [hX0]; exact (Below.refl _ _).alloc (Nat.le_refl _) _)
  have hbox : X0.heap[w.heap.size]? = some (.cells #[.slice A n c] 35 (0, 0)) := by rw [hX0]; exact heap_alloc_new w _
  have HBX : Hid (∀ W, Below X0.heap.size X0 W → W.heap[w.heap.size]? = some (.cells #[.slice A n c] 35 (0, 0))) := fun W hb => blk_below hbox hb
  have HW : Hid (∀ W, Below X0.heap.size X0 W → Below w.heap.size w W) := fun W hb => HX0.out.trans (hb.mono HX0.out.size)
  clear hX0 hbox
  go_wp2_with fail
  refine (head_any X0).mono ?_
  rintro e w0 ⟨rfl, hb0⟩
  have HB0 : Hid (Below X0.heap.size X0 w0) := Lib.hid hb0
  have b0 : w0.cell? ⟨w.heap.size, 0, none⟩ = some (.slice A n c) := row_at (HBX.out w0 hb0) rfl
  clear hb0
  go_wp2_with fail
  refine (HSM.out w0 (HW.out w0 HB0.out)).mono ?_
  rintro e w1 ⟨b, rfl, hsm, hb1⟩
  have HB1 : Hid (Below X0.heap.size X0 w1) := HB0.out.trans (hb1.mono HB0.out.size)
  clear hb1 b0
  cases b with
  | false =>
    go_wp2_with fail
    go_ret
    exact ⟨rfl, HW.out w1 HB1.out⟩
  | true =>
    have HS := Lib.hid (hsm rfl)
    clear hsm
    have hm20 := HS.out.2.1
    have hn20 := HS.out.1
    rw [← HN.out] at hn20
    have b0 : w1.cell? ⟨w.heap.size, 0, none⟩ = some (.slice A n c) := row_at (HBX.out w1 HB1.out) rfl
    go_wp2_with fail
    clear b0
    go_loopw [32] (fun i wr => ∃ j : Nat, j ≤ n ∧ i = .int .i64 j ∧ Below X0.heap.size X0 wr) (fun i _ => n - (intOf i).toNat)
    case atStart => exact ⟨0, Nat.zero_le _, rfl, HB1.out⟩
    case round =>
      obtain ⟨j, hj, rfl, hbl⟩ := hrel
      have HBL := Lib.hid hbl
      by_cases hlt : j < n
      · obtain ⟨t, ht⟩ : ∃ t, ts[j]? = some t := ⟨ts[j]'(by rw [← HN.out]; omega), List.getElem?_eq_getElem _⟩
        obtain ⟨g, off, rfl, c0, c1, c2, c3, c4, c5, c6⟩ := txn_cells (HRA.out wr (HW.out wr hbl)) ht (by omega)
        have i0 : (0 : Int) ≤ (j : Int) := by omega
        have i1 : (j : Int) < (n : Int) := by omega
        obtain ⟨Y, hY⟩ : ∃ Y, Y = wr.alloc (.cells #[.int .u64 t.num, .int .i64 t.nd, .int .i64 t.bg, .int .i64 t.en, .bool t.as_, .bool t.lo, .slice t.A t.os.length t.c] 39) := ⟨_, rfl⟩
        have hby : Below wr.heap.size wr Y := by rw [hY]; exact (Below.refl _ _).alloc (Nat.le_refl _) _
        have HYB : Hid (Below X0.heap.size X0 Y) := hbl.trans (hby.mono hbl.size)
        have hyr : Y.heap[wr.heap.size]? = some (.cells #[.int .u64 t.num, .int .i64 t.nd, .int .i64 t.bg, .int .i64 t.en, .bool t.as_, .bool t.lo, .slice t.A t.os.length t.c] 39 (0, 0)) := by rw [hY]; exact heap_alloc_new wr _
        have HYE := Lib.hid hY
        have HYR := Lib.hid hyr
        clear hbl ht hY hby hyr
        go_upto_region 9 with fail
        rw [← HYE.out]
        clear c0 c1 c2 c3 c4 c5 c6 HYE
        obtain ⟨d0, d1, d2, d3, d4, d5, d6⟩ := row7_facts HYR.out
        by_cases h1 : t.bg < 0
        · go_wp2_with fail
          go_ret
          exact ⟨rfl, HW.out _ HYB.out⟩
        · by_cases h2 : t.en < 0
          · go_wp2_with fail
            go_ret
            exact ⟨rfl, HW.out _ HYB.out⟩
          · go_wp2_with fail
            go_roundw
            case rel => exact ⟨j + 1, by omega, by go_num, HYB.out⟩
            case measure => simp [intOf]; omega
      · clear hbl
        have i1 : ¬ ((j : Int) < (n : Int)) := by omega
        go_wp2_with fail
        go_loopw [8, 9, 47] (fun t1 t2 i wr => ∃ (j : Nat) (b1 b2 : Bool), j ≤ m ∧ i = .int .i64 j ∧ t1 = .bool b1 ∧ t2 = .bool b2 ∧ (b1 = true ↔ TimP ts ps j) ∧ (b2 = true ↔ WhoP ts ps j) ∧ Below X0.heap.size X0 wr) (fun _ _ i _ => m - (intOf i).toNat)
        case atStart => exact ⟨0, true, true, Nat.zero_le _, rfl, rfl, rfl, ⟨fun _ i k p q x y hi => absurd hi (by omega), fun _ => rfl⟩, ⟨fun _ i p hi => absurd hi (by omega), fun _ => rfl⟩, HBL.out⟩
        case round =>
          clear HBL HB1 HB0
          obtain ⟨j, b1, b2, hj, rfl, rfl, rfl, ht1, ht2, hbl⟩ := hrel
          have HT1 := Lib.hid ht1
          have HT2 := Lib.hid ht2
          have HBL := Lib.hid hbl
          clear ht1 ht2
          by_cases hlt : j < m
          · obtain ⟨p, hp⟩ : ∃ p, ps[j]? = some p := ⟨ps[j]'(by rw [← HM.out]; omega), List.getElem?_eq_getElem _⟩
            obtain ⟨g, off, rfl, c0, c1⟩ := id_cells (HO.out wr (HW.out wr hbl)) hp (by omega)
            obtain ⟨X, hX⟩ : ∃ X, X = wr.alloc (.cells #[.int .u64 p.1, .int .i64 p.2] 30) := ⟨_, rfl⟩
            have hbx1 : Below wr.heap.size wr X := by rw [hX]; exact (Below.refl _ _).alloc (Nat.le_refl _) _
            have HXR : Hid (X.heap[wr.heap.size]? = some (.cells #[.int .u64 p.1, .int .i64 p.2] 30 (0, 0))) := Lib.hid (by rw [hX]; exact heap_alloc_new wr _)
            have HXB : Hid (Below X0.heap.size X0 X) := hbl.trans (hbx1.mono hbl.size)
            have HXE := Lib.hid hX
            have HP := Lib.hid hp
            have i0 : (0 : Int) ≤ (j : Int) := by omega
            have i1 : (j : Int) < (m : Int) := by omega
            clear hX hbx1 hbl hp
            go_upto_region 17 with fail
            rw [← HXE.out]
            clear HXE c0 c1
            obtain ⟨d0, d1⟩ := row2c HXR.out
            obtain ⟨x, hx⟩ : ∃ x, x = (look ts p).getD zeroT := ⟨_, rfl⟩
            obtain ⟨th, hth⟩ : ∃ th, th = (look ts p).isSome := ⟨_, rfl⟩
            have hc := HF1.out X w.heap.size p (HW.out X HXB.out) (HBX.out X HXB.out)
            rw [← hx, ← hth] at hc
            unfold txV at hc
            have HC := Lib.hid hc
            have HX := Lib.hid hx
            have HTH := Lib.hid hth
            clear hc hx hth
            go_wp2_with fail
            refine HC.out.mono ?_
            rintro e w2 ⟨rfl, hb2⟩
            have HB2 : Hid (Below X0.heap.size X0 w2) := HXB.out.trans (hb2.mono HXB.out.size)
            have HR2 := Lib.hid (blk_below HXR.out hb2)
            obtain ⟨Y, hY⟩ : ∃ Y, Y = w2.alloc (.cells #[.int .u64 x.num, .int .i64 x.nd, .int .i64 x.bg, .int .i64 x.en, .bool x.as_, .bool x.lo, .slice x.A x.os.length x.c] 39) := ⟨_, rfl⟩
            have hby : Below w2.heap.size w2 Y := by rw [hY]; exact (Below.refl _ _).alloc (Nat.le_refl _) _
            have HYB : Hid (Below X0.heap.size X0 Y) := HB2.out.trans (hby.mono HB2.out.size)
            have HYR : Hid (Y.heap[w2.heap.size]? = some (.cells #[.int .u64 x.num, .int .i64 x.nd, .int .i64 x.bg, .int .i64 x.en, .bool x.as_, .bool x.lo, .slice x.A x.os.length x.c] 39 (0, 0))) := Lib.hid (by rw [hY]; exact heap_alloc_new w2 _)
            have HYT := Lib.hid (blk_below HR2.out hby)
            have HYE := Lib.hid hY
            clear hb2 hby hY d0 d1 HC
            go_upto_region 18 with fail
            rw [← HYE.out]
            clear HYE
            obtain ⟨d0, d1, d2, d3, d4, d5, d6⟩ := row7_facts HYR.out
            obtain ⟨lo, hlo⟩ : ∃ lo, lo = x.lo := ⟨_, rfl⟩
            obtain ⟨as_, has⟩ : ∃ as_, as_ = x.as_ := ⟨_, rfl⟩
            rw [← hlo] at d5
            rw [← has] at d4
            have HLO := Lib.hid hlo
            have HAS := Lib.hid has
            clear hlo has
            go_cut [9] from 58 to 70 (fun s9 wx => s9 = .bool (b2 && th && !lo && as_) ∧ wx = Y)
            case first =>
              cases b2 with
              | false =>
                go_wp2_with fail
                go_meet
                case rel => exact ⟨rfl, rfl⟩
              | true =>
                cases th with
                | false =>
                  go_wp2_with fail
                  go_meet
                  case rel => exact ⟨rfl, rfl⟩
                | true =>
                  cases lo with
                  | true =>
                    go_wp2_with fail
                    go_meet
                    case rel => exact ⟨rfl, rfl⟩
                  | false =>
                    cases as_ with
                    | true =>
                      go_wp2_with fail
                      go_meet
                      case rel => exact ⟨rfl, rfl⟩
                    | false =>
                      go_wp2_with fail
                      go_meet
                      case rel => exact ⟨rfl, rfl⟩
            case rest =>
              obtain ⟨rfl, rfl⟩ := hcut
              clear d0 d1 d2 d3 d4 d5 d6 HXR HR2
              obtain ⟨b3, hb3⟩ : ∃ b3, b3 = (b2 && th && !lo && as_) := ⟨_, rfl⟩
              rw [← hb3]
              have hb3' : b3 = true ↔ WhoP ts ps j ∧ Good ts p := by
                rw [hb3, ← HT2.out, ← good_iff, HTH.out, HLO.out, HAS.out, HX.out]
                simp [and_assoc]
              have HB3 := Lib.hid hb3'
              clear hb3 hb3'
              have jd : (j : Int) ≤ (d : Int) := by omega
              have jm : (j : Int) ≤ (m : Int) := by omega
              go_wp2_with fail
              go_loopw [8, 9, 75] (fun t1 t2 i wq => ∃ (q : Nat) (c1 c2 : Bool), q ≤ j ∧ i = .int .i64 q ∧ t1 = .bool c1 ∧ t2 = .bool c2 ∧ (c1 = true ↔ TimP ts ps j ∧ TimK ts ps p q) ∧ (c2 = true ↔ (WhoP ts ps j ∧ Good ts p) ∧ OneK ps p q) ∧ Below wc.heap.size wc wq) (fun _ _ i _ => j - (intOf i).toNat)
              case atStart => exact ⟨0, b1, b3, Nat.zero_le _, rfl, rfl, rfl, by rw [HT1.out]; exact ⟨fun h => ⟨h, fun k q' hk => absurd hk (by omega)⟩, fun h => h.1⟩, by rw [HB3.out]; exact ⟨fun h => ⟨h, fun k hk => absurd hk (by omega)⟩, fun h => h.1⟩, Below.refl _ _⟩
              case round =>
                obtain ⟨q, c1, c2, hq, rfl, rfl, rfl, hc1, hc2, hbq⟩ := hrel
                have HC1 := Lib.hid hc1
                have HC2 := Lib.hid hc2
                have HBQ := Lib.hid hbq
                have HBX2 : Hid (Below X0.heap.size X0 wr) := Lib.hid (HYB.out.trans (hbq.mono HYB.out.size))
                clear hc1 hc2 hbq
                by_cases hqj : q < j
                · obtain ⟨q', hq'⟩ : ∃ q', ps[q]? = some q' := ⟨ps[q]'(by rw [← HM.out]; omega), List.getElem?_eq_getElem _⟩
                  obtain ⟨g9, off9, e9, c0, c9⟩ := id_cells (HO.out wr (HW.out wr HBX2.out)) hq' (by omega)
                  injection e9 with e9
                  injection e9 with e91 e92
                  subst e91 e92
                  obtain ⟨Z, hZ⟩ : ∃ X, X = wr.alloc (.cells #[.int .u64 q'.1, .int .i64 q'.2] 30) := ⟨_, rfl⟩
                  have hbz : Below wr.heap.size wr Z := by rw [hZ]; exact (Below.refl _ _).alloc (Nat.le_refl _) _
                  have HZR : Hid (Z.heap[wr.heap.size]? = some (.cells #[.int .u64 q'.1, .int .i64 q'.2] 30 (0, 0))) := Lib.hid (by rw [hZ]; exact heap_alloc_new wr _)
                  have HZB : Hid (Below wc.heap.size wc Z) := HBQ.out.trans (hbz.mono HBQ.out.size)
                  have HZE := Lib.hid hZ
                  have HQ := Lib.hid hq'
                  have q0 : (0 : Int) ≤ (q : Int) := by omega
                  have q1 : (q : Int) < (j : Int) := by omega
                  have q2 : (q : Int) < (m : Int) := by omega
                  clear hZ hbz hq'
                  go_upto_region 22 with fail
                  rw [← HZE.out]
                  clear HZE c0 c9
                  obtain ⟨d0, d1⟩ := row2c HZR.out
                  obtain ⟨y, hy⟩ : ∃ x, x = (look ts q').getD zeroT := ⟨_, rfl⟩
                  obtain ⟨is, his⟩ : ∃ th, th = (look ts q').isSome := ⟨_, rfl⟩
                  have hzx : Below X0.heap.size X0 Z := HYB.out.trans (HZB.out.mono HYB.out.size)
                  have hc := HF1.out Z w.heap.size q' (HW.out Z hzx) (HBX.out Z hzx)
                  rw [← hy, ← his] at hc
                  unfold txV at hc
                  have HC := Lib.hid hc
                  have HY := Lib.hid hy
                  have HIS := Lib.hid his
                  clear hc hy his hzx
                  go_wp2_with fail
                  refine HC.out.mono ?_
                  rintro e w3 ⟨rfl, hb3⟩
                  have HB3 : Hid (Below wc.heap.size wc w3) := HZB.out.trans (hb3.mono HZB.out.size)
                  obtain ⟨V, hV⟩ : ∃ Y, Y = w3.alloc (.cells #[.int .u64 y.num, .int .i64 y.nd, .int .i64 y.bg, .int .i64 y.en, .bool y.as_, .bool y.lo, .slice y.A y.os.length y.c] 39) := ⟨_, rfl⟩
                  have hbv : Below w3.heap.size w3 V := by rw [hV]; exact (Below.refl _ _).alloc (Nat.le_refl _) _
                  have HVB : Hid (Below wc.heap.size wc V) := HB3.out.trans (hbv.mono HB3.out.size)
                  have HVR : Hid (V.heap[w3.heap.size]? = some (.cells #[.int .u64 y.num, .int .i64 y.nd, .int .i64 y.bg, .int .i64 y.en, .bool y.as_, .bool y.lo, .slice y.A y.os.length y.c] 39 (0, 0))) := Lib.hid (by rw [hV]; exact heap_alloc_new w3 _)
                  have HVE := Lib.hid hV
                  clear hb3 hbv hV d0 d1 HC
                  go_upto_region 23 with fail
                  rw [← HVE.out]
                  clear HVE
                  obtain ⟨d0, d1, d2, d3, d4, d5, d6⟩ := row7_facts HVR.out
                  obtain ⟨f0, f1, f2, f3, f4, f5, f6⟩ := row7_facts (blk_below HYR.out HVB.out)
                  obtain ⟨t0, t1⟩ := row2c (blk_below HYT.out HVB.out)
                  obtain ⟨p0, p1⟩ : V.cell? ⟨g, off + q * 2, none⟩ = some (.int .u64 q'.1) ∧ V.cell? ⟨g, off + q * 2 + 1, none⟩ = some (.int .i64 q'.2) := by
                    obtain ⟨g9, off9, e9, c0, c9⟩ := id_cells (HO.out V (HW.out V (HYB.out.trans (HVB.out.mono HYB.out.size)))) HQ.out (by omega)
                    injection e9 with e9
                    injection e9 with e91 e92
                    subst e91 e92
                    exact ⟨c0, c9⟩
                  clear d0 d1 d3 d4 d5 d6 f0 f1 f2 f4 f5 f6
                  go_cut [101] from 86 to 101 (fun s wx => s = .bool (th && is && decide (0 < x.en) && decide (x.en < y.bg)) ∧ wx = V)
                  case first =>
                    cases th with
                    | false =>
                      go_wp2_with fail
                      go_meet
                      case rel => exact ⟨rfl, rfl⟩
                    | true =>
                      cases is with
                      | false =>
                        go_wp2_with fail
                        go_meet
                        case rel => exact ⟨rfl, rfl⟩
                      | true =>
                        by_cases h1 : 0 < x.en
                        · have H1 := Lib.hid h1
                          go_wp2_with fail
                          go_meet
                          case rel => exact ⟨by rw [decide_eq_true H1.out]; rfl, rfl⟩
                        · have H1 := Lib.hid h1
                          go_wp2_with fail
                          go_meet
                          case rel => exact ⟨by rw [decide_eq_false (show ¬ 0 < x.en by have := H1.out; omega)]; rfl, rfl⟩
                  case rest =>
                    obtain ⟨rfl, rfl⟩ := hcut
                    obtain ⟨bk, hbk⟩ : ∃ bk, bk = (th && is && decide (0 < x.en) && decide (x.en < y.bg)) := ⟨_, rfl⟩
                    rw [← hbk]
                    have hbk' : bk = true ↔ BadK ts p q' := by
                      rw [hbk, HTH.out, HIS.out, HX.out, HY.out]; exact bad_iff
                    have hT1 : ∀ c, (c = true ↔ c1 = true ∧ ¬ bk = true) → (c = true ↔ TimP ts ps j ∧ TimK ts ps p (q + 1)) := fun c h => by
                      rw [h, HC1.out, hbk', timK_next HQ.out, and_assoc]
                    have hT2 : ∀ c, (c = true ↔ c2 = true ∧ q' ≠ p) → (c = true ↔ (WhoP ts ps j ∧ Good ts p) ∧ OneK ps p (q + 1)) := fun c h => by
                      rw [h, HC2.out, oneK_next HQ.out]; simp [and_assoc]
                    have HT1' := Lib.hid hT1
                    have HT2' := Lib.hid hT2
                    clear hbk hbk' hT1 hT2 d2 f3
                    cases bk with
                    | true =>
                      cases c2 with
                      | false =>
                        go_wp2_with fail
                        go_quiet (fail)
                        go_wp2_with fail
                        go_roundw
                        case rel => exact ⟨q + 1, false, false, by omega, by go_num, rfl, rfl, HT1'.out _ (by simp), HT2'.out _ (by simp), below_drewN HVB.out _⟩
                        case measure => simp [intOf]; omega
                      | true =>
                        by_cases h1 : q'.1 = p.1
                        · have b1 : (q'.1 == p.1) = true := by simp [h1]
                          have H1 := Lib.hid h1
                          clear h1
                          by_cases h2 : q'.2 = p.2
                          · have b2 : (q'.2 == p.2) = true := by simp [h2]
                            have H2 := Lib.hid h2
                            clear h2
                            go_wp2_with fail
                            go_quiet (fail)
                            go_wp2_with fail
                            go_roundw
                            case rel => exact ⟨q + 1, false, false, by omega, by go_num, rfl, rfl, HT1'.out _ (by simp), HT2'.out _ (by simp [Prod.ext_iff, H1.out, H2.out]), below_drewN HVB.out _⟩
                            case measure => simp [intOf]; omega
                          · have b2 : (q'.2 == p.2) = false := by simp [h2]
                            have H2 := Lib.hid h2
                            clear h2
                            go_wp2_with fail
                            go_quiet (fail)
                            go_wp2_with fail
                            go_roundw
                            case rel => exact ⟨q + 1, false, true, by omega, by go_num, rfl, rfl, HT1'.out _ (by simp), HT2'.out _ (by simp [Prod.ext_iff, H2.out]), below_drewN HVB.out _⟩
                            case measure => simp [intOf]; omega
                        · have b1 : (q'.1 == p.1) = false := by simp [h1]
                          have H1 := Lib.hid h1
                          clear h1
                          go_wp2_with fail
                          go_quiet (fail)
                          go_wp2_with fail
                          go_roundw
                          case rel => exact ⟨q + 1, false, true, by omega, by go_num, rfl, rfl, HT1'.out _ (by simp), HT2'.out _ (by simp [Prod.ext_iff, H1.out]), below_drewN HVB.out _⟩
                          case measure => simp [intOf]; omega
                    | false =>
                      cases c2 with
                      | false =>
                        go_wp2_with fail
                        go_quiet (fail)
                        go_wp2_with fail
                        go_roundw
                        case rel => exact ⟨q + 1, c1, false, by omega, by go_num, rfl, rfl, HT1'.out _ (by simp), HT2'.out _ (by simp), below_drewN HVB.out _⟩
                        case measure => simp [intOf]; omega
                      | true =>
                        by_cases h1 : q'.1 = p.1
                        · have b1 : (q'.1 == p.1) = true := by simp [h1]
                          have H1 := Lib.hid h1
                          clear h1
                          by_cases h2 : q'.2 = p.2
                          · have b2 : (q'.2 == p.2) = true := by simp [h2]
                            have H2 := Lib.hid h2
                            clear h2
                            go_wp2_with fail
                            go_quiet (fail)
                            go_wp2_with fail
                            go_roundw
                            case rel => exact ⟨q + 1, c1, false, by omega, by go_num, rfl, rfl, HT1'.out _ (by simp), HT2'.out _ (by simp [Prod.ext_iff, H1.out, H2.out]), below_drewN HVB.out _⟩
                            case measure => simp [intOf]; omega
                          · have b2 : (q'.2 == p.2) = false := by simp [h2]
                            have H2 := Lib.hid h2
                            clear h2
                            go_wp2_with fail
                            go_quiet (fail)
                            go_wp2_with fail
                            go_roundw
                            case rel => exact ⟨q + 1, c1, true, by omega, by go_num, rfl, rfl, HT1'.out _ (by simp), HT2'.out _ (by simp [Prod.ext_iff, H2.out]), below_drewN HVB.out _⟩
                            case measure => simp [intOf]; omega
                        · have b1 : (q'.1 == p.1) = false := by simp [h1]
                          have H1 := Lib.hid h1
                          clear h1
                          go_wp2_with fail
                          go_quiet (fail)
                          go_wp2_with fail
                          go_roundw
                          case rel => exact ⟨q + 1, c1, true, by omega, by go_num, rfl, rfl, HT1'.out _ (by simp), HT2'.out _ (by simp [Prod.ext_iff, H1.out]), below_drewN HVB.out _⟩
                          case measure => simp [intOf]; omega
                · obtain rfl : q = j := by omega
                  have hT1 : c1 = true ↔ TimP ts ps (q + 1) := by rw [HC1.out, tim_next HP.out]
                  have hT2 : c2 = true ↔ WhoP ts ps (q + 1) := by rw [HC2.out, who_next HP.out, and_assoc]
                  have HT1' := Lib.hid hT1
                  have HT2' := Lib.hid hT2
                  clear hT1 hT2
                  have i1' : ¬ ((q : Int) < (q : Int)) := by omega
                  go_wp2_with fail
                  go_roundw
                  case rel => exact ⟨q + 1, c1, c2, by omega, by go_num, rfl, rfl, HT1'.out, HT2'.out, HBX2.out⟩
                  case measure => simp [intOf]; omega
          · obtain rfl : j = m := by omega
            have b0 : wr.cell? ⟨w.heap.size, 0, none⟩ = some (.slice A n c) := row_at (HBX.out wr hbl) rfl
            have i1' : ¬ ((j : Int) < (j : Int)) := by omega
            clear hbl
            go_wp2_with fail
            clear b0
            go_loopw [9, 115] (fun t2 i wq => ∃ (k : Nat) (c2 : Bool), k ≤ n ∧ i = .int .i64 k ∧ t2 = .bool c2 ∧ (c2 = true ↔ WhoP ts ps j ∧ InP ts ps k) ∧ Below X0.heap.size X0 wq) (fun _ i _ => n - (intOf i).toNat)
            case atStart => exact ⟨0, b2, Nat.zero_le _, rfl, rfl, by rw [HT2.out]; exact ⟨fun h => ⟨h, fun i x hi => absurd hi (by omega)⟩, fun h => h.1⟩, HBL.out⟩
            case round =>
              obtain ⟨k, c2, hk, rfl, rfl, hc2, hbq⟩ := hrel
              have HC2 := Lib.hid hc2
              clear hc2
              have HBQ := Lib.hid hbq
              by_cases hlt2 : k < n
              · obtain ⟨t, ht⟩ : ∃ t, ts[k]? = some t := ⟨ts[k]'(by rw [← HN.out]; omega), List.getElem?_eq_getElem _⟩
                obtain ⟨g, off, rfl, c0, c1, c2', c3, c4, c5, c6⟩ := txn_cells (HRA.out wr (HW.out wr hbq)) ht (by omega)
                have k0 : (0 : Int) ≤ (k : Int) := by omega
                have k1 : (k : Int) < (n : Int) := by omega
                obtain ⟨Y, hY⟩ : ∃ Y, Y = wr.alloc (.cells #[.int .u64 t.num, .int .i64 t.nd, .int .i64 t.bg, .int .i64 t.en, .bool t.as_, .bool t.lo, .slice t.A t.os.length t.c] 39) := ⟨_, rfl⟩
                have hby : Below wr.heap.size wr Y := by rw [hY]; exact (Below.refl _ _).alloc (Nat.le_refl _) _
                have HYB : Hid (Below X0.heap.size X0 Y) := hbq.trans (hby.mono hbq.size)
                have hyr : Y.heap[wr.heap.size]? = some (.cells #[.int .u64 t.num, .int .i64 t.nd, .int .i64 t.bg, .int .i64 t.en, .bool t.as_, .bool t.lo, .slice t.A t.os.length t.c] 39 (0, 0)) := by rw [hY]; exact heap_alloc_new wr _
                have HYE := Lib.hid hY
                have HYR := Lib.hid hyr
                have hinp := inP_next (ps := ps) ht
                have HINP := Lib.hid hinp
                clear hbq ht hY hby hyr hinp
                go_upto_region 31 with fail
                rw [← HYE.out]
                clear c0 c1 c2' c3 c4 c5 c6 HYE
                go_wp2_with fail
                go_loopw [20, 121] (fun s i wq => ∃ (q : Nat) (b : Bool), q ≤ j ∧ i = .int .i64 q ∧ s = .bool b ∧ (b = true ↔ (t.num, t.nd) ∈ ps.take q) ∧ Below Y.heap.size Y wq) (fun _ i _ => j - (intOf i).toNat)
                case atStart => exact ⟨0, false, Nat.zero_le _, rfl, rfl, by simp, Below.refl _ _⟩
                case round =>
                  obtain ⟨q, b, hq, rfl, rfl, hb, hby⟩ := hrel
                  have HB := Lib.hid hb
                  have HBY := Lib.hid hby
                  have HBX2 : Hid (Below X0.heap.size X0 wr) := Lib.hid (HYB.out.trans (hby.mono HYB.out.size))
                  clear hb
                  by_cases hqj : q < j
                  · obtain ⟨q', hq'⟩ : ∃ q', ps[q]? = some q' := ⟨ps[q]'(by rw [← HM.out]; omega), List.getElem?_eq_getElem _⟩
                    obtain ⟨g9, off9, rfl, c0, c9⟩ := id_cells (HO.out wr (HW.out wr HBX2.out)) hq' (by omega)
                    obtain ⟨Z, hZ⟩ : ∃ X, X = wr.alloc (.cells #[.int .u64 q'.1, .int .i64 q'.2] 30) := ⟨_, rfl⟩
                    have hbz : Below wr.heap.size wr Z := by rw [hZ]; exact (Below.refl _ _).alloc (Nat.le_refl _) _
                    have HZR : Hid (Z.heap[wr.heap.size]? = some (.cells #[.int .u64 q'.1, .int .i64 q'.2] 30 (0, 0))) := Lib.hid (by rw [hZ]; exact heap_alloc_new wr _)
                    have HZB : Hid (Below Y.heap.size Y Z) := HBY.out.trans (hbz.mono HBY.out.size)
                    have HZE := Lib.hid hZ
                    have hin := in_next (x := (t.num, t.nd)) hq'
                    have HIN := Lib.hid hin
                    have q0 : (0 : Int) ≤ (q : Int) := by omega
                    have q1 : (q : Int) < (j : Int) := by omega
                    clear hZ hbz hq' hin hby
                    go_upto_region 35 with fail
                    rw [← HZE.out]
                    clear HZE c0 c9
                    obtain ⟨d0, d1⟩ := row2c HZR.out
                    obtain ⟨f0, f1, f2, f3, f4, f5, f6⟩ := row7_facts (blk_below HYR.out HZB.out)
                    clear f2 f3 f4 f5 f6
                    cases b with
                    | true =>
                      go_wp2_with fail
                      go_roundw
                      case rel => exact ⟨q + 1, true, by omega, by go_num, rfl, by rw [HIN.out, ← HB.out]; simp, HZB.out⟩
                      case measure => simp [intOf]; omega
                    | false =>
                      by_cases h1 : q'.1 = t.num
                      · have b1 : (q'.1 == t.num) = true := by simp [h1]
                        have H1 := Lib.hid h1
                        clear h1
                        by_cases h2 : q'.2 = t.nd
                        · have b2 : (q'.2 == t.nd) = true := by simp [h2]
                          have H2 := Lib.hid h2
                          clear h2
                          go_wp2_with fail
                          go_roundw
                          case rel => exact ⟨q + 1, true, by omega, by go_num, rfl, by rw [HIN.out, ← HB.out]; simp [Prod.ext_iff, H1.out, H2.out], HZB.out⟩
                          case measure => simp [intOf]; omega
                        · have b2 : (q'.2 == t.nd) = false := by simp [h2]
                          have H2 := Lib.hid h2
                          clear h2
                          go_wp2_with fail
                          go_roundw
                          case rel => exact ⟨q + 1, false, by omega, by go_num, rfl, by rw [HIN.out, ← HB.out]; simp [Prod.ext_iff, H2.out], HZB.out⟩
                          case measure => simp [intOf]; omega
                      · have b1 : (q'.1 == t.num) = false := by simp [h1]
                        have H1 := Lib.hid h1
                        clear h1
                        go_wp2_with fail
                        go_roundw
                        case rel => exact ⟨q + 1, false, by omega, by go_num, rfl, by rw [HIN.out, ← HB.out]; simp [Prod.ext_iff, H1.out], HZB.out⟩
                        case measure => simp [intOf]; omega
                  · obtain rfl : q = j := by omega
                    have htk : ps.take q = ps := by rw [HM.out]; exact List.take_length
                    have hb : b = true ↔ (t.num, t.nd) ∈ ps := by have := HB.out; rwa [htk] at this
                    have HBB := Lib.hid hb
                    obtain ⟨f0, f1, f2, f3, f4, f5, f6⟩ := row7_facts (blk_below HYR.out hby)
                    clear f0 f1 f2 f4 f5 hby hb htk
                    have i1'' : ¬ ((q : Int) < (q : Int)) := by omega
                    have hfin : ∀ cc : Bool, (cc = true ↔ c2 = true ∧ ¬ (0 < t.en ∧ 0 < t.os.length ∧ b = false)) → (cc = true ↔ WhoP ts ps q ∧ InP ts ps (k + 1)) := fun cc h => by
                      rw [h, HINP.out, HC2.out, ← HBB.out, and_assoc]
                      refine and_congr_right fun _ => and_congr_right fun _ => ?_
                      cases b <;> simp
                    have HFIN := Lib.hid hfin
                    clear hfin
                    obtain ⟨tl, htl⟩ : ∃ tl, tl = t.os.length := ⟨_, rfl⟩
                    rw [← htl] at f6 HFIN
                    by_cases h1 : 0 < t.en
                    · have H1 := Lib.hid h1
                      by_cases h2 : 0 < tl
                      · have h2' : (0 : Int) < (tl : Int) := by omega
                        have H2 := Lib.hid h2
                        clear h2
                        cases b with
                        | true =>
                          go_wp2_with fail
                          go_roundw
                          case rel => exact ⟨k + 1, c2, by omega, by go_num, rfl, HFIN.out _ (by simp), HBX2.out⟩
                          case measure => simp [intOf]; omega
                        | false =>
                          go_wp2_with fail
                          go_roundw
                          case rel => exact ⟨k + 1, false, by omega, by go_num, rfl, HFIN.out _ (by simp [H1.out, H2.out]), HBX2.out⟩
                          case measure => simp [intOf]; omega
                      · have h2' : ¬ (0 : Int) < (tl : Int) := by omega
                        have h0 : tl = 0 := by omega
                        have H2 := Lib.hid h0
                        clear h2 h0
                        go_wp2_with fail
                        go_roundw
                        case rel => exact ⟨k + 1, c2, by omega, by go_num, rfl, HFIN.out _ (by simp [H2.out]), HBX2.out⟩
                        case measure => simp [intOf]; omega
                    · go_wp2_with fail
                      go_roundw
                      case rel => exact ⟨k + 1, c2, by omega, by go_num, rfl, HFIN.out _ (by
                        have : ¬ 0 < t.en := by omega
                        simp [this]), HBX2.out⟩
                      case measure => simp [intOf]; omega
              · obtain rfl : k = n := by omega
                have hall : InP ts ps k ↔ AllIn ts ps := by rw [HN.out]; exact inP_all
                have hc2 : c2 = true ↔ WhoP ts ps j ∧ AllIn ts ps := by rw [HC2.out, hall]
                have HC := Lib.hid hc2
                have b0 : wr.cell? ⟨w.heap.size, 0, none⟩ = some (.slice A k c) := row_at (HBX.out wr hbq) rfl
                have i2' : ¬ ((k : Int) < (k : Int)) := by omega
                have HTW := Lib.hid (HTI.out wr (HW.out wr hbq))
                have HBQ := Lib.hid hbq
                clear hall hc2 hbq
                go_wp2_with fail
                refine HTW.out.mono ?_
                rintro e w2 ⟨r1, rfl, hr1, hb2⟩
                have e1 : r1 = b1 := Bool.eq_iff_iff.2 (hr1.trans HT1.out.symm)
                subst e1
                have HB2 : Hid (Below X0.heap.size X0 w2) := HBQ.out.trans (hb2.mono HBQ.out.size)
                have b1' : w2.cell? ⟨w.heap.size, 0, none⟩ = some (.slice A k c) := row_at (HBX.out w2 HB2.out) rfl
                have HWW := Lib.hid (HWH.out w2 (HW.out w2 HB2.out))
                have hbb : (r1 == r1) = true := by simp
                clear hr1 hb2 b0 HTW
                go_wp2_with fail
                refine HWW.out.mono ?_
                rintro e w3 ⟨r2, rfl, hr2, hb3⟩
                have e2 : r2 = c2 := Bool.eq_iff_iff.2 (hr2.trans HC.out.symm)
                subst e2
                have HB3 : Hid (Below X0.heap.size X0 w3) := HB2.out.trans (hb3.mono HB2.out.size)
                have hcc : (r2 == r2) = true := by simp
                clear hr2 hb3 b1' HWW
                go_wp2_with fail
                go_ret
                exact ⟨rfl, HW.out _ HB3.out⟩
theorem orders_row {H : Type} {enc : TypeId × Value → H} {w : World} {base : Nat} {spare : Nat → Bool} {held : Bool} (v0 : Value) (ok0 : Value.okWide Try.prog w .any base 35 v0) (h0 : Reads1 enc Try.prog w 0 spare held 35 v0.cells.toList)
    (v1 : Value) (ok1 : Value.okWide Try.prog w .any base 41 v1) (h1 : Reads1 enc Try.prog w 0 spare held 41 v1.cells.toList) :
    Calls Try.prog 4 #[v0, v1] w fun e w' => e = .returned (.bool true) ∧ Below w.heap.size w w' := by
  obtain ⟨ts, hr, ht⟩ := txns_val ok0 h0
  obtain ⟨ps, hp, hi⟩ := tids_val ok1 h1
  obtain ⟨A, c, rfl⟩ : ∃ A c, v0 = .slice A ts.length c := by
    obtain ⟨_, A, c, e, _⟩ := hr; exact ⟨A, c, e⟩
  obtain ⟨B, d, rfl⟩ : ∃ B d, v1 = .slice B ps.length d := by
    obtain ⟨_, A, c, e, _⟩ := hp; exact ⟨A, c, e⟩
  exact orders_any w hr ht hp hi
#print axioms orders_row
end Go.Proofs.Ythkacajlbenflaa.HistA
