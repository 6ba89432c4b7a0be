/- NetTwice: a letter that is doubled is there twice. -/
import Derived.Test.YtpgcoopkileclaaNetO
set_option linter.unusedVariables false
set_option linter.unusedSimpArgs false
set_option linter.unusedSectionVars false
namespace Go.Proofs.Ytpgcoopkileclaa.NetA
open Go.RowKit Go.WideShapes Go.Deep Go.Proofs.Ytpgcoopkileclaa.Mem Go.Proofs.Ytpgcoopkileclaa.Open Go.Proofs.Ytpgcoopkileclaa.Bits
def exk (bs : List V2) : List (Int × B) := (List.range bs.length).map fun i : Nat => ((i : Int), (bs.getD i (.slice none 0 0, [])).2)
theorem exk_len (bs : List V2) : (exk bs).length = bs.length := by simp [exk]
theorem exk_at {bs : List V2} {i : Nat} {p : V2} (h : bs[i]? = some p) : (exk bs)[i]? = some ((i : Int), p.2) := by
  have hl := (List.getElem?_eq_some_iff.1 h).1
  have he := (List.getElem?_eq_some_iff.1 h).2
  simp [exk, hl, List.getD_eq_getElem?_getD, he]
theorem Spoilt.below {w w' : World} {base nb : Nat} {av : Value} {rs : List R3} {k : Nat} {r : R3} {i : Nat} {x : UInt8} (h : NetAt w base nb av rs) (hk : rs[k]? = some r) (hs : Spoilt w w' base nb av rs k r i x) (hbase : base ≤ w.heap.size) : Below base w w' :=
  hs.2.below hbase fun g _ hg => (h.foot (.inr (.inr ⟨r, List.mem_of_getElem? hk, hg⟩))).1
set_option maxHeartbeats 2000000 in
set_option maxRecDepth 100000 in
theorem twice_any (v0 : Value) (bs : List V2) (at_ i_ : Int) (y : UInt8) (hat : (Lit.int .i64 at_).wf = true) (hi : (Lit.int .i64 i_).wf = true) (w : World) (h : Lists w v0 bs) :
    Calls Try.prog 6 #[v0, .int .i64 at_, .int .i64 i_, .int .u8 (y.toNat : Int)] w fun e w' => e = .returned (.bool true) ∧ Below w.heap.size w w' := by
  obtain ⟨n, hn⟩ : ∃ n, n = bs.length := ⟨_, rfl⟩
  have hl0 := h.rd.len_le
  unfold maxLen at hl0
  obtain ⟨A0, c0, rfl⟩ : ∃ A c, v0 = .slice A n c := by
    obtain ⟨_, A, c, e, _⟩ := h.rd
    exact ⟨A, c, by rw [hn]; exact e⟩
  rw [← hn] at hl0
  have H := Lib.hid h
  have HN := Lib.hid hn
  clear h hn
  by_cases g1 : n = 0 ∨ 20 < n
  · go_enter Try.func6, Try.ntmps6
    go_wp2_with fail
    refine (head_any w).mono ?_
    rintro e w0 ⟨rfl, hb⟩
    have HB := Lib.hid hb
    clear hb
    by_cases g2 : 20 < n
    · have g3 : ¬ n = 0 := by omega
      have gz : ((n : Int) == 0) = false := by simp; omega
      go_wp2_with fail
      go_ret
      exact ⟨rfl, HB.out⟩
    · obtain rfl : n = 0 := by omega
      go_wp2_with fail
      go_ret
      exact ⟨rfl, HB.out⟩
  have g2 : n ≤ 20 := by omega
  have g3 : 0 < n := by omega
  have g4 : ¬ n = 0 := by omega
  have gz : ((n : Int) == 0) = false := by simp; omega
  have hal := andN_le at_ 255
  have hand : bits .and .i64 at_ 255 = (andN at_ 255 : Int) := and_eq at_ 255 (by decide)
  obtain ⟨m, hm⟩ : ∃ m, m = andN at_ 255 % n := ⟨_, rfl⟩
  have hmn : m < n := by rw [hm]; exact Nat.mod_lt _ g3
  have hmz : ((andN at_ 255 : Nat) : Int) % (n : Int) = (m : Int) := by rw [hm]; simp
  clear g1 hm
  go_enter Try.func6, Try.ntmps6
  go_wp2_with fail
  refine (head_any w).mono ?_
  rintro e w0 ⟨rfl, hb⟩
  have HB := Lib.hid hb
  have HL := Lib.hid (H.out.up hb)
  have hs0 := hb.size
  clear hb H
  go_wp2_with fail
  go_loopw [32] (fun i wr => ∃ (j : Nat) (av : Value) (rs : List R3), j ≤ n ∧ i = .int .i64 j ∧ said rs = (exk bs).take j ∧ NetAt wr w0.heap.size w0.heap.size av rs ∧ Below w0.heap.size w0 wr) (fun i _ => n - (intOf i).toNat)
  case atStart => exact ⟨0, _, [], by omega, rfl, rfl, NetAt.new w0, (Below.refl _ _).alloc (Nat.le_refl _) _⟩
  case round =>
    obtain ⟨j, av, rs, hj, rfl, hrs, hN, hbl⟩ := hrel
    have HN' := Lib.hid hN
    have HBL := Lib.hid hbl
    have hsr := hbl.size
    have HRS := Lib.hid hrs
    clear hN hbl hrs
    by_cases hlt : j < n
    · obtain ⟨p, hp⟩ : ∃ p, bs[j]? = some p := ⟨bs[j]'(by rw [← HN.out]; omega), List.getElem?_eq_getElem _⟩
      obtain ⟨pv, pb⟩ := p
      obtain ⟨g, off, ce, hv0, hg, _, _, hx⟩ := HL.out.rd.cells (by rw [← HN.out]; omega)
      injection hv0 with hv01 hv00 hv02
      clear hv00
      subst hv01 hv02
      have k0 : wr.cell? ⟨g, off + j, none⟩ = some pv := (HBL.out.cell (p := ⟨g, off + j, none⟩) hg).trans (hx _ _ (by simp [hp]))
      have hR := ((HL.out.each _ (List.mem_of_getElem? hp)).below HBL.out).more hsr
      obtain ⟨Ab, cb, hpv⟩ : ∃ A c, pv = .slice A pb.length c := by
        obtain ⟨_, A, c, e, _⟩ := hR
        exact ⟨A, c, e⟩
      subst hpv
      have HR := Lib.hid hR
      have hrl : rs.length = j := by rw [← said_len, HRS.out, List.length_take, exk_len, ← HN.out]; omega
      have hex : (exk bs).take (j + 1) = said rs ++ [((j : Int), pb)] := by rw [List.take_add_one, exk_at hp, ← HRS.out]; rfl
      have HEX := Lib.hid hex
      clear hx hR hex hp
      by_cases g200 : 200 < pb.length
      · go_wp2_with fail
        go_ret
        exact ⟨rfl, HB.out.trans (HBL.out.mono hs0)⟩
      go_wp2_with fail
      refine (HN'.out.send_ok hsr (by omega) (by omega) (by omega) HR.out).mono ?_
      rintro e w1 ⟨rfl, hS⟩
      have hb1 := hS.below HN'.out hsr
      obtain ⟨av', v', hN2, _, _, _⟩ := hS
      have HN2 := Lib.hid hN2
      have HB1 := Lib.hid hb1
      clear hb1 hN2
      go_wp2_with fail
      go_roundw
      case rel => exact ⟨j + 1, av', _, by omega, by go_num, by rw [said_append, HEX.out]; rfl, HN2.out, HBL.out.trans HB1.out⟩
      case measure => simp [intOf]; omega
    · obtain rfl : j = n := by omega
      obtain ⟨⟨pv, pb⟩, hp⟩ : ∃ p, bs[m]? = some p := ⟨bs[m]'(by rw [← HN.out]; omega), List.getElem?_eq_getElem _⟩
      have hrl : rs.length = j := by rw [← said_len, HRS.out, List.length_take, exk_len, ← HN.out]; omega
      obtain ⟨lv, hr0⟩ : ∃ v, rs[m]? = some ((m : Int), v, pb) := said_at (by rw [HRS.out, List.getElem?_take, if_pos hmn]; exact exk_at hp)
      obtain ⟨g, off, ce, hv0, hg, _, _, hx⟩ := HL.out.rd.cells (by rw [← HN.out]; omega)
      injection hv0 with hv01 hv00 hv02
      clear hv00
      subst hv01 hv02
      have k0 := hx m pv (by simp [hp])
      have hR0 := HL.out.each _ (List.mem_of_getElem? hp)
      have hsm := HN'.out.small _ (List.mem_of_getElem? hr0)
      dsimp only at hsm
      obtain ⟨Ab, cb, hpv⟩ : ∃ A c, pv = .slice A pb.length c := by
        obtain ⟨_, A, c, e, _⟩ := hR0
        exact ⟨A, c, e⟩
      subst hpv
      have HK0 := Lib.hid k0
      have HR := Lib.hid hR0
      have HR0 := Lib.hid hr0
      clear hx hR0 k0 hr0 hp hj hlt
      go_wp2_with fail
      refine (HN'.out.twice_ok hsr (by omega) HR0.out).mono ?_
      rintro e w1 ⟨rfl, hS⟩
      have hb1 := hS.below HN'.out hsr
      obtain ⟨av1, v1, hN1, _, _, _⟩ := hS
      have HN1 := Lib.hid hN1
      have HB1 : Hid (Below w0.heap.size w0 w1) := HBL.out.trans hb1
      have hs1 := HB1.out.size
      have hrl1 : (((rs ++ [((m : Int), v1, pb)]).length : Nat) : Int) = (j : Int) + 1 := by simp [hrl]
      have hr1 : (rs ++ [((m : Int), v1, pb)])[m]? = some ((m : Int), lv, pb) := by rw [List.getElem?_append_left (by omega)]; exact HR0.out
      have hr2 : (rs ++ [((m : Int), v1, pb)])[j]? = some ((m : Int), v1, pb) := by rw [List.getElem?_append_right (by omega), hrl]; simp
      have HR1 := Lib.hid hr1
      have HR2 := Lib.hid hr2
      have HRL1 := Lib.hid hrl1
      clear hb1 hN1 hr1 hr2 hrl1
      go_wp2_with fail
      refine HN1.out.len_any.mono ?_
      rintro e w2 ⟨he, rfl⟩
      rw [HRL1.out] at he
      subst he
      have ewj : IntKind.i64.wrap ((j : Int) + 1) = (j : Int) + 1 := by rw [IntKind.wrap_i64]; omega
      have hm0 : (0 : Int) ≤ (m : Int) := by omega
      have hm1 : (m : Int) < (j : Int) := by omega
      go_wp2_with fail
      by_cases hin : 0 ≤ i_ ∧ i_ < (pb.length : Int)
      · obtain ⟨ii, rfl⟩ : ∃ ii : Nat, i_ = (ii : Int) := ⟨i_.toNat, by omega⟩
        obtain ⟨x, hx⟩ : ∃ x, pb[ii]? = some x := ⟨pb[ii]'(by omega), List.getElem?_eq_getElem _⟩
        refine (HN1.out.spoil_ok HR1.out hx y).mono ?_
        rintro e w3 ⟨rfl, hSp⟩
        have hb3 := hSp.below HN1.out HR1.out hs1
        obtain ⟨hN3, _⟩ := hSp
        obtain ⟨rs3, hrs3⟩ : ∃ rs3, rs3 = (rs ++ [((m : Int), v1, pb)]).set m ((m : Int), lv, pb.set ii (x ^^^ y)) := ⟨_, rfl⟩
        dsimp only at hN3
        rw [← hrs3] at hN3
        have HN3 := Lib.hid hN3
        have HB3 : Hid (Below w0.heap.size w0 w3) := HB1.out.trans hb3
        have hlen' : (rs ++ [((m : Int), v1, pb)]).length = j + 1 := by simp [hrl]
        have HR3m : Hid (rs3[m]? = some ((m : Int), lv, pb.set ii (x ^^^ y))) := by
          rw [hrs3, List.getElem?_set, if_pos rfl, if_pos (by omega)]; exact Lib.hid rfl
        have HR3j : Hid (rs3[j]? = some ((m : Int), v1, pb)) := by
          rw [hrs3, List.getElem?_set, if_neg (by omega), HR2.out]; exact Lib.hid rfl
        obtain ⟨hi0, hi1⟩ := hin
        have hxy := xor_u8 x y
        have HXI := Lib.hid hx
        have k0 : w3.cell? ⟨g, off + m, none⟩ = some (.slice Ab pb.length cb) := (HB3.out.cell (p := ⟨g, off + m, none⟩) hg).trans HK0.out
        clear hb3 hN3 hlen' hrs3 hx HN1 HR1 HR2
        go_wp2_with fail
        have hs3 := HB3.out.size
        refine (HN3.out.at_in HR3m.out).mono ?_
        rintro e w4 ⟨v4, rfl, hv4, hb4⟩
        obtain ⟨A4, c4, rfl, _⟩ := hv4.slice_
        dsimp only at hv4
        rw [List.length_set] at hv4
        simp only [List.length_set]
        have HN4 := Lib.hid (HN3.out.below hb4)
        have HB4 : Hid (Below w0.heap.size w0 w4) := HB3.out.trans (hb4.mono hs3)
        have hs4 := HB4.out.size
        have hs34 := hb4.size
        have HV4 := Lib.hid hv4
        clear hb4 hv4 k0
        go_wp2_with fail
        refine ((HN4.out.alloc (.cells #[.int .i64 (m : Int), .slice A4 pb.length c4] 33)).take_in (by simp; omega) HR3j.out).mono ?_
        rintro e w5 ⟨v5, rfl, hv5, hT⟩
        have hb5 := hT.below (HN4.out.alloc _) (by simp; omega)
        obtain ⟨av5, _, hf5, _⟩ := hT
        obtain ⟨A5, c5, rfl, _⟩ := hv5.slice_
        have hB5 : Below w0.heap.size w0 w5 := (HB4.out.alloc hs4 _).trans hb5
        have hs5 := hf5.size
        simp only [World.size_alloc] at hs5
        have hfoot : ∀ g', (g' = w0.heap.size ∨ av1.ownBlock = some g') → g' < w3.heap.size := fun g' hg' => (HN3.out.foot (hg'.elim .inl (fun h => .inr (.inl h)))).2
        have hablk : w5.heap[w4.heap.size]? = some (.cells #[.int .i64 (m : Int), .slice A4 pb.length c4] 33 (0, 0)) := hf5.blk (heap_alloc_new w4 _) (fun e => by have := hfoot _ e; omega)
        obtain ⟨W, hW⟩ : ∃ W, W = w5.alloc (.cells #[.int .i64 (m : Int), .slice A5 pb.length c5] 33) := ⟨_, rfl⟩
        have hBW : Below w0.heap.size w0 W := by rw [hW]; exact hB5.alloc (by omega) _
        have hWa : W.heap[w4.heap.size]? = some (.cells #[.int .i64 (m : Int), .slice A4 pb.length c4] 33 (0, 0)) := by rw [hW]; exact (Below.heap_alloc _ _ _ (by omega)).trans hablk
        have hWb : W.heap[w5.heap.size]? = some (.cells #[.int .i64 (m : Int), .slice A5 pb.length c5] 33 (0, 0)) := by rw [hW]; exact heap_alloc_new w5 _
        obtain ⟨a0, a1, _, _⟩ := Res.row2_facts hWa
        obtain ⟨b0, b1, _, _⟩ := Res.row2_facts hWb
        have l0 : W.cell? ⟨g, off + m, none⟩ = some (.slice Ab pb.length cb) := (hBW.cell (p := ⟨g, off + m, none⟩) hg).trans HK0.out
        have hVa : Own W w3.heap.size 5 1 (.slice A4 pb.length c4) pb.length (bc (pb.set ii (x ^^^ y))) := by
          rw [hW]
          exact ((HV4.out.alloc _).fr hf5 (fun g' hg' e => by have := hfoot g' e; have := (HV4.out.lt g' hg').1; omega)).alloc _
        have hVb : Own W (w4.alloc (.cells #[.int .i64 (m : Int), .slice A4 pb.length c4] 33)).heap.size 5 1 (.slice A5 pb.length c5) pb.length (bc pb) := by rw [hW]; exact hv5.alloc _
        have hsb := fun N => run_str (hVb.rd.drewN N)
        have hsl := fun N => run_str (((HR.out.below hBW).drewN N))
        have HVA := Lib.hid hVa
        have HBW0 := Lib.hid hBW
        have HBW : Hid (Below w.heap.size w W) := HB.out.trans (hBW.mono hs0)
        have HW := Lib.hid hW
        try dsimp only at hsb
        try dsimp only at hsl
        clear hb5 hf5 hB5 hablk hBW hWa hWb hVb hv5 HB4 HN4 HB3 HN3 HBL HN' HB1 HR3m HR3j hVa HV4
        go_wp2_with fail
        rw [← HW.out]
        clear HW hW
        obtain ⟨g4, off4, c4', cur4, hA4, _, hcur4, _, _, _, hcc4⟩ := HVA.out.form (by omega)
        injection hA4 with hA41 hA40 hA42
        clear hA40
        subst hA41 hA42
        have hbm : pb.length = pb.length := rfl
        obtain ⟨g6, off6, hAb, _, hxx⟩ : ∃ g6 off6, Ab = some ⟨g6, off6, none⟩ ∧ g6 < w0.heap.size ∧ ∀ jj u, (bc pb)[jj]? = some u → w0.cell? ⟨g6, off6 + jj, none⟩ = some u := by
          obtain ⟨_, A, c, e, _, _, hq⟩ := HR.out
          injection e with e1 _ _
          subst e1
          obtain ⟨g6, off6, e, h1, h2⟩ := hq (by show 0 < pb.length; omega)
          exact ⟨g6, off6, e, h1, h2⟩
        subst hAb
        have r0 : W.cell? ⟨g4, off4 + ii, none⟩ = some (.int .u8 ((x ^^^ y).toNat : Int)) := by
          rw [cell_of_row _ _ _ _ _ _ hcur4]
          exact own_cells hcc4 (bc_at (by rw [List.getElem?_set, if_pos rfl, if_pos (by omega)]))
        have r1 : W.cell? ⟨g6, off6 + ii, none⟩ = some (.int .u8 (x.toNat : Int)) := (HBW0.out.cell (p := ⟨g6, off6 + ii, none⟩) (by assumption)).trans (hxx ii _ (bc_at HXI.out))
        clear hcur4 hcc4 hxx
        go_quiet (fail)
        go_wp2_with fail
        go_quiet (fail)
        go_wp2_with fail
        go_ret
        exact ⟨rfl, below_drewN (below_drewN HBW.out _) _⟩
      · refine (HN1.out.spoil_past HR1.out (i := i_) hin _).mono ?_
        rintro e w3 ⟨rfl, rfl⟩
        have HN3 := HN1
        have HB3 := HB1
        have HR3m := HR1
        have HR3j := HR2
        have k0 : w3.cell? ⟨g, off + m, none⟩ = some (.slice Ab pb.length cb) := (HB3.out.cell (p := ⟨g, off + m, none⟩) hg).trans HK0.out
        clear HN1 HR1 HR2
        by_cases hneg : i_ < 0
        · go_wp2_with fail
          have hs3 := HB3.out.size
          refine (HN3.out.at_in HR3m.out).mono ?_
          rintro e w4 ⟨v4, rfl, hv4, hb4⟩
          obtain ⟨A4, c4, rfl, _⟩ := hv4.slice_
          have HN4 := Lib.hid (HN3.out.below hb4)
          have HB4 : Hid (Below w0.heap.size w0 w4) := HB3.out.trans (hb4.mono hs3)
          have hs4 := HB4.out.size
          have hs34 := hb4.size
          have HV4 := Lib.hid hv4
          clear hb4 hv4 k0
          go_wp2_with fail
          refine ((HN4.out.alloc (.cells #[.int .i64 (m : Int), .slice A4 pb.length c4] 33)).take_in (by simp; omega) HR3j.out).mono ?_
          rintro e w5 ⟨v5, rfl, hv5, hT⟩
          have hb5 := hT.below (HN4.out.alloc _) (by simp; omega)
          obtain ⟨av5, _, hf5, _⟩ := hT
          obtain ⟨A5, c5, rfl, _⟩ := hv5.slice_
          have hB5 : Below w0.heap.size w0 w5 := (HB4.out.alloc hs4 _).trans hb5
          have hs5 := hf5.size
          simp only [World.size_alloc] at hs5
          have hfoot : ∀ g', (g' = w0.heap.size ∨ av1.ownBlock = some g') → g' < w3.heap.size := fun g' hg' => (HN3.out.foot (hg'.elim .inl (fun h => .inr (.inl h)))).2
          have hablk : w5.heap[w4.heap.size]? = some (.cells #[.int .i64 (m : Int), .slice A4 pb.length c4] 33 (0, 0)) := hf5.blk (heap_alloc_new w4 _) (fun e => by have := hfoot _ e; omega)
          obtain ⟨W, hW⟩ : ∃ W, W = w5.alloc (.cells #[.int .i64 (m : Int), .slice A5 pb.length c5] 33) := ⟨_, rfl⟩
          have hBW : Below w0.heap.size w0 W := by rw [hW]; exact hB5.alloc (by omega) _
          have hWa : W.heap[w4.heap.size]? = some (.cells #[.int .i64 (m : Int), .slice A4 pb.length c4] 33 (0, 0)) := by rw [hW]; exact (Below.heap_alloc _ _ _ (by omega)).trans hablk
          have hWb : W.heap[w5.heap.size]? = some (.cells #[.int .i64 (m : Int), .slice A5 pb.length c5] 33 (0, 0)) := by rw [hW]; exact heap_alloc_new w5 _
          obtain ⟨a0, a1, _, _⟩ := Res.row2_facts hWa
          obtain ⟨b0, b1, _, _⟩ := Res.row2_facts hWb
          have l0 : W.cell? ⟨g, off + m, none⟩ = some (.slice Ab pb.length cb) := (hBW.cell (p := ⟨g, off + m, none⟩) hg).trans HK0.out
          have hVa : Own W w3.heap.size 5 1 (.slice A4 pb.length c4) pb.length (bc pb) := by
            rw [hW]
            exact ((HV4.out.alloc _).fr hf5 (fun g' hg' e => by have := hfoot g' e; have := (HV4.out.lt g' hg').1; omega)).alloc _
          have hVb : Own W (w4.alloc (.cells #[.int .i64 (m : Int), .slice A4 pb.length c4] 33)).heap.size 5 1 (.slice A5 pb.length c5) pb.length (bc pb) := by rw [hW]; exact hv5.alloc _
          have HRW := Lib.hid (HR.out.below hBW)
          have hsb := fun N => run_str (hVb.rd.drewN N)
          have hsl := fun N => run_str (((HR.out.below hBW).drewN N))
          have HVA := Lib.hid hVa
          have HBW : Hid (Below w.heap.size w W) := HB.out.trans (hBW.mono hs0)
          have HW := Lib.hid hW
          try dsimp only at hsb
          try dsimp only at hsl
          clear hb5 hf5 hB5 hablk hBW hWa hWb hVb hv5 HB4 HN4 HB3 HN3 HBL HN' HB1 HR3m HR3j hVa HV4
          go_wp2_with fail
          rw [← HW.out]
          clear HW hW
          have hsa := fun N => run_str (HVA.out.rd.drewN N)
          have hsl2 := fun N M => run_str ((HRW.out.drewN N).drewN M)
          have hsa2 := fun N M => run_str ((HVA.out.rd.drewN N).drewN M)
          try dsimp only at hsl2
          go_quiet (fail)
          go_wp2_with fail
          go_quiet (fail)
          go_wp2_with fail
          go_ret
          exact ⟨rfl, below_drewN (below_drewN HBW.out _) _⟩
        · have hge : (pb.length : Int) ≤ i_ := by omega
          have hge0 : 0 ≤ i_ := by omega
          have hnl : decide (i_ < (pb.length : Int)) = false := decide_eq_false (by omega)
          go_wp2_with fail
          have hs3 := HB3.out.size
          refine (HN3.out.at_in HR3m.out).mono ?_
          rintro e w4 ⟨v4, rfl, hv4, hb4⟩
          obtain ⟨A4, c4, rfl, _⟩ := hv4.slice_
          have HN4 := Lib.hid (HN3.out.below hb4)
          have HB4 : Hid (Below w0.heap.size w0 w4) := HB3.out.trans (hb4.mono hs3)
          have hs4 := HB4.out.size
          have hs34 := hb4.size
          have HV4 := Lib.hid hv4
          clear hb4 hv4 k0
          go_wp2_with fail
          refine ((HN4.out.alloc (.cells #[.int .i64 (m : Int), .slice A4 pb.length c4] 33)).take_in (by simp; omega) HR3j.out).mono ?_
          rintro e w5 ⟨v5, rfl, hv5, hT⟩
          have hb5 := hT.below (HN4.out.alloc _) (by simp; omega)
          obtain ⟨av5, _, hf5, _⟩ := hT
          obtain ⟨A5, c5, rfl, _⟩ := hv5.slice_
          have hB5 : Below w0.heap.size w0 w5 := (HB4.out.alloc hs4 _).trans hb5
          have hs5 := hf5.size
          simp only [World.size_alloc] at hs5
          have hfoot : ∀ g', (g' = w0.heap.size ∨ av1.ownBlock = some g') → g' < w3.heap.size := fun g' hg' => (HN3.out.foot (hg'.elim .inl (fun h => .inr (.inl h)))).2
          have hablk : w5.heap[w4.heap.size]? = some (.cells #[.int .i64 (m : Int), .slice A4 pb.length c4] 33 (0, 0)) := hf5.blk (heap_alloc_new w4 _) (fun e => by have := hfoot _ e; omega)
          obtain ⟨W, hW⟩ : ∃ W, W = w5.alloc (.cells #[.int .i64 (m : Int), .slice A5 pb.length c5] 33) := ⟨_, rfl⟩
          have hBW : Below w0.heap.size w0 W := by rw [hW]; exact hB5.alloc (by omega) _
          have hWa : W.heap[w4.heap.size]? = some (.cells #[.int .i64 (m : Int), .slice A4 pb.length c4] 33 (0, 0)) := by rw [hW]; exact (Below.heap_alloc _ _ _ (by omega)).trans hablk
          have hWb : W.heap[w5.heap.size]? = some (.cells #[.int .i64 (m : Int), .slice A5 pb.length c5] 33 (0, 0)) := by rw [hW]; exact heap_alloc_new w5 _
          obtain ⟨a0, a1, _, _⟩ := Res.row2_facts hWa
          obtain ⟨b0, b1, _, _⟩ := Res.row2_facts hWb
          have l0 : W.cell? ⟨g, off + m, none⟩ = some (.slice Ab pb.length cb) := (hBW.cell (p := ⟨g, off + m, none⟩) hg).trans HK0.out
          have hVa : Own W w3.heap.size 5 1 (.slice A4 pb.length c4) pb.length (bc pb) := by
            rw [hW]
            exact ((HV4.out.alloc _).fr hf5 (fun g' hg' e => by have := hfoot g' e; have := (HV4.out.lt g' hg').1; omega)).alloc _
          have hVb : Own W (w4.alloc (.cells #[.int .i64 (m : Int), .slice A4 pb.length c4] 33)).heap.size 5 1 (.slice A5 pb.length c5) pb.length (bc pb) := by rw [hW]; exact hv5.alloc _
          have HRW := Lib.hid (HR.out.below hBW)
          have hsb := fun N => run_str (hVb.rd.drewN N)
          have hsl := fun N => run_str (((HR.out.below hBW).drewN N))
          have HVA := Lib.hid hVa
          have HBW : Hid (Below w.heap.size w W) := HB.out.trans (hBW.mono hs0)
          have HW := Lib.hid hW
          try dsimp only at hsb
          try dsimp only at hsl
          clear hb5 hf5 hB5 hablk hBW hWa hWb hVb hv5 HB4 HN4 HB3 HN3 HBL HN' HB1 HR3m HR3j hVa HV4
          go_wp2_with fail
          rw [← HW.out]
          clear HW hW
          have hsa := fun N => run_str (HVA.out.rd.drewN N)
          have hsl2 := fun N M => run_str ((HRW.out.drewN N).drewN M)
          have hsa2 := fun N M => run_str ((HVA.out.rd.drewN N).drewN M)
          try dsimp only at hsl2
          go_quiet (fail)
          go_wp2_with fail
          go_quiet (fail)
          go_wp2_with fail
          go_ret
          exact ⟨rfl, below_drewN (below_drewN HBW.out _) _⟩
#print axioms twice_any
theorem twice_row {H : Type} {enc : TypeId × Value → H} {w : World} {base : Nat} {spare : Nat → Bool} {held : Bool}
    (v0 : Value) (ok0 : Value.okWide Try.prog w .any base 22 v0) (h0 : Reads1 enc Try.prog w 0 spare held 22 v0.cells.toList)
    (at_ : Int) (hat : (Lit.int .i64 at_).wf = true) (i_ : Int) (hi : (Lit.int .i64 i_).wf = true) (bits : Int) (hb : (Lit.int .u8 bits).wf = true) :
    Calls Try.prog 6 #[v0, .int .i64 at_, .int .i64 i_, .int .u8 bits] w fun e w' => e = .returned (.bool true) ∧ Below w.heap.size w w' := by
  obtain ⟨bs, hbs⟩ := lists_val ok0 h0
  obtain ⟨y, rfl⟩ := u8_of hb
  exact twice_any v0 bs at_ i_ y hat hi w hbs
#print axioms twice_row
end Go.Proofs.Ytpgcoopkileclaa.NetA
