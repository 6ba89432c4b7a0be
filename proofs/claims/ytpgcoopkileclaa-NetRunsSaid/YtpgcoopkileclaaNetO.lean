/- NetOrder: letters come in the order in which they were sent. -/
import Derived.Test.YtpgcoopkileclaaNetM
set_option linter.unusedVariables false
set_option linter.unusedSimpArgs false
set_option linter.unusedSectionVars false
namespace Go.Proofs.Ytpgcoopkileclaa.NetA
open Go.RowKit Go.WideShapes Go.Deep Go.Proofs.Ytpgcoopkileclaa.Mem Go.Proofs.Ytpgcoopkileclaa.Open Go.Proofs.Ytpgcoopkileclaa.Bits
abbrev V2 := Value × B
/-- What a net says, letter by letter. -/
def said (rs : List R3) : List (Int × B) := rs.map fun r => (r.1, r.2.2)
theorem said_len (rs : List R3) : (said rs).length = rs.length := by simp [said]
theorem said_append (rs ss : List R3) : said (rs ++ ss) = said rs ++ said ss := by simp [said]
theorem said_at {rs : List R3} {i : Nat} {p : Int × B} (h : (said rs)[i]? = some p) : ∃ v, rs[i]? = some (p.1, v, p.2) := by
  simp only [said, List.getElem?_map] at h
  cases hr : rs[i]? with
  | none => rw [hr] at h; cases h
  | some r =>
    rw [hr] at h
    injection h with h
    subst h
    exact ⟨r.2.1, rfl⟩
/-- A list of byte slices, read. -/
structure Lists (w : World) (v : Value) (bs : List V2) : Prop where
  rd : Rd w w.heap.size 1 v bs.length (bs.map (·.1))
  each : ∀ p ∈ bs, Rd w w.heap.size 1 p.1 p.2.length (bc p.2)
theorem Lists.up {w w' : World} {v : Value} {bs : List V2} (h : Lists w v bs) (hb : Below w.heap.size w w') : Lists w' v bs := ⟨h.rd.up hb, fun p hp => (h.each p hp).up hb⟩
/-- To whom the i-th is sent. -/
def atOf (ts : List Int) (i : Nat) : Int := if i < ts.length then (andN (ts.getD i 0) 63 : Int) else 0
theorem atOf_ok (ts : List Int) (i : Nat) : 0 ≤ atOf ts i ∧ atOf ts i < 64 := by
  unfold atOf
  split
  · have := andN_le (ts.getD i 0) 63; omega
  · omega
def exp (ts : List Int) (bs : List V2) : List (Int × B) := (List.range bs.length).map fun i => (atOf ts i, (bs.getD i (.slice none 0 0, [])).2)
theorem exp_len (ts : List Int) (bs : List V2) : (exp ts bs).length = bs.length := by simp [exp]
theorem exp_at {ts : List Int} {bs : List V2} {i : Nat} {p : V2} (h : bs[i]? = some p) : (exp ts bs)[i]? = some (atOf ts i, p.2) := by
  have hl := (List.getElem?_eq_some_iff.1 h).1
  have he := (List.getElem?_eq_some_iff.1 h).2
  simp [exp, hl, List.getD_eq_getElem?_getD, he]
def ic (ts : List Int) : List Value := ts.map (.int .i64)
theorem ic_at {ts : List Int} {i : Nat} {x : Int} (h : ts[i]? = some x) : (ic ts)[i]? = some (.int .i64 x) := by simp [ic, h]
set_option maxHeartbeats 2000000 in
set_option maxRecDepth 100000 in
theorem order_any (v0 v1 : Value) (bs : List V2) (ts : List Int) (w : World) (h : Lists w v0 bs) (ht : Rd w w.heap.size 1 v1 ts.length (ic ts)) :
    Calls Try.prog 3 #[v0, v1] w fun e w' => e = .returned (.bool true) ∧ Below w.heap.size w w' := by
  obtain ⟨n, hn⟩ : ∃ n, n = bs.length := ⟨_, rfl⟩
  obtain ⟨m, hm⟩ : ∃ m, m = ts.length := ⟨_, rfl⟩
  have hl0 := h.rd.len_le
  have hl1 := ht.len_le
  unfold maxLen at hl0 hl1
  obtain ⟨A0, c0, rfl⟩ : ∃ A c, v0 = .slice A n c := by
    obtain ⟨_, A, c, e, _⟩ := h.rd
    exact ⟨A, c, by rw [hn]; exact e⟩
  obtain ⟨A1, c1, rfl⟩ : ∃ A c, v1 = .slice A m c := by
    obtain ⟨_, A, c, e, _⟩ := ht
    exact ⟨A, c, by rw [hm]; exact e⟩
  rw [← hn] at hl0
  rw [← hm] at hl1
  have H := Lib.hid h
  have HT := Lib.hid ht
  have HN := Lib.hid hn
  have HM := Lib.hid hm
  clear h ht hn hm
  by_cases g1 : 30 < n ∨ 30 < m
  · go_enter Try.func3, Try.ntmps3
    go_wp2_with fail
    refine (head_any w).mono ?_
    rintro e w0 ⟨rfl, hb⟩
    have HB := Lib.hid hb
    clear hb
    by_cases g2 : 30 < n
    · go_wp2_with fail
      go_ret
      exact ⟨rfl, HB.out⟩
    · have g3 : 30 < m := by omega
      go_wp2_with fail
      go_ret
      exact ⟨rfl, HB.out⟩
  have g2 : n ≤ 30 := by omega
  have g3 : m ≤ 30 := by omega
  clear g1
  go_enter Try.func3, Try.ntmps3
  go_wp2_with fail
  refine (head_any w).mono ?_
  rintro e w0 ⟨rfl, hb⟩
  have HB := Lib.hid hb
  have HL := Lib.hid (H.out.up hb)
  have HT0 := Lib.hid (HT.out.up hb)
  have hs0 := hb.size
  clear hb H HT
  go_wp2_with fail
  go_loopw [8, 30] (fun _ i wr => ∃ (j : Nat) (av : Value) (rs : List R3), j ≤ n ∧ i = .int .i64 j ∧ said rs = (exp ts bs).take j ∧ NetAt wr w0.heap.size w0.heap.size av rs ∧ Below w0.heap.size w0 wr) (fun _ i _ => n - (intOf i).toNat)
  case atStart => exact ⟨0, _, [], by omega, rfl, rfl, NetAt.new w0, (Below.refl _ _).alloc (Nat.le_refl _) _⟩
  case round =>
    obtain ⟨j, av, rs, hj, rfl, hrs, hN, hbl⟩ := hrel
    have HN' := Lib.hid hN
    have HBL := Lib.hid hbl
    have hsr := hbl.size
    have HRS := Lib.hid hrs
    clear hN hbl hrs
    by_cases hlt : j < n
    · obtain ⟨p, hp⟩ : ∃ p, bs[j]? = some p := ⟨bs[j]'(by rw [← HN.out]; omega), List.getElem?_eq_getElem _⟩
      obtain ⟨pv, pb⟩ := p
      obtain ⟨g, off, ce, hv0, hg, _, _, hx⟩ := HL.out.rd.cells (by rw [← HN.out]; omega)
      injection hv0 with hv01 hv00 hv02
      clear hv00
      subst hv01 hv02
      have k0 : wr.cell? ⟨g, off + j, none⟩ = some pv := (HBL.out.cell (p := ⟨g, off + j, none⟩) hg).trans (hx _ _ (by simp [hp]))
      have hR := ((HL.out.each _ (List.mem_of_getElem? hp)).below HBL.out).more hsr
      obtain ⟨Ab, cb, hpv⟩ : ∃ A c, pv = .slice A pb.length c := by
        obtain ⟨_, A, c, e, _⟩ := hR
        exact ⟨A, c, e⟩
      subst hpv
      have HR := Lib.hid hR
      have hrl : rs.length = j := by rw [← said_len, HRS.out, List.length_take, exp_len, ← HN.out]; omega
      have hex : (exp ts bs).take (j + 1) = said rs ++ [(atOf ts j, pb)] := by rw [List.take_add_one, exp_at hp, ← HRS.out]; rfl
      have hao := atOf_ok ts j
      have HEX := Lib.hid hex
      clear hx hR hex hp
      by_cases g200 : 200 < pb.length
      · go_wp2_with fail
        go_ret
        exact ⟨rfl, HB.out.trans (HBL.out.mono hs0)⟩
      by_cases hjm : j < m
      · obtain ⟨x, hx⟩ : ∃ x, ts[j]? = some x := ⟨ts[j]'(by rw [← HM.out]; omega), List.getElem?_eq_getElem _⟩
        obtain ⟨g', off', ce', hv1, hg', _, _, hx'⟩ := HT0.out.cells (by rw [← HM.out]; omega)
        injection hv1 with hv11 hv10 hv12
        clear hv10
        subst hv11 hv12
        have k1 : wr.cell? ⟨g', off' + j, none⟩ = some (.int .i64 x) := (HBL.out.cell (p := ⟨g', off' + j, none⟩) hg').trans (hx' _ _ (ic_at hx))
        have hand : bits .and .i64 x 63 = (andN x 63 : Int) := and_eq x 63 (by decide)
        have hat : atOf ts j = (andN x 63 : Int) := by unfold atOf; rw [if_pos (by rw [← HM.out]; omega), List.getD_eq_getElem?_getD, hx]; rfl
        rw [hat] at hao HEX
        clear hx hx' hat
        go_wp2_with fail
        refine (HN'.out.send_ok hsr hao (by omega) (by omega) HR.out).mono ?_
        rintro e w1 ⟨rfl, hS⟩
        have hb1 := hS.below HN'.out hsr
        obtain ⟨av', v', hN2, _, _, _⟩ := hS
        have HN2 := Lib.hid hN2
        have HB1 := Lib.hid hb1
        clear hb1 hN2
        go_wp2_with fail
        go_roundw
        case rel => exact ⟨j + 1, av', _, by omega, by go_num, by rw [said_append, HEX.out]; rfl, HN2.out, HBL.out.trans HB1.out⟩
        case measure => simp [intOf]; omega
      · have hat : atOf ts j = 0 := by unfold atOf; rw [if_neg (by rw [← HM.out]; omega)]
        rw [hat] at hao HEX
        clear hat
        go_wp2_with fail
        refine (HN'.out.send_ok hsr hao (by omega) (by omega) HR.out).mono ?_
        rintro e w1 ⟨rfl, hS⟩
        have hb1 := hS.below HN'.out hsr
        obtain ⟨av', v', hN2, _, _, _⟩ := hS
        have HN2 := Lib.hid hN2
        have HB1 := Lib.hid hb1
        clear hb1 hN2
        go_wp2_with fail
        go_roundw
        case rel => exact ⟨j + 1, av', _, by omega, by go_num, by rw [said_append, HEX.out]; rfl, HN2.out, HBL.out.trans HB1.out⟩
        case measure => simp [intOf]; omega
    · obtain rfl : j = n := by omega
      go_wp2_with fail
      have HN0 := HN'
      clear hj hlt
      go_loopw [13, 55] (fun _ i wr2 => ∃ (k : Nat) (av2 : Value) (rs2 : List R3), k ≤ j ∧ i = .int .i64 k ∧ said rs2 = (exp ts bs).drop k ∧ NetAt wr2 w0.heap.size w0.heap.size av2 rs2 ∧ Below w0.heap.size w0 wr2) (fun _ i _ => j - (intOf i).toNat)
      case atStart =>
        refine ⟨0, av, rs, by omega, rfl, ?_, HN0.out, HBL.out⟩
        rw [HRS.out, HN.out, ← exp_len ts bs, List.take_length, List.drop_zero]
      case round =>
        obtain ⟨k, av2, rs2, hk, rfl, hrs2, hN2, hbl2⟩ := hrel
        have HN2 := Lib.hid hN2
        have HBL2 := Lib.hid hbl2
        have hsr2 := hbl2.size
        have HRS2 := Lib.hid hrs2
        clear hN2 hbl2 hrs2
        by_cases hlt : k < j
        · obtain ⟨⟨pv, pb⟩, hp⟩ : ∃ p, bs[k]? = some p := ⟨bs[k]'(by rw [← HN.out]; omega), List.getElem?_eq_getElem _⟩
          obtain ⟨g, off, ce, hv0, hg, _, _, hx⟩ := HL.out.rd.cells (by rw [← HN.out]; omega)
          injection hv0 with hv01 hv00 hv02
          clear hv00
          subst hv01 hv02
          have k0 : wr.cell? ⟨g, off + k, none⟩ = some pv := (HBL2.out.cell (p := ⟨g, off + k, none⟩) hg).trans (hx _ _ (by simp [hp]))
          have hR0 := HL.out.each _ (List.mem_of_getElem? hp)
          obtain ⟨Ab, cb, hpv⟩ : ∃ A c, pv = .slice A pb.length c := by
            obtain ⟨_, A, c, e, _⟩ := hR0
            exact ⟨A, c, e⟩
          subst hpv
          have HR := Lib.hid hR0
          obtain ⟨lv, hr0⟩ : ∃ v, rs2[0]? = some (atOf ts k, v, pb) := said_at (by rw [HRS2.out, List.getElem?_drop, Nat.add_zero]; exact exp_at hp)
          have hl2 : rs2.length = j - k := by rw [← said_len, HRS2.out, List.length_drop, exp_len, ← HN.out]
          have HSD : Hid (said (rs2.take 0 ++ rs2.drop (0 + 1)) = (exp ts bs).drop (k + 1)) := by
            have : said (rs2.take 0 ++ rs2.drop (0 + 1)) = (said rs2).drop 1 := by simp [said]
            rw [this, HRS2.out, List.drop_drop]
            exact Lib.hid rfl
          have hl3 : ((rs2.take 0 ++ rs2.drop (0 + 1)).length : Int) = (j : Int) - 1 - (k : Int) := by simp; omega
          have ew1 : IntKind.i64.wrap ((j : Int) - 1) = (j : Int) - 1 := by rw [IntKind.wrap_i64]; omega
          have ew2 : IntKind.i64.wrap ((j : Int) - 1 - (k : Int)) = (j : Int) - 1 - (k : Int) := by rw [IntKind.wrap_i64]; omega
          have HR0 := Lib.hid hr0
          have HL3 := Lib.hid hl3
          clear hx hR0 hp hr0 hl3 hl2
          go_wp2_with fail
          refine (HN2.out.take_in hsr2 (i := 0) HR0.out).mono ?_
          rintro e w3 ⟨v3, rfl, hv3, hT⟩
          have hb3 := hT.below HN2.out hsr2
          obtain ⟨av3, hN3, _, _⟩ := hT
          have hB3 : Below w0.heap.size w0 w3 := HBL2.out.trans hb3
          have hs3 := hB3.size
          obtain ⟨A3, c3, rfl, _⟩ := hv3.slice_
          have hcs1 := run_str (hv3.alloc (.cells #[.int .i64 (atOf ts k), .slice A3 pb.length c3] 33)).rd
          have hcs2 := run_str ((HR.out.below hB3).alloc hs3 (.cells #[.int .i64 (atOf ts k), .slice A3 pb.length c3] 33))
          have HN3 := Lib.hid (hN3.alloc (.cells #[.int .i64 (atOf ts k), .slice A3 pb.length c3] 33))
          have HB3 := Lib.hid hB3
          clear hb3 hN3 hv3 hB3
          dsimp only at hcs1 hcs2
          by_cases hkm : k < m
          · obtain ⟨x, hx⟩ : ∃ x, ts[k]? = some x := ⟨ts[k]'(by rw [← HM.out]; omega), List.getElem?_eq_getElem _⟩
            obtain ⟨g', off', ce', hv1, hg', _, _, hx'⟩ := HT0.out.cells (by rw [← HM.out]; omega)
            injection hv1 with hv11 hv10 hv12
            clear hv10
            subst hv11 hv12
            have k1 : (w3.alloc (.cells #[.int .i64 (atOf ts k), .slice A3 pb.length c3] 33)).cell? ⟨g', off' + k, none⟩ = some (.int .i64 x) := (World.cell?_alloc_lt w3 _ ⟨g', off' + k, none⟩ (Nat.lt_of_lt_of_le hg' hs3)).trans ((HB3.out.cell (p := ⟨g', off' + k, none⟩) hg').trans (hx' _ _ (ic_at hx)))
            have hand : bits .and .i64 x 63 = (andN x 63 : Int) := and_eq x 63 (by decide)
            have hat : atOf ts k = (andN x 63 : Int) := by unfold atOf; rw [if_pos (by rw [← HM.out]; omega), List.getD_eq_getElem?_getD, hx]; rfl
            rw [hat] at hcs1 hcs2 k1 HN3 ⊢
            clear hx hx' hat
            go_wp2_with fail
            refine HN3.out.len_any.mono ?_
            rintro e w4 ⟨he, rfl⟩
            rw [HL3.out] at he
            subst he
            go_wp2_with fail
            go_roundw
            case rel => exact ⟨k + 1, av3, _, by omega, by go_num, HSD.out, HN3.out, HB3.out.alloc hs3 _⟩
            case measure => simp [intOf]; omega
          · have hat : atOf ts k = 0 := by unfold atOf; rw [if_neg (by rw [← HM.out]; omega)]
            rw [hat] at hcs1 hcs2 HN3 ⊢
            clear hat
            go_wp2_with fail
            refine HN3.out.len_any.mono ?_
            rintro e w4 ⟨he, rfl⟩
            rw [HL3.out] at he
            subst he
            go_wp2_with fail
            go_roundw
            case rel => exact ⟨k + 1, av3, _, by omega, by go_num, HSD.out, HN3.out, HB3.out.alloc hs3 _⟩
            case measure => simp [intOf]; omega
        · obtain rfl : k = j := by omega
          have hl2 : rs2.length = 0 := by rw [← said_len, HRS2.out, List.length_drop, exp_len, ← HN.out]; omega
          go_wp2_with fail
          refine (HN2.out.take_out (i := 0) (by omega)).mono ?_
          rintro e w3 ⟨rfl, hb3⟩
          have HB3 : Hid (Below w0.heap.size w0 w3) := HBL2.out.trans (hb3.mono hsr2)
          clear hb3
          go_wp2_with fail
          go_ret
          have hs3 := HB3.out.size
          exact ⟨rfl, HB.out.trans ((HB3.out.alloc hs3 _).mono hs0)⟩
#print axioms order_any
section
variable {H : Type} {enc : TypeId × Value → H} {w : World} {base : Nat} {spare : Nat → Bool} {held : Bool}
theorem lists_of {css : List (List Value)} (h : ∀ c ∈ css, c.length = 1 ∧ Reads1 enc Try.prog w base spare held 29 c) : ∃ bs : List V2, css.flatten = bs.map (·.1) ∧ css.length = bs.length ∧ ∀ p ∈ bs, Rd w w.heap.size 1 p.1 p.2.length (bc p.2) := by
  induction css with
  | nil => exact ⟨[], rfl, rfl, by simp⟩
  | cons c css ih =>
    obtain ⟨bs, e1, e2, e3⟩ := ih (fun c hc => h c (List.mem_cons_of_mem _ hc))
    obtain ⟨v, b, rfl, hr, _⟩ := bytes_val (h c (List.mem_cons_self ..)).2
    exact ⟨(v, b) :: bs, by rw [List.flatten_cons, e1]; rfl, by simp [e2], fun p hp => (List.mem_cons.1 hp).elim (fun e => by rw [e]; exact hr) (e3 p)⟩
theorem lists_val {v : Value} {r : Reach} {bb : Nat} (ok : Value.okWide Try.prog w r bb 22 v) (h : Reads1 enc Try.prog w base spare held 22 v.cells.toList) : ∃ bs : List V2, Lists w v bs := by
  obtain ⟨a, l, c, rfl⟩ := okWide_slice Try.underlying22 ok
  obtain ⟨v, n, css, e, rfl, hr, hc, _⟩ := reads_slice Try.underlying22 (k := 1) rfl (by omega) h
  have e' : [Value.slice a l c] = [v] := e
  injection e' with e'
  subst e'
  obtain ⟨bs, e1, e2, e3⟩ := lists_of hc
  rw [e1, e2] at hr
  exact ⟨bs, hr, e3⟩
theorem ints_of {css : List (List Value)} (h : ∀ c ∈ css, c.length = 1 ∧ Reads1 enc Try.prog w base spare held 3 c) : ∃ ts : List Int, css.flatten = ic ts ∧ css.length = ts.length := by
  induction css with
  | nil => exact ⟨[], rfl, rfl⟩
  | cons c css ih =>
    obtain ⟨ts, e1, e2⟩ := ih (fun c hc => h c (List.mem_cons_of_mem _ hc))
    obtain ⟨n, rfl, _⟩ := reads_int Try.underlying3 (h c (List.mem_cons_self ..)).2
    exact ⟨n :: ts, by rw [List.flatten_cons, e1]; rfl, by simp [e2]⟩
theorem ints_val {v : Value} {r : Reach} {bb : Nat} (ok : Value.okWide Try.prog w r bb 23 v) (h : Reads1 enc Try.prog w base spare held 23 v.cells.toList) : ∃ ts : List Int, Rd w w.heap.size 1 v ts.length (ic ts) := by
  obtain ⟨a, l, c, rfl⟩ := okWide_slice Try.underlying23 ok
  obtain ⟨v, n, css, e, rfl, hr, hc, _⟩ := reads_slice Try.underlying23 (k := 1) rfl (by omega) h
  have e' : [Value.slice a l c] = [v] := e
  injection e' with e'
  subst e'
  obtain ⟨ts, e1, e2⟩ := ints_of hc
  rw [e1, e2] at hr
  exact ⟨ts, hr⟩
end
theorem order_row {H : Type} {enc : TypeId × Value → H} {w : World} {base : Nat} {spare : Nat → Bool} {held : Bool}
    (v0 : Value) (ok0 : Value.okWide Try.prog w .any base 22 v0) (h0 : Reads1 enc Try.prog w 0 spare held 22 v0.cells.toList)
    (v1 : Value) (ok1 : Value.okWide Try.prog w .any base 23 v1) (h1 : Reads1 enc Try.prog w 0 spare held 23 v1.cells.toList) :
    Calls Try.prog 3 #[v0, v1] w fun e w' => e = .returned (.bool true) ∧ Below w.heap.size w w' := by
  obtain ⟨bs, hb⟩ := lists_val ok0 h0
  obtain ⟨ts, ht⟩ := ints_val ok1 h1
  exact order_any v0 v1 bs ts w hb ht
#print axioms order_row
end Go.Proofs.Ytpgcoopkileclaa.NetA
