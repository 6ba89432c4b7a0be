/- HistPlays: the walk. -/
import Derived.Test.YthkacajlbenflaaHistS
set_option linter.unusedVariables false
set_option linter.unusedSimpArgs false
set_option linter.unusedSectionVars false
namespace Go.Proofs.Ythkacajlbenflaa.HistA
open Go.RowKit Go.WideShapes Go.Deep Go.Proofs.Ythkacajlbenflaa.Mem Go.Proofs.Ythkacajlbenflaa.Open Go.Proofs.Ythkacajlbenflaa.KeyM Go.Proofs.Ythkacajlbenflaa.KeyN Go.Proofs.Ythkacajlbenflaa.Kv
attribute [local irreducible] withL withoutL
theorem copied {v : Value} {n : Nat} {xs : List Value} (w : World) (h : Rd w w.heap.size 2 v n xs) (h1 : One xs) (hb : n * 32 ≤ 140737488355328) :
    Does Try.prog (w.alloc (.cells #[] 48)) (Builtin.append_ #[46, 46] 46 #[.slice (some ⟨w.heap.size, 0, none⟩) 0 0, v]) fun v' w' => Own w' w.heap.size 48 2 v' n xs ∧ Below w.heap.size w w' := by
  have hlen := h.len_le
  obtain ⟨hl, A, c, rfl, hn, hc, ha⟩ := h
  obtain ⟨v', w', hr, ho, hg, hb', hnil⟩ := run_append (P := Try.prog) (w.alloc (.cells #[] 48)) (ty := 46) Try.underlying46 Try.underlying46 SlP.ty (base := w.heap.size) (v := .slice (some ⟨w.heap.size, 0, none⟩) 0 0) (n := 0) (xs := [])
    ⟨rfl, .inr ⟨w.heap.size, 0, 0, #[], rfl, Nat.le_refl _, heap_alloc_new w _, Nat.le_refl _, Nat.zero_le _, by simp, by simp⟩⟩ (A := A) (m := n) (c := c) (news := xs) hl
    (fun h0 => by
      obtain ⟨g, off, e, hg, hx⟩ := ha h0
      exact ⟨g, off, e, fun j u hu => (World.cell?_alloc_lt w _ ⟨g, off + j, none⟩ hg).trans (hx j u hu)⟩) h1 (by omega) (by omega) (by simp)
  exact ⟨v', w', hr, by simpa using ho, ((Below.refl _ w).alloc (Nat.le_refl _) _).grown hg (by simp) (by intro k hk; simp [Value.ownBlock] at hk; omega)⟩
set_option maxHeartbeats 4000000 in
set_option maxRecDepth 100000 in
theorem plays_any {v0 : Value} {qs : List P2} (w : World) (h : Rd w w.heap.size 2 v0 qs.length (pc qs)) (t : TxV) (ht : TxOk w t) :
    Calls Try.prog 5 #[v0, .agg (tc1 t).toArray] w fun e w' => e = .returned (.bool true) ∧ Below w.heap.size w w' := by
  have HQ : Hid (∀ W, Below w.heap.size w W → Rd W W.heap.size 2 v0 qs.length (pc qs)) := fun W hb => h.up hb
  obtain ⟨_, A, c, rfl, hc1, hc2, _⟩ := h
  obtain ⟨n, hn⟩ : ∃ n, n = qs.length := ⟨_, rfl⟩
  rw [← hn] at HQ hc1 ⊢
  have HN := Lib.hid hn
  clear hn
  obtain ⟨num, nd, bg, en, as_, lo, TA, tc9, os⟩ := t
  have hol := ht.1.len_le
  unfold maxLen at hol
  have HPL : Hid (∀ W m ps, Below w.heap.size w W → IsMap W m ps → ps.length + os.length ≤ 1099511627776 → Calls Try.prog 15 #[m, tv num nd bg en as_ lo (.slice TA os.length tc9)] W fun e w' => ∃ v', e = .returned (.tuple #[v', .bool (playL ps os).2]) ∧ IsMap w' v' (playL ps os).1 ∧ Below W.heap.size W w') := fun W m ps hb hm hl => play_any W hm (ht.1.up hb) hl num nd bg en as_ lo
  have HOP : Hid (∀ W, Below w.heap.size w W → Rd W W.heap.size 4 (.slice TA os.length tc9) os.length (oc os)) := fun W hb => ht.1.up hb
  have HSM : Hid (∀ W g, Below w.heap.size w W → W.heap[g]? = some (.cells #[.int .u64 num, .int .i64 nd, .int .i64 bg, .int .i64 en, .bool as_, .bool lo, .slice TA os.length tc9] 39 (0, 0)) → Calls Try.prog 10 #[.slice (some ⟨g, 0, none⟩) 1 1, .slice none 0 0] W fun e w' => SRes [⟨num, nd, bg, en, as_, lo, TA, tc9, os⟩] 0 W e w') := fun W g hb hg =>
    small_any W (ts := [⟨num, nd, bg, en, as_, lo, TA, tc9, os⟩]) (rd_block (k := 7) hg rfl (by unfold maxLen; simp)) (fun t h => by rw [List.mem_singleton.1 h]; exact TxOk.up ht hb)
  clear ht
  show Calls Try.prog 5 #[.slice A n c, .agg #[.int .u64 num, .int .i64 nd, .int .i64 bg, .int .i64 en, .bool as_, .bool lo, .slice TA os.length tc9]] w _
  unfold tv at HPL
  obtain ⟨tn, htn⟩ : ∃ tn, tn = os.length := ⟨_, rfl⟩
  rw [← htn] at HPL HOP HSM hol ⊢
  have HTN := Lib.hid htn
  clear htn
  go_enter Try.func5, Try.ntmps5
  go_upto_region 1 with fail
  obtain ⟨X, hX⟩ : ∃ X, X = w.alloc (.cells #[.int .u64 num, .int .i64 nd, .int .i64 bg, .int .i64 en, .bool as_, .bool lo, .slice TA tn tc9] 39) := ⟨_, rfl⟩
  rw [← hX]
  have HXB : Hid (Below w.heap.size w X) := Lib.hid (by rw [hX]; exact (Below.refl _ _).alloc (Nat.le_refl _) _)
  have HXR : Hid (X.heap[w.heap.size]? = some (.cells #[.int .u64 num, .int .i64 nd, .int .i64 bg, .int .i64 en, .bool as_, .bool lo, .slice TA tn tc9] 39 (0, 0))) := Lib.hid (by rw [hX]; exact heap_alloc_new w _)
  clear hX
  go_wp2_with fail
  refine (head_any X).mono ?_
  rintro e w0 ⟨rfl, hb0⟩
  have HB0 : Hid (Below w.heap.size w w0) := HXB.out.trans (hb0.mono HXB.out.size)
  have HR0 : Hid (∀ W, Below w0.heap.size w0 W → W.heap[w.heap.size]? = some (.cells #[.int .u64 num, .int .i64 nd, .int .i64 bg, .int .i64 en, .bool as_, .bool lo, .slice TA tn tc9] 39 (0, 0))) := fun W hb => blk_below (blk_below HXR.out hb0) hb
  clear hb0
  by_cases g1 : 20 < n
  · have g1' : (20 : Int) < (n : Int) := by omega
    go_wp2_with fail
    go_ret
    exact ⟨rfl, HB0.out⟩
  · have g1' : ¬ ((20 : Int) < (n : Int)) := by omega
    obtain ⟨d0, d1, d2, d3, d4, d5, d6⟩ := row7_facts (HR0.out w0 (Below.refl _ _))
    go_wp2_with fail
    obtain ⟨X1, hX1⟩ : ∃ X, X = w0.alloc (.cells #[.int .u64 num, .int .i64 nd, .int .i64 bg, .int .i64 en, .bool as_, .bool lo, .slice TA tn tc9] 39) := ⟨_, rfl⟩
    rw [← hX1]
    have hb1 : Below w0.heap.size w0 X1 := by rw [hX1]; exact (Below.refl _ _).alloc (Nat.le_refl _) _
    have hg1 : X1.heap[w0.heap.size]? = some (.cells #[.int .u64 num, .int .i64 nd, .int .i64 bg, .int .i64 en, .bool as_, .bool lo, .slice TA tn tc9] 39 (0, 0)) := by rw [hX1]; exact heap_alloc_new w0 _
    have HX1 : Hid (Below w.heap.size w X1) := HB0.out.trans (hb1.mono HB0.out.size)
    have HL1 := Lib.hid hb1
    have HG1 := Lib.hid hg1
    clear hX1 hb1 hg1 d0 d1 d2 d3 d4 d5 d6
    refine (HSM.out X1 _ HX1.out HG1.out).mono ?_
    rintro e w1 ⟨b, rfl, hsm, hb1⟩
    have HB1 : Hid (Below w.heap.size w w1) := HX1.out.trans (hb1.mono HX1.out.size)
    have HR1 : Hid (∀ W, Below w1.heap.size w1 W → W.heap[w.heap.size]? = some (.cells #[.int .u64 num, .int .i64 nd, .int .i64 bg, .int .i64 en, .bool as_, .bool lo, .slice TA tn tc9] 39 (0, 0))) := fun W hb => blk_below (blk_below (HR0.out X1 HL1.out) hb1) hb
    have HSL := Lib.hid hsm
    clear hb1 hsm HG1 HR0
    cases b with
    | false =>
      go_wp2_with fail
      go_ret
      exact ⟨rfl, HB1.out⟩
    | true =>
      have htl : tn ≤ 20 := by
        have h9 := (HSL.out rfl).2.2 _ (List.mem_singleton.2 rfl)
        rw [HTN.out]; exact h9
      clear HSL
      go_wp2_with fail
      go_loopw [5, 30] (fun m i wr => ∃ j : Nat, j ≤ n ∧ i = .int .i64 j ∧ IsMap wr m (bld (qs.take j)) ∧ Below w1.heap.size w1 wr) (fun _ i _ => n - (intOf i).toNat)
      case atStart =>
        refine ⟨0, Nat.zero_le _, rfl, ⟨?_, rise_nil, by simp [bld]⟩, (Below.refl _ _).alloc (Nat.le_refl _) _⟩
        exact ⟨rfl, _, _, rfl, Nat.le_refl _, Nat.zero_le _, fun h => absurd h (Nat.lt_irrefl 0)⟩
      case round =>
        obtain ⟨j, hj, rfl, him, hb⟩ := hrel
        have hbl : Below w.heap.size w wr := HB1.out.trans (hb.mono HB1.out.size)
        by_cases hlt : j < n
        · obtain ⟨p, hp⟩ : ∃ p, qs[j]? = some p := ⟨qs[j]'(by rw [← HN.out]; omega), List.getElem?_eq_getElem _⟩
          obtain ⟨g, off, cz, e, hg, _, _, hx⟩ := (HQ.out wr hbl).cells (show 0 < n by omega)
          injection e with e1 e2 e3
          clear e2 e3
          cases e1
          have k1 : wr.cell? ⟨g, off + j * 2, none⟩ = some (.string p.1) := hx _ _ (pc_key hp)
          have k2 : wr.cell? ⟨g, off + j * 2 + 1, none⟩ = some (.string p.2) := by rw [Nat.add_assoc]; exact hx _ _ (pc_val hp)
          obtain ⟨hr, hlen⟩ := bld_facts _ (qs.take j) rfl
          have htl9 : (qs.take j).length = j := by rw [List.length_take, ← HN.out]; omega
          rw [htl9] at hlen
          have hnext : bld (qs.take (j + 1)) = withL (bld (qs.take j)) p.1 p.2 := by rw [List.take_add_one, hp]; show bld (qs.take j ++ [p]) = _; rw [bld_snoc]
          have HNX := Lib.hid hnext
          have HIM := Lib.hid him
          have HBB := Lib.hid hb
          have HBL := Lib.hid hbl
          have HRR := Lib.hid hr
          have i0 : (0 : Int) ≤ (j : Int) := by omega
          have i1 : (j : Int) < (n : Int) := by omega
          clear hx hp htl9 hnext him hbl hb hr
          by_cases h40 : 100 < p.1.size
          · have h40' : (100 : Int) < (p.1.size : Int) := by omega
            go_wp2_with fail
            go_ret
            exact ⟨rfl, HBL.out.alloc HBL.out.size _⟩
          · have h40' : ¬ ((100 : Int) < (p.1.size : Int)) := by omega
            by_cases h60 : 100 < p.2.size
            · have h60' : (100 : Int) < (p.2.size : Int) := by omega
              go_wp2_with fail
              go_ret
              exact ⟨rfl, HBL.out.alloc HBL.out.size _⟩
            · have h60' : ¬ ((100 : Int) < (p.2.size : Int)) := by omega
              go_wp2_with fail
              refine (with_any _ (HIM.out.up ((Below.refl _ _).alloc (Nat.le_refl _) _)) p.1 p.2).mono ?_
              rintro e w2 ⟨v2, rfl, hm2⟩
              have HB2 : Hid (Below w1.heap.size w1 w2) := (HBB.out.alloc HBB.out.size _).trans (hm2.2.mono (by have := HBB.out.size; simp; omega))
              have HI2 := Lib.hid (hm2.is (rise_with HRR.out _ _) (by rw [length_with HRR.out]; split <;> omega))
              clear hm2
              go_wp2_with fail
              go_roundw
              case rel => exact ⟨j + 1, by omega, by go_num, by rw [HNX.out]; exact HI2.out, HB2.out⟩
              case measure => simp [intOf]; omega
        · obtain rfl : j = n := by omega
          have htk : qs.take j = qs := by rw [HN.out]; exact List.take_length
          rw [htk] at him
          obtain ⟨hr, hlen⟩ := bld_facts _ qs rfl
          obtain ⟨ps, hps⟩ : ∃ ps, ps = bld qs := ⟨_, rfl⟩
          rw [← hps] at him hr hlen
          have hl20 : ps.length ≤ 20 := by have := HN.out; omega
          have HIM := Lib.hid him
          have HBL := Lib.hid hbl
          have HRW : Hid (∀ W, Below wr.heap.size wr W → W.heap[w.heap.size]? = some (.cells #[.int .u64 num, .int .i64 nd, .int .i64 bg, .int .i64 en, .bool as_, .bool lo, .slice TA tn tc9] 39 (0, 0))) := fun W h9 => blk_below (HR1.out wr hb) h9
          have HRR := Lib.hid hr
          have HLN : Hid (ps.length ≤ 20) := hl20
          have hcp := copied wr him.rd (pc_one ps) (by omega)
          have HCP := Lib.hid hcp
          obtain ⟨mA, mc, hmv, _⟩ : ∃ A c, u5 = .slice A ps.length c ∧ True := by
            obtain ⟨_, A, c, e, _⟩ := him.rd
            exact ⟨A, c, e, trivial⟩
          subst hmv
          clear him hbl hr hlen htk hps hl20 hlt hb HR1 HXR hcp HX1 HL1
          go_wp2_with (at_builtin; refine wpL_append rfl _ _ 46 46 rfl rfl rfl HCP.out ?_; rintro v3 w3 ⟨ho3, hb3⟩; have HO3 := Lib.hid ho3; have HB3 := Lib.hid hb3; clear ho3 hb3; obtain ⟨e0, e1, e2, e3, e4, e5, e6⟩ := row7_facts (HRW.out w3 HB3.out))
          have HI3 : Hid (IsMap w3 v3 ps) := ⟨HO3.out.rd, HRR.out, by have := HLN.out; omega⟩
          have HM3 := Lib.hid (HIM.out.up HB3.out)
          have HBW3 : Hid (Below w.heap.size w w3) := HBL.out.trans (HB3.out.mono HBL.out.size)
          have htn20 : ps.length + tn ≤ 1099511627776 := by have := HLN.out; omega
          refine (HPL.out w3 _ ps HBW3.out HM3.out htn20).mono ?_
          rintro e w4 ⟨v4, rfl, hi4, hb4⟩
          have HI4 := Lib.hid hi4
          have HB4 := Lib.hid hb4
          clear hi4 hb4 e0 e1 e2 e3 e4 e5 e6
          obtain ⟨ok4, hok4⟩ : ∃ b, b = (playL ps os).2 := ⟨_, rfl⟩
          rw [← hok4]
          have HOK := Lib.hid hok4
          clear hok4
          go_wp2_with fail
          refine (same_rd w4 (HM3.out.up HB4.out).rd (HI3.out.up HB4.out).rd).mono ?_
          rintro e w5 ⟨he, hb5⟩
          have he' : e = .returned (.bool true) := he.trans (by simp)
          clear he
          subst he'
          have HB5 := Lib.hid hb5
          have HB35 : Hid (Below w3.heap.size w3 w5) := HB4.out.trans (hb5.mono HB4.out.size)
          have HBW5 : Hid (Below w.heap.size w w5) := HBW3.out.trans (HB35.out.mono HBW3.out.size)
          clear hb5
          obtain ⟨e0, e1, e2, e3, e4, e5, e6⟩ := row7_facts (HRW.out w5 (HB3.out.trans (HB35.out.mono HB3.out.size)))
          have HI5 := Lib.hid (HI3.out.up HB35.out)
          have HG5 := Lib.hid (HI4.out.up HB5.out)
          clear HI3 HM3 HI4 HCP
          go_wp2_with fail
          clear e0 e1 e2 e3 e4 e5 e6
          go_loopw [8, 11, 67] (fun m ok i wr => ∃ (q : Nat) (b : Bool), q ≤ tn ∧ i = .int .i64 q ∧ ok = .bool b ∧ b = (playL ps (os.take q)).2 ∧ IsMap wr m (playL ps (os.take q)).1 ∧ Below w5.heap.size w5 wr) (fun _ _ i _ => tn - (intOf i).toNat)
          case atStart => exact ⟨0, true, Nat.zero_le _, rfl, rfl, rfl, HI5.out, Below.refl _ _⟩
          case round =>
            clear HIM
            obtain ⟨q, b, hq, rfl, rfl, hb, him, hbl⟩ := hrel
            by_cases hlt : q < tn
            · obtain ⟨o, hoj⟩ : ∃ o, os[q]? = some o := ⟨os[q]'(by rw [← HTN.out]; omega), List.getElem?_eq_getElem _⟩
              obtain ⟨g, off, rfl, c1, c2, c3, c4⟩ := op_cells (HOP.out _ (HBW5.out.trans (hbl.mono HBW5.out.size))) hoj (by omega)
              obtain ⟨m, hm⟩ : ∃ m, m = playL ps (os.take q) := ⟨_, rfl⟩
              obtain ⟨hr, hlen⟩ := playL_facts HRR.out _ (os.take q) rfl
              have htq : (os.take q).length = q := by rw [List.length_take, ← HTN.out]; omega
              rw [htq] at hlen
              rw [← hm] at hb him hr hlen
              have hnext : playL ps (os.take (q + 1)) = play1 m o := by rw [List.take_add_one, hoj]; show playL ps (os.take q ++ [o]) = _; rw [playL_snoc, ← hm]
              have HNX := Lib.hid hnext
              have HIM := Lib.hid him
              have HBQ := Lib.hid hbl
              have HB := Lib.hid hb
              have HRQ := Lib.hid hr
              have HLQ : Hid (m.1.length ≤ 40) := Lib.hid (by have := HLN.out; omega)
              have i0 : (0 : Int) ≤ (q : Int) := by omega
              have i1 : (q : Int) < (tn : Int) := by omega
              clear hoj hm htq hnext him hbl hb hr hlen
              go_wp2_with fail
              refine (get_any _ (HIM.out.up ((Below.refl _ _).alloc (Nat.le_refl _) _)) o.key).mono ?_
              rintro e w7 ⟨rfl, hb7⟩
              have HB7 : Hid (Below w5.heap.size w5 w7) := (HBQ.out.alloc HBQ.out.size _).trans (hb7.mono (by have := HBQ.out.size; simp; omega))
              have HI7 := Lib.hid ((HIM.out.up ((Below.refl _ _).alloc (Nat.le_refl _) _)).up hb7)
              have HRO := Lib.hid ((hb7.block _ (by simp)).trans (heap_alloc_new wr (.cells #[.int .i64 o.kind, .string o.key, .string o.val, .bool o.has] 54)))
              obtain ⟨f0, f1, f2, f3⟩ := row4_facts HRO.out
              clear hb7
              obtain ⟨gs, hgs⟩ : ∃ gs, gs = getS m.1 o.key := ⟨_, rfl⟩
              obtain ⟨gh, hgh⟩ : ∃ gh, gh = here m.1 o.key := ⟨_, rfl⟩
              rw [← hgs, ← hgh]
              have HGS := Lib.hid hgs
              have HGH := Lib.hid hgh
              clear hgs hgh c1 c2 c3 c4
              by_cases k2 : o.kind = 2
              · have b2 : (o.kind == 2) = true := by simp [k2]
                have b3 : (o.kind == 3) = false := by simp [k2]
                have b4 : (o.kind == 4) = false := by simp [k2]
                have HK := Lib.hid k2
                clear k2
                cases b with
                | false =>
                  go_wp2_with fail
                  go_roundw
                  case rel => exact ⟨q + 1, false, by omega, by go_num, rfl, by rw [HNX.out]; unfold play1; rw [if_pos HK.out]; simp [← HB.out], by rw [HNX.out]; unfold play1; rw [if_pos HK.out]; exact HI7.out, HB7.out⟩
                  case measure => simp [intOf]; omega
                | true =>
                  by_cases e1 : gs = o.val
                  · have d1 : (gs.toList == o.val.toList) = true := by rw [str_beq, decide_eq_true e1]
                    have E1 := Lib.hid e1
                    clear e1
                    by_cases e2 : gh = o.has
                    · have d2 : (gh == o.has) = true := by simp [e2]
                      have E2 := Lib.hid e2
                      clear e2
                      go_wp2_with fail
                      go_roundw
                      case rel => exact ⟨q + 1, true, by omega, by go_num, rfl, by rw [HNX.out]; unfold play1; rw [if_pos HK.out]; simp [← HB.out, ← HGS.out, ← HGH.out, E1.out, E2.out], by rw [HNX.out]; unfold play1; rw [if_pos HK.out]; exact HI7.out, HB7.out⟩
                      case measure => simp [intOf]; omega
                    · have d2 : (gh == o.has) = false := by simp [e2]
                      have E2 := Lib.hid e2
                      clear e2
                      go_wp2_with fail
                      go_roundw
                      case rel => exact ⟨q + 1, false, by omega, by go_num, rfl, by rw [HNX.out]; unfold play1; rw [if_pos HK.out]; simp [← HGH.out, E2.out], by rw [HNX.out]; unfold play1; rw [if_pos HK.out]; exact HI7.out, HB7.out⟩
                      case measure => simp [intOf]; omega
                  · have d1 : (gs.toList == o.val.toList) = false := by rw [str_beq, decide_eq_false e1]
                    have E1 := Lib.hid e1
                    clear e1
                    go_wp2_with fail
                    go_roundw
                    case rel => exact ⟨q + 1, false, by omega, by go_num, rfl, by rw [HNX.out]; unfold play1; rw [if_pos HK.out]; simp [← HGS.out, E1.out], by rw [HNX.out]; unfold play1; rw [if_pos HK.out]; exact HI7.out, HB7.out⟩
                    case measure => simp [intOf]; omega
              · have b2 : (o.kind == 2) = false := by simp [k2]
                by_cases k3 : o.kind = 3
                · have b3 : (o.kind == 3) = true := by simp [k3]
                  have b4 : (o.kind == 4) = false := by simp [k3]
                  have HK := Lib.hid k3
                  have HK2 := Lib.hid k2
                  clear k3 k2
                  go_wp2_with fail
                  refine (with_any _ HI7.out o.key o.val).mono ?_
                  rintro e w8 ⟨v8, rfl, hm8⟩
                  have HB8 : Hid (Below w5.heap.size w5 w8) := HB7.out.trans (hm8.2.mono HB7.out.size)
                  have HI8 := Lib.hid (hm8.is (rise_with HRQ.out _ _) (by have := HLQ.out; rw [length_with HRQ.out]; split <;> omega))
                  obtain ⟨h0, h1, h2, h3⟩ := row4_facts (blk_below HRO.out hm8.2)
                  clear hm8 f0 f1 f2 f3
                  go_wp2_with fail
                  go_roundw
                  case rel => exact ⟨q + 1, b, by omega, by go_num, rfl, by rw [HNX.out]; unfold play1; rw [if_neg HK2.out, if_pos HK.out]; exact HB.out, by rw [HNX.out]; unfold play1; rw [if_neg HK2.out, if_pos HK.out]; exact HI8.out, HB8.out⟩
                  case measure => simp [intOf]; omega
                · have b3 : (o.kind == 3) = false := by simp [k3]
                  by_cases k4 : o.kind = 4
                  · have b4 : (o.kind == 4) = true := by simp [k4]
                    have HK := Lib.hid k4
                    have HK2 := Lib.hid k2
                    have HK3 := Lib.hid k3
                    clear k4 k3 k2
                    go_wp2_with fail
                    refine (without_any _ HI7.out o.key).mono ?_
                    rintro e w8 ⟨v8, rfl, hm8⟩
                    have HB8 : Hid (Below w5.heap.size w5 w8) := HB7.out.trans (hm8.2.mono HB7.out.size)
                    have HI8 := Lib.hid (hm8.is (rise_without HRQ.out _) (by have := HLQ.out; rw [length_without HRQ.out]; split <;> omega))
                    clear hm8 f0 f1 f2 f3
                    go_wp2_with fail
                    go_roundw
                    case rel => exact ⟨q + 1, b, by omega, by go_num, rfl, by rw [HNX.out]; unfold play1; rw [if_neg HK2.out, if_neg HK3.out, if_pos HK.out]; exact HB.out, by rw [HNX.out]; unfold play1; rw [if_neg HK2.out, if_neg HK3.out, if_pos HK.out]; exact HI8.out, HB8.out⟩
                    case measure => simp [intOf]; omega
                  · have b4 : (o.kind == 4) = false := by simp [k4]
                    have HK4 := Lib.hid k4
                    have HK2 := Lib.hid k2
                    have HK3 := Lib.hid k3
                    clear k4 k3 k2
                    go_wp2_with fail
                    go_roundw
                    case rel => exact ⟨q + 1, b, by omega, by go_num, rfl, by rw [HNX.out]; unfold play1; rw [if_neg HK2.out, if_neg HK3.out, if_neg HK4.out]; exact HB.out, by rw [HNX.out]; unfold play1; rw [if_neg HK2.out, if_neg HK3.out, if_neg HK4.out]; exact HI7.out, HB7.out⟩
                    case measure => simp [intOf]; omega
            · obtain rfl : q = tn := by omega
              have htk : os.take q = os := by rw [HTN.out]; exact List.take_length
              rw [htk] at hb him
              have hbe : b = ok4 := by rw [hb, HOK.out]
              subst hbe
              have HIM := Lib.hid him
              have HBQ := Lib.hid hbl
              have HSAME := Lib.hid (same_rd wr (HG5.out.up hbl).rd him.rd)
              have i1 : ¬ ((q : Int) < (q : Int)) := by omega
              clear him hbl hb htk
              go_wp2_with fail
              refine HSAME.out.mono ?_
              rintro e w8 ⟨he, hb8⟩
              have he' : e = .returned (.bool true) := he.trans (by simp)
              clear he
              subst he'
              have HB8 := Lib.hid hb8
              clear hb8
              have hbb : (b == b) = true := by simp
              go_wp2_with fail
              go_ret
              exact ⟨rfl, HBW5.out.trans ((HBQ.out.trans (HB8.out.mono HBQ.out.size)).mono HBW5.out.size)⟩
theorem plays_row {H : Type} {enc : TypeId × Value → H} {w : World} {base : Nat} {spare : Nat → Bool} {held : Bool} (v0 : Value) (ok0 : Value.okWide Try.prog w .any base 45 v0) (h0 : Reads1 enc Try.prog w 0 spare held 45 v0.cells.toList)
    (v1 : Value) (ok1 : Value.okWide Try.prog w .any base 39 v1) (h1 : Reads1 enc Try.prog w 0 spare held 39 v1.cells.toList) :
    Calls Try.prog 5 #[v0, v1] w fun e w' => e = .returned (.bool true) ∧ Below w.heap.size w w' := by
  obtain ⟨qs, hr⟩ := pairs_val ok0 h0
  obtain ⟨t, rfl, ht⟩ := txn_val ok1 h1
  exact plays_any w hr t ht
#print axioms plays_row
end Go.Proofs.Ythkacajlbenflaa.HistA
