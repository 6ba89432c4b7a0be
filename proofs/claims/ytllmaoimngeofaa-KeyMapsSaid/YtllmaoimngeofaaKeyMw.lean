/- KeyMaps' walk. -/
import Derived.Test.YtllmaoimngeofaaKeyMa
import Derived.Carry
set_option linter.unusedVariables false
set_option linter.unusedSimpArgs false
namespace Go.Proofs.Ytllmaoimngeofaa.KeyMa
open Go.RowKit Go.WideShapes Go.Deep Go.Proofs.Ytllmaoimngeofaa.Mem Go.Proofs.Ytllmaoimngeofaa.Open Go.Proofs.Ytllmaoimngeofaa.KeyM Go.Proofs.Ytllmaoimngeofaa.KeyN Go.Proofs.Ytllmaoimngeofaa.KeyT Go.Proofs.Ytllmaoimngeofaa.Kv Go.Proofs.Ytllmaoimngeofaa.Maps
attribute [local irreducible] withL withoutL

set_option maxHeartbeats 2000000 in
set_option maxRecDepth 100000 in
theorem maps_any (v0 : Value) (os : List O3) (w : World) (h : Rd w w.heap.size 3 v0 os.length (oc os)) :
    Calls Try.prog 7 #[v0] w fun e w' => e = .returned (.bool true) ∧ Below w.heap.size w w' := by
  have hlen := h.len_le
  obtain ⟨hl, A, c, rfl, hc1, hc2, hx⟩ := h
  unfold maxLen at hlen
  have HX := Lib.hid hx
  clear hx hl
  obtain ⟨n, hn⟩ : ∃ n, n = os.length := ⟨_, rfl⟩
  rw [← hn] at hlen hc1 ⊢
  have HN := Lib.hid hn
  clear hn
  have hmm := @run_makeMap Try.prog
  go_enter Try.func7, Try.ntmps7
  go_wp2_with (go_at_call 9; refine (KeyA.head_any _).mono ?_; rintro e w' ⟨rfl, rfl⟩)
  clear hmm
  go_loopw [3, 5] (fun m i wr => ∃ (j : Nat) (ps : List P2) (ms : List (S × S)), j ≤ n ∧ j ≤ 50 ∧ ps.length ≤ j ∧ i = .int .i64 j ∧ IsMap wr m ps ∧ At wr (w.heap.size + 1) ms ∧ Agree ms ps ∧ Below w.heap.size w wr) (fun _ i _ => n - (intOf i).toNat)
  case atStart =>
    refine ⟨0, [], [], Nat.zero_le _, Nat.zero_le _, Nat.le_refl _, rfl, ⟨⟨rfl, _, _, rfl, Nat.le_refl _, Nat.zero_le _, fun h => absurd h (Nat.lt_irrefl 0)⟩, rise_nil, (by decide : 0 ≤ 1099511627776)⟩, ?_, agree_nil, ((Below.refl _ _).alloc (Nat.le_refl _) _).alloc (by simp) _⟩
    have := MapAt.new (enc := (fun s : S => Value.string s)) (encv := (fun s : S => Value.string s)) (Ok := (fun s => s.size ≤ maxLen)) (w.alloc (.cells #[] 33))
    simpa using this
  case round =>
    obtain ⟨j, ps, ms, hj, hj50, hpl, rfl, him, hat, hag, hbl⟩ := hrel
    have hsz := hbl.size
    have HIM := Lib.hid him
    have HAT := Lib.hid hat
    have HAG := Lib.hid hag
    have HBL := Lib.hid hbl
    by_cases hlt : j < n ∧ j < 50
    · obtain ⟨hlt, hlt50⟩ := hlt
      obtain ⟨g, off, rfl, hg, hx⟩ := HX.out (by rw [← HN.out]; omega)
      obtain ⟨⟨K, key, val⟩, hp⟩ : ∃ p, os[j]? = some p := ⟨os[j]'(by rw [← HN.out]; omega), List.getElem?_eq_getElem _⟩
      obtain ⟨x0, x1, x2⟩ := oc_at hp
      have k0 : wr.cell? ⟨g, off + j * 3, none⟩ = some (.int .i64 K) := (hbl.cell (p := ⟨g, off + j * 3, none⟩) hg).trans (hx _ _ x0)
      have k1 : wr.cell? ⟨g, off + j * 3 + 1, none⟩ = some (.string key) := (hbl.cell (p := ⟨g, off + j * 3 + 1, none⟩) hg).trans (hx _ _ x1)
      have k2 : wr.cell? ⟨g, off + j * 3 + 2, none⟩ = some (.string val) := (hbl.cell (p := ⟨g, off + j * 3 + 2, none⟩) hg).trans (hx _ _ x2)
      clear hx x0 x1 x2 him hat hag hbl hp
      by_cases hskip : 40 < key.size ∨ 60 < val.size
      · by_cases h40 : 40 < key.size
        · go_wp2
          go_roundw
          case rel => exact ⟨j + 1, ps, ms, by omega, by omega, by omega, by go_num, HIM.out.up ((Below.refl _ _).alloc (Nat.le_refl _) _), HAT.out.alloc _, HAG.out, HBL.out.alloc hsz _⟩
          case measure => simp [intOf]; omega
        · have h60 : 60 < val.size := by omega
          go_wp2
          go_roundw
          case rel => exact ⟨j + 1, ps, ms, by omega, by omega, by omega, by go_num, HIM.out.up ((Below.refl _ _).alloc (Nat.le_refl _) _), HAT.out.alloc _, HAG.out, HBL.out.alloc hsz _⟩
          case measure => simp [intOf]; omega
      · have h40 : ¬ 40 < key.size := by omega
        have h60 : ¬ 60 < val.size := by omega
        clear hskip
        obtain ⟨W0, hW0⟩ : ∃ W0, W0 = wr.alloc (.cells #[.int .i64 K, .string key, .string val] 42) := ⟨_, rfl⟩
        have hbw : Below wr.heap.size wr W0 := by rw [hW0]; exact (Below.refl _ _).alloc (Nat.le_refl _) _
        have hIM0 : IsMap W0 u3 ps := HIM.out.up hbw
        have hbx0 : Box wr.heap.size K key val W0 := by
          rw [hW0]
          refine ⟨?_, ?_, ?_⟩ <;> (rw [cell_of_row _ _ _ _ _ _ (heap_alloc_new wr _)]; rfl)
        have HS0 : Hid (St w W0 wr.heap.size K key val [(u3, ps)] ms) := ⟨fun v p hm => by
          have e : (v, p) = (u3, ps) := by simpa using hm
          injection e with e1 e2; rw [e1, e2]; exact hIM0, HAT.out.below hbw, hbx0, HBL.out.trans (hbw.mono hsz)⟩
        have hdup := copied W0 hIM0.rd (pc_one _) (by have := hIM0.len; omega)
        rw [hW0] at hdup HS0
        simp only [World.size_alloc] at hdup
        obtain ⟨A, cp, hv, _⟩ : ∃ A cp, u3 = .slice A ps.length cp ∧ True := by
          obtain ⟨_, A, c, e, _⟩ := HIM.out.rd
          exact ⟨A, c, e, trivial⟩
        subst hv
        have hpl2 := HIM.out.len
        have hri := HIM.out.rise
        have HRI := Lib.hid hri
        clear hW0 hbw hIM0 hbx0 HIM W0 hri HAT HBL
        have HDUP := Lib.hid hdup
        clear hdup
        have hks : key.size ≤ maxLen := by unfold maxLen; omega
        go_wp2_with (at_builtin; refine wpL_append rfl _ _ 34 34 rfl rfl rfl HDUP.out ?_; intro v1 w1 hR
                     have hS1 : St w w1 wr.heap.size K key val [(v1, ps), (.slice A ps.length cp, ps)] ms := (HS0.out.below (by simpa only [World.size_alloc] using hR.2)).add ⟨hR.1.rd, HRI.out, hpl2⟩
                     have HS1 := Lib.hid hS1
                     clear HS0 HDUP hR
                     obtain ⟨o0, o1, o2⟩ := hS1.box
                     have hlook := run_look hS1.at_ HAG.out hks
                     clear hS1)
        clear hlook o0 o1 o2
        refine (get_any _ (HS1.out.maps _ ps (List.mem_cons_of_mem _ (List.mem_cons_self ..))) key).mono ?_
        rintro e w2 ⟨rfl, hb2⟩
        have HS2 := Lib.hid (HS1.out.below hb2)
        clear hb2 HS1
        obtain ⟨o0, o1, o2⟩ := HS2.out.box
        by_cases hK0 : K = 0
        · subst hK0
          go_wp2_with fail
          refine (with_any _ (HS2.out.maps _ ps (List.mem_cons_of_mem _ (List.mem_cons_self ..))) key val).mono ?_
          rintro e w3 ⟨v3, rfl, hm3⟩
          have hll := len_with HRI.out key val
          have HS3 := Lib.hid ((HS2.out.below hm3.2).add (hm3.is (rise_with HRI.out key val) (by omega)))
          clear hm3 HS2 o0 o1 o2
          obtain ⟨o0, o1, o2⟩ := HS3.out.box
          obtain ⟨w4, hup, hat4, ht4⟩ := Maps.run_update (P := Try.prog) (t := 40) (e := 9) km Try.underlying40 HS3.out.at_ hks val
          have HS4 := Lib.hid (HS3.out.turned ht4 hat4)
          have HAG4 := Lib.hid (HAG.out.with_ HRI.out key val)
          clear hat4 ht4 HS3
          go_wp2_with fail
          obtain ⟨qs, hqs⟩ : ∃ qs, qs = withL ps key val := ⟨_, rfl⟩
          obtain ⟨ms4, hms4⟩ : ∃ ms4, ms4 = setM ms key val := ⟨_, rfl⟩
          rw [← hqs] at HS4 HAG4 hll
          rw [← hms4] at HS4 HAG4
          have HQR : Hid (Rise qs) := by rw [hqs]; exact rise_with HRI.out key val
          have HM : Hid (IsMap w4 _ ps) := HS4.out.maps _ ps (List.mem_cons_of_mem _ (List.mem_cons_of_mem _ (List.mem_cons_self ..)))
          have HWAS : Hid (IsMap w4 _ ps) := HS4.out.maps _ ps (List.mem_cons_of_mem _ (List.mem_cons_self ..))
          have HNX : Hid (IsMap w4 _ qs) := HS4.out.maps _ qs (List.mem_cons_self ..)
          have HAT4 := Lib.hid HS4.out.at_
          have HBL4 := Lib.hid HS4.out.bl
          clear HS4 hqs hms4 o0 o1 o2 hup
          refine (same_rd _ HM.out.rd HWAS.out.rd).mono ?_
          rintro e w5 ⟨he, hb5⟩
          rw [decide_eq_true rfl] at he
          subst he
          have HNX5 := Lib.hid (HNX.out.up hb5)
          have HAT5 := Lib.hid (HAT4.out.below hb5)
          have HBL5 : Hid (Below w.heap.size w w5) := HBL4.out.trans (hb5.mono HBL4.out.size)
          have hsz5 := HBL5.out.size
          clear hb5 HM HWAS HNX HAT4 HBL4
          have hlen5 := run_lenm HAT5.out HAG4.out
          obtain ⟨B, cq, hv⟩ : ∃ B cq, v3 = .slice B qs.length cq := by
            obtain ⟨_, A, c, e, _⟩ := HNX5.out.rd
            exact ⟨A, c, e⟩
          subst hv
          go_wp2_with fail
          clear hlen5
          go_loopw [108] (fun i wr' => ∃ k, k ≤ qs.length ∧ i = .int .i64 k ∧ Below w5.heap.size w5 wr') (fun i _ => qs.length - (intOf i).toNat)
          case atStart => exact ⟨0, Nat.zero_le _, rfl, Below.refl _ _⟩
          case round =>
            obtain ⟨k, hk, rfl, hb6⟩ := hrel
            have HB6 := Lib.hid hb6
            by_cases hkl : k < qs.length
            · obtain ⟨g2, off2, cz, hB, hg2, _, _, hx2⟩ := HNX5.out.rd.cells (by omega)
              injection hB with hB1 _ hB2
              subst hB1 hB2
              obtain ⟨⟨pk, pv⟩, hp⟩ : ∃ p, qs[k]? = some p := ⟨qs[k]'hkl, List.getElem?_eq_getElem _⟩
              have k0 : wr.cell? ⟨g2, off2 + k * 2, none⟩ = some (.string pk) := (hb6.cell (p := ⟨g2, off2 + k * 2, none⟩) hg2).trans (hx2 _ _ (pc_key hp))
              have k1 : wr.cell? ⟨g2, off2 + k * 2 + 1, none⟩ = some (.string pv) := (hb6.cell (p := ⟨g2, off2 + k * 2 + 1, none⟩) hg2).trans (hx2 _ _ (pc_val hp))
              have hlook6 := fun N => look_at ((HAT5.out.below hb6).drewN N) HAG4.out HQR.out hp
              by_cases hk0 : k = 0
              · subst hk0
                have k0' : wr.cell? ⟨g2, off2, none⟩ = some (.string pk) := by simpa using k0
                have k1' : wr.cell? ⟨g2, off2 + 1, none⟩ = some (.string pv) := by simpa using k1
                clear hx2 hb6 k0 k1 hp
                go_wp2_with fail
                go_quiet (fail)
                go_wp2_with fail
                go_roundw
                case rel => exact ⟨1, (by omega), rfl, below_drewN HB6.out _⟩
                case measure => simp [intOf]; omega
              · obtain ⟨k', rfl⟩ : ∃ k', k = k' + 1 := ⟨k - 1, by omega⟩
                obtain ⟨⟨ok, ov⟩, ho⟩ : ∃ p, qs[k']? = some p := ⟨qs[k']'(by omega), List.getElem?_eq_getElem _⟩
                have l0 : wr.cell? ⟨g2, off2 + k' * 2, none⟩ = some (.string ok) := (hb6.cell (p := ⟨g2, off2 + k' * 2, none⟩) hg2).trans (hx2 _ _ (pc_key ho))
                have hlt : Op.bytesLess ok.toList pk.toList = true := by
                  rw [ByteArray.toList_eq, ByteArray.toList_eq]
                  exact rise_at HQR.out ho hp (Nat.lt_succ_self k')
                have ew : IntKind.i64.wrap (k' : Int) = (k' : Int) := by rw [IntKind.wrap_i64]; omega
                have hi1 : (k' : Int) < (qs.length : Int) := by omega
                have hi2 : (0 : Int) ≤ (k' : Int) := by omega
                have hi3 : (k' : Int) + 1 < (qs.length : Int) := by omega
                have hi4 : (0 : Int) ≤ (k' : Int) + 1 := by omega
                have hi5 : ((k' : Int) + 1).toNat = k' + 1 := by omega
                have hge : ∀ W : World, Sem.run Try.prog (binOp .geq 9 (.string ok) (.string pk)) W = .ok (.bool false) W := fun W => by simp [binOp, Op.stringOp, hlt]
                clear hx2 hb6 hp ho
                go_wp2_with fail
                go_quiet (fail)
                go_wp2_with fail
                go_roundw
                case rel => exact ⟨k' + 1 + 1, by omega, by go_num, below_drewN HB6.out _⟩
                case measure => simp [intOf]; omega
            · clear hb6
              go_wp2_with fail
              go_roundw
              case rel => exact ⟨j + 1, qs, ms4, by omega, by omega, by omega, by go_num, HNX5.out.up HB6.out, HAT5.out.below HB6.out, HAG4.out, HBL5.out.trans (HB6.out.mono hsz5)⟩
              case measure => simp [intOf]; omega
        · by_cases hK1 : K = 1
          · subst hK1
            go_wp2_with fail
            refine (without_any _ (HS2.out.maps _ ps (List.mem_cons_of_mem _ (List.mem_cons_self ..))) key).mono ?_
            rintro e w3 ⟨v3, rfl, hm3⟩
            have hll := len_without HRI.out key
            have HS3 := Lib.hid ((HS2.out.below hm3.2).add (hm3.is (rise_without HRI.out key) (by omega)))
            clear hm3 HS2 o0 o1 o2
            obtain ⟨o0, o1, o2⟩ := HS3.out.box
            obtain ⟨w4, hup0, hat4, ht4⟩ := Maps.run_delete (P := Try.prog) (t := 40) (e := 9) (ty := 0) km Try.underlying40 HS3.out.at_ hks
            have hup : ∀ ty, (Builtin.delete_ #[40, 9] ty #[.map (some (w.heap.size + 1)), .string key]).run Try.prog w3 = .ok (.tuple #[]) w4 := fun ty => hup0
            have HS4 := Lib.hid (HS3.out.turned ht4 hat4)
            have HAG4 := Lib.hid (HAG.out.without_ HS3.out.at_.keys HRI.out key)
            clear hat4 ht4 HS3 hup0
            go_wp2_with fail
            obtain ⟨qs, hqs⟩ : ∃ qs, qs = withoutL ps key := ⟨_, rfl⟩
            obtain ⟨ms4, hms4⟩ : ∃ ms4, ms4 = delM ms key := ⟨_, rfl⟩
            rw [← hqs] at HS4 HAG4 hll
            rw [← hms4] at HS4 HAG4
            have HQR : Hid (Rise qs) := by rw [hqs]; exact rise_without HRI.out key
            have HM : Hid (IsMap w4 _ ps) := HS4.out.maps _ ps (List.mem_cons_of_mem _ (List.mem_cons_of_mem _ (List.mem_cons_self ..)))
            have HWAS : Hid (IsMap w4 _ ps) := HS4.out.maps _ ps (List.mem_cons_of_mem _ (List.mem_cons_self ..))
            have HNX : Hid (IsMap w4 _ qs) := HS4.out.maps _ qs (List.mem_cons_self ..)
            have HAT4 := Lib.hid HS4.out.at_
            have HBL4 := Lib.hid HS4.out.bl
            clear HS4 hqs hms4 o0 o1 o2 hup
            refine (same_rd _ HM.out.rd HWAS.out.rd).mono ?_
            rintro e w5 ⟨he, hb5⟩
            rw [decide_eq_true rfl] at he
            subst he
            have HNX5 := Lib.hid (HNX.out.up hb5)
            have HAT5 := Lib.hid (HAT4.out.below hb5)
            have HBL5 : Hid (Below w.heap.size w w5) := HBL4.out.trans (hb5.mono HBL4.out.size)
            have hsz5 := HBL5.out.size
            clear hb5 HM HWAS HNX HAT4 HBL4
            have hlen5 := run_lenm HAT5.out HAG4.out
            obtain ⟨B, cq, hv⟩ : ∃ B cq, v3 = .slice B qs.length cq := by
              obtain ⟨_, A, c, e, _⟩ := HNX5.out.rd
              exact ⟨A, c, e⟩
            subst hv
            go_wp2_with fail
            clear hlen5
            go_loopw [108] (fun i wr' => ∃ k, k ≤ qs.length ∧ i = .int .i64 k ∧ Below w5.heap.size w5 wr') (fun i _ => qs.length - (intOf i).toNat)
            case atStart => exact ⟨0, Nat.zero_le _, rfl, Below.refl _ _⟩
            case round =>
              obtain ⟨k, hk, rfl, hb6⟩ := hrel
              have HB6 := Lib.hid hb6
              by_cases hkl : k < qs.length
              · obtain ⟨g2, off2, cz, hB, hg2, _, _, hx2⟩ := HNX5.out.rd.cells (by omega)
                injection hB with hB1 _ hB2
                subst hB1 hB2
                obtain ⟨⟨pk, pv⟩, hp⟩ : ∃ p, qs[k]? = some p := ⟨qs[k]'hkl, List.getElem?_eq_getElem _⟩
                have k0 : wr.cell? ⟨g2, off2 + k * 2, none⟩ = some (.string pk) := (hb6.cell (p := ⟨g2, off2 + k * 2, none⟩) hg2).trans (hx2 _ _ (pc_key hp))
                have k1 : wr.cell? ⟨g2, off2 + k * 2 + 1, none⟩ = some (.string pv) := (hb6.cell (p := ⟨g2, off2 + k * 2 + 1, none⟩) hg2).trans (hx2 _ _ (pc_val hp))
                have hlook6 := fun N => look_at ((HAT5.out.below hb6).drewN N) HAG4.out HQR.out hp
                by_cases hk0 : k = 0
                · subst hk0
                  have k0' : wr.cell? ⟨g2, off2, none⟩ = some (.string pk) := by simpa using k0
                  have k1' : wr.cell? ⟨g2, off2 + 1, none⟩ = some (.string pv) := by simpa using k1
                  clear hx2 hb6 k0 k1 hp
                  go_wp2_with fail
                  go_quiet (fail)
                  go_wp2_with fail
                  go_roundw
                  case rel => exact ⟨1, (by omega), rfl, below_drewN HB6.out _⟩
                  case measure => simp [intOf]; omega
                · obtain ⟨k', rfl⟩ : ∃ k', k = k' + 1 := ⟨k - 1, by omega⟩
                  obtain ⟨⟨ok, ov⟩, ho⟩ : ∃ p, qs[k']? = some p := ⟨qs[k']'(by omega), List.getElem?_eq_getElem _⟩
                  have l0 : wr.cell? ⟨g2, off2 + k' * 2, none⟩ = some (.string ok) := (hb6.cell (p := ⟨g2, off2 + k' * 2, none⟩) hg2).trans (hx2 _ _ (pc_key ho))
                  have hlt : Op.bytesLess ok.toList pk.toList = true := by
                    rw [ByteArray.toList_eq, ByteArray.toList_eq]
                    exact rise_at HQR.out ho hp (Nat.lt_succ_self k')
                  have ew : IntKind.i64.wrap (k' : Int) = (k' : Int) := by rw [IntKind.wrap_i64]; omega
                  have hi1 : (k' : Int) < (qs.length : Int) := by omega
                  have hi2 : (0 : Int) ≤ (k' : Int) := by omega
                  have hi3 : (k' : Int) + 1 < (qs.length : Int) := by omega
                  have hi4 : (0 : Int) ≤ (k' : Int) + 1 := by omega
                  have hi5 : ((k' : Int) + 1).toNat = k' + 1 := by omega
                  have hge : ∀ W : World, Sem.run Try.prog (binOp .geq 9 (.string ok) (.string pk)) W = .ok (.bool false) W := fun W => by simp [binOp, Op.stringOp, hlt]
                  clear hx2 hb6 hp ho
                  go_wp2_with fail
                  go_quiet (fail)
                  go_wp2_with fail
                  go_roundw
                  case rel => exact ⟨k' + 1 + 1, by omega, by go_num, below_drewN HB6.out _⟩
                  case measure => simp [intOf]; omega
              · clear hb6
                go_wp2_with fail
                go_roundw
                case rel => exact ⟨j + 1, qs, ms4, by omega, by omega, by omega, by go_num, HNX5.out.up HB6.out, HAT5.out.below HB6.out, HAG4.out, HBL5.out.trans (HB6.out.mono hsz5)⟩
                case measure => simp [intOf]; omega
          · go_wp2_with fail
            have HM : Hid (IsMap w2 (.slice A ps.length cp) ps) := HS2.out.maps _ ps (List.mem_cons_of_mem _ (List.mem_cons_self ..))
            have HWAS : Hid (IsMap w2 v1 ps) := HS2.out.maps _ ps (List.mem_cons_self ..)
            have HNX := HM
            have HAT4 := Lib.hid HS2.out.at_
            have HBL4 := Lib.hid HS2.out.bl
            have HQR := HRI
            have HAG4 := HAG
            clear HS2 o0 o1 o2
            refine (same_rd _ HM.out.rd HWAS.out.rd).mono ?_
            rintro e w5 ⟨he, hb5⟩
            rw [decide_eq_true rfl] at he
            subst he
            have HNX5 := Lib.hid (HNX.out.up hb5)
            have HAT5 := Lib.hid (HAT4.out.below hb5)
            have HBL5 : Hid (Below w.heap.size w w5) := HBL4.out.trans (hb5.mono HBL4.out.size)
            have hsz5 := HBL5.out.size
            clear hb5 HM HWAS HNX HAT4 HBL4
            have hlen5 := run_lenm HAT5.out HAG4.out
            go_wp2_with fail
            clear hlen5
            go_loopw [108] (fun i wr' => ∃ k, k ≤ ps.length ∧ i = .int .i64 k ∧ Below w5.heap.size w5 wr') (fun i _ => ps.length - (intOf i).toNat)
            case atStart => exact ⟨0, Nat.zero_le _, rfl, Below.refl _ _⟩
            case round =>
              obtain ⟨k, hk, rfl, hb6⟩ := hrel
              have HB6 := Lib.hid hb6
              by_cases hkl : k < ps.length
              · obtain ⟨g2, off2, cz, hB, hg2, _, _, hx2⟩ := HNX5.out.rd.cells (by omega)
                injection hB with hB1 _ hB2
                subst hB1 hB2
                obtain ⟨⟨pk, pv⟩, hp⟩ : ∃ p, ps[k]? = some p := ⟨ps[k]'hkl, List.getElem?_eq_getElem _⟩
                have k0 : wr.cell? ⟨g2, off2 + k * 2, none⟩ = some (.string pk) := (hb6.cell (p := ⟨g2, off2 + k * 2, none⟩) hg2).trans (hx2 _ _ (pc_key hp))
                have k1 : wr.cell? ⟨g2, off2 + k * 2 + 1, none⟩ = some (.string pv) := (hb6.cell (p := ⟨g2, off2 + k * 2 + 1, none⟩) hg2).trans (hx2 _ _ (pc_val hp))
                have hlook6 := fun N => look_at ((HAT5.out.below hb6).drewN N) HAG4.out HQR.out hp
                by_cases hk0 : k = 0
                · subst hk0
                  have k0' : wr.cell? ⟨g2, off2, none⟩ = some (.string pk) := by simpa using k0
                  have k1' : wr.cell? ⟨g2, off2 + 1, none⟩ = some (.string pv) := by simpa using k1
                  clear hx2 hb6 k0 k1 hp
                  go_wp2_with fail
                  go_quiet (fail)
                  go_wp2_with fail
                  go_roundw
                  case rel => exact ⟨1, (by omega), rfl, below_drewN HB6.out _⟩
                  case measure => simp [intOf]; omega
                · obtain ⟨k', rfl⟩ : ∃ k', k = k' + 1 := ⟨k - 1, by omega⟩
                  obtain ⟨⟨ok, ov⟩, ho⟩ : ∃ p, ps[k']? = some p := ⟨ps[k']'(by omega), List.getElem?_eq_getElem _⟩
                  have l0 : wr.cell? ⟨g2, off2 + k' * 2, none⟩ = some (.string ok) := (hb6.cell (p := ⟨g2, off2 + k' * 2, none⟩) hg2).trans (hx2 _ _ (pc_key ho))
                  have hlt : Op.bytesLess ok.toList pk.toList = true := by
                    rw [ByteArray.toList_eq, ByteArray.toList_eq]
                    exact rise_at HQR.out ho hp (Nat.lt_succ_self k')
                  have ew : IntKind.i64.wrap (k' : Int) = (k' : Int) := by rw [IntKind.wrap_i64]; omega
                  have hi1 : (k' : Int) < (ps.length : Int) := by omega
                  have hi2 : (0 : Int) ≤ (k' : Int) := by omega
                  have hi3 : (k' : Int) + 1 < (ps.length : Int) := by omega
                  have hi4 : (0 : Int) ≤ (k' : Int) + 1 := by omega
                  have hi5 : ((k' : Int) + 1).toNat = k' + 1 := by omega
                  have hge : ∀ W : World, Sem.run Try.prog (binOp .geq 9 (.string ok) (.string pk)) W = .ok (.bool false) W := fun W => by simp [binOp, Op.stringOp, hlt]
                  clear hx2 hb6 hp ho
                  go_wp2_with fail
                  go_quiet (fail)
                  go_wp2_with fail
                  go_roundw
                  case rel => exact ⟨k' + 1 + 1, by omega, by go_num, below_drewN HB6.out _⟩
                  case measure => simp [intOf]; omega
              · clear hb6
                go_wp2_with fail
                go_roundw
                case rel => exact ⟨j + 1, ps, ms, by omega, by omega, by omega, by go_num, HNX5.out.up HB6.out, HAT5.out.below HB6.out, HAG4.out, HBL5.out.trans (HB6.out.mono hsz5)⟩
                case measure => simp [intOf]; omega
    · by_cases hjn : j < n
      · have hj5 : j = 50 := by omega
        subst hj5
        go_wp2_with fail
        go_ret
        exact ⟨rfl, HBL.out⟩
      · obtain rfl : j = n := by omega
        go_wp2_with fail
        go_ret
        exact ⟨rfl, HBL.out⟩
theorem ops_of {H : Type} {enc : TypeId × Value → H} {w : World} {base : Nat} {spare : Nat → Bool} {held : Bool} {css : List (List Value)} (h : ∀ c ∈ css, c.length = 3 ∧ Reads1 enc Try.prog w base spare held 42 c) : ∃ os : List O3, css.flatten = oc os ∧ css.length = os.length := by
  induction css with
  | nil => exact ⟨[], rfl, rfl⟩
  | cons c css ih =>
    obtain ⟨os, e1, e2⟩ := ih (fun c hc => h c (List.mem_cons_of_mem _ hc))
    obtain ⟨hl, hr⟩ := h c (List.mem_cons_self ..)
    obtain ⟨_, hf⟩ := reads_struct Try.underlying42 hr
    match c, hl with
    | [c0, c1, c2], _ =>
      obtain ⟨K, f0, _⟩ := reads_int Try.underlying3 (hf 0 _ rfl)
      obtain ⟨k, f1, _⟩ := reads_string Try.underlying9 (hf 1 _ rfl)
      obtain ⟨v, f2, _⟩ := reads_string Try.underlying9 (hf 2 _ rfl)
      have f0' : [c0] = [Value.int .i64 K] := f0
      have f1' : [c1] = [Value.string k] := f1
      have f2' : [c2] = [Value.string v] := f2
      injection f0' with f0'
      injection f1' with f1'
      injection f2' with f2'
      exact ⟨(K, k, v) :: os, by rw [List.flatten_cons, e1, f0', f1', f2']; rfl, by simp [e2]⟩
theorem maps_row {H : Type} {enc : TypeId × Value → H} {w : World} {base : Nat} {spare : Nat → Bool} {held : Bool} (v0 : Value) (ok0 : Value.okWide Try.prog w .any base 39 v0) (h0 : Reads1 enc Try.prog w 0 spare held 39 v0.cells.toList) :
    Calls Try.prog 7 #[v0] w fun e w' => e = .returned (.bool true) ∧ Below w.heap.size w w' := by
  obtain ⟨a, l, c, rfl⟩ := okWide_slice Try.underlying39 ok0
  obtain ⟨v, n, css, e, rfl, hr, hc, _⟩ := reads_slice Try.underlying39 (k := 3) rfl (by omega) h0
  have e' : [Value.slice a l c] = [v] := e
  injection e' with e'
  subst e'
  obtain ⟨os, e1, e2⟩ := ops_of hc
  rw [e1, e2] at hr
  exact maps_any _ os w hr
#print axioms maps_row
end Go.Proofs.Ytllmaoimngeofaa.KeyMa
