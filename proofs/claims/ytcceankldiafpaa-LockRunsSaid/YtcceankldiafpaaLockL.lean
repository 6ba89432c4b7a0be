/- Keys: what a transaction has, in order. -/
import Derived.Test.YtcceankldiafpaaLockM
set_option linter.unusedVariables false
set_option linter.unusedSimpArgs false
set_option linter.unusedSectionVars false
set_option maxRecDepth 100000
namespace Go.Proofs.Ytcceankldiafpaa.Lock
open Go.RowKit Go.WideShapes Go.Deep Go.Proofs.Ytcceankldiafpaa.Mem Go.Proofs.Ytcceankldiafpaa.Open Go.Proofs.Ytcceankldiafpaa.Maps
theorem tyS : Ty Try.prog 9 1 16 (.string ⟨#[]⟩) := Ty.of (by kernel_rfl) rfl
def sc (ss : List S) : List Value := ss.map Value.string
theorem sc_one (ss : List S) : One (sc ss) := by
  intro u hu
  obtain ⟨s, _, rfl⟩ := List.mem_map.1 hu
  rfl
def SOwn (w' : World) (B : Nat) (v : Value) (ss : List S) : Prop := Own w' B 9 1 v ss.length (sc ss)
theorem SOwn.form {w : World} {B : Nat} {v : Value} {ss : List S} (h : SOwn w B v ss) : ∃ A c, v = .slice A ss.length c := by
  obtain ⟨A, c, e, _⟩ := Own.slice_ h
  exact ⟨A, c, e⟩
theorem app_s {W : World} {B : Nat} {v : Value} {ss : List S} (ho : SOwn W B v ss) (hB : B ≤ W.heap.size) (s : S) (hlim : ss.length ≤ 100000) (t : TypeId) :
    Does Try.prog (W.alloc (.cells #[.string s] 9)) (Builtin.append_ #[40, 40] t #[v, .slice (some ⟨W.heap.size, 0, none⟩) 1 1]) fun v' w' => SOwn w' B v' (ss ++ [s]) ∧ Below B W w' := by
  have hw : Below W.heap.size W (W.alloc (.cells #[.string s] 9)) := (Below.refl _ _).alloc (Nat.le_refl _) _
  obtain ⟨v', w', hrun, ho', hg, hbl, _⟩ := run_append (P := Try.prog) (W.alloc (.cells #[.string s] 9)) (ty := t) Try.underlying40 Try.underlying40 tyS (Own.alloc ho (.cells #[.string s] 9)) (A := some ⟨W.heap.size, 0, none⟩) (m := 1) (c := 1) (news := sc [s]) rfl
    (fun h0 => ⟨_, _, rfl, fun j u hu => by
      rw [Nat.zero_add, cell_of_row _ _ _ _ _ _ (heap_alloc_new W _)]
      simpa [sc] using hu⟩) (sc_one _) (by unfold maxLen; omega) (by omega) (by simp; omega)
  refine ⟨v', w', hrun, ?_, ?_⟩
  · unfold SOwn
    rw [List.length_append, List.length_singleton, show sc (ss ++ [s]) = sc ss ++ sc [s] by simp [sc]]
    exact ho'
  · have hf : Fr (fun g => v.ownBlock = some g) (W.alloc (.cells #[.string s] 9)) w' := Fr.of_grown hg (fun g e => e)
    exact (hw.mono hB).trans (hf.below (by simp; omega) fun g _ e => (Own.lt ho g e).1)
def KeysR (w : World) (qs : List (S × Qv)) (p : Int × Int) (e : Ending) (w' : World) : Prop :=
  ∃ v ks, e = .returned v ∧ (ks : List (List UInt8)).Perm (qs.map fun q => kb q.1) ∧ ks.Pairwise (fun a b => ¬ b < a) ∧ SOwn w' w.heap.size v ((ks.map ofB).filter fun k => hasT (lineOf qs k).1 p) ∧ Below w.heap.size w w'
set_option maxHeartbeats 8000000 in
theorem keysT_any {w : World} {B lt mb : Nat} {qs : List (S × Qv)} (h : Tb w B lt mb qs) (p : Int × Int) (hl : qs.length ≤ 1000) (hok : ∀ q ∈ qs, OkS q.1) :
    Calls Try.prog 22 #[.pointer (some ⟨lt, 0, none⟩), .agg #[.int .u64 p.1, .int .i64 p.2]] w (KeysR w qs p) := by
  have H := Lib.hid h
  have HOK := Lib.hid hok
  clear h hok
  go_enter Try.func22, Try.ntmps22
  go_upto_region 3 with fail
  obtain ⟨gt, hgt⟩ : ∃ g, g = w.heap.size := ⟨_, rfl⟩
  obtain ⟨X, hX⟩ : ∃ X, X = w.alloc (.cells #[.int .u64 p.1, .int .i64 p.2] 24) := ⟨_, rfl⟩
  rw [← hX, ← hgt]
  have HXB : Hid (Below w.heap.size w X) := Lib.hid (by rw [hX]; exact (Below.refl _ _).alloc (Nat.le_refl _) _)
  have HXT : Hid (X.heap[gt]? = some (.cells #[.int .u64 p.1, .int .i64 p.2] 24 (0, 0))) := Lib.hid (by rw [hX, hgt]; exact heap_alloc_new w _)
  have HTX := Lib.hid (H.out.below HXB.out)
  have hsX := HXB.out.size
  clear hX hgt
  have t0 := HTX.out.cell
  go_upto_region 4 with (first
    | (go_at_call 35; refine (keys_any X mb).mono ?_; rintro e W1 ⟨rfl, hW1⟩; rw [hW1]; clear hW1 W1)
    | (go_at_call 34; refine (sorted_any HTX.out.fm (by omega)).mono ?_; rintro e W2 ⟨v2, ks, rfl, hp2, hs2, hr2, hb2, hk2⟩; obtain ⟨A2, c2, e2⟩ : ∃ A c, v2 = .slice A ks.length c := (by obtain ⟨_, A, c, e, _⟩ := hr2; exact ⟨A, c, e⟩); subst e2; have HP2 := Lib.hid hp2; have HS2 := Lib.hid hs2; have HR2 := Lib.hid hr2; have HB2 := Lib.hid hb2; clear hp2 hs2 hr2 hb2 hk2))
  have HTW := Lib.hid (HTX.out.below HB2.out)
  have HBW : Hid (Below w.heap.size w W2) := Lib.hid (HXB.out.trans (HB2.out.mono hsX))
  have hsW := HBW.out.size
  have HWT := Lib.hid (blk_below HXT.out HB2.out)
  have HKEY : Hid (∀ b, b ∈ ks → ∃ q, getM qs (ofB b) = some q ∧ OkS (ofB b)) := Lib.hid (fun b hb => by
    obtain ⟨q, hq, e⟩ := List.mem_map.1 (HP2.out.mem_iff.1 hb)
    obtain ⟨i, hi⟩ := List.getElem?_of_mem hq
    have e2 : ofB b = q.1 := by rw [← e]; rfl
    rw [e2]
    exact ⟨q.2, getM_at H.out.fm.keys hi, HOK.out q hq⟩)
  obtain ⟨nk, hnk⟩ : ∃ n, n = ks.length := ⟨_, rfl⟩
  rw [← hnk]
  have HNK := Lib.hid hnk
  have hnk2 : nk ≤ 1000 := by rw [hnk, HP2.out.length_eq, List.length_map]; exact hl
  clear hnk t0
  go_loopw [5, 17] (fun v5 v17 wr => ∃ j : Nat, j ≤ nk ∧ v17 = .int .i64 j ∧ SOwn wr W2.heap.size v5 (((ks.take j).map ofB).filter fun k => hasT (lineOf qs k).1 p) ∧ Below W2.heap.size W2 wr) (fun _ v17 _ => nk - (intOf v17).toNat)
  case atStart => exact ⟨0, Nat.zero_le _, rfl, Own.nil_ _ _ _ _, Below.refl _ _⟩
  case round =>
    obtain ⟨j, hj, rfl, hso, hbl⟩ := hrel
    obtain ⟨A5, c5, rfl⟩ := hso.form
    obtain ⟨ss, hss⟩ : ∃ ss, ss = ((ks.take j).map ofB).filter fun k => hasT (lineOf qs k).1 p := ⟨_, rfl⟩
    rw [← hss] at hso ⊢
    have HSS := Lib.hid hss
    have hsl : ss.length ≤ 1000 := by
      have h1 := List.length_filter_le (fun k => hasT (lineOf qs k).1 p) ((ks.take j).map ofB)
      rw [← hss, List.length_map, List.length_take] at h1
      omega
    obtain ⟨ns, hns⟩ : ∃ n, n = ss.length := ⟨_, rfl⟩
    rw [← hns]
    have HNS := Lib.hid hns
    have HSO := Lib.hid hso
    have HBL := Lib.hid hbl
    have hsz := hbl.size
    clear hso hbl hss hns
    by_cases hlt : j < nk
    rotate_left
    · obtain rfl : j = nk := by omega
      go_wp2_with fail
      go_ret
      have hs := HSS.out
      rw [HNK.out, List.take_length] at hs
      refine ⟨_, ks, rfl, HP2.out, HS2.out, ?_, HBW.out.trans (HBL.out.mono hsW)⟩
      rw [← hs, HNS.out]
      exact Own.base_ HSO.out fun g hg => by have := (Own.lt HSO.out g hg).1; omega
    · obtain ⟨b, hbj⟩ : ∃ b, ks[j]? = some b := ⟨ks[j]'(by rw [← HNK.out]; omega), List.getElem?_eq_getElem _⟩
      obtain ⟨q, hq, hks⟩ := HKEY.out b (List.mem_of_getElem? hbj)
      have i0 : (0 : Int) ≤ (j : Int) := by omega
      have i1 : (j : Int) < (nk : Int) := by omega
      obtain ⟨gk, offk, ck, ek, hgk, _, _, hxk⟩ := HR2.out.cells (by rw [← HNK.out]; omega)
      injection ek with ek1 ek2 ek3
      clear ek2
      subst ek1 ek3
      have k0 : wr.cell? ⟨gk, offk + j, none⟩ = some (.string (ofB b)) := (HBL.out.cell (p := ⟨gk, offk + j, none⟩) hgk).trans (hxk j _ (by rw [List.getElem?_map, hbj]; rfl))
      have HTR := Lib.hid (HTW.out.below HBL.out)
      have hlk := run_lookupP (HTR.out.drewN 1) hks
      rw [hq] at hlk
      dsimp only [Option.map] at hlk
      have hlk2 : (Instr.lookup 62 (.map (some mb)) (.string (ofB b)) false).run Try.prog wr.drew = .ok (.pointer (some ⟨q.qb, 0, none⟩)) wr.drew := hlk
      have HQA := Lib.hid (HTR.out.rows _ q hq)
      have HRT := Lib.hid (blk_below HWT.out HBL.out)
      have hline : lineOf qs (ofB b) = (q.has, q.waits) := by unfold lineOf; rw [hq]
      have HLI := Lib.hid hline
      have HBJ := Lib.hid hbj
      obtain ⟨s, hs⟩ : ∃ s, s = ofB b := ⟨_, rfl⟩
      rw [← hs] at k0 hlk2 HLI
      have HSB := Lib.hid hs
      obtain ⟨q0, hv, wv, has, waits⟩ := q
      obtain ⟨Ah, ch, ehv, _⟩ := HQA.out.h.slice_
      dsimp only at ehv hlk2 HLI
      subst ehv
      obtain ⟨nh, hnh⟩ : ∃ n, n = has.length := ⟨_, rfl⟩
      obtain ⟨ri, hri⟩ : ∃ r, r = firstZ (fun t => sameT t p) has := ⟨_, rfl⟩
      have HF : Hid (∀ V, Below wr.heap.size wr V → Calls Try.prog 24 #[.slice Ah nh ch, .agg #[.int .u64 p.1, .int .i64 p.2]] V fun e w' => e = .returned (.int .i64 ri) ∧ Below wr.heap.size wr w') := Lib.hid (fun V hb => by rw [hri, hnh]; exact find_of HQA.out.h p hb)
      have HS : Hid (∀ V, Below wr.heap.size wr V → (V.cell? ⟨q0, 0, none⟩ = some (.slice Ah nh ch) ∧ V.cell? ⟨lt, 0, none⟩ = some (.map (some mb))) ∧ V.cell? ⟨gt, 0, none⟩ = some (.int .u64 p.1) ∧ V.cell? ⟨gt, 1, none⟩ = some (.int .i64 p.2)) := Lib.hid (fun V hb => ⟨⟨by rw [hnh]; exact (HQA.out.below hb).cells.1, (HTR.out.below hb).cell⟩, row2c (blk_below HRT.out hb)⟩)
      have HHT : Hid (hasT (lineOf qs s).1 p = decide (0 ≤ ri)) := Lib.hid (by rw [HLI.out]; unfold hasT; rw [any_first, ← hri])
      have HTK : Hid ((ks.take (j + 1)).map ofB = (ks.take j).map ofB ++ [s]) := Lib.hid (by rw [List.take_add_one, hbj, List.map_append, show (some b).toList.map ofB = [s] by rw [hs]; rfl])
      clear hbj hq hks hgk hxk hlk hline hs hnh hri
      go_upto_region 6 with fail
      clear k0
      go_region_held3 (fun V => (V.cell? ⟨q0, 0, none⟩ = some (.slice Ah nh ch) ∧ V.cell? ⟨lt, 0, none⟩ = some (.map (some mb))) ∧ V.cell? ⟨gt, 0, none⟩ = some (.int .u64 p.1) ∧ V.cell? ⟨gt, 1, none⟩ = some (.int .i64 p.2))
        ((first | (refine HS.out _ ?_; repeat (first | with_reducible exact Below.refl _ _ | exact HBa.out | with_reducible refine Below.drew ?_))))
        ((first | (go_at_call 24; refine (HF.out _ ?_).mono ?_; (repeat (first | with_reducible exact Below.refl _ _ | with_reducible refine Below.drew ?_)); rintro e wa ⟨rfl, hba⟩; have HBa := Lib.hid hba; clear hba)))
      rename_i hheld
      clear hheld hlk2
      have HBA : Hid (Below W2.heap.size W2 wa) := Lib.hid (HBL.out.trans (HBa.out.mono hsz))
      have HSA : Hid (SOwn wa W2.heap.size (.slice A5 ns c5) ss) := Lib.hid (by rw [HNS.out]; exact Own.below HSO.out HBa.out)
      by_cases hpi : 0 ≤ ri
      · have HPI := Lib.hid hpi
        have HAP := Lib.hid (app_s HSA.out HBA.out.size s (by omega) 40)
        go_wp2_with (at_builtin; refine wpL_append rfl _ _ 40 40 rfl rfl rfl HAP.out ?_; rintro v5 w5 ⟨ho5, hb5⟩; have HO5 := Lib.hid ho5; have HB5 := Lib.hid hb5; clear ho5 hb5)
        go_roundw
        case rel => exact ⟨j + 1, by omega, by go_num, by rw [HTK.out, List.filter_append, ← HSS.out]; have e : [s].filter (fun k => hasT (lineOf qs k).1 p) = [s] := (by rw [List.filter_cons, if_pos (by rw [HHT.out]; exact decide_eq_true HPI.out)]; rfl); rw [e]; exact HO5.out, HBA.out.trans HB5.out⟩
        case measure => simp [intOf]; omega
      · have hpi2 : ri < 0 := by omega
        have HPI := Lib.hid hpi2
        go_wp2_with fail
        go_roundw
        case rel => exact ⟨j + 1, by omega, by go_num, by rw [HTK.out, List.filter_append, ← HSS.out]; have e : [s].filter (fun k => hasT (lineOf qs k).1 p) = [] := (by rw [List.filter_cons, if_neg (by rw [HHT.out, decide_eq_false (by have := HPI.out; omega)]; simp)]; rfl); rw [e, List.append_nil]; exact HSA.out, HBA.out⟩
        case measure => simp [intOf]; omega
#print axioms keysT_any
end Go.Proofs.Ytcceankldiafpaa.Lock
