/- Sess: Busy. -/
import Derived.Test.YtffjkdeggkppnaaSessM
import Derived.Test.YtffjkdeggkppnaaSessH
import Derived.Deep.RegionLaw
set_option linter.unusedVariables false
set_option linter.unusedSimpArgs false
set_option linter.unusedSectionVars false
namespace Go.Proofs.Ytffjkdeggkppnaa.Sess
open Go.RowKit Go.WideShapes Go.Deep Go.Proofs.Ytffjkdeggkppnaa.Mem Go.Proofs.Ytffjkdeggkppnaa.Maps Go.Proofs.Ytffjkdeggkppnaa.Tid Go.Proofs.Ytffjkdeggkppnaa.KeyA
def busyOf (ss : List (Int × (Nat × One))) (k : Int) : Bool := match getM ss k with | some q => q.2.busy | none => false
def cnt (ss : List (Int × (Nat × One))) (ks : List Int) : Nat := (ks.filter (busyOf ss)).length
theorem cnt_snoc (ss : List (Int × (Nat × One))) (ks : List Int) (k : Int) : cnt ss (ks ++ [k]) = cnt ss ks + if busyOf ss k = true then 1 else 0 := by
  unfold cnt
  rw [List.filter_append]
  by_cases h : busyOf ss k = true <;> simp [h]
theorem cnt_le (ss : List (Int × (Nat × One))) (ks : List Int) : cnt ss ks ≤ ks.length := List.length_filter_le _ _
theorem cnt_perm {ss : List (Int × (Nat × One))} {ks ls : List Int} (h : ks.Perm ls) : cnt ss ks = cnt ss ls := (h.filter _).length_eq
theorem ty_ans : Ty Try.prog 34 7 64 (.agg #[.int .i64 0, .int .i64 0, .int .i64 0, .string ⟨#[]⟩, .bool false, .int .u64 0, .int .i64 0]) := Ty.of (by kernel_rfl) rfl
/-- One answer appended onto a row of the call's own. -/
theorem app_ans (W : World) {base : Nat} {v : Value} {n : Nat} {xs : List Value} (ho : Own W base 34 7 v n xs) (hn : n ≤ 1000) (hb : base ≤ W.heap.size) (a : Ans) :
    Does Try.prog (W.alloc (ansR a)) (Builtin.append_ #[45, 45] 45 #[v, .slice (some ⟨W.heap.size, 0, none⟩) 1 1]) fun v' w' => (∃ A c, v' = .slice A (n + 1) c) ∧ (∃ xs', Own w' base 34 7 v' (n + 1) xs') ∧ Below base W w' := by
  obtain ⟨v', w', hr, ho', hg, hb', hnil⟩ := run_append (P := Try.prog) (W.alloc (ansR a)) (ty := 45) Try.underlying45 Try.underlying45 ty_ans (ho.alloc (ansR a)) (A := some ⟨W.heap.size, 0, none⟩) (m := 1) (c := 1)
    (news := [.int .i64 a.sess, .int .i64 a.req, .int .i64 a.code, .string a.val, .bool a.has, .int .u64 a.tid.1, .int .i64 a.tid.2]) rfl
    (fun _ => ⟨W.heap.size, 0, rfl, fun j u hu => by
      rw [Nat.zero_add, cell_of_row _ _ _ _ _ _ (heap_alloc_new W (ansR a))]
      simpa using hu⟩)
    (fun u hu => by
      simp only [List.mem_cons, List.not_mem_nil, or_false] at hu
      rcases hu with rfl | rfl | rfl | rfl | rfl | rfl | rfl <;> rfl) (by unfold maxLen; omega) (by omega) (by simp; omega)
  obtain ⟨A, c, e, _⟩ := ho'.slice_
  refine ⟨v', w', hr, ⟨A, c, e⟩, ⟨_, ho'⟩, ((Below.refl _ W).alloc hb _).grown hg (by simp; omega) (fun k hk => (ho.lt k hk).1)⟩
set_option maxHeartbeats 2000000 in
set_option maxRecDepth 100000 in
theorem busy_any {B gt ba bo : Nat} {w : World} {ss : List (Int × (Nat × One))} {of : List ((Int × Int) × Int)} (h : Tab w B gt ba bo ss of) (hl : ss.length ≤ 1000) :
    Calls Try.prog 15 #[.pointer (some ⟨gt, 0, none⟩)] w fun e w' => (∃ A c, e = .returned (.slice A (cnt ss (ss.map (·.1))) c)) ∧ Below w.heap.size w w' := by
  have H := Lib.hid h
  have HK := Lib.hid (keys_any w ba)
  have HS := Lib.hid (sorted_any h.fa (by omega))
  obtain ⟨t0, t1⟩ := tab_cells h
  clear h
  go_enter Try.func15, Try.ntmps15
  go_wp2_with fail
  refine HK.out.mono ?_
  rintro e w1 ⟨rfl, rfl⟩
  go_wp2_with fail
  refine HS.out.mono ?_
  rintro e w2 ⟨v, ks, rfl, hp, hrd, hb2⟩
  have H2 := Lib.hid (H.out.below hb2)
  have HB2 := Lib.hid hb2
  have HRD := Lib.hid hrd
  have HP := Lib.hid hp
  have hkl : ks.length = ss.length := by rw [hp.length_eq]; simp
  obtain ⟨A, c, rfl⟩ : ∃ A c, v = .slice A ks.length c := by
    obtain ⟨_, A, c, e, _⟩ := hrd; exact ⟨A, c, e⟩
  obtain ⟨n, hn⟩ : ∃ n, n = ks.length := ⟨_, rfl⟩
  rw [← hn] at HRD ⊢
  have HN := Lib.hid hn
  have hn1 : n ≤ 1000 := by omega
  clear hb2 hrd hp hkl hn t0 t1 HK HS
  go_wp2_with fail
  go_loopw [3, 16] (fun o i wr => ∃ (j : Nat) (A : Option Addr) (c : Nat) (xs : List Value), j ≤ n ∧ i = .int .i64 j ∧ o = .slice A (cnt ss (ks.take j)) c ∧ Own wr w2.heap.size 34 7 (.slice A (cnt ss (ks.take j)) c) (cnt ss (ks.take j)) xs ∧ Below w2.heap.size w2 wr) (fun _ i _ => n - (intOf i).toNat)
  case atStart => exact ⟨0, none, 0, [], Nat.zero_le _, rfl, rfl, Own.nil_ _ _ _ _, Below.refl _ _⟩
  case round =>
    obtain ⟨j, A2, c2, xs, hj, rfl, rfl, hown, hbl⟩ := hrel
    by_cases hlt : j < n
    · obtain ⟨k, hk⟩ : ∃ k, ks[j]? = some k := ⟨ks[j]'(by rw [← HN.out]; omega), List.getElem?_eq_getElem _⟩
      obtain ⟨g, off, rfl, hg, hx⟩ : ∃ g off, A = some ⟨g, off, none⟩ ∧ g < w2.heap.size ∧ ∀ j u, (ks.map encI)[j]? = some u → w2.cell? ⟨g, off + j, none⟩ = some u := by
        obtain ⟨g, off, c', e, hg, _, _, hx⟩ := HRD.out.cells (by omega)
        injection e with e1
        exact ⟨g, off, e1, hg, hx⟩
      have c0 : wr.cell? ⟨g, off + j, none⟩ = some (.int .i64 k) := (hbl.cell (p := ⟨g, off + j, none⟩) hg).trans (hx j _ (by simp [hk, encI]))
      have hmem : k ∈ ss.map (·.1) := (HP.out.mem_iff).1 (List.mem_of_getElem? hk)
      obtain ⟨⟨k', q⟩, hq, rfl⟩ := List.mem_map.1 hmem
      obtain ⟨iq, hiq⟩ := List.getElem?_of_mem hq
      have hT := H2.out.below hbl
      have hget : getM ss k' = some q := getM_at hT.fa.keys hiq
      obtain ⟨g1, o⟩ := q
      have hlook := run_sess hT (hT.okey hget)
      rw [hget] at hlook
      simp only [Option.map_some] at hlook
      have hr := (hT.rows _ _ hget).1
      obtain ⟨t0, t1⟩ := tab_cells hT
      obtain ⟨o0, o1, o2, o3, o4, _⟩ := one_cells hr
      dsimp only at o0 o1 o2 o3 o4 c0
      have hnext : cnt ss (ks.take (j + 1)) = cnt ss (ks.take j) + if busyOf ss k' = true then 1 else 0 := by
        rw [List.take_add_one, hk]; exact cnt_snoc _ _ _
      have hbo : busyOf ss k' = o.busy := by unfold busyOf; rw [hget]
      rw [hbo] at hnext
      have HNX := Lib.hid hnext
      have HBL := Lib.hid hbl
      have HOW := Lib.hid hown
      have hc1 : cnt ss (ks.take j) ≤ 1000 := by have := cnt_le ss (ks.take j); rw [List.length_take] at this; omega
      obtain ⟨m, hm⟩ : ∃ m, m = cnt ss (ks.take j) := ⟨_, rfl⟩
      rw [← hm] at HNX HOW hc1 ⊢
      have i0 : (0 : Int) ≤ (j : Int) := by omega
      have i1 : (j : Int) < (n : Int) := by omega
      have HSL : Hid (∀ W, Fr (fun _ => False) wr W → W.cell? ⟨g1, 0, none⟩ = some (.int .i64 o.req) ∧ W.cell? ⟨g1, 2, none⟩ = some (.int .u64 o.tid.1) ∧ W.cell? ⟨g1, 3, none⟩ = some (.int .i64 o.tid.2)) := fun W hf => ⟨hf.cell o0 (fun h => h), hf.cell o2 (fun h => h), hf.cell o3 (fun h => h)⟩
      clear hx hmem hq hiq hT hget hr hnext hbo hbl hown hm hk
      obtain ⟨b, hb⟩ : ∃ b, b = o.busy := ⟨_, rfl⟩
      rw [← hb] at o1 HNX
      clear hb
      cases b with
      | false =>
        go_wp2_with fail
        go_roundw
        case rel => exact ⟨j + 1, A2, c2, xs, by omega, by go_num, by rw [HNX.out]; rfl, by rw [HNX.out]; exact HOW.out, HBL.out⟩
        case measure => simp [intOf]; omega
      | true =>
        go_upto_region 9 with fail
        clear hlook t0 t1 c0
        have hap := app_ans wr.drew HOW.out hc1 (by exact HBL.out.size) ⟨k', o.req, 16, ⟨#[]⟩, false, o.tid⟩
        unfold ansR at hap
        dsimp only at hap
        have HAP := Lib.hid hap
        clear hap
        go_region_law (first
          | (refine step_append rfl _ _ 45 45 rfl (by simp [Act.eval, Act.put]) (by simp [Act.eval, Act.put]) HAP.out ?_; rintro av2 w3 ⟨⟨A3, c3, rfl⟩, ho3, hb3⟩; have HO3 := Lib.hid ho3; have HB3 := Lib.hid hb3; clear ho3 hb3))
        all_goals
          go_wp2_with fail
          go_roundw
          case rel =>
            obtain ⟨xs3, ho3⟩ := HO3.out
            have hbw : Below w2.heap.size wr w3 := ⟨HB3.out.os, HB3.out.tape, HB3.out.output, HB3.out.size, HB3.out.block⟩
            exact ⟨j + 1, A3, c3, xs3, by omega, by go_num, by rw [HNX.out]; rfl, by rw [HNX.out]; exact ho3, HBL.out.trans hbw⟩
          case measure => simp [intOf]; omega
    · obtain rfl : j = n := by omega
      have htk : ks.take j = ks := by rw [HN.out]; exact List.take_length
      rw [htk]
      have HBL := Lib.hid hbl
      have hc := cnt_perm (ss := ss) HP.out
      have HC := Lib.hid hc
      have i1 : ¬ ((j : Int) < (j : Int)) := by omega
      clear hbl hown htk hc
      go_wp2_with fail
      go_ret
      exact ⟨⟨A2, c2, by rw [← HC.out]; rfl⟩, HB2.out.trans (HBL.out.mono HB2.out.size)⟩
#print axioms busy_any
end Go.Proofs.Ytffjkdeggkppnaa.Sess
