/- Tables whose lines are all right; LockRound's walk. -/
import Derived.Test.YtcceankldiafpaaLockW
set_option linter.unusedVariables false
set_option linter.unusedSimpArgs false
set_option linter.unusedSectionVars false
set_option maxRecDepth 100000
namespace Go.Proofs.Ytcceankldiafpaa.Lock
open Go.RowKit Go.WideShapes Go.Deep Go.Proofs.Ytcceankldiafpaa.Mem Go.Proofs.Ytcceankldiafpaa.Open Go.Proofs.Ytcceankldiafpaa.Maps
structure RndT (w : World) (B lt mb N : Nat) (qs : List (S × Qv)) : Prop where
  tb : Tb w B lt mb qs
  bnd : Bnd qs N
  len : qs.length ≤ N
  ok : ∀ k, LineOk (lineOf qs k)
  right : ∀ k, RightL (lineOf qs k)
theorem RndT.below {w w' : World} {B lt mb N : Nat} {qs : List (S × Qv)} (h : RndT w B lt mb N qs) (hb : Below w.heap.size w w') : RndT w' B lt mb N qs := ⟨h.tb.below hb, h.bnd, h.len, h.ok, h.right⟩
theorem RndT.more {w : World} {B lt mb N M : Nat} {qs : List (S × Qv)} (h : RndT w B lt mb N qs) (hN : N ≤ M) : RndT w B lt mb M qs := ⟨h.tb, fun k => Nat.le_trans (h.bnd k) hN, Nat.le_trans h.len hN, h.ok, h.right⟩
theorem RndT.new {w : World} {B lt mb : Nat} (h : Tb w B lt mb []) : RndT w B lt mb 0 [] := ⟨h, Bnd.nil, Nat.le_refl _, fun k => LineOk.nil, fun k => RightL.nil⟩
def AskN (w : World) (B lt mb N : Nat) (qs : List (S × Qv)) (e : Ending) (w' : World) : Prop := ∃ a qs', e = .returned (.int .i64 a) ∧ RndT w' B lt mb (N + 1) qs' ∧ TGo w w' mb qs qs'
theorem RndT.ask {w : World} {B lt mb N : Nat} {qs : List (S × Qv)} (h : RndT w B lt mb N qs) {k : S} (hk : OkS k) (p : Int × Int) (m : Int) (hN : N ≤ 50000) :
    Calls Try.prog 13 #[.pointer (some ⟨lt, 0, none⟩), .agg #[.int .u64 p.1, .int .i64 p.2], .string k, .int .i64 m] w (AskN w B lt mb N qs) := by
  refine (ask_any h.tb hk p m fun k q hq => by have := h.bnd.rows hq; omega).mono ?_
  rintro e w' ⟨he, qs', h1, h2, h3⟩
  have h5 := h3.len
  have h6 := h.len
  refine ⟨_, qs', he, ⟨h1, h3.bnd h.bnd, by omega, fun k' => ?_, fun k' => ?_⟩, h2⟩
  · by_cases e : k' = k
    · subst e; rw [h3.line]; exact (ask_ok (h.ok _) p m).1
    · rw [h3.other e]; exact h.ok k'
  · by_cases e : k' = k
    · subst e; rw [h3.line]; exact ask_right (h.ok _) (h.right _) p m
    · rw [h3.other e]; exact h.right k'
def FreeN (w : World) (B lt mb N : Nat) (qs : List (S × Qv)) (e : Ending) (w' : World) : Prop := ∃ A n c qs', e = .returned (.slice A n c) ∧ RndT w' B lt mb N qs' ∧ TGo w w' mb qs qs'
theorem RndT.free {w : World} {B lt mb N : Nat} {qs : List (S × Qv)} (h : RndT w B lt mb N qs) (p : Int × Int) (hN : N ≤ 100) :
    Calls Try.prog 14 #[.pointer (some ⟨lt, 0, none⟩), .agg #[.int .u64 p.1, .int .i64 p.2]] w (FreeN w B lt mb N qs) := by
  have hokk : ∀ q ∈ qs, OkS q.1 := by
    obtain ⟨_, _, _, _, h3, _⟩ := h.tb.fm
    exact h3
  have hnd := h.tb.fm.keys
  refine (free_any h.tb p (N := N) (by omega) h.bnd (by have := h.len; omega) hokk).mono ?_
  rintro e w' ⟨v, qs', ks, gs, he, hg, hT, hG, hp, hs, hi⟩
  have hkd : (ks.map ofB).Perm (qs.map (·.1)) := by
    have := hp.map ofB
    rw [List.map_map] at this
    exact this
  obtain ⟨A, c, ev⟩ := hg.form
  subst ev
  have hout : ∀ k', k' ∉ ks.map ofB → lineOf qs' k' = ([], []) := fun k' hn => by
    unfold lineOf
    rw [hi.out k' hn]
    cases hq : getM qs k' with
    | none => rfl
    | some q => exact absurd (hkd.mem_iff.2 (List.mem_map.2 ⟨_, getM_mem hq, rfl⟩)) hn
  have hbn : Bnd qs' N := fun k' => by
    by_cases e : k' ∈ ks.map ofB
    · rw [hi.inn k' e]
      have h1 := freeL_len (lineOf qs k') p
      have h2 := h.bnd k'
      omega
    · rw [hout k' e]
      exact Nat.zero_le _
  have hln : qs'.length ≤ qs.length := by
    have hnd' := hT.fm.keys
    unfold Keys1 at hnd hnd'
    have hsub : ∀ x, x ∈ qs'.map (·.1) → x ∈ qs.map (·.1) := fun x hx => by
      obtain ⟨q, hq, rfl⟩ := List.mem_map.1 hx
      obtain ⟨i, hi2⟩ := List.getElem?_of_mem hq
      have hq' := getM_at hnd' hi2
      refine Classical.byContradiction fun hn => ?_
      have hn2 : q.1 ∉ ks.map ofB := fun hm => hn (hkd.mem_iff.1 hm)
      rw [hi.out _ hn2] at hq'
      exact hn (List.mem_map.2 ⟨_, getM_mem hq', rfl⟩)
    have := nodup_le hnd' hsub
    simpa using this
  refine ⟨A, _, c, qs', he, ⟨hT, hbn, by have := h.len; omega, fun k' => ?_, fun k' => ?_⟩, hG⟩
  · by_cases e : k' ∈ ks.map ofB
    · rw [hi.inn k' e]
      exact (free_ok (h.ok k') p).1
    · rw [hout k' e]
      exact LineOk.nil
  · by_cases e : k' ∈ ks.map ofB
    · rw [hi.inn k' e]
      exact free_right (h.ok k') (h.right k') p
    · rw [hout k' e]
      exact RightL.nil
#print axioms RndT.ask
#print axioms RndT.free
theorem s_w : (9 : TypeId) ≠ 47 := by decide
theorem s_q : (9 : TypeId) ≠ 68 := by decide
theorem s_t : (9 : TypeId) ≠ 64 := by decide
theorem app_s2 {W : World} {B : Nat} {v : Value} {ss : List S} (ho : SOwn W B v ss) (hB : B ≤ W.heap.size) (s : S) (hlim : ss.length ≤ 100000) (t : TypeId) :
    Does Try.prog (W.alloc (.cells #[.string s] 9)) (Builtin.append_ #[40, 40] t #[v, .slice (some ⟨W.heap.size, 0, none⟩) 1 1]) fun v' w' => SOwn w' B v' (ss ++ [s]) ∧ Fr (fun g => v.ownBlock = some g) (W.alloc (.cells #[.string s] 9)) w' := by
  obtain ⟨v', w', hrun, ho', hg, hbl, _⟩ := run_append (P := Try.prog) (W.alloc (.cells #[.string s] 9)) (ty := t) Try.underlying40 Try.underlying40 tyS (Own.alloc ho (.cells #[.string s] 9)) (A := some ⟨W.heap.size, 0, none⟩) (m := 1) (c := 1) (news := sc [s]) rfl
    (fun h0 => ⟨_, _, rfl, fun j u hu => by
      rw [Nat.zero_add, cell_of_row _ _ _ _ _ _ (heap_alloc_new W _)]
      simpa [sc] using hu⟩) (sc_one _) (by unfold maxLen; omega) (by omega) (by simp; omega)
  refine ⟨v', w', hrun, ?_, Fr.of_grown hg (fun g e => e)⟩
  unfold SOwn
  rw [List.length_append, List.length_singleton, show sc (ss ++ [s]) = sc ss ++ sc [s] by simp [sc]]
  exact ho'
set_option maxHeartbeats 20000000 in
theorem round_any (w : World) (v0 : Value) (os : List OpT) (h : OpsIn w v0 os) :
    Calls Try.prog 4 #[v0] w fun e w' => e = .returned (.bool true) ∧ Below w.heap.size w w' := by
  obtain ⟨n, hn⟩ : ∃ n, n = os.length := ⟨_, rfl⟩
  have hl0 := h.rd.len_le
  unfold maxLen at hl0
  obtain ⟨A0, c0, rfl⟩ : ∃ A c, v0 = .slice A n c := by
    obtain ⟨_, A, c, e, _⟩ := h.rd
    exact ⟨A, c, by rw [hn]; exact e⟩
  rw [← hn] at hl0
  have H := Lib.hid h
  have HN := Lib.hid hn
  clear h hn
  go_enter Try.func4, Try.ntmps4
  go_upto_region 3 with (go_at_call 10; refine (head_any w).mono ?_; rintro e X ⟨rfl, hb1⟩; have HXB := Lib.hid hb1; clear hb1)
  have HL := Lib.hid (H.out.up HXB.out)
  clear H
  go_upto_region 4 with (go_at_call 12; refine (new_any X).mono ?_; rintro e W2 ⟨rfl, ht2, hb2⟩; have HT2 := Lib.hid ht2; have HB2 := Lib.hid hb2; clear ht2 hb2)
  obtain ⟨B, hB⟩ : ∃ B, B = X.heap.size := ⟨_, rfl⟩
  obtain ⟨lt, hlt⟩ : ∃ B, B = X.heap.size + 1 := ⟨_, rfl⟩
  obtain ⟨mb, hmb⟩ : ∃ B, B = X.heap.size := ⟨_, rfl⟩
  have HT2' : Hid (Tb W2 B lt mb []) := Lib.hid (by rw [hB, hlt, hmb]; exact HT2.out)
  rw [← hlt]
  have hX1 : X.heap.size ≤ B := Nat.le_of_eq hB.symm
  have hBW : B ≤ W2.heap.size := HT2'.out.size
  clear HT2 hB hlt hmb
  go_upto_region 6 with fail
  go_loopw [4, 5] (fun v4 v5 wr => ∃ (i : Nat) (qs : List (S × Qv)) (al : List S), i ≤ n ∧ i ≤ 40 ∧ v5 = .int .i64 i ∧ SOwn wr B v4 al ∧ al.length ≤ i ∧ (∀ s ∈ al, OkS s) ∧ RndT wr B lt mb i qs ∧ Below X.heap.size X wr) (fun _ v5 _ => n - (intOf v5).toNat)
  case atStart => exact ⟨0, [], [], Nat.zero_le _, by omega, rfl, ⟨by simp [sc], .inr ⟨W2.heap.size, 0, 0, #[], rfl, hBW, heap_alloc_new W2 _, Nat.le_refl _, Nat.zero_le _, by simp, by simp [sc]⟩⟩, Nat.le_refl _, (fun s hs => by cases hs), (RndT.new HT2'.out).below ((Below.refl _ _).alloc (Nat.le_refl _) _), HB2.out.alloc HB2.out.size _⟩
  case round =>
    obtain ⟨i, qs, al, hin, hi40, rfl, hpo, hal, hok, hend, hbl⟩ := hrel
    have HT := Lib.hid hend
    have HBL := Lib.hid hbl
    have HPO := Lib.hid hpo
    have HAL := Lib.hid hok
    have hszr := hbl.size
    obtain ⟨Aa, ca, rfl⟩ := hpo.form
    obtain ⟨na, hna⟩ : ∃ n, n = al.length := ⟨_, rfl⟩
    rw [← hna] at hal ⊢
    have HNA := Lib.hid hna
    clear hend hbl hpo hna hok
    by_cases hlt : i < n ∧ i < 40
    · obtain ⟨hlt1, hlt2⟩ := hlt
      have hlt3 : (i : Int) < (n : Int) := by omega
      have hlt4 : (i : Int) < 40 := by omega
      have i0 : (0 : Int) ≤ (i : Int) := by omega
      obtain ⟨oo, hoo⟩ : ∃ oo, os[i]? = some oo := ⟨os[i]'(by rw [← HN.out]; omega), List.getElem?_eq_getElem _⟩
      obtain ⟨g, off, ce, hv0, hg, _, _, hx⟩ := HL.out.rd.cells (by rw [← HN.out]; omega)
      injection hv0 with hv01 hv00 hv02
      clear hv00
      subst hv01 hv02
      have HKK : Hid (OkS oo.key) := Lib.hid (by have := HL.out.each _ (List.mem_of_getElem? hoo); unfold OkS maxLen; omega)
      have hw : ∀ {j : Nat} {u : Value}, X.cell? ⟨g, j, none⟩ = some u → wr.cell? ⟨g, j, none⟩ = some u := fun {j u} hu => (HBL.out.cell (p := ⟨g, j, none⟩) hg).trans hu
      have k0 : wr.cell? ⟨g, off + i * 5, none⟩ = some (.int .i64 oo.k) := hw (hx _ _ (oc_at hoo 0 _ rfl))
      have k1 : wr.cell? ⟨g, off + i * 5 + 1, none⟩ = some (.int .u64 oo.tid.1) := hw (by rw [Nat.add_assoc]; exact hx _ _ (oc_at hoo 1 _ rfl))
      have k2 : wr.cell? ⟨g, off + i * 5 + 2, none⟩ = some (.int .i64 oo.tid.2) := hw (by rw [Nat.add_assoc]; exact hx _ _ (oc_at hoo 2 _ rfl))
      have k3 : wr.cell? ⟨g, off + i * 5 + 3, none⟩ = some (.string oo.key) := hw (by rw [Nat.add_assoc]; exact hx _ _ (oc_at hoo 3 _ rfl))
      have k4 : wr.cell? ⟨g, off + i * 5 + 4, none⟩ = some (.int .i64 oo.md) := hw (by rw [Nat.add_assoc]; exact hx _ _ (oc_at hoo 4 _ rfl))
      clear hoo hx hg hw
      obtain ⟨gy, hgy⟩ : ∃ g, g = wr.heap.size := ⟨_, rfl⟩
      obtain ⟨Y, hY⟩ : ∃ Y, Y = wr.alloc (.cells #[.int .i64 oo.k, .int .u64 oo.tid.1, .int .i64 oo.tid.2, .string oo.key, .int .i64 oo.md] 42) := ⟨_, rfl⟩
      have HYB : Hid (Below wr.heap.size wr Y) := Lib.hid (by rw [hY]; exact (Below.refl _ _).alloc (Nat.le_refl _) _)
      have HYR : Hid (Y.heap[gy]? = some (.cells #[.int .i64 oo.k, .int .u64 oo.tid.1, .int .i64 oo.tid.2, .string oo.key, .int .i64 oo.md] 42 (0, 0))) := Lib.hid (by rw [hY, hgy]; exact heap_alloc_new wr _)
      have HBY : Hid (Below X.heap.size X Y) := Lib.hid (HBL.out.trans (HYB.out.mono hszr))
      have HTY := Lib.hid (HT.out.below HYB.out)
      have HPY : Hid (SOwn Y B (.slice Aa na ca) al) := Lib.hid (by rw [HNA.out]; exact Own.below HPO.out HYB.out)
      have HYS : Hid (∀ (V : World), V.heap[gy]? = some (.cells #[.int .i64 oo.k, .int .u64 oo.tid.1, .int .i64 oo.tid.2, .string oo.key, .int .i64 oo.md] 42 (0, 0)) → (V.cell? ⟨gy, 0, none⟩ = some (.int .i64 oo.k) ∧ V.cell? ⟨gy, 1, none⟩ = some (.int .u64 oo.tid.1)) ∧ V.cell? ⟨gy, 2, none⟩ = some (.int .i64 oo.tid.2) ∧ V.cell? ⟨gy, 3, none⟩ = some (.string oo.key) ∧ V.cell? ⟨gy, 4, none⟩ = some (.int .i64 oo.md)) := Lib.hid (fun V h => by
        refine ⟨⟨?_, ?_⟩, ?_, ?_, ?_⟩ <;> (rw [cell_of_row _ _ _ _ _ _ h]; rfl))
      go_upto_region 9 with fail
      rw [← hY, ← hgy]
      clear hY hgy k0 k1 k2 k3 k4
      obtain ⟨⟨d0, d1⟩, d2, d3, d4⟩ := HYS.out _ HYR.out
      by_cases h40 : 40 < oo.key.size
      · go_wp2_with fail
        go_roundw
        case rel => exact ⟨i + 1, qs, al, by omega, by omega, by go_num, HPY.out, by rw [← HNA.out]; omega, HAL.out, HTY.out.more (by omega), HBY.out⟩
        case measure => simp [intOf]; omega
      go_upto_region 10 with fail
      by_cases hk1 : oo.k = 1
      · have z1 : (oo.k == 1) = true := by simp [hk1]
        have HFR := Lib.hid (HTY.out.free oo.tid (by omega))
        clear hk1
        go_wp2_with (go_at_call 14; refine HFR.out.mono ?_; rintro e w1 ⟨A1, n1, c1, qs1, rfl, ht1, hg1⟩; have HT1 := Lib.hid ht1; have HB1 : Hid (Below X.heap.size X w1) := Lib.hid (HBY.out.trans ((hg1.below HTY.out.tb).mono hX1)); have HP1 : Hid (SOwn w1 B (.slice Aa na ca) al) := Lib.hid (Own.fr HPY.out hg1.fr fun g hg => HTY.out.tb.far HPY.out s_w s_q hg); clear ht1 hg1)
        go_roundw
        case rel => exact ⟨i + 1, qs1, al, by omega, by omega, by go_num, HP1.out, by rw [← HNA.out]; omega, HAL.out, HT1.out.more (by omega), HB1.out⟩
        case measure => simp [intOf]; omega
      have z1 : (oo.k == 1) = false := by simp [hk1]
      clear hk1
      have HAK := Lib.hid (HTY.out.ask HKK.out oo.tid oo.md (by omega))
      go_upto_region 13 with (go_at_call 13; refine HAK.out.mono ?_; rintro e w1 ⟨a1, qs1, rfl, ht1, hg1⟩; have HT1 := Lib.hid ht1; have HB1 : Hid (Below X.heap.size X w1) := Lib.hid (HBY.out.trans ((hg1.below HTY.out.tb).mono hX1)); have HP1 : Hid (SOwn w1 B (.slice Aa na ca) al) := Lib.hid (Own.fr HPY.out hg1.fr fun g hg => HTY.out.tb.far HPY.out s_w s_q hg); have HY1 := Lib.hid (hg1.fr.blk HYR.out (fun hx => by
          rcases hx with e | ⟨k9, q9, h9, hx⟩
          · obtain ⟨es, c, h8, _⟩ := HTY.out.tb.fm
            rw [← e, HYR.out] at h8
            injection h8 with h8
            cases h8
          · exact not_feet_row (HTY.out.tb.rows k9 q9 h9) HYR.out (by decide) (by decide) hx)); clear ht1 hg1)
      clear d0 d1 d2 d3 d4 HAK
      obtain ⟨⟨d0, d1⟩, d2, d3, d4⟩ := HYS.out _ HY1.out
      have hs1 := HB1.out.size
      have HAP := Lib.hid (app_s2 HP1.out HT1.out.tb.size oo.key (by rw [← HNA.out]; omega) 40)
      go_wp2_with (at_builtin; refine wpL_append rfl _ _ 40 40 rfl rfl rfl HAP.out ?_; rintro v5 w5 ⟨ho5, hf5⟩; have HO5 := Lib.hid ho5; have HF5 := Lib.hid hf5; clear ho5 hf5)
      go_roundw
      case rel =>
        have hw1 : Below w1.heap.size w1 (w1.alloc (.cells #[.string oo.key] 9)) := (Below.refl _ _).alloc (Nat.le_refl _) _
        have hA := HT1.out.below hw1
        have hO := Own.alloc HP1.out (.cells #[.string oo.key] 9)
        exact ⟨i + 1, qs1, al ++ [oo.key], by omega, by omega, by go_num, HO5.out, by rw [List.length_append, List.length_singleton, ← HNA.out]; omega, (fun s hs => by
          rcases List.mem_append.1 hs with e | e
          · exact HAL.out s e
          · rw [List.mem_singleton.1 e]; exact HKK.out), ⟨hA.tb.row hO s_w s_q s_t HF5.out, hA.bnd, hA.len, hA.ok, hA.right⟩, (HB1.out.alloc hs1 _).trans (HF5.out.below (by simp; omega) fun g _ hg => by have := (Own.lt hO g hg).1; omega)⟩
      case measure => simp [intOf]; omega
    · obtain ⟨WE, hWE⟩ : ∃ W, W = wr := ⟨_, rfl⟩
      rw [← hWE] at HT HBL HPO hszr ⊢
      clear hWE
      by_cases hin2 : i < n
      · have hi60' : ¬ ((i : Int) < 40) := by omega
        have hin3 : (i : Int) < (n : Int) := by omega
        go_upto_region 15 with fail
        go_loopw [53] (fun v53 w2 => ∃ (j : Nat), j ≤ na ∧ v53 = .int .i64 j ∧ Below WE.heap.size WE w2) (fun v53 _ => na - (intOf v53).toNat)
        case atStart => exact ⟨0, Nat.zero_le _, rfl, Below.refl _ _⟩
        case round =>
          obtain ⟨j, hj, rfl, hb2⟩ := hrel
          have HB2 := Lib.hid hb2
          have hsz2 := hb2.size
          clear hb2
          have HT2 := Lib.hid ((HT.out.more (M := 40) hi40).below HB2.out)
          have HX2 : Hid (Below X.heap.size X wr) := Lib.hid (HBL.out.trans (HB2.out.mono hszr))
          by_cases hlj : j < na
          · obtain ⟨s, hs⟩ : ∃ s, al[j]? = some s := ⟨al[j]'(by rw [← HNA.out]; omega), List.getElem?_eq_getElem _⟩
            have j0 : (0 : Int) ≤ (j : Int) := by omega
            have j1 : (j : Int) < (na : Int) := by omega
            have hrd := Own.rd HPO.out
            obtain ⟨ga, oa, cza, ea, hga, _, _, hxa⟩ := hrd.cells (by rw [← HNA.out]; omega)
            injection ea with ea1 ea2 ea3
            clear ea2
            subst ea1 ea3
            have k0 : wr.cell? ⟨ga, oa + j, none⟩ = some (.string s) := (HB2.out.cell (p := ⟨ga, oa + j, none⟩) hga).trans (hxa j _ (by unfold sc; rw [List.getElem?_map, hs]; rfl))
            have HKK : Hid (OkS s) := Lib.hid (HAL.out _ (List.mem_of_getElem? hs))
            clear hs hrd hga hxa
            have HHA := Lib.hid (has_any HT2.out.tb HKK.out (N := 40) (by omega) HT2.out.bnd)
            have HRR := Lib.hid (HT2.out.right s)
            obtain ⟨has, hhas⟩ : ∃ l, l = (lineOf qs s).1 := ⟨_, rfl⟩
            obtain ⟨waits, hwaits⟩ : ∃ l, l = (lineOf qs s).2 := ⟨_, rfl⟩
            have hline : lineOf qs s = (has, waits) := by rw [hhas, hwaits]
            rw [← hhas] at HHA
            rw [hline] at HRR
            obtain ⟨nh, hnh⟩ : ∃ n, n = has.length := ⟨_, rfl⟩
            obtain ⟨nw, hnw⟩ : ∃ n, n = waits.length := ⟨_, rfl⟩
            have HNH := Lib.hid hnh
            have HNW := Lib.hid hnw
            have HWS := Lib.hid hwaits
            clear hhas hwaits hline hnh hnw
            go_wp2_with (first
              | (go_at_call 15; refine HHA.out.mono ?_; rintro e w5 ⟨A5, c5, e5, ho5, hb5⟩; rw [← HNH.out] at e5 ho5; subst e5; have HO5 := Lib.hid ho5; have HB5 := Lib.hid hb5; have HWA := Lib.hid (waiting_any (HT2.out.below hb5).tb HKK.out (N := 40) (by omega) HT2.out.bnd); rw [← HWS.out] at HWA; clear ho5 hb5 HHA)
              | (go_at_call 17; refine HWA.out.mono ?_; rintro e w6 ⟨A6, c6, e6, ho6, hb6⟩; rw [← HNW.out] at e6 ho6; subst e6; have HB6 := Lib.hid hb6; have HRA := Lib.hid (right_any HRR.out HNH.out HNW.out (HO5.out.below hb6).rd ho6.rd); clear ho6 hb6)
              | (go_at_call 16; refine HRA.out.mono ?_; rintro e w7 ⟨rfl, hb7⟩; have HB7 := Lib.hid hb7; clear hb7 HRA))
            go_roundw
            case rel => exact ⟨j + 1, by omega, by go_num, HB2.out.trans ((HB5.out.trans ((HB6.out.trans (HB7.out.mono HB6.out.size)).mono HB5.out.size)).mono hsz2)⟩
            case measure => simp [intOf]; omega
          · have j1 : ¬ ((j : Int) < (na : Int)) := by omega
            go_wp2_with fail
            go_ret
            exact ⟨rfl, HXB.out.trans (HX2.out.mono HXB.out.size)⟩
      · have hin3 : ¬ ((i : Int) < (n : Int)) := by omega
        go_upto_region 15 with fail
        go_loopw [53] (fun v53 w2 => ∃ (j : Nat), j ≤ na ∧ v53 = .int .i64 j ∧ Below WE.heap.size WE w2) (fun v53 _ => na - (intOf v53).toNat)
        case atStart => exact ⟨0, Nat.zero_le _, rfl, Below.refl _ _⟩
        case round =>
          obtain ⟨j, hj, rfl, hb2⟩ := hrel
          have HB2 := Lib.hid hb2
          have hsz2 := hb2.size
          clear hb2
          have HT2 := Lib.hid ((HT.out.more (M := 40) hi40).below HB2.out)
          have HX2 : Hid (Below X.heap.size X wr) := Lib.hid (HBL.out.trans (HB2.out.mono hszr))
          by_cases hlj : j < na
          · obtain ⟨s, hs⟩ : ∃ s, al[j]? = some s := ⟨al[j]'(by rw [← HNA.out]; omega), List.getElem?_eq_getElem _⟩
            have j0 : (0 : Int) ≤ (j : Int) := by omega
            have j1 : (j : Int) < (na : Int) := by omega
            have hrd := Own.rd HPO.out
            obtain ⟨ga, oa, cza, ea, hga, _, _, hxa⟩ := hrd.cells (by rw [← HNA.out]; omega)
            injection ea with ea1 ea2 ea3
            clear ea2
            subst ea1 ea3
            have k0 : wr.cell? ⟨ga, oa + j, none⟩ = some (.string s) := (HB2.out.cell (p := ⟨ga, oa + j, none⟩) hga).trans (hxa j _ (by unfold sc; rw [List.getElem?_map, hs]; rfl))
            have HKK : Hid (OkS s) := Lib.hid (HAL.out _ (List.mem_of_getElem? hs))
            clear hs hrd hga hxa
            have HHA := Lib.hid (has_any HT2.out.tb HKK.out (N := 40) (by omega) HT2.out.bnd)
            have HRR := Lib.hid (HT2.out.right s)
            obtain ⟨has, hhas⟩ : ∃ l, l = (lineOf qs s).1 := ⟨_, rfl⟩
            obtain ⟨waits, hwaits⟩ : ∃ l, l = (lineOf qs s).2 := ⟨_, rfl⟩
            have hline : lineOf qs s = (has, waits) := by rw [hhas, hwaits]
            rw [← hhas] at HHA
            rw [hline] at HRR
            obtain ⟨nh, hnh⟩ : ∃ n, n = has.length := ⟨_, rfl⟩
            obtain ⟨nw, hnw⟩ : ∃ n, n = waits.length := ⟨_, rfl⟩
            have HNH := Lib.hid hnh
            have HNW := Lib.hid hnw
            have HWS := Lib.hid hwaits
            clear hhas hwaits hline hnh hnw
            go_wp2_with (first
              | (go_at_call 15; refine HHA.out.mono ?_; rintro e w5 ⟨A5, c5, e5, ho5, hb5⟩; rw [← HNH.out] at e5 ho5; subst e5; have HO5 := Lib.hid ho5; have HB5 := Lib.hid hb5; have HWA := Lib.hid (waiting_any (HT2.out.below hb5).tb HKK.out (N := 40) (by omega) HT2.out.bnd); rw [← HWS.out] at HWA; clear ho5 hb5 HHA)
              | (go_at_call 17; refine HWA.out.mono ?_; rintro e w6 ⟨A6, c6, e6, ho6, hb6⟩; rw [← HNW.out] at e6 ho6; subst e6; have HB6 := Lib.hid hb6; have HRA := Lib.hid (right_any HRR.out HNH.out HNW.out (HO5.out.below hb6).rd ho6.rd); clear ho6 hb6)
              | (go_at_call 16; refine HRA.out.mono ?_; rintro e w7 ⟨rfl, hb7⟩; have HB7 := Lib.hid hb7; clear hb7 HRA))
            go_roundw
            case rel => exact ⟨j + 1, by omega, by go_num, HB2.out.trans ((HB5.out.trans ((HB6.out.trans (HB7.out.mono HB6.out.size)).mono HB5.out.size)).mono hsz2)⟩
            case measure => simp [intOf]; omega
          · have j1 : ¬ ((j : Int) < (na : Int)) := by omega
            go_wp2_with fail
            go_ret
            exact ⟨rfl, HXB.out.trans (HX2.out.mono HXB.out.size)⟩
#print axioms round_any
theorem round_row {H : Type} {enc : TypeId × Value → H} {w : World} {base : Nat} {spare : Nat → Bool} {held : Bool}
    (v0 : Value) (ok0 : Value.okWide Try.prog w .any base 39 v0) (h0 : Reads1 enc Try.prog w 0 spare held 39 v0.cells.toList) :
    Calls Try.prog 4 #[v0] w fun e w' => e = .returned (.bool true) ∧ Below w.heap.size w w' := by
  obtain ⟨os, hos⟩ := ops_val ok0 h0
  exact round_any w v0 os hos
#print axioms round_row
end Go.Proofs.Ytcceankldiafpaa.Lock
