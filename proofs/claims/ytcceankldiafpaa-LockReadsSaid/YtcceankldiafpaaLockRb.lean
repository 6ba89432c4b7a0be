/- LockReads: the walk. -/
import Derived.Test.YtcceankldiafpaaLockRa
set_option linter.unusedVariables false
set_option linter.unusedSimpArgs false
set_option linter.unusedSectionVars false
set_option maxRecDepth 100000
namespace Go.Proofs.Ytcceankldiafpaa.Lock
open Go.RowKit Go.WideShapes Go.Deep Go.Proofs.Ytcceankldiafpaa.Mem Go.Proofs.Ytcceankldiafpaa.Open Go.Proofs.Ytcceankldiafpaa.Maps
theorem One1.more {w : World} {B lt mb N M : Nat} {k : S} {l : Line} {qs : List (S × Qv)} (h : One1 w B lt mb k l N qs) (hN : N ≤ M) : One1 w B lt mb k l M qs := ⟨h.tb, h.line, h.else_, fun k => Nat.le_trans (h.bnd k) hN, Nat.le_trans h.len hN⟩
theorem One1.askG {w : World} {B lt mb : Nat} {k : S} {l l' : Line} {N : Nat} {qs : List (S × Qv)} (h : One1 w B lt mb k l N qs) (hk : OkS k) (p : Int × Int) (m : Int) {a : Int} (hN : N ≤ 50000) (hv : askL l p m = (l', a)) :
    Calls Try.prog 13 #[.pointer (some ⟨lt, 0, none⟩), .agg #[.int .u64 p.1, .int .i64 p.2], .string k, .int .i64 m] w fun e w' => e = .returned (.int .i64 a) ∧ ∃ qs', One1 w' B lt mb k l' (N + 1) qs' ∧ TGo w w' mb qs qs' := by
  refine (ask_any h.tb hk p m fun k q hq => by have := h.bnd.rows hq; omega).mono ?_
  rintro e w' ⟨he, qs', h1, h2, h3⟩
  have h4 := h3.bnd h.bnd
  have h5 := h3.len
  have h6 := h.len
  have h7 := h.line
  rw [h7, hv] at he h3
  exact ⟨he, qs', ⟨h1, h3.line, fun k' hk' => by rw [h3.other hk']; exact h.else_ k' hk', h4, by omega⟩, h2⟩
theorem One1.row {w w' : World} {B lt mb b k0 n N : Nat} {k : S} {l : Line} {e : TypeId} {v : Value} {xs : List Value} {qs : List (S × Qv)} (h : One1 w B lt mb k l N qs) (ho : Own w b e k0 v n xs) (h1 : e ≠ 47) (h2 : e ≠ 68) (h3 : e ≠ 64) (hf : Fr (fun g => v.ownBlock = some g) w w') : One1 w' B lt mb k l N qs :=
  ⟨h.tb.row ho h1 h2 h3 hf, h.line, h.else_, h.bnd, h.len⟩
structure TsIn (w : World) (v : Value) (ts : List (Int × Int)) : Prop where
  rd : Rd w w.heap.size 2 v ts.length (pc ts)
theorem TsIn.up {w w' : World} {v : Value} {ts : List (Int × Int)} (h : TsIn w v ts) (hb : Below w.heap.size w w') : TsIn w' v ts := ⟨h.rd.up hb⟩
section
variable {H : Type} {enc : TypeId × Value → H} {w : World} {base : Nat} {spare : Nat → Bool} {held : Bool}
theorem tids_of {css : List (List Value)} (h : ∀ c ∈ css, c.length = 2 ∧ Reads1 enc Try.prog w base spare held 24 c) : ∃ ts : List (Int × Int), css.flatten = pc ts ∧ css.length = ts.length := by
  induction css with
  | nil => exact ⟨[], rfl, rfl⟩
  | cons c css ih =>
    obtain ⟨ps, e1, e2⟩ := ih (fun c hc => h c (List.mem_cons_of_mem _ hc))
    obtain ⟨p, rfl, hp⟩ := tid_of (h c (List.mem_cons_self ..)).2
    exact ⟨p :: ps, by rw [List.flatten_cons, e1]; rfl, by simp [e2]⟩
theorem tids_val {v : Value} {r : Reach} {b : Nat} (ok : Value.okWide Try.prog w r b 45 v) (h : Reads1 enc Try.prog w base spare held 45 v.cells.toList) : ∃ ts : List (Int × Int), TsIn w v ts := by
  obtain ⟨a, l, c, rfl⟩ := okWide_slice Try.underlying45 ok
  obtain ⟨v, n, css, e, rfl, hr, hc, _⟩ := reads_slice Try.underlying45 (k := 2) rfl (by omega) h
  have e' := cell_eq (show [Value.slice a l c] = [v] from e)
  subst e'
  obtain ⟨qs, e1, e2⟩ := tids_of hc
  rw [e1, e2] at hr
  exact ⟨qs, ⟨hr⟩⟩
end
set_option maxHeartbeats 20000000 in
theorem reads_any (w : World) (v0 : Value) (ts : List (Int × Int)) (h : TsIn w v0 ts) (p : Int × Int) (k : S) (hk : k.size ≤ 140737488351232) :
    Calls Try.prog 5 #[v0, .agg #[.int .u64 p.1, .int .i64 p.2], .string k] w fun e w' => e = .returned (.bool true) ∧ Below w.heap.size w w' := by
  obtain ⟨n, hn⟩ : ∃ n, n = ts.length := ⟨_, rfl⟩
  have hl0 := h.rd.len_le
  unfold maxLen at hl0
  obtain ⟨A0, c0, rfl⟩ : ∃ A c, v0 = .slice A n c := by
    obtain ⟨_, A, c, e, _⟩ := h.rd
    exact ⟨A, c, by rw [hn]; exact e⟩
  rw [← hn] at hl0
  have H := Lib.hid h
  have HN := Lib.hid hn
  have HK : Hid (OkS k) := Lib.hid (by unfold OkS maxLen; omega)
  clear h hn
  go_enter Try.func5, Try.ntmps5
  go_upto_region 1 with fail
  obtain ⟨go, hgo⟩ : ∃ g, g = w.heap.size := ⟨_, rfl⟩
  obtain ⟨X0, hX⟩ : ∃ X, X = w.alloc (.cells #[.int .u64 p.1, .int .i64 p.2] 24) := ⟨_, rfl⟩
  rw [← hX, ← hgo]
  have HXB0 : Hid (Below w.heap.size w X0) := Lib.hid (by rw [hX]; exact (Below.refl _ _).alloc (Nat.le_refl _) _)
  have HXO0 : Hid (X0.heap[go]? = some (.cells #[.int .u64 p.1, .int .i64 p.2] 24 (0, 0))) := Lib.hid (by rw [hX, hgo]; exact heap_alloc_new w _)
  clear hX hgo
  go_upto_region 3 with (go_at_call 10; refine (head_any X0).mono ?_; rintro e X ⟨rfl, hb1⟩; have HXB1 := Lib.hid hb1; clear hb1)
  have HXB : Hid (Below w.heap.size w X) := Lib.hid (HXB0.out.trans (HXB1.out.mono HXB0.out.size))
  have HXO := Lib.hid (blk_below HXO0.out HXB1.out)
  have HL := Lib.hid (H.out.up HXB.out)
  have HC : Hid (∀ V, Below X.heap.size X V → V.cell? ⟨go, 0, none⟩ = some (.int .u64 p.1) ∧ V.cell? ⟨go, 1, none⟩ = some (.int .i64 p.2)) := Lib.hid (fun V hb => row2c (blk_below HXO.out hb))
  clear HXB0 HXO0 HXB1 H
  by_cases h10 : 10 < n
  · have h10' : (10 : Int) < (n : Int) := by omega
    go_wp2_with fail
    go_ret
    exact ⟨rfl, HXB.out⟩
  have h10' : ¬ ((10 : Int) < (n : Int)) := by omega
  by_cases hlong : 40 < k.size
  · go_wp2_with fail
    go_ret
    exact ⟨rfl, HXB.out⟩
  go_upto_region 6 with (go_at_call 12; refine (new_any X).mono ?_; rintro e W2 ⟨rfl, ht2, hb2⟩; have HT2 := Lib.hid ht2; have HB2 := Lib.hid hb2; clear ht2 hb2)
  obtain ⟨B, hB⟩ : ∃ B, B = X.heap.size := ⟨_, rfl⟩
  obtain ⟨lt, hlt⟩ : ∃ B, B = X.heap.size + 1 := ⟨_, rfl⟩
  obtain ⟨mb, hmb⟩ : ∃ B, B = X.heap.size := ⟨_, rfl⟩
  have HT2' : Hid (Tb W2 B lt mb []) := Lib.hid (by rw [hB, hlt, hmb]; exact HT2.out)
  rw [← hlt]
  have hX1 : X.heap.size ≤ B := Nat.le_of_eq hB.symm
  have hBW : B ≤ W2.heap.size := HT2'.out.size
  clear HT2 hB hlt hmb
  go_upto_region 8 with fail
  go_loopw [8, 36] (fun v8 v36 wr => ∃ (i : Nat) (qs : List (S × Qv)) (R : List Wt) (ot : List (Int × Int)), i ≤ n ∧ v36 = .int .i64 i ∧ POwn wr B v8 ot ∧ ot.length ≤ i ∧ ot.Nodup ∧ Rds R ∧ (∀ q, q ∈ tids R ↔ q ∈ ot) ∧ p ∉ ot ∧ One1 wr B lt mb k (R, []) i qs ∧ Below X.heap.size X wr) (fun _ v36 _ => n - (intOf v36).toNat)
  case atStart => exact ⟨0, [], [], [], Nat.zero_le _, rfl, ⟨by simp [pc], .inr ⟨W2.heap.size, 0, 0, #[], rfl, hBW, heap_alloc_new W2 _, Nat.le_refl _, Nat.zero_le _, by simp, by simp [pc]⟩⟩, Nat.le_refl _, List.nodup_nil, Rds.nil, (fun q => Iff.rfl), (fun h => by cases h), (One1.new HT2'.out k).below ((Below.refl _ _).alloc (Nat.le_refl _) _), HB2.out.alloc HB2.out.size _⟩
  case round =>
    obtain ⟨i, qs, R, ot, hin, rfl, hpo, hol, hond, hrd, hom, hpn, hq, hbl⟩ := hrel
    have HQ := Lib.hid (hq.more (M := 40) (by omega))
    have HQi := Lib.hid hq
    have HBL := Lib.hid hbl
    have HPO := Lib.hid hpo
    have HRD := Lib.hid hrd
    have HOM := Lib.hid hom
    have HOT := Lib.hid (And.intro hond hpn)
    have hszr := hbl.size
    obtain ⟨Aa, ca, rfl⟩ := hpo.form
    obtain ⟨no, hno⟩ : ∃ n, n = ot.length := ⟨_, rfl⟩
    rw [← hno] at hol ⊢
    have HNO := Lib.hid hno
    clear hq hbl hpo hno hrd hom hond hpn
    by_cases hlt : i < n
    · have i0 : (0 : Int) ≤ (i : Int) := by omega
      have i1 : (i : Int) < (n : Int) := by omega
      obtain ⟨t, ht⟩ : ∃ t, ts[i]? = some t := ⟨ts[i]'(by rw [← HN.out]; omega), List.getElem?_eq_getElem _⟩
      obtain ⟨g, off, ce, hv0, hg, _, _, hx⟩ := HL.out.rd.cells (by rw [← HN.out]; omega)
      injection hv0 with hv01 hv00 hv02
      clear hv00
      subst hv01 hv02
      have k0 : wr.cell? ⟨g, off + i * 2, none⟩ = some (.int .u64 t.1) := (HBL.out.cell (p := ⟨g, off + i * 2, none⟩) hg).trans (hx _ _ (pc_at ht).1)
      have k1 : wr.cell? ⟨g, off + i * 2 + 1, none⟩ = some (.int .i64 t.2) := (HBL.out.cell (p := ⟨g, off + i * 2 + 1, none⟩) hg).trans (by rw [Nat.add_assoc]; exact hx _ _ (pc_at ht).2)
      clear ht hx hg
      obtain ⟨gy, hgy⟩ : ∃ g, g = wr.heap.size := ⟨_, rfl⟩
      obtain ⟨Y, hY⟩ : ∃ Y, Y = wr.alloc (.cells #[.int .u64 t.1, .int .i64 t.2] 24) := ⟨_, rfl⟩
      have HYB : Hid (Below wr.heap.size wr Y) := Lib.hid (by rw [hY]; exact (Below.refl _ _).alloc (Nat.le_refl _) _)
      have HYR : Hid (Y.heap[gy]? = some (.cells #[.int .u64 t.1, .int .i64 t.2] 24 (0, 0))) := Lib.hid (by rw [hY, hgy]; exact heap_alloc_new wr _)
      go_upto_region 10 with fail
      rw [← hY, ← hgy]
      clear hY hgy k0 k1
      have HBY : Hid (Below X.heap.size X Y) := Lib.hid (HBL.out.trans (HYB.out.mono hszr))
      have HQY := Lib.hid (HQi.out.below HYB.out)
      have HPY : Hid (POwn Y B (.slice Aa no ca) ot) := Lib.hid (by rw [HNO.out]; exact Own.below HPO.out HYB.out)
      obtain ⟨d0, d1⟩ := row2c HYR.out
      obtain ⟨l0, l1⟩ := HC.out Y HBY.out
      obtain ⟨R1, hask, hr1, hm1⟩ := rd1 HRD.out t
      have HR1 := Lib.hid hr1
      have HM1 := Lib.hid hm1
      have HAK := Lib.hid (HQY.out.askG HK.out t 1 (by omega) hask)
      clear hask hr1 hm1
      by_cases e1 : t.1 = p.1
      · by_cases e2 : t.2 = p.2
        · have q1 : (t.1 == p.1) = true := by simp [e1]
          have q2 : (t.2 == p.2) = true := by simp [e2]
          clear e1 e2
          go_wp2_with fail
          go_ret
          exact ⟨rfl, HXB.out.trans (HBY.out.mono HXB.out.size)⟩
        · have HTW : Hid (p ≠ t) := Lib.hid (fun e => e2 (by rw [e]))
          have q1 : (t.1 == p.1) = true := by simp [e1]
          have q2 : (t.2 == p.2) = false := by simp [e2]
          clear e1 e2
          go_upto_region 14 with (go_at_call 13; refine HAK.out.mono ?_; rintro e w1 ⟨rfl, qs1, ht1, hg1⟩; have HT1 := Lib.hid ht1; have HB1 : Hid (Below X.heap.size X w1) := Lib.hid (HBY.out.trans ((hg1.below HQY.out.tb).mono hX1)); have HP1 : Hid (POwn w1 B (.slice Aa no ca) ot) := Lib.hid (Own.fr HPY.out hg1.fr fun g hg => HQY.out.tb.far HPY.out t_w t_q hg); have HY1 := Lib.hid (hg1.fr.blk HYR.out (fun hx => by
                    rcases hx with e | ⟨k9, q9, h9, hx⟩
                    · obtain ⟨es, c, h8, _⟩ := HQY.out.tb.fm
                      rw [← e, HYR.out] at h8
                      injection h8 with h8
                      cases h8
                    · exact not_feet_row (HQY.out.tb.rows k9 q9 h9) HYR.out (by decide) (by decide) hx)); clear ht1 hg1)
          have HP1 : Hid (Own w1 B 24 2 (.slice Aa no ca) no (pc ot)) := Lib.hid (by have h := HP1.out; unfold POwn at h; rw [← HNO.out] at h; exact h)
          clear d0 d1 l0 l1 HAK
          go_upto_region 16 with fail
          go_loopw [11, 50] (fun v11 v50 w2 => ∃ (j : Nat) (b : Bool), j ≤ no ∧ v50 = .int .i64 j ∧ v11 = .bool b ∧ (b = true ↔ t ∈ ot.take j) ∧ Below w1.heap.size w1 w2) (fun _ v50 _ => no - (intOf v50).toNat)
          case atStart => exact ⟨0, false, Nat.zero_le _, rfl, rfl, by simp, Below.refl _ _⟩
          case round =>
            obtain ⟨j, b, hj, rfl, rfl, hbv, hb2⟩ := hrel
            have HB2 := Lib.hid hb2
            have HBV := Lib.hid hbv
            have hsz2 := hb2.size
            clear hb2 hbv
            have HPO2 := Lib.hid (Own.below HP1.out HB2.out)
            by_cases hlj : j < no
            · obtain ⟨v, hv⟩ : ∃ v, ot[j]? = some v := ⟨ot[j]'(by rw [← HNO.out]; omega), List.getElem?_eq_getElem _⟩
              have j0 : (0 : Int) ≤ (j : Int) := by omega
              have j1 : (j : Int) < (no : Int) := by omega
              obtain ⟨ga, oa, cza, ea, hga, _, _, hxa⟩ := (Own.rd HPO2.out).cells (by omega)
              injection ea with ea1 ea2 ea3
              clear ea2
              subst ea1 ea3
              have z0 : wr.cell? ⟨ga, oa + j * 2, none⟩ = some (.int .u64 v.1) := hxa _ _ (pc_at hv).1
              have z1 : wr.cell? ⟨ga, oa + j * 2 + 1, none⟩ = some (.int .i64 v.2) := by rw [Nat.add_assoc]; exact hxa _ _ (pc_at hv).2
              have HTK : Hid (ot.take (j + 1) = ot.take j ++ [v]) := Lib.hid (by rw [List.take_add_one, hv]; rfl)
              clear hv hga hxa
              obtain ⟨gz, hgz⟩ : ∃ g, g = wr.heap.size := ⟨_, rfl⟩
              obtain ⟨Z, hZ⟩ : ∃ Y, Y = wr.alloc (.cells #[.int .u64 v.1, .int .i64 v.2] 24) := ⟨_, rfl⟩
              have HZB : Hid (Below wr.heap.size wr Z) := Lib.hid (by rw [hZ]; exact (Below.refl _ _).alloc (Nat.le_refl _) _)
              have HZR : Hid (Z.heap[gz]? = some (.cells #[.int .u64 v.1, .int .i64 v.2] 24 (0, 0))) := Lib.hid (by rw [hZ, hgz]; exact heap_alloc_new wr _)
              go_upto_region 18 with fail
              rw [← hZ, ← hgz]
              clear hZ hgz z0 z1
              obtain ⟨d0, d1⟩ := row2c HZR.out
              obtain ⟨f0, f1⟩ := row2c (blk_below (blk_below HY1.out HB2.out) HZB.out)
              cases b with
              | true =>
                go_wp2_with fail
                go_roundw
                case rel => exact ⟨j + 1, true, by omega, by go_num, rfl, (by rw [HTK.out, List.mem_append]; exact ⟨fun _ => Or.inl (HBV.out.1 rfl), fun _ => rfl⟩), HB2.out.trans (HZB.out.mono hsz2)⟩
                case measure => simp [intOf]; omega
              | false =>
                have HBV : Hid ((false = true ↔ t ∈ ot.take j) ∧ (t ∈ ot.take j → false = true)) := Lib.hid ⟨HBV.out, HBV.out.2⟩
                by_cases e1 : v.1 = t.1
                · by_cases e2 : v.2 = t.2
                  · have hvt : v = t := Prod.ext e1 e2
                    have HVT := Lib.hid hvt
                    have q1 : (v.1 == t.1) = true := by simp [e1]
                    have q2 : (v.2 == t.2) = true := by simp [e2]
                    clear e1 e2 hvt
                    go_wp2_with fail
                    go_roundw
                    case rel => exact ⟨j + 1, true, by omega, by go_num, rfl, (by rw [HTK.out, List.mem_append]; exact ⟨fun _ => Or.inr (by rw [HVT.out]; exact List.mem_singleton.2 rfl), fun _ => rfl⟩), HB2.out.trans (HZB.out.mono hsz2)⟩
                    case measure => simp [intOf]; omega
                  · have HVT : Hid (t ≠ v) := Lib.hid (fun e => e2 (by rw [e]))
                    have q1 : (v.1 == t.1) = true := by simp [e1]
                    have q2 : (v.2 == t.2) = false := by simp [e2]
                    clear e1 e2
                    go_wp2_with fail
                    go_roundw
                    case rel => exact ⟨j + 1, false, by omega, by go_num, rfl, (by rw [HTK.out, List.mem_append]; exact ⟨(fun h => nomatch h), fun h => h.elim (fun h => HBV.out.2 h) (fun h => absurd (List.mem_singleton.1 h) HVT.out)⟩), HB2.out.trans (HZB.out.mono hsz2)⟩
                    case measure => simp [intOf]; omega
                · have HVT : Hid (t ≠ v) := Lib.hid (fun e => e1 (by rw [e]))
                  have q1 : (v.1 == t.1) = false := by simp [e1]
                  clear e1
                  go_wp2_with fail
                  go_roundw
                  case rel => exact ⟨j + 1, false, by omega, by go_num, rfl, (by rw [HTK.out, List.mem_append]; exact ⟨(fun h => nomatch h), fun h => h.elim (fun h => HBV.out.2 h) (fun h => absurd (List.mem_singleton.1 h) HVT.out)⟩), HB2.out.trans (HZB.out.mono hsz2)⟩
                  case measure => simp [intOf]; omega
            · obtain rfl : no = j := by omega
              have HBN : Hid (b = true ↔ t ∈ ot) := Lib.hid (by have h := HBV.out; rw [HNO.out, List.take_length] at h; exact h)
              clear HBV
              have HX2 : Hid (Below X.heap.size X wr) := Lib.hid (HB1.out.trans (HB2.out.mono HB1.out.size))
              have HQ2 := Lib.hid (HT1.out.below HB2.out)
              have HY2 := Lib.hid (blk_below HY1.out HB2.out)
              cases b with
              | true =>
                go_wp2_with fail
                go_roundw
                case rel => exact ⟨i + 1, qs1, R1, ot, by omega, by go_num, by have h := HPO2.out; unfold POwn; rw [← HNO.out]; exact h, by rw [← HNO.out]; omega, HOT.out.1, HR1.out, (fun q => by rw [HM1.out, HOM.out]; exact ⟨fun h => h.elim (fun h => h ▸ HBN.out.1 rfl) id, .inr⟩), HOT.out.2, HQ2.out, HX2.out⟩
                case measure => simp [intOf]; omega
              | false =>
                obtain ⟨f0, f1⟩ := row2c HY2.out
                have hs2 := HX2.out.size
                have HAP := Lib.hid (app_p (by rw [HNO.out] at HPO2; exact HPO2.out) HQ2.out.tb.size t (by rw [← HNO.out]; omega) 45)
                rw [← HNO.out] at HAP
                go_wp2_with (at_builtin; refine wpL_append rfl _ _ 45 45 rfl rfl rfl HAP.out ?_; rintro v5 w5 ⟨ho5, hf5⟩; have HO5 := Lib.hid ho5; have HF5 := Lib.hid hf5; clear ho5 hf5)
                go_roundw
                case rel =>
                  have hw1 : Below wr.heap.size wr (wr.alloc (.cells #[.int .u64 t.1, .int .i64 t.2] 24)) := (Below.refl _ _).alloc (Nat.le_refl _) _
                  have hA := HQ2.out.below hw1
                  have hO := Own.alloc HPO2.out (.cells #[.int .u64 t.1, .int .i64 t.2] 24)
                  have hnt : t ∉ ot := fun h => by have := HBN.out.2 h; cases this
                  exact ⟨i + 1, qs1, R1, ot ++ [t], by omega, by go_num, HO5.out, by rw [List.length_append, List.length_singleton, ← HNO.out]; omega, (List.perm_append_singleton t ot).nodup_iff.2 (List.nodup_cons.2 ⟨hnt, HOT.out.1⟩), HR1.out, (fun q => by rw [HM1.out, HOM.out, List.mem_append, List.mem_singleton]; exact Or.comm), (fun h => (List.mem_append.1 h).elim HOT.out.2 (fun h => HTW.out (List.mem_singleton.1 h))), ⟨hA.tb.row hO t_w t_q t_t HF5.out, hA.line, hA.else_, hA.bnd, hA.len⟩, (HX2.out.alloc hs2 _).trans (HF5.out.below (by simp; omega) fun g _ hg => by have := (Own.lt hO g hg).1; omega)⟩
                case measure => simp [intOf]; omega
      · have HTW : Hid (p ≠ t) := Lib.hid (fun e => e1 (by rw [e]))
        have q1 : (t.1 == p.1) = false := by simp [e1]
        clear e1
        go_upto_region 14 with (go_at_call 13; refine HAK.out.mono ?_; rintro e w1 ⟨rfl, qs1, ht1, hg1⟩; have HT1 := Lib.hid ht1; have HB1 : Hid (Below X.heap.size X w1) := Lib.hid (HBY.out.trans ((hg1.below HQY.out.tb).mono hX1)); have HP1 : Hid (POwn w1 B (.slice Aa no ca) ot) := Lib.hid (Own.fr HPY.out hg1.fr fun g hg => HQY.out.tb.far HPY.out t_w t_q hg); have HY1 := Lib.hid (hg1.fr.blk HYR.out (fun hx => by
                  rcases hx with e | ⟨k9, q9, h9, hx⟩
                  · obtain ⟨es, c, h8, _⟩ := HQY.out.tb.fm
                    rw [← e, HYR.out] at h8
                    injection h8 with h8
                    cases h8
                  · exact not_feet_row (HQY.out.tb.rows k9 q9 h9) HYR.out (by decide) (by decide) hx)); clear ht1 hg1)
        have HP1 : Hid (Own w1 B 24 2 (.slice Aa no ca) no (pc ot)) := Lib.hid (by have h := HP1.out; unfold POwn at h; rw [← HNO.out] at h; exact h)
        clear d0 d1 l0 l1 HAK
        go_upto_region 16 with fail
        go_loopw [11, 50] (fun v11 v50 w2 => ∃ (j : Nat) (b : Bool), j ≤ no ∧ v50 = .int .i64 j ∧ v11 = .bool b ∧ (b = true ↔ t ∈ ot.take j) ∧ Below w1.heap.size w1 w2) (fun _ v50 _ => no - (intOf v50).toNat)
        case atStart => exact ⟨0, false, Nat.zero_le _, rfl, rfl, by simp, Below.refl _ _⟩
        case round =>
          obtain ⟨j, b, hj, rfl, rfl, hbv, hb2⟩ := hrel
          have HB2 := Lib.hid hb2
          have HBV := Lib.hid hbv
          have hsz2 := hb2.size
          clear hb2 hbv
          have HPO2 := Lib.hid (Own.below HP1.out HB2.out)
          by_cases hlj : j < no
          · obtain ⟨v, hv⟩ : ∃ v, ot[j]? = some v := ⟨ot[j]'(by rw [← HNO.out]; omega), List.getElem?_eq_getElem _⟩
            have j0 : (0 : Int) ≤ (j : Int) := by omega
            have j1 : (j : Int) < (no : Int) := by omega
            obtain ⟨ga, oa, cza, ea, hga, _, _, hxa⟩ := (Own.rd HPO2.out).cells (by omega)
            injection ea with ea1 ea2 ea3
            clear ea2
            subst ea1 ea3
            have z0 : wr.cell? ⟨ga, oa + j * 2, none⟩ = some (.int .u64 v.1) := hxa _ _ (pc_at hv).1
            have z1 : wr.cell? ⟨ga, oa + j * 2 + 1, none⟩ = some (.int .i64 v.2) := by rw [Nat.add_assoc]; exact hxa _ _ (pc_at hv).2
            have HTK : Hid (ot.take (j + 1) = ot.take j ++ [v]) := Lib.hid (by rw [List.take_add_one, hv]; rfl)
            clear hv hga hxa
            obtain ⟨gz, hgz⟩ : ∃ g, g = wr.heap.size := ⟨_, rfl⟩
            obtain ⟨Z, hZ⟩ : ∃ Y, Y = wr.alloc (.cells #[.int .u64 v.1, .int .i64 v.2] 24) := ⟨_, rfl⟩
            have HZB : Hid (Below wr.heap.size wr Z) := Lib.hid (by rw [hZ]; exact (Below.refl _ _).alloc (Nat.le_refl _) _)
            have HZR : Hid (Z.heap[gz]? = some (.cells #[.int .u64 v.1, .int .i64 v.2] 24 (0, 0))) := Lib.hid (by rw [hZ, hgz]; exact heap_alloc_new wr _)
            go_upto_region 18 with fail
            rw [← hZ, ← hgz]
            clear hZ hgz z0 z1
            obtain ⟨d0, d1⟩ := row2c HZR.out
            obtain ⟨f0, f1⟩ := row2c (blk_below (blk_below HY1.out HB2.out) HZB.out)
            cases b with
            | true =>
              go_wp2_with fail
              go_roundw
              case rel => exact ⟨j + 1, true, by omega, by go_num, rfl, (by rw [HTK.out, List.mem_append]; exact ⟨fun _ => Or.inl (HBV.out.1 rfl), fun _ => rfl⟩), HB2.out.trans (HZB.out.mono hsz2)⟩
              case measure => simp [intOf]; omega
            | false =>
              have HBV : Hid ((false = true ↔ t ∈ ot.take j) ∧ (t ∈ ot.take j → false = true)) := Lib.hid ⟨HBV.out, HBV.out.2⟩
              by_cases e1 : v.1 = t.1
              · by_cases e2 : v.2 = t.2
                · have hvt : v = t := Prod.ext e1 e2
                  have HVT := Lib.hid hvt
                  have q1 : (v.1 == t.1) = true := by simp [e1]
                  have q2 : (v.2 == t.2) = true := by simp [e2]
                  clear e1 e2 hvt
                  go_wp2_with fail
                  go_roundw
                  case rel => exact ⟨j + 1, true, by omega, by go_num, rfl, (by rw [HTK.out, List.mem_append]; exact ⟨fun _ => Or.inr (by rw [HVT.out]; exact List.mem_singleton.2 rfl), fun _ => rfl⟩), HB2.out.trans (HZB.out.mono hsz2)⟩
                  case measure => simp [intOf]; omega
                · have HVT : Hid (t ≠ v) := Lib.hid (fun e => e2 (by rw [e]))
                  have q1 : (v.1 == t.1) = true := by simp [e1]
                  have q2 : (v.2 == t.2) = false := by simp [e2]
                  clear e1 e2
                  go_wp2_with fail
                  go_roundw
                  case rel => exact ⟨j + 1, false, by omega, by go_num, rfl, (by rw [HTK.out, List.mem_append]; exact ⟨(fun h => nomatch h), fun h => h.elim (fun h => HBV.out.2 h) (fun h => absurd (List.mem_singleton.1 h) HVT.out)⟩), HB2.out.trans (HZB.out.mono hsz2)⟩
                  case measure => simp [intOf]; omega
              · have HVT : Hid (t ≠ v) := Lib.hid (fun e => e1 (by rw [e]))
                have q1 : (v.1 == t.1) = false := by simp [e1]
                clear e1
                go_wp2_with fail
                go_roundw
                case rel => exact ⟨j + 1, false, by omega, by go_num, rfl, (by rw [HTK.out, List.mem_append]; exact ⟨(fun h => nomatch h), fun h => h.elim (fun h => HBV.out.2 h) (fun h => absurd (List.mem_singleton.1 h) HVT.out)⟩), HB2.out.trans (HZB.out.mono hsz2)⟩
                case measure => simp [intOf]; omega
          · obtain rfl : no = j := by omega
            have HBN : Hid (b = true ↔ t ∈ ot) := Lib.hid (by have h := HBV.out; rw [HNO.out, List.take_length] at h; exact h)
            clear HBV
            have HX2 : Hid (Below X.heap.size X wr) := Lib.hid (HB1.out.trans (HB2.out.mono HB1.out.size))
            have HQ2 := Lib.hid (HT1.out.below HB2.out)
            have HY2 := Lib.hid (blk_below HY1.out HB2.out)
            cases b with
            | true =>
              go_wp2_with fail
              go_roundw
              case rel => exact ⟨i + 1, qs1, R1, ot, by omega, by go_num, by have h := HPO2.out; unfold POwn; rw [← HNO.out]; exact h, by rw [← HNO.out]; omega, HOT.out.1, HR1.out, (fun q => by rw [HM1.out, HOM.out]; exact ⟨fun h => h.elim (fun h => h ▸ HBN.out.1 rfl) id, .inr⟩), HOT.out.2, HQ2.out, HX2.out⟩
              case measure => simp [intOf]; omega
            | false =>
              obtain ⟨f0, f1⟩ := row2c HY2.out
              have hs2 := HX2.out.size
              have HAP := Lib.hid (app_p (by rw [HNO.out] at HPO2; exact HPO2.out) HQ2.out.tb.size t (by rw [← HNO.out]; omega) 45)
              rw [← HNO.out] at HAP
              go_wp2_with (at_builtin; refine wpL_append rfl _ _ 45 45 rfl rfl rfl HAP.out ?_; rintro v5 w5 ⟨ho5, hf5⟩; have HO5 := Lib.hid ho5; have HF5 := Lib.hid hf5; clear ho5 hf5)
              go_roundw
              case rel =>
                have hw1 : Below wr.heap.size wr (wr.alloc (.cells #[.int .u64 t.1, .int .i64 t.2] 24)) := (Below.refl _ _).alloc (Nat.le_refl _) _
                have hA := HQ2.out.below hw1
                have hO := Own.alloc HPO2.out (.cells #[.int .u64 t.1, .int .i64 t.2] 24)
                have hnt : t ∉ ot := fun h => by have := HBN.out.2 h; cases this
                exact ⟨i + 1, qs1, R1, ot ++ [t], by omega, by go_num, HO5.out, by rw [List.length_append, List.length_singleton, ← HNO.out]; omega, (List.perm_append_singleton t ot).nodup_iff.2 (List.nodup_cons.2 ⟨hnt, HOT.out.1⟩), HR1.out, (fun q => by rw [HM1.out, HOM.out, List.mem_append, List.mem_singleton]; exact Or.comm), (fun h => (List.mem_append.1 h).elim HOT.out.2 (fun h => HTW.out (List.mem_singleton.1 h))), ⟨hA.tb.row hO t_w t_q t_t HF5.out, hA.line, hA.else_, hA.bnd, hA.len⟩, (HX2.out.alloc hs2 _).trans (HF5.out.below (by simp; omega) fun g _ hg => by have := (Own.lt hO g hg).1; omega)⟩
              case measure => simp [intOf]; omega
    · obtain rfl : i = n := by omega
      have i1 : ¬ ((i : Int) < (i : Int)) := by omega
      have HRL : Hid (R.length = no) := Lib.hid (by rw [HNO.out]; exact tids_len HRD.out HOT.out.1 HOM.out)
      obtain ⟨W0, hW0⟩ : ∃ W, W = wr := ⟨_, rfl⟩
      rw [← hW0] at HQ HBL HPO hszr ⊢
      clear hW0
      have HHA := Lib.hid (has_any HQ.out.tb HK.out (N := 40) (by omega) HQ.out.bnd)
      rw [HQ.out.line] at HHA
      unfold ListR at HHA
      dsimp only at HHA
      rw [HRL.out] at HHA
      have hnn : ((no : Int) != (no : Int)) = false := by simp
      go_upto_region 27 with (go_at_call 15; refine HHA.out.mono ?_; rintro e w1 ⟨A1, c1, rfl, _, hb1⟩; have HD1 := Lib.hid hb1; have HB1 : Hid (Below X.heap.size X w1) := Lib.hid (HBL.out.trans (hb1.mono hszr)); clear hb1)
      have HQ1 := Lib.hid (HQ.out.below HD1.out)
      have HP1 : Hid (Own w1 B 24 2 (.slice Aa no ca) no (pc ot)) := Lib.hid (by have h := Own.below HPO.out HD1.out; unfold POwn at h; rw [← HNO.out] at h; exact h)
      go_loopw [14, 77] (fun v14 v77 w2 => ∃ (j : Nat) (b : Bool), j ≤ no ∧ v77 = .int .i64 j ∧ v14 = .bool b ∧ (b = true ↔ ∃ q ∈ ot.take j, elder p q = false) ∧ Below w1.heap.size w1 w2) (fun _ v77 _ => no - (intOf v77).toNat)
      case atStart => exact ⟨0, false, Nat.zero_le _, rfl, rfl, by simp, Below.refl _ _⟩
      case round =>
        obtain ⟨j, b, hj, rfl, rfl, hbv, hb2⟩ := hrel
        have HB2 := Lib.hid hb2
        have HBV := Lib.hid hbv
        have hsz2 := hb2.size
        clear hb2 hbv
        have HPO2 := Lib.hid (Own.below HP1.out HB2.out)
        have HX2 : Hid (Below X.heap.size X wr) := Lib.hid (HB1.out.trans (HB2.out.mono HB1.out.size))
        by_cases hlj : j < no
        · obtain ⟨v, hv⟩ : ∃ v, ot[j]? = some v := ⟨ot[j]'(by rw [← HNO.out]; omega), List.getElem?_eq_getElem _⟩
          have j0 : (0 : Int) ≤ (j : Int) := by omega
          have j1 : (j : Int) < (no : Int) := by omega
          obtain ⟨ga, oa, cza, ea, hga, _, _, hxa⟩ := (Own.rd HPO2.out).cells (by omega)
          injection ea with ea1 ea2 ea3
          clear ea2
          subst ea1 ea3
          have z0 : wr.cell? ⟨ga, oa + j * 2, none⟩ = some (.int .u64 v.1) := hxa _ _ (pc_at hv).1
          have z1 : wr.cell? ⟨ga, oa + j * 2 + 1, none⟩ = some (.int .i64 v.2) := by rw [Nat.add_assoc]; exact hxa _ _ (pc_at hv).2
          have HTK : Hid (ot.take (j + 1) = ot.take j ++ [v]) := Lib.hid (by rw [List.take_add_one, hv]; rfl)
          clear hv hga hxa
          obtain ⟨gz, hgz⟩ : ∃ g, g = wr.heap.size := ⟨_, rfl⟩
          obtain ⟨Z, hZ⟩ : ∃ Y, Y = wr.alloc (.cells #[.int .u64 v.1, .int .i64 v.2] 24) := ⟨_, rfl⟩
          have HZB : Hid (Below wr.heap.size wr Z) := Lib.hid (by rw [hZ]; exact (Below.refl _ _).alloc (Nat.le_refl _) _)
          have HZR : Hid (Z.heap[gz]? = some (.cells #[.int .u64 v.1, .int .i64 v.2] 24 (0, 0))) := Lib.hid (by rw [hZ, hgz]; exact heap_alloc_new wr _)
          go_upto_region 29 with fail
          rw [← hZ, ← hgz]
          clear hZ hgz z0 z1
          obtain ⟨d0, d1⟩ := row2c HZR.out
          obtain ⟨l0, l1⟩ := HC.out Z (HX2.out.trans (HZB.out.mono HX2.out.size))
          cases b with
          | true =>
            go_wp2_with fail
            go_roundw
            case rel => exact ⟨j + 1, true, by omega, by go_num, rfl, (by rw [HTK.out]; exact ⟨fun _ => by obtain ⟨q, hq, e⟩ := HBV.out.1 rfl; exact ⟨q, List.mem_append_left _ hq, e⟩, fun _ => rfl⟩), HB2.out.trans (HZB.out.mono hsz2)⟩
            case measure => simp [intOf]; omega
          | false =>
            obtain ⟨el, hel⟩ : ∃ x, x = elder p v := ⟨_, rfl⟩
            have HEL := Lib.hid hel
            have HE := Lib.hid (elderL_any Z p v)
            rw [← hel] at HE
            clear hel
            cases el with
            | true =>
              go_wp2_with (go_at_call 11; refine HE.out.mono ?_; rintro e w3 ⟨rfl, hb3⟩; have HB3 := Lib.hid hb3; clear hb3)
              go_roundw
              case rel => exact ⟨j + 1, false, by omega, by go_num, rfl, (by rw [HTK.out]; exact ⟨(fun h => nomatch h), fun ⟨q, hq, e⟩ => (List.mem_append.1 hq).elim (fun h => HBV.out.2 ⟨q, h, e⟩) (fun h => by rw [List.mem_singleton.1 h, ← HEL.out] at e; cases e)⟩), HB2.out.trans ((HZB.out.trans (HB3.out.mono HZB.out.size)).mono hsz2)⟩
              case measure => simp [intOf]; omega
            | false =>
              go_wp2_with (go_at_call 11; refine HE.out.mono ?_; rintro e w3 ⟨rfl, hb3⟩; have HB3 := Lib.hid hb3; clear hb3)
              go_roundw
              case rel => exact ⟨j + 1, true, by omega, by go_num, rfl, (by rw [HTK.out]; exact ⟨fun _ => ⟨v, List.mem_append_right _ (List.mem_singleton.2 rfl), HEL.out.symm⟩, fun _ => rfl⟩), HB2.out.trans ((HZB.out.trans (HB3.out.mono HZB.out.size)).mono hsz2)⟩
              case measure => simp [intOf]; omega
        · obtain rfl : no = j := by omega
          have HBN : Hid (b = true ↔ ∃ q ∈ ot, elder p q = false) := Lib.hid (by have h := HBV.out; rw [HNO.out, List.take_length] at h; exact h)
          clear HBV
          have HQ2 := Lib.hid (HQ1.out.below HB2.out)
          obtain ⟨l0, l1⟩ := HC.out wr HX2.out
          obtain ⟨W, hW⟩ : ∃ W, W = wr := ⟨_, rfl⟩
          rw [← hW] at HX2 HQ2 HPO2 l0 l1 ⊢
          clear hW HB2 hsz2
          have HNP : Hid (p ∉ tids R) := Lib.hid (fun h => HOT.out.2 ((HOM.out p).1 h))
          by_cases hno : no = 0
          · have hot : R = [] := List.eq_nil_of_length_eq_zero (by rw [HRL.out]; exact hno)
            have HAV : Hid (askL (R, []) p 2 = (([wt p 2], []), 1)) := Lib.hid (by rw [show ((R, []) : Line) = ([], []) by rw [hot]]; exact rd2 p)
            have HAK := Lib.hid (HQ2.out.ask HK.out p 2 (by omega) HAV.out)
            clear hot
            have n0 : ((no : Int) == 0) = true := by simp [hno]
            clear hno
            go_wp2_with (go_at_call 13; refine HAK.out.mono ?_; rintro e w8 ⟨rfl, _, hb8⟩; have HB8 : Hid (Below X.heap.size X w8) := Lib.hid (HX2.out.trans (hb8.mono hX1)); clear hb8)
            go_ret
            exact ⟨rfl, HXB.out.trans (HB8.out.mono HXB.out.size)⟩
          have HRN : Hid (R ≠ []) := Lib.hid (fun e => hno (by have h1 := HRL.out; rw [e] at h1; exact h1.symm))
          have n0 : ((no : Int) == 0) = false := by simp [hno]
          cases b with
          | true =>
            have HAV : Hid (askL (R, []) p 2 = ((R, []), 3)) := Lib.hid (by
              obtain ⟨q, hq, e⟩ := HBN.out.1 rfl
              exact rd3 HNP.out ((HOM.out q).2 hq) e)
            have HAK := Lib.hid (HQ2.out.ask HK.out p 2 (by omega) HAV.out)
            go_wp2_with (first
              | (go_at_call 13; refine HAK.out.mono ?_; rintro e w8 ⟨rfl, ⟨qs8, ho8⟩, hb8⟩; have HB8 : Hid (Below X.heap.size X w8) := Lib.hid (HX2.out.trans (hb8.mono hX1)); have HWA := Lib.hid (waiting_any ho8.tb HK.out (N := 41) (by omega) ho8.bnd); rw [ho8.line] at HWA; clear hb8 ho8)
              | (go_at_call 17; refine HWA.out.mono ?_; rintro e w9 ⟨A9, c9, rfl, _, hb9⟩; have HB9 : Hid (Below X.heap.size X w9) := Lib.hid (HB8.out.trans (hb9.mono HB8.out.size)); clear hb9))
            go_ret
            exact ⟨rfl, HXB.out.trans (HB9.out.mono HXB.out.size)⟩
          | false =>
            have HEA : Hid (∀ t ∈ tids R, elder p t = true) := Lib.hid (fun t ht => by
              cases e : elder p t with
              | true => rfl
              | false => have := HBN.out.2 ⟨t, (HOM.out t).1 ht, e⟩; cases this)
            have HAK := Lib.hid (HQ2.out.askG HK.out p 2 (by omega) (rd4 HNP.out HRN.out HEA.out))
            go_upto_region 39 with (go_at_call 13; first
              | (refine HAK.out.mono ?_; rintro e w7 ⟨rfl, qs7, ho7, hg7⟩; have HB7 : Hid (Below X.heap.size X w7) := Lib.hid (HX2.out.trans ((hg7.below HQ2.out.tb).mono hX1)); have HP7 := Lib.hid (Own.fr HPO2.out hg7.fr fun g hg => HQ2.out.tb.far HPO2.out t_w t_q hg); have HQ7 := Lib.hid ho7; have HAK2 := Lib.hid (ho7.askG HK.out p 2 (by omega) (rd5 HNP.out HRN.out HEA.out)); obtain ⟨m0, m1⟩ := HC.out w7 HB7.out; clear hg7 ho7 HAK)
              | (refine HAK2.out.mono ?_; rintro e w8 ⟨rfl, qs8, ho8, hg8⟩; have HT8 := Lib.hid ho8; have HB8 : Hid (Below X.heap.size X w8) := Lib.hid (HB7.out.trans ((hg8.below HQ7.out.tb).mono hX1)); have HP8 : Hid (POwn w8 B (.slice Aa no ca) ot) := Lib.hid (by have h := Own.fr HP7.out hg8.fr fun g hg => HQ7.out.tb.far HP7.out t_w t_q hg; unfold POwn; rw [← HNO.out]; exact h); clear hg8 ho8 HAK2))
            clear m0 m1
            go_loopw [121] (fun v121 w2 => ∃ (j : Nat) (qs : List (S × Qv)) (l : Line), j ≤ no ∧ v121 = .int .i64 j ∧ POwn w2 B (.slice Aa no ca) ot ∧ One1 w2 B lt mb k l 42 qs ∧ ((∃ Rj, j < no ∧ l = (Rj, [wt p 2]) ∧ Rds Rj ∧ ∀ q, q ∈ tids Rj ↔ q ∈ ot.drop j) ∨ (j = no ∧ l = ([wt p 2], []))) ∧ Below X.heap.size X w2) (fun v121 _ => no - (intOf v121).toNat)
            case atStart => exact ⟨0, qs8, _, Nat.zero_le _, rfl, HP8.out, HT8.out, .inl ⟨R, by omega, rfl, HRD.out, fun q => by rw [List.drop_zero]; exact HOM.out q⟩, HB8.out⟩
            case round =>
              obtain ⟨j, qs, l, hj, rfl, hpo, hq, hor, hb2⟩ := hrel
              have HB2 := Lib.hid hb2
              have HPO2 : Hid (Own wr B 24 2 (.slice Aa no ca) no (pc ot)) := Lib.hid (by unfold POwn at hpo; rw [← HNO.out] at hpo; exact hpo)
              have HQ2 := Lib.hid hq
              have hsz2 := hb2.size
              clear hb2 hpo hq
              rcases hor with ⟨Rj, hlj, rfl, hrj, hmj⟩ | ⟨rfl, rfl⟩
              · have HRJ := Lib.hid hrj
                have HMJ := Lib.hid hmj
                clear hrj hmj
                obtain ⟨t, ht⟩ : ∃ v, ot[j]? = some v := ⟨ot[j]'(by rw [← HNO.out]; omega), List.getElem?_eq_getElem _⟩
                have j0 : (0 : Int) ≤ (j : Int) := by omega
                have j1 : (j : Int) < (no : Int) := by omega
                obtain ⟨ga, oa, cza, ea, hga, _, _, hxa⟩ := (Own.rd HPO2.out).cells (by omega)
                injection ea with ea1 ea2 ea3
                clear ea2
                subst ea1 ea3
                have z0 : wr.cell? ⟨ga, oa + j * 2, none⟩ = some (.int .u64 t.1) := hxa _ _ (pc_at ht).1
                have z1 : wr.cell? ⟨ga, oa + j * 2 + 1, none⟩ = some (.int .i64 t.2) := by rw [Nat.add_assoc]; exact hxa _ _ (pc_at ht).2
                have HDR : Hid (ot.drop j = t :: ot.drop (j + 1)) := Lib.hid (by
                  obtain ⟨hl, e⟩ := List.getElem?_eq_some_iff.1 ht
                  rw [← e]
                  exact List.drop_eq_getElem_cons hl)
                have HTM : Hid (t ∈ tids Rj) := Lib.hid ((HMJ.out t).2 (by rw [HDR.out]; exact List.mem_cons_self ..))
                have HPR : Hid (p ∉ tids Rj) := Lib.hid (fun h => HOT.out.2 (List.mem_of_mem_drop ((HMJ.out p).1 h)))
                clear ht hga hxa
                obtain ⟨gz, hgz⟩ : ∃ g, g = wr.heap.size := ⟨_, rfl⟩
                obtain ⟨Z, hZ⟩ : ∃ Y, Y = wr.alloc (.cells #[.int .u64 t.1, .int .i64 t.2] 24) := ⟨_, rfl⟩
                have HZB : Hid (Below wr.heap.size wr Z) := Lib.hid (by rw [hZ]; exact (Below.refl _ _).alloc (Nat.le_refl _) _)
                have HZR : Hid (Z.heap[gz]? = some (.cells #[.int .u64 t.1, .int .i64 t.2] 24 (0, 0))) := Lib.hid (by rw [hZ, hgz]; exact heap_alloc_new wr _)
                go_upto_region 41 with fail
                rw [← hZ, ← hgz]
                clear hZ hgz z0 z1
                obtain ⟨d0, d1⟩ := row2c HZR.out
                have HQZ := Lib.hid (HQ2.out.below HZB.out)
                have HXZ : Hid (Below X.heap.size X Z) := Lib.hid (HB2.out.trans (HZB.out.mono hsz2))
                have HPZ : Hid (POwn Z B (.slice (some ⟨ga, oa, none⟩) no ca) ot) := Lib.hid (by have h := Own.below HPO2.out HZB.out; unfold POwn; rw [← HNO.out]; exact h)
                have HTD := Lib.hid (rd6 HRJ.out HPR.out HTM.out)
                by_cases hlast : j + 1 = no
                · have HDE : Hid (delT Rj t = []) := Lib.hid (by
                    refine List.eq_nil_iff_forall_not_mem.2 fun u hu => ?_
                    have h1 := (HTD.out.2.1 u.tid).1 (List.mem_map.2 ⟨u, hu, rfl⟩)
                    rw [HMJ.out, HDR.out, List.mem_cons] at h1
                    rcases h1.1 with e | e
                    · exact h1.2 e
                    · rw [List.drop_eq_nil_of_le (by rw [← HNO.out]; omega)] at e
                      cases e)
                  have HF : Hid (freeL (Rj, [wt p 2]) t = (([wt p 2], []), [wt p 2])) := Lib.hid (by rw [HTD.out.2.2, if_pos HDE.out])
                  have HFR := Lib.hid (HQZ.out.free3 t (by omega) (by intro e; cases e) HF.out)
                  go_upto_region 42 with (go_at_call 14; refine HFR.out.mono ?_; rintro e w3 ⟨A3, c3, qs3, qs4, rfl, hg3, ht3, hgo3⟩; have HT3 := Lib.hid ht3; have HG3 := Lib.hid hg3; have HB3 : Hid (Below X.heap.size X w3) := Lib.hid (HXZ.out.trans ((hgo3.below HQZ.out.tb).mono hX1)); have HP3 : Hid (POwn w3 B (.slice (some ⟨ga, oa, none⟩) no ca) ot) := Lib.hid (Own.fr HPZ.out hgo3.fr fun g hg => HQZ.out.tb.far HPZ.out t_w t_q hg); clear ht3 hg3 hgo3)
                  try dsimp only [List.length_cons, List.length_nil]
                  obtain ⟨g9, off9, cz9, e9, _, _, _, hx9⟩ := (Own.rd HG3.out).cells (by rw [grs_len]; exact Nat.zero_lt_one)
                  injection e9 with e91 e92 e93
                  clear e92
                  subst e91 e93
                  have hcs : gc (grs k [wt p 2]) = Gr.cs (wt p 2, k) := by simp [gc, grs]
                  rw [hcs] at hx9
                  have r0 : w3.cell? ⟨g9, off9, none⟩ = some (.int .u64 p.1) := hx9 0 _ rfl
                  have r1 : w3.cell? ⟨g9, off9 + 1, none⟩ = some (.int .i64 p.2) := hx9 1 _ rfl
                  have r2 : w3.cell? ⟨g9, off9 + 2, none⟩ = some (.string k) := hx9 2 _ rfl
                  have r3 : w3.cell? ⟨g9, off9 + 3, none⟩ = some (.int .i64 2) := hx9 3 _ rfl
                  clear hx9 hcs
                  obtain ⟨l0, l1⟩ := HC.out w3 HB3.out
                  have hjn : ((j : Int) == (no : Int) - 1) = true := by simp; omega
                  go_upto_region 43 with fail
                  go_quiet (fail)
                  have HBq : Hid (Below w3.heap.size w3 (w3.drewN nq)) := Lib.hid (below_drewN (Below.refl _ _) _)
                  have HPq : Hid (POwn (w3.drewN nq) B (.slice (some ⟨ga, oa, none⟩) no ca) ot) := Lib.hid (by have h := HP3.out; unfold POwn at h ⊢; exact Own.below h HBq.out)
                  have HXq : Hid (Below X.heap.size X (w3.drewN nq)) := Lib.hid (HB3.out.trans (HBq.out.mono HB3.out.size))
                  go_wp2_with fail
                  go_roundw
                  case rel => exact ⟨j + 1, qs3, _, by omega, by go_num, HPq.out, HT3.out.below HBq.out, .inr ⟨by omega, rfl⟩, HXq.out⟩
                  case measure => simp [intOf]; omega
                · have HDE : Hid (delT Rj t ≠ []) := Lib.hid (by
                    have hl : j + 1 < ot.length := by rw [← HNO.out]; omega
                    have hd : ot.drop (j + 1) = ot[j + 1] :: ot.drop (j + 1 + 1) := List.drop_eq_getElem_cons hl
                    have hm : ot[j + 1] ∈ tids (delT Rj t) := by
                      rw [HTD.out.2.1, HMJ.out, HDR.out, hd]
                      refine ⟨List.mem_cons_of_mem _ (List.mem_cons_self ..), fun e => ?_⟩
                      have hn := HOT.out.1.sublist (List.drop_sublist j ot)
                      rw [HDR.out] at hn
                      exact (List.nodup_cons.1 hn).1 (by rw [← e, hd]; exact List.mem_cons_self ..)
                    intro e
                    rw [e] at hm
                    cases hm)
                  have HF : Hid (freeL (Rj, [wt p 2]) t = ((delT Rj t, [wt p 2]), [])) := Lib.hid (by rw [HTD.out.2.2, if_neg HDE.out])
                  have HFR := Lib.hid (HQZ.out.free3 t (by omega) (by intro e; injection e with _ e; cases e) HF.out)
                  go_upto_region 42 with (go_at_call 14; refine HFR.out.mono ?_; rintro e w3 ⟨A3, c3, qs3, qs4, rfl, hg3, ht3, hgo3⟩; have HT3 := Lib.hid ht3; have HB3 : Hid (Below X.heap.size X w3) := Lib.hid (HXZ.out.trans ((hgo3.below HQZ.out.tb).mono hX1)); have HP3 : Hid (POwn w3 B (.slice (some ⟨ga, oa, none⟩) no ca) ot) := Lib.hid (Own.fr HPZ.out hgo3.fr fun g hg => HQZ.out.tb.far HPZ.out t_w t_q hg); clear ht3 hg3 hgo3)
                  try dsimp only [List.length_nil]
                  have hjn : ((j : Int) == (no : Int) - 1) = false := by simp; omega
                  go_upto_region 43 with fail
                  go_quiet (fail)
                  have HBq : Hid (Below w3.heap.size w3 (w3.drewN nq)) := Lib.hid (below_drewN (Below.refl _ _) _)
                  have HPq : Hid (POwn (w3.drewN nq) B (.slice (some ⟨ga, oa, none⟩) no ca) ot) := Lib.hid (by have h := HP3.out; unfold POwn at h ⊢; exact Own.below h HBq.out)
                  have HXq : Hid (Below X.heap.size X (w3.drewN nq)) := Lib.hid (HB3.out.trans (HBq.out.mono HB3.out.size))
                  go_wp2_with fail
                  go_roundw
                  case rel => exact ⟨j + 1, qs3, _, by omega, by go_num, HPq.out, HT3.out.below HBq.out, .inl ⟨delT Rj t, by omega, rfl, HTD.out.1, (fun q => by
                    rw [HTD.out.2.1, HMJ.out, HDR.out, List.mem_cons]
                    refine ⟨fun h => h.1.elim (fun e => absurd e h.2) id, fun h => ⟨.inr h, fun e => ?_⟩⟩
                    have hn := HOT.out.1.sublist (List.drop_sublist j ot)
                    rw [HDR.out] at hn
                    exact (List.nodup_cons.1 hn).1 (e ▸ h))⟩, HXq.out⟩
                  case measure => simp [intOf]; omega
              · have j1 : ¬ ((j : Int) < (j : Int)) := by omega
                obtain ⟨W6, hW6⟩ : ∃ W, W = wr := ⟨_, rfl⟩
                rw [← hW6] at HB2 HQ2 HPO2 hsz2 ⊢
                clear hW6
                go_upto_region 46 with fail
                have HHA : Hid (∀ V, Below W6.heap.size W6 V → Calls Try.prog 15 #[.pointer (some ⟨lt, 0, none⟩), .string k] V fun e w' => ∃ g off c, e = .returned (.slice (some ⟨g, off, none⟩) 1 c) ∧ (w'.cell? ⟨g, off, none⟩ = some (.int .u64 p.1) ∧ w'.cell? ⟨g, off + 1, none⟩ = some (.int .i64 p.2) ∧ w'.cell? ⟨g, off + 2, none⟩ = some (.int .i64 2)) ∧ Below W6.heap.size W6 w') := Lib.hid (fun V hb => by
                  refine (has_any (HQ2.out.below hb).tb HK.out (N := 42) (by omega) HQ2.out.bnd).mono ?_
                  rintro e w' ⟨A, c, he, ho, hb'⟩
                  rw [HQ2.out.line] at he ho
                  obtain ⟨g, off, rfl, hlt, x0, x1, x2⟩ := want_cells ho.rd (j := 0) (t := wt p 2) rfl (by simp)
                  rw [Nat.zero_mul, Nat.add_zero] at x0 x1 x2
                  exact ⟨g, off, c, he, ⟨x0, x1, x2⟩, hb.trans (hb'.mono hb.size)⟩)
                have HS : Hid (∀ V, Below W6.heap.size W6 V → V.cell? ⟨go, 0, none⟩ = some (.int .u64 p.1) ∧ V.cell? ⟨go, 1, none⟩ = some (.int .i64 p.2)) := Lib.hid (fun V hb => HC.out V (HB2.out.trans (hb.mono hsz2)))
                have HF1 : Hid True := Lib.hid trivial
                obtain ⟨m0, m1⟩ := HS.out W6 (Below.refl _ _)
                go_region_with (go_at_call 15; refine (HHA.out _ ?_).mono ?_; (repeat (first | with_reducible exact Below.refl _ _ | exact HB5.out | with_reducible refine Below.drew ?_)); first
                      | (have hf1 := HF1.out; clear hf1 HF1; rintro e w5 ⟨g5, o5, c5, rfl, _, hb5⟩; have HB5 := Lib.hid hb5; obtain ⟨m2, m3⟩ := HS.out w5 HB5.out; clear hb5)
                      | (rintro e w6 ⟨g6, o6, c6, rfl, ⟨x0, x1, x2⟩, hb6⟩; have HB6 := Lib.hid hb6; obtain ⟨m4, m5⟩ := HS.out w6 HB6.out; clear hb6))
                all_goals
                  go_wp2_with fail
                  go_ret
                  exact ⟨rfl, HXB.out.trans ((HB2.out.trans (HB6.out.mono hsz2)).mono HXB.out.size)⟩
#print axioms reads_any
theorem reads_row {H : Type} {enc : TypeId × Value → H} {w : World} {base : Nat} {spare : Nat → Bool} {held : Bool}
    (v0 : Value) (ok0 : Value.okWide Try.prog w .any base 45 v0) (h0 : Reads1 enc Try.prog w 0 spare held 45 v0.cells.toList)
    (v1 : Value) (ok1 : Value.okWide Try.prog w .any base 24 v1) (h1 : Reads1 enc Try.prog w 0 spare held 24 v1.cells.toList) (k : S) (hk : k.size ≤ 140737488351232) :
    Calls Try.prog 5 #[v0, v1, .string k] w fun e w' => e = .returned (.bool true) ∧ Below w.heap.size w w' := by
  obtain ⟨ts, hts⟩ := tids_val ok0 h0
  obtain ⟨p, rfl, _⟩ := tid_val ok1 h1
  exact reads_any w v0 ts hts p k hk
#print axioms reads_row
end Go.Proofs.Ytcceankldiafpaa.Lock
