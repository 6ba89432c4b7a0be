/- Whole: whether each of an order is known, once in it, not lost, asked; and each that counts is in it. -/
import Derived.Test.YthkacajlbenflaaHistW
set_option linter.unusedVariables false
set_option linter.unusedSimpArgs false
set_option linter.unusedSectionVars false
namespace Go.Proofs.Ythkacajlbenflaa.HistA
open Go.RowKit Go.WideShapes Go.Deep Go.Proofs.Ythkacajlbenflaa.Mem Go.Proofs.Ythkacajlbenflaa.Open Go.Proofs.Ythkacajlbenflaa.KeyM Go.Proofs.Ythkacajlbenflaa.KeyN Go.Proofs.Ythkacajlbenflaa.Kv Go.Proofs.Ythkacajlbenflaa.Maps
def bad (ms : List ((Int × Int) × Bool)) (ts : List TxV) : Option Nat := ts.findIdx? fun t => badT ms t
def badZ (ms : List ((Int × Int) × Bool)) (ts : List TxV) : Int := match bad ms ts with | some i => i | none => -1
theorem bad_at {ts : List TxV} {ms : List ((Int × Int) × Bool)} {j : Nat} {t : TxV} (ht : ts[j]? = some t) (hs : badT ms t = true) (hb : ∀ (i : Nat) (u : TxV), i < j → ts[i]? = some u → badT ms u = false) : bad ms ts = some j := by
  unfold bad
  rw [List.findIdx?_eq_some_iff_getElem]
  obtain ⟨hj, e⟩ := List.getElem?_eq_some_iff.1 ht
  exact ⟨hj, by rw [e]; exact hs, fun i hi => by simp [hb i _ hi (List.getElem?_eq_getElem (by omega))]⟩
theorem bad_none {ts : List TxV} {ms : List ((Int × Int) × Bool)} (hb : ∀ (i : Nat) (u : TxV), ts[i]? = some u → badT ms u = false) : bad ms ts = none := by
  unfold bad
  rw [List.findIdx?_eq_none_iff]
  intro t ht
  obtain ⟨i, hi⟩ := List.mem_iff_getElem?.1 ht
  exact hb i t hi
set_option maxHeartbeats 2000000 in
set_option maxRecDepth 100000 in
theorem indexW_any {ts : List TxV} (w : World) {A : Option Addr} {c : Nat} (h : Rd w w.heap.size 7 (.slice A ts.length c) ts.length (tc ts)) (hok : ∀ t ∈ ts, TxOk w t) {bx bm : Nat} {ms : List ((Int × Int) × Bool)} (hx : w.heap[bx]? = some (.cells #[.map (some bm)] 24 (0, 0))) (hm : SeenAt w bm ms) :
    Calls Try.prog 33 #[.slice A ts.length c, .func (.func 26) #[] #[.pointer (some ⟨bx, 0, none⟩)]] w fun e w' => e = .returned (.int .i64 (badZ ms ts)) ∧ Below w.heap.size w w' := by
  have HO : Hid (∀ W, Below w.heap.size w W → Rd W W.heap.size 7 (.slice A ts.length c) ts.length (tc ts)) := fun W hb => h.up hb
  have HG : Hid (∀ W, Below w.heap.size w W → W.heap[bx]? = some (.cells #[.map (some bm)] 24 (0, 0))) := fun W hb => blk_below hx hb
  have HMS : Hid (∀ W, Below w.heap.size w W → SeenAt W bm ms) := fun W hb => hm.below hb
  have HTI : Hid (∀ t ∈ ts, Tid.IdOk (t.num, t.nd)) := fun t ht => ⟨(hok t ht).2.1, (hok t ht).2.2.1⟩
  have hln := h.len_le
  clear h hx hm hok
  obtain ⟨n, hn⟩ : ∃ n, n = ts.length := ⟨_, rfl⟩
  rw [← hn] at HO hln ⊢
  have HN := Lib.hid hn
  clear hn
  unfold maxLen at hln
  obtain ⟨r, hr⟩ : ∃ r, r = badZ ms ts := ⟨_, rfl⟩
  rw [← hr]
  have HR := Lib.hid hr
  clear hr
  go_enter Try.func33, Try.ntmps33
  go_wp2_with fail
  go_loopw [8] (fun i wr => ∃ j : Nat, j ≤ n ∧ i = .int .i64 j ∧ (∀ i u, i < j → ts[i]? = some u → badT ms u = false) ∧ Below w.heap.size w wr) (fun i _ => n - (intOf i).toNat)
  case atStart => exact ⟨0, Nat.zero_le _, rfl, fun i u h => absurd h (by omega), Below.refl _ _⟩
  case round =>
    obtain ⟨j, hj, rfl, hall, hbl⟩ := hrel
    have HBL := Lib.hid hbl
    have HALL := Lib.hid hall
    clear hall
    by_cases hlt : j < n
    · obtain ⟨t, ht⟩ : ∃ t, ts[j]? = some t := ⟨ts[j]'(by rw [← HN.out]; omega), List.getElem?_eq_getElem _⟩
      obtain ⟨g, off, rfl, c0, c1, c2, c3, c4, c5, c6⟩ := txn_cells (HO.out wr hbl) ht (by omega)
      have HTE := Lib.hid ht
      have HC := Lib.hid (whole1_any wr t (HTI.out t (List.mem_of_getElem? ht)) (HG.out wr hbl) (HMS.out wr hbl))
      have i0 : (0 : Int) ≤ (j : Int) := by omega
      have i1 : (j : Int) < (n : Int) := by omega
      clear hbl ht
      obtain ⟨b, hb⟩ : ∃ b, b = badT ms t := ⟨_, rfl⟩
      rw [← hb] at HC
      have HB := Lib.hid hb
      clear hb
      cases b with
      | true =>
        go_wp2_with (go_at_call 26; refine HC.out.mono ?_; rintro e w1 ⟨rfl, hb1⟩; have HB1 := Lib.hid hb1; clear hb1)
        go_ret
        refine ⟨?_, HBL.out.trans (HB1.out.mono HBL.out.size)⟩
        have e : r = (j : Int) := by rw [HR.out]; unfold badZ; rw [bad_at HTE.out HB.out.symm HALL.out]
        rw [e]; rfl
      | false =>
        go_wp2_with (go_at_call 26; refine HC.out.mono ?_; rintro e w1 ⟨rfl, hb1⟩; have HB1 := Lib.hid hb1; clear hb1)
        go_roundw
        case rel => exact ⟨j + 1, by omega, by go_num, fun i u hi hu => by
          by_cases e : i = j
          · subst e
            have : some t = some u := HTE.out.symm.trans hu
            injection this with this
            rw [← this]; exact HB.out.symm
          · exact HALL.out i u (by omega) hu, HBL.out.trans (HB1.out.mono HBL.out.size)⟩
        case measure => simp [intOf]; omega
    · have i1 : ¬ ((j : Int) < (n : Int)) := by omega
      go_wp2_with fail
      go_ret
      refine ⟨?_, HBL.out⟩
      have e : r = -1 := by
        rw [HR.out]; unfold badZ
        rw [bad_none fun i u hu => HALL.out i u (by have := (List.getElem?_eq_some_iff.1 hu).1; rw [← HN.out] at this; omega) hu]
      rw [e]; rfl
set_option maxHeartbeats 2000000 in
set_option maxRecDepth 100000 in
theorem contains_any {ts : List TxV} (w : World) {A : Option Addr} {c : Nat} (h : Rd w w.heap.size 7 (.slice A ts.length c) ts.length (tc ts)) (hok : ∀ t ∈ ts, TxOk w t) {bx bm : Nat} {ms : List ((Int × Int) × Bool)} (hx : w.heap[bx]? = some (.cells #[.map (some bm)] 24 (0, 0))) (hm : SeenAt w bm ms) :
    Calls Try.prog 25 #[.slice A ts.length c, .func (.func 26) #[] #[.pointer (some ⟨bx, 0, none⟩)]] w fun e w' => e = .returned (.bool (bad ms ts).isSome) ∧ Below w.heap.size w w' := by
  have HC := Lib.hid (indexW_any w h hok hx hm)
  clear h hok hx hm
  obtain ⟨r, hr⟩ : ∃ r, r = badZ ms ts := ⟨_, rfl⟩
  obtain ⟨b, hb⟩ : ∃ b, b = (bad ms ts).isSome := ⟨_, rfl⟩
  obtain ⟨n, hn⟩ : ∃ n, n = ts.length := ⟨_, rfl⟩
  have hrb : b = decide (0 ≤ r) := by
    rw [hr, hb]
    unfold badZ
    cases bad ms ts with
    | none => simp
    | some i => simp
  rw [← hr, ← hn] at HC
  rw [← hb, ← hn]
  have HRB := Lib.hid hrb
  clear hr hb hn hrb
  go_enter Try.func25, Try.ntmps25
  go_wp2_with (go_at_call 33; refine HC.out.mono ?_; rintro e w1 ⟨rfl, hb1⟩; have HB1 := Lib.hid hb1; clear hb1)
  go_ret
  exact ⟨by rw [HRB.out]; rfl, HB1.out⟩
#print axioms contains_any
def WhoP (ts : List TxV) (ps : List (Int × Int)) (j : Nat) : Prop := ∀ (i : Nat) (p : Int × Int), i < j → ps[i]? = some p → (∃ x, look ts p = some x ∧ x.lo = false ∧ x.as_ = true) ∧ ∀ k, k < i → ps[k]? ≠ some p
def AllIn (ts : List TxV) (ps : List (Int × Int)) : Prop := ∀ x ∈ ts, 0 < x.en → 0 < x.os.length → (x.num, x.nd) ∈ ps
theorem WhoP.next {ts : List TxV} {ps : List (Int × Int)} {j : Nat} (h : WhoP ts ps j) (hn : ∀ p, ps[j]? = some p → (∃ x, look ts p = some x ∧ x.lo = false ∧ x.as_ = true) ∧ ∀ k, k < j → ps[k]? ≠ some p) : WhoP ts ps (j + 1) := fun i p hi hp => by
  by_cases e : i = j
  · subst e; exact hn p hp
  · exact h i p (by omega) hp
def seenL (ps : List (Int × Int)) : List ((Int × Int) × Bool) := ps.map fun p => (p, true)
theorem seen_get (ps : List (Int × Int)) (p : Int × Int) : (getM (seenL ps) p).getD false = decide (p ∈ ps) := by
  induction ps with
  | nil => simp [seenL, getM]
  | cons q ps ih =>
    have e : seenL (q :: ps) = (q, true) :: seenL ps := rfl
    rw [e, getM_cons]
    by_cases h : q = p
    · simp [h]
    · have h' : ¬ p = q := fun e => h e.symm
      rw [if_neg h, ih]
      simp [h']
theorem seen_set {ps : List (Int × Int)} {p : Int × Int} (h : p ∉ ps) : setM (seenL ps) p true = seenL (ps ++ [p]) := by
  rw [setM_new (fun q hq e => by
    obtain ⟨r, hr, rfl⟩ := List.mem_map.1 hq
    exact h (by rw [← e]; exact hr))]
  simp [seenL]
theorem all_in {ts : List TxV} {ps : List (Int × Int)} : (bad (seenL ps) ts).isSome = false ↔ AllIn ts ps := by
  unfold bad AllIn
  constructor
  · intro h x hx h1 h2
    have h3 : ts.findIdx? (fun t => badT (seenL ps) t) = none := by
      cases hf : ts.findIdx? (fun t => badT (seenL ps) t) with
      | none => rfl
      | some i => rw [hf] at h; cases h
    rw [List.findIdx?_eq_none_iff] at h3
    have h4 := h3 x hx
    unfold badT at h4
    rw [seen_get] at h4
    simpa [h1, h2] using h4
  · intro h
    have h3 : ts.findIdx? (fun t => badT (seenL ps) t) = none := by
      rw [List.findIdx?_eq_none_iff]
      intro x hx
      unfold badT
      rw [seen_get]
      by_cases h1 : 0 < x.en
      · by_cases h2 : 0 < x.os.length
        · simp [h x hx h1 h2]
        · simp [h2]
      · have hd := decide_eq_false h1
        rw [hd]; rfl
    rw [h3]; rfl
set_option maxHeartbeats 2000000 in
set_option maxRecDepth 100000 in
theorem whole_any {ts : List TxV} {ps : List (Int × Int)} (w : World) {A B : Option Addr} {c d : Nat} (h : Rd w w.heap.size 7 (.slice A ts.length c) ts.length (tc ts)) (hok : ∀ t ∈ ts, TxOk w t)
    (ho : Rd w w.heap.size 2 (.slice B ps.length d) ps.length (idc ps)) (hid : ∀ p ∈ ps, Tid.IdOk p) :
    Calls Try.prog 13 #[.slice A ts.length c, .slice B ps.length d] w fun e w' => BRes w (WhoP ts ps ps.length ∧ AllIn ts ps) e w' := by
  have HO : Hid (∀ W, Below w.heap.size w W → Rd W W.heap.size 2 (.slice B ps.length d) ps.length (idc ps)) := fun W hb => ho.up hb
  have HRA : Hid (∀ W, Below w.heap.size w W → Rd W W.heap.size 7 (.slice A ts.length c) ts.length (tc ts)) := fun W hb => h.up hb
  have HF : Hid (∀ W, Below w.heap.size w W → ∀ p : Int × Int, Calls Try.prog 24 #[.slice A ts.length c, .agg #[.int .u64 p.1, .int .i64 p.2]] W fun e w' => e = .returned (.int .i64 (firstZ ts p)) ∧ Below W.heap.size W w') := fun W hb p => find_txn W (h.up hb) p
  have HCF : Hid (∀ W bx bm ms, Below w.heap.size w W → W.heap[bx]? = some (.cells #[.map (some bm)] 24 (0, 0)) → SeenAt W bm ms →
    Calls Try.prog 25 #[.slice A ts.length c, .func (.func 26) #[] #[.pointer (some ⟨bx, 0, none⟩)]] W fun e w' => e = .returned (.bool (bad ms ts).isSome) ∧ Below W.heap.size W w') := fun W bx bm ms hb h1 h2 => contains_any W (h.up hb) (fun t ht => (hok t ht).up hb) h1 h2
  have HIDS := Lib.hid hid
  have hln := h.len_le
  have hlm := ho.len_le
  clear h ho hid hok
  obtain ⟨n, hn⟩ : ∃ n, n = ts.length := ⟨_, rfl⟩
  obtain ⟨m, hm⟩ : ∃ m, m = ps.length := ⟨_, rfl⟩
  rw [← hm] at HO hlm ⊢
  rw [← hn] at HRA HF HCF hln ⊢
  have HN := Lib.hid hn
  have HM := Lib.hid hm
  clear hn hm
  unfold maxLen at hln hlm
  have hmm := @run_makeMap Try.prog
  go_enter Try.func13, Try.ntmps13
  go_upto_region 2 with fail
  clear hmm
  have hbs : Below w.heap.size w ((w.alloc (.map #[] 0)).alloc (.cells #[.map (some w.heap.size)] 24)) := ((Below.refl _ _).alloc (Nat.le_refl _) _).alloc (by simp) _
  have hms : SeenAt ((w.alloc (.map #[] 0)).alloc (.cells #[.map (some w.heap.size)] 24)) w.heap.size [] := MapAt.alloc (MapAt.new w) _
  have hbx0 : ((w.alloc (.map #[] 0)).alloc (.cells #[.map (some w.heap.size)] 24)).heap[w.heap.size + 1]? = some (.cells #[.map (some w.heap.size)] 24 (0, 0)) := by
    have h9 := heap_alloc_new (w.alloc (.map #[] 0)) (.cells #[.map (some w.heap.size)] 24)
    rw [World.size_alloc] at h9
    exact h9
  have HBS := Lib.hid hbs
  have HMS := Lib.hid hms
  have HBX := Lib.hid hbx0
  clear hbs hms hbx0
  go_wp2_with fail
  go_loopw [12] (fun i wr => ∃ j : Nat, j ≤ m ∧ i = .int .i64 j ∧ SeenAt wr w.heap.size (seenL (ps.take j)) ∧ wr.heap[w.heap.size + 1]? = some (.cells #[.map (some w.heap.size)] 24 (0, 0)) ∧ WhoP ts ps j ∧ Below w.heap.size w wr) (fun i _ => m - (intOf i).toNat)
  case atStart => exact ⟨0, Nat.zero_le _, rfl, HMS.out, HBX.out, fun i p hi => absurd hi (by omega), HBS.out⟩
  case round =>
    clear HBS HMS HBX
    obtain ⟨j, hj, rfl, hms, hbx, hwho, hbl⟩ := hrel
    have HWHO := Lib.hid hwho
    clear hwho
    by_cases hlt : j < m
    · obtain ⟨p, hp⟩ : ∃ p, ps[j]? = some p := ⟨ps[j]'(by rw [← HM.out]; omega), List.getElem?_eq_getElem _⟩
      obtain ⟨g, off, rfl, c0, c1⟩ := id_cells (HO.out wr hbl) hp (by omega)
      obtain ⟨X, hX⟩ : ∃ X, X = wr.alloc (.cells #[.int .u64 p.1, .int .i64 p.2] 30) := ⟨_, rfl⟩
      have hbx1 : Below wr.heap.size wr X := by rw [hX]; exact (Below.refl _ _).alloc (Nat.le_refl _) _
      have HXR : Hid (X.heap[wr.heap.size]? = some (.cells #[.int .u64 p.1, .int .i64 p.2] 30 (0, 0))) := Lib.hid (by rw [hX]; exact heap_alloc_new wr _)
      have HXB : Hid (Below w.heap.size w X) := hbl.trans (hbx1.mono hbl.size)
      have HMX := Lib.hid (hms.below hbx1)
      have HBX := Lib.hid (blk_below hbx hbx1)
      have HXE := Lib.hid hX
      have HP := Lib.hid hp
      have HIP := Lib.hid (HIDS.out p (List.mem_of_getElem? hp))
      have i0 : (0 : Int) ≤ (j : Int) := by omega
      have i1 : (j : Int) < (m : Int) := by omega
      clear hX hbx1 hbl hp hms hbx
      go_upto_region 5 with fail
      rw [← HXE.out]
      clear HXE c0 c1
      obtain ⟨d0, d1⟩ := row2c HXR.out
      go_wp2_with fail
      refine (HF.out X HXB.out p).mono ?_
      rintro e w1 ⟨rfl, hb1⟩
      have HB1 : Hid (Below w.heap.size w w1) := HXB.out.trans (hb1.mono HXB.out.size)
      have HM1 := Lib.hid (HMX.out.below hb1)
      have HBX1 := Lib.hid (blk_below HBX.out hb1)
      have HR1 := Lib.hid (blk_below HXR.out hb1)
      clear hb1 d0 d1 HMX HBX HXR
      obtain ⟨d0, d1⟩ := row2c HR1.out
      have hfail : ¬ (∃ x, look ts p = some x ∧ x.lo = false ∧ x.as_ = true) ∨ (∃ k, k < j ∧ ps[k]? = some p) → ¬ (WhoP ts ps m ∧ AllIn ts ps) := by
        rintro (h | ⟨k, hk, hkp⟩) ⟨hw, _⟩
        · exact h (hw j p hlt HP.out).1
        · exact (hw j p hlt HP.out).2 k hk hkp
      have HFAIL := Lib.hid hfail
      clear hfail
      cases hf : first ts p with
      | none =>
        have e : firstZ ts p = -1 := by unfold firstZ; rw [hf]
        rw [e]
        have HFN := Lib.hid (look_none hf)
        clear hf e
        go_wp2_with fail
        go_ret
        exact ⟨false, rfl, ⟨fun h => absurd h (by simp), fun h => absurd h (HFAIL.out (.inl fun ⟨x, hx, _⟩ => absurd (HFN.out.symm.trans hx) (by simp)))⟩, HB1.out⟩
      | some k =>
        have e : firstZ ts p = (k : Int) := by unfold firstZ; rw [hf]
        obtain ⟨t, ht, _⟩ := first_some hf
        have hk : k < n := by rw [HN.out]; exact (List.getElem?_eq_some_iff.1 ht).1
        obtain ⟨g2, off2, rfl, e0, e1, e2, e3, e4, e5, e6⟩ := txn_cells (HRA.out w1 HB1.out) ht (by omega)
        have HLK := Lib.hid (look_some hf ht)
        rw [e]
        have k0 : (0 : Int) ≤ (k : Int) := by omega
        have k1 : (k : Int) < (n : Int) := by omega
        have k2 : ¬ ((k : Int) < 0) := by omega
        have x0 : w1.cell? ⟨w.heap.size + 1, 0, none⟩ = some (.map (some w.heap.size)) := row_at HBX1.out rfl
        have hlook := run_seen HM1.out HIP.out
        rw [seen_get] at hlook
        obtain ⟨r, hr⟩ : ∃ r, r = decide (p ∈ ps.take j) := ⟨_, rfl⟩
        rw [← hr] at hlook
        have HR := Lib.hid hr
        obtain ⟨lo, hlo⟩ : ∃ lo, lo = t.lo := ⟨_, rfl⟩
        obtain ⟨as_, has⟩ : ∃ as_, as_ = t.as_ := ⟨_, rfl⟩
        rw [← hlo] at e5
        rw [← has] at e4
        have HLO := Lib.hid hlo
        have HAS := Lib.hid has
        clear hf e ht e0 e1 e2 e3 e6 hr hlo has
        cases r with
        | true =>
          go_wp2_with fail
          go_ret
          refine ⟨false, rfl, ⟨fun h => absurd h (by simp), fun h => absurd h (HFAIL.out (.inr ?_))⟩, HB1.out⟩
          have hmem : p ∈ ps.take j := of_decide_eq_true HR.out.symm
          obtain ⟨k', hk'⟩ := List.getElem?_of_mem hmem
          rw [List.getElem?_take] at hk'
          split at hk'
          · exact ⟨k', by assumption, hk'⟩
          · cases hk'
        | false =>
          cases lo with
          | true =>
            go_wp2_with fail
            go_ret
            exact ⟨false, rfl, ⟨fun h => absurd h (by simp), fun h => absurd h (HFAIL.out (.inl fun ⟨x, hx, h1, _⟩ => by
              have e := HLK.out.symm.trans hx
              injection e with e
              subst e
              exact absurd (HLO.out.trans h1) (by simp)))⟩, HB1.out⟩
          | false =>
            cases as_ with
            | false =>
              go_wp2_with fail
              go_ret
              exact ⟨false, rfl, ⟨fun h => absurd h (by simp), fun h => absurd h (HFAIL.out (.inl fun ⟨x, hx, _, h1⟩ => by
                have e := HLK.out.symm.trans hx
                injection e with e
                subst e
                exact absurd (HAS.out.trans h1) (by simp)))⟩, HB1.out⟩
            | true =>
              have hnot : p ∉ ps.take j := of_decide_eq_false HR.out.symm
              obtain ⟨w4, hup, hat4, ht4⟩ := Maps.run_update (P := Try.prog) (t := 24) (e := 4) Tid.km_tid Try.underlying24 HM1.out HIP.out true
              rw [seen_set hnot] at hat4
              have hnx : ps.take j ++ [p] = ps.take (j + 1) := by rw [List.take_add_one, HP.out]; rfl
              rw [hnx] at hat4
              have HB4 : Hid (Below w.heap.size w w4) := Lib.hid (below_turned ht4 HB1.out (Nat.le_refl _))
              have HAT4 := Lib.hid hat4
              have HBX4 : Hid (w4.heap[w.heap.size + 1]? = some (.cells #[.map (some w.heap.size)] 24 (0, 0))) := Lib.hid (ht4.fr.blk HBX1.out (by omega))
              have HNOT := Lib.hid hnot
              unfold Tid.encT at hup
              clear ht4 hat4 hnot hnx
              go_wp2_with fail
              go_roundw
              case rel => exact ⟨j + 1, by omega, by go_num, HAT4.out, HBX4.out, HWHO.out.next fun q hq => by
                have e := HP.out.symm.trans hq
                injection e with e
                subst e
                refine ⟨⟨t, HLK.out, HLO.out.symm, HAS.out.symm⟩, fun k' hk' hkp => HNOT.out ?_⟩
                exact List.mem_of_getElem? (i := k') (by rw [List.getElem?_take, if_pos hk']; exact hkp), HB4.out⟩
              case measure => simp [intOf]; omega
    · obtain rfl : j = m := by omega
      have htk : ps.take j = ps := by rw [HM.out]; exact List.take_length
      rw [htk] at hms
      have x0 : wr.cell? ⟨w.heap.size + 1, 0, none⟩ = some (.map (some w.heap.size)) := row_at hbx rfl
      have HC := Lib.hid (HCF.out wr _ _ _ hbl hbx hms)
      have HBL := Lib.hid hbl
      obtain ⟨b, hb⟩ : ∃ b, b = (bad (seenL ps) ts).isSome := ⟨_, rfl⟩
      rw [← hb] at HC
      have HBB := Lib.hid hb
      have i1 : ¬ ((j : Int) < (j : Int)) := by omega
      clear hbl hms hbx htk hb
      go_wp2_with fail
      refine HC.out.mono ?_
      rintro e w2 ⟨rfl, hb2⟩
      have HB2 : Hid (Below w.heap.size w w2) := HBL.out.trans (hb2.mono HBL.out.size)
      clear hb2 x0
      go_wp2_with fail
      go_ret
      refine ⟨!b, rfl, ?_, HB2.out⟩
      rw [← all_in, ← HBB.out]
      cases b with
      | true => exact ⟨fun h => absurd h (by simp), fun h => absurd h.2 (by simp)⟩
      | false => exact ⟨fun _ => ⟨HWHO.out, rfl⟩, fun _ => rfl⟩
#print axioms whole_any
end Go.Proofs.Ythkacajlbenflaa.HistA
