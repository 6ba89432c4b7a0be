/- The contracts of key.Map's methods, the rest: find, Get, With, Without, Same. -/
import Derived.Test.YthkacajlbenflaaKeyM
set_option linter.unusedVariables false
set_option linter.unusedSimpArgs false
namespace Go.Proofs.Ythkacajlbenflaa.KeyN
open Go.RowKit Go.Proofs.Ythkacajlbenflaa.Mem Go.Proofs.Ythkacajlbenflaa.Kv Go.Proofs.Ythkacajlbenflaa.KeyM

/-- v is a key.Map of the keys and values ps, which rise; few enough. -/
structure IsMap (w : World) (v : Value) (ps : List P2) : Prop where
  rd : Rd w w.heap.size 2 v ps.length (pc ps)
  rise : Rise ps
  len : ps.length ≤ 1099511627776
theorem IsMap.up {w w' : World} {v : Value} {ps : List P2} (h : IsMap w v ps) (hb : Below w.heap.size w w') : IsMap w' v ps := ⟨h.rd.up hb, h.rise, h.len⟩
theorem IsMap.drewN {w : World} {v : Value} {ps : List P2} (h : IsMap w v ps) (n : Nat) : IsMap (w.drewN n) v ps := ⟨h.rd, h.rise, h.len⟩

theorem find_any {v : Value} {ps : List P2} (w : World) (h : IsMap w v ps) (k : S) :
    Calls Try.prog 27 #[v, .string k] w fun e w' => e = .returned (.tuple #[.int .i64 (pos ps k), .bool (here ps k)]) ∧ Below w.heap.size w w' := by
  have H := Lib.hid (search_any w h.rd h.rise k (by have := h.len; omega))
  clear h
  go_enter Try.func27, Try.ntmps27
  go_wp2_with fail
  refine H.out.mono ?_
  rintro e w' ⟨rfl, hb⟩
  have HB := Lib.hid hb
  clear hb
  go_wp2
  go_ret2
  exact ⟨rfl, HB.out⟩

def getS (ps : List P2) (k : S) : S := (getL ps k).getD ⟨#[]⟩
theorem getS_at {ps : List P2} {k : S} {p : P2} (hr : Rise ps) (h : ps[pos ps k]? = some p) (hk : p.1 = k) : getS ps k = p.2 := by
  subst hk
  rw [getS, rise_find hr h]; rfl

theorem get_any {v : Value} {ps : List P2} (w : World) (h : IsMap w v ps) (k : S) :
    Calls Try.prog 17 #[v, .string k] w fun e w' => e = .returned (.tuple #[.string (getS ps k), .bool (here ps k)]) ∧ Below w.heap.size w w' := by
  have H := Lib.hid (find_any w h k)
  cases hh : here ps k with
  | false =>
    have hg : getS ps k = ⟨#[]⟩ := by rw [getS, getL_none hh]; rfl
    rw [hg]
    rw [hh] at H
    clear h hh hg
    go_enter Try.func17, Try.ntmps17
    go_wp2_with fail
    refine H.out.mono ?_
    rintro e w' ⟨rfl, hb⟩
    have HB := Lib.hid hb
    clear hb
    go_wp2
    go_ret2
    exact ⟨rfl, HB.out⟩
  | true =>
    rw [hh] at H
    obtain ⟨p, hp, hk⟩ := (here_at h.rise k).1 hh
    rw [getS_at h.rise hp hk]
    have hpl := here_pos_lt h.rise hh
    have hlen := h.len
    obtain ⟨g, off, c, rfl, hg, hc1, hc2, hx⟩ := h.rd.cells (by omega)
    have hv := hx _ _ (pc_val hp)
    clear h hh hk hx hp
    obtain ⟨m, hm⟩ : ∃ m, m = pos ps k := ⟨_, rfl⟩
    rw [← hm] at H hv hpl
    clear hm
    obtain ⟨n, hn⟩ : ∃ n, n = ps.length := ⟨_, rfl⟩
    rw [← hn] at H hc1 hpl hlen ⊢
    clear hn
    go_enter Try.func17, Try.ntmps17
    go_wp2_with fail
    refine H.out.mono ?_
    rintro e w' ⟨rfl, hb⟩
    have HB := Lib.hid hb
    have hv' : w'.cell? ⟨g, off + m * 2 + 1, none⟩ = some (.string p.2) := (hb.cell (p := ⟨g, off + m * 2 + 1, none⟩) hg).trans hv
    clear hb
    go_wp2
    go_ret2
    exact ⟨rfl, HB.out⟩

theorem ty_info : Ty Try.prog 48 2 32 (.agg #[.string ⟨#[]⟩, .string ⟨#[]⟩]) := SlP.ty
/-- What a map's method gives back: a map in memory of the call's own. -/
def NewMap (w : World) (v' : Value) (ps : List P2) (w' : World) : Prop := Own w' w.heap.size 48 2 v' ps.length (pc ps) ∧ Below w.heap.size w w'
theorem NewMap.is {w w' : World} {v' : Value} {ps : List P2} (h : NewMap w v' ps w') (hr : Rise ps) (hl : ps.length ≤ 1099511627776) : IsMap w' v' ps := ⟨h.1.rd, hr, hl⟩

theorem clone_any {v : Value} {ps : List P2} (w : World) (h : IsMap w v ps) :
    Calls Try.prog 28 #[v] w fun e w' => ∃ v', e = .returned v' ∧ NewMap w v' ps w' :=
  (SlP.clone w h.rd (pc_one ps) (by have := h.len; omega)).mono fun e w' ⟨v', he, ho, hb, _⟩ => ⟨v', he, ho, hb⟩

theorem pc_set {ps : List P2} {i : Nat} {p : P2} (h : ps[i]? = some p) (v : S) : (pc ps).set (i * 2 + 1) (.string v) = pc (ps.set i (p.1, v)) := by
  induction ps generalizing i with
  | nil => simp at h
  | cons q ps ih =>
    cases i with
    | zero => simp at h; subst h; rfl
    | succ i =>
      rw [show (i + 1) * 2 + 1 = (i * 2 + 1) + 1 + 1 by omega, pc_cons, List.set_cons_succ, List.set_cons_succ, ih (by simpa using h), List.set_cons_succ, pc_cons]

set_option maxHeartbeats 1000000 in
theorem with_any {v : Value} {ps : List P2} (w : World) (h : IsMap w v ps) (k val : S) :
    Calls Try.prog 14 #[v, .string k, .string val] w fun e w' => ∃ v', e = .returned v' ∧ NewMap w v' (withL ps k val) w' := by
  have H := Lib.hid (find_any w h k)
  have HI := Lib.hid h
  clear h
  cases hh : here ps k with
  | true =>
    rw [hh] at H
    obtain ⟨p, hp, hk⟩ := (here_at HI.out.rise k).1 hh
    have hwl : pc (withL ps k val) = (pc ps).set (pos ps k * 2 + 1) (.string val) := by
      rw [withL, if_pos hh, pc_set hp, hk]
    have hll : (withL ps k val).length = ps.length := by rw [withL, if_pos hh]; simp
    have hpl := here_pos_lt HI.out.rise hh
    have hlen := HI.out.len
    obtain ⟨m, hm⟩ : ∃ m, m = pos ps k := ⟨_, rfl⟩
    rw [← hm] at H hwl hpl
    have HW := Lib.hid hwl
    have HL := Lib.hid hll
    clear hm hh hk hp hwl hll
    go_enter Try.func14, Try.ntmps14
    go_wp2_with fail
    refine H.out.mono ?_
    rintro e w1 ⟨rfl, hb⟩
    have HB := Lib.hid hb
    clear hb
    go_wp2_with fail
    refine (clone_any w1 (HI.out.up HB.out)).mono ?_
    rintro e w2 ⟨v2, rfl, ho, hb⟩
    obtain ⟨g, off, cap, cur, rfl, hbg, hg, hn, hc, hs, ht⟩ := ho.form (by omega)
    have f1 : w2.frozen? ⟨g, off + m * 2 + 1, none⟩ = false := by simp [World.frozen?, hg]
    have f2 : ∃ u, w2.cell? ⟨g, off + m * 2 + 1, none⟩ = some u := by
      rw [cell_of_row w2 g _ cur _ _ hg]
      exact ⟨_, Array.getElem?_eq_getElem (by omega)⟩
    obtain ⟨u, f2⟩ := f2
    have HO := Lib.hid ho
    have HB2 := Lib.hid hb
    have HBG := Lib.hid hbg
    clear ho hb hg hs ht hbg
    obtain ⟨n, hn'⟩ : ∃ n, n = ps.length := ⟨_, rfl⟩
    rw [← hn'] at hn hpl hlen HO ⊢
    have HN := Lib.hid hn'
    clear hn'
    go_wp2
    go_ret
    have hset := HO.out.set (m * 2 + 1) (.string val)
    rw [← HW.out] at hset
    refine ⟨_, rfl, ?_, ?_⟩
    · rw [HL.out, ← HN.out]
      exact hset.base_ (fun g' e => by simp [Value.ownBlock] at e; have := HBG.out; have := HB.out.size; omega)
    · exact (below_then HB.out HB.out.size HB2.out).setCell (p := ⟨g, off + m * 2 + 1, none⟩) (by have := HBG.out; have := HB.out.size; show _ ≤ g; omega) _
  | false =>
    rw [hh] at H
    have hwl : pc (withL ps k val) = (pc ps).take (pos ps k * 2) ++ [.string k, .string val] ++ (pc ps).drop (pos ps k * 2) := by
      rw [withL, if_neg (by rw [hh]; decide), pc_append, pc_cons, pc_take, pc_drop]; simp
    have hpl := pos_le ps k
    have hlen := HI.out.len
    have hll : (withL ps k val).length = ps.length + 1 := by rw [withL, if_neg (by rw [hh]; decide)]; simp; omega
    obtain ⟨m, hm⟩ : ∃ m, m = pos ps k := ⟨_, rfl⟩
    rw [← hm] at H hwl hpl
    have HW := Lib.hid hwl
    have HL := Lib.hid hll
    clear hm hh hwl hll
    go_enter Try.func14, Try.ntmps14
    go_wp2_with fail
    refine H.out.mono ?_
    rintro e w1 ⟨rfl, hb⟩
    have HB := Lib.hid hb
    clear hb
    go_wp2_with fail
    refine (clone_any w1 (HI.out.up HB.out)).mono ?_
    rintro e w2 ⟨v2, rfl, ho, hb⟩
    have HO := Lib.hid ho
    have HB2 := Lib.hid hb
    clear ho hb
    go_wp2_with fail
    refine (SlP.insert (w := w2.alloc (.cells #[.string k, .string val] 48)) (HO.out.alloc _) (pc_one ps) hpl (new := [.string k, .string val]) (heap_alloc_new w2 _) rfl (fun u hu => by rcases List.mem_cons.1 hu with rfl | hu; rfl; rcases List.mem_cons.1 hu with rfl | hu; rfl; cases hu) (fun e => by have := (HO.out.lt _ e).2; omega) (by omega) (by have := HB2.out.size; simp; omega)).mono ?_
    rintro e w3 ⟨v3, rfl, hi⟩
    have HI3 := Lib.hid hi
    clear hi
    go_wp2
    go_ret
    refine ⟨_, rfl, ?_, ?_⟩
    · rw [HL.out, HW.out]
      exact HI3.out.1.base_ (fun g e => by
        have hbl := HB.out.size
        have hbl2 := HB2.out.size
        rcases HI3.out.2.1 with e' | e'
        · rw [e'] at e; have := (HO.out.lt g e).1; omega
        · rw [e'] at e; injection e with e; simp at e; omega)
    · have hbl := HB.out.size
      have hbl2 := HB2.out.size
      exact (below_then HB.out HB.out.size HB2.out).trans (((Below.refl _ _).alloc (by omega) _).trans (HI3.out.2.2.below (by simp; omega) (fun i _ e => by have := (HO.out.lt i e).1; omega)))

set_option maxHeartbeats 1000000 in
theorem without_any {v : Value} {ps : List P2} (w : World) (h : IsMap w v ps) (k : S) :
    Calls Try.prog 18 #[v, .string k] w fun e w' => ∃ v', e = .returned v' ∧ NewMap w v' (withoutL ps k) w' := by
  have H := Lib.hid (find_any w h k)
  have HI := Lib.hid h
  clear h
  cases hh : here ps k with
  | true =>
    rw [hh] at H
    have hwl : pc (withoutL ps k) = (pc ps).take (pos ps k * 2) ++ (pc ps).drop ((pos ps k + 1) * 2) := by
      rw [withoutL, if_pos hh, pc_append, pc_take, pc_drop]
    have hpl := here_pos_lt HI.out.rise hh
    have hlen := HI.out.len
    have hll : (withoutL ps k).length = ps.length - 1 := by rw [length_without HI.out.rise, if_pos hh]
    obtain ⟨m, hm⟩ : ∃ m, m = pos ps k := ⟨_, rfl⟩
    rw [← hm] at H hwl hpl
    have HW := Lib.hid hwl
    have HL := Lib.hid hll
    clear hm hh hwl hll
    go_enter Try.func18, Try.ntmps18
    go_wp2_with fail
    refine H.out.mono ?_
    rintro e w1 ⟨rfl, hb⟩
    have HB := Lib.hid hb
    clear hb
    go_wp2_with fail
    refine (clone_any w1 (HI.out.up HB.out)).mono ?_
    rintro e w2 ⟨v2, rfl, ho, hb⟩
    have HO := Lib.hid ho
    have HB2 := Lib.hid hb
    clear ho hb
    go_wp2_with fail
    refine (SlP.delete (w := w2) HO.out (pc_one ps) m hpl).mono ?_
    rintro e w3 ⟨v3, rfl, ho3, hb3, hf3⟩
    have HO3 := Lib.hid ho3
    have HB3 := Lib.hid hb3
    have HF3 := Lib.hid hf3
    clear ho3 hb3 hf3
    go_wp2
    go_ret
    have hbl := HB.out.size
    have hbl2 := HB2.out.size
    refine ⟨_, rfl, ?_, ?_⟩
    · rw [HL.out, HW.out]
      exact HO3.out.base_ (fun g e => by rw [HB3.out] at e; have := (HO.out.lt g e).1; omega)
    · exact (below_then HB.out HB.out.size HB2.out).trans (HF3.out.below (by omega) (fun i _ e => by have := (HO.out.lt i e).1; omega))
  | false =>
    rw [hh] at H
    have hwl : withoutL ps k = ps := by rw [withoutL, if_neg (by rw [hh]; decide)]
    rw [hwl]
    clear hwl hh
    go_enter Try.func18, Try.ntmps18
    go_wp2_with fail
    refine H.out.mono ?_
    rintro e w1 ⟨rfl, hb⟩
    have HB := Lib.hid hb
    clear hb
    go_wp2_with fail
    refine (clone_any w1 (HI.out.up HB.out)).mono ?_
    rintro e w2 ⟨v2, rfl, ho, hb⟩
    have HO := Lib.hid ho
    have HB2 := Lib.hid hb
    clear ho hb
    go_wp2
    go_ret
    exact ⟨_, rfl, HO.out.base_ (fun g e => by have := (HO.out.lt g e).1; have := HB.out.size; omega), below_then HB.out HB.out.size HB2.out⟩

/-! ### Same -/
theorem eqPair : ∀ (a b c d : S) (w : World), Sem.run Try.prog (binOp .neq 48 (.agg #[.string a, .string b]) (.agg #[.string c, .string d])) w = .ok (.bool (!(decide (a = c) && decide (b = d)))) w := by
  intro a b c d w
  have u3 := Try.underlying9
  have a3 := Try.isAgg9
  have z3 := Try.sizeOf9
  have hS : Try.prog.underlying 48 = some (.struct (Try.prog.fieldsOf 48)) := by kernel_rfl
  have hp : Try.prog.stoodInHeld 48 = false := by kernel_rfl
  have e1 : ∀ x y : S, (x.toList == y.toList) = decide (x = y) := fun x y => by
    rw [ByteArray.toList_eq, ByteArray.toList_eq]
    by_cases h : x = y
    · subst h; simp
    · rw [decide_eq_false h, beq_eq_false_iff_ne]
      exact fun e => h (S_ext e)
  rw [run_neq_struct, show (10000 : Nat) = 9999 + 1 from rfl, run_equalIn_agg w 9999 48 _ _ hS hp]
  simp only [Program.fieldsOf, Try.underlying48]
  go_simp
  by_cases h1 : a = c <;> by_cases h2 : b = d <;> simp [h1, h2]
set_option maxHeartbeats 1000000 in
theorem equal_any {v u : Value} {ps qs : List P2} (w : World) (h : Rd w w.heap.size 2 v ps.length (pc ps)) (h' : Rd w w.heap.size 2 u qs.length (pc qs)) :
    Calls Try.prog 30 #[v, u] w fun e w' => e = .returned (.bool (decide (ps = qs))) ∧ Below w.heap.size w w' := by
  have h1 := h.len_le
  have h2 := h'.len_le
  obtain ⟨hl, A, c, rfl, hc1, hc2, ha⟩ := h
  obtain ⟨hl', A', c', rfl, hc1', hc2', ha'⟩ := h'
  have HA := Lib.hid ha
  have HA' := Lib.hid ha'
  clear ha ha' hl hl'
  by_cases hlen : ps.length = qs.length
  · obtain ⟨n, hn⟩ : ∃ n, n = ps.length := ⟨_, rfl⟩
    have HQ := Lib.hid (hn.trans hlen)
    rw [← hn] at hlen h1 hc1 ⊢
    rw [← hlen] at h2 hc1' ⊢
    have HN := Lib.hid hn
    clear hn hlen
    unfold maxLen at h1 h2
    go_enter Try.func30, Try.ntmps30
    go_wp2
    go_loopw [5, 13] (fun _ i wr => ∃ j : Nat, j ≤ n ∧ i = .int .i64 j ∧ ps.take j = qs.take j ∧ Below w.heap.size w wr) (fun _ i _ => n - (intOf i).toNat)
    case atStart => exact ⟨0, Nat.zero_le _, rfl, rfl, Below.refl _ _⟩
    case round =>
      obtain ⟨j, hj, rfl, hjt, hb⟩ := hrel
      have HT := Lib.hid hjt
      clear hjt
      by_cases hlt : j < n
      · obtain ⟨g, off, rfl, hg, hx⟩ := HA.out (by rw [← HN.out]; omega)
        obtain ⟨g', off', rfl, hg', hx'⟩ := HA'.out (by rw [← HQ.out]; omega)
        obtain ⟨p, hp⟩ : ∃ p, ps[j]? = some p := ⟨ps[j]'(by rw [← HN.out]; omega), List.getElem?_eq_getElem _⟩
        obtain ⟨q, hq⟩ : ∃ q, qs[j]? = some q := ⟨qs[j]'(by rw [← HQ.out]; omega), List.getElem?_eq_getElem _⟩
        have k0 : wr.cell? ⟨g, off + j * 2, none⟩ = some (.string p.1) := (hb.cell (p := ⟨g, off + j * 2, none⟩) hg).trans (hx _ _ (pc_key hp))
        have k1 : wr.cell? ⟨g, off + j * 2 + 1, none⟩ = some (.string p.2) := (hb.cell (p := ⟨g, off + j * 2 + 1, none⟩) hg).trans (hx _ _ (pc_val hp))
        have k2 : wr.cell? ⟨g', off' + j * 2, none⟩ = some (.string q.1) := (hb.cell (p := ⟨g', off' + j * 2, none⟩) hg').trans (hx' _ _ (pc_key hq))
        have k3 : wr.cell? ⟨g', off' + j * 2 + 1, none⟩ = some (.string q.2) := (hb.cell (p := ⟨g', off' + j * 2 + 1, none⟩) hg').trans (hx' _ _ (pc_val hq))
        have i0 : (0 : Int) ≤ (j : Int) := by omega
        have i1 : (j : Int) < (n : Int) := by omega
        have HB := Lib.hid hb
        have HP := Lib.hid hp
        have HQQ := Lib.hid hq
        clear hx hx' hb hp hq
        have hneq := eqPair p.1 p.2 q.1 q.2
        by_cases he : p.1 = q.1 ∧ p.2 = q.2
        · have d0 : (!(decide (p.1 = q.1) && decide (p.2 = q.2))) = false := by simp [he.1, he.2]
          go_wp2
          go_quiet (fail)
          go_wp2
          go_roundw
          case rel => exact ⟨j + 1, by omega, by go_num, by
            rw [List.take_add_one, List.take_add_one, HT.out, HP.out, HQQ.out, Prod.ext he.1 he.2], below_drewN HB.out _⟩
          case measure => simp [intOf]; omega
        · have d0 : (!(decide (p.1 = q.1) && decide (p.2 = q.2))) = true := by
            by_cases e1 : p.1 = q.1
            · have : ¬ p.2 = q.2 := fun e2 => he ⟨e1, e2⟩
              simp [this]
            · simp [e1]
          have hne : decide (ps = qs) = false := decide_eq_false (fun e => he (by
            have h3 := HP.out
            rw [e, HQQ.out] at h3
            injection h3 with h3
            subst h3
            exact ⟨rfl, rfl⟩))
          have HNE := Lib.hid hne
          clear he hne
          go_wp2
          go_quiet (fail)
          go_wp2
          go_ret
          exact ⟨by rw [HNE.out]; rfl, below_drewN HB.out _⟩
      · obtain rfl : j = n := by omega
        have heq : decide (ps = qs) = true := decide_eq_true (by
          have h3 := HT.out
          rwa [List.take_of_length_le (by rw [← HN.out]; exact Nat.le_refl _), List.take_of_length_le (by rw [← HQ.out]; exact Nat.le_refl _)] at h3)
        have HNE := Lib.hid heq
        have HB := Lib.hid hb
        clear heq hb
        go_wp2
        go_ret
        exact ⟨by rw [HNE.out]; rfl, HB.out⟩
  · have hne : decide (ps = qs) = false := decide_eq_false (fun e => hlen (by rw [e]))
    rw [hne]
    have d0 : ((ps.length : Int) != (qs.length : Int)) = true := by rw [bne_iff_ne]; omega
    clear hne
    go_enter Try.func30, Try.ntmps30
    go_wp2
    go_ret
    exact ⟨rfl, Below.refl _ _⟩
theorem same_rd {v u : Value} {ps qs : List P2} (w : World) (h : Rd w w.heap.size 2 v ps.length (pc ps)) (h' : Rd w w.heap.size 2 u qs.length (pc qs)) :
    Calls Try.prog 16 #[v, u] w fun e w' => e = .returned (.bool (decide (ps = qs))) ∧ Below w.heap.size w w' := by
  have H := Lib.hid (equal_any w h h')
  clear h h'
  go_enter Try.func16, Try.ntmps16
  go_wp2_with fail
  refine H.out.mono ?_
  rintro e w' ⟨rfl, hb⟩
  have HB := Lib.hid hb
  clear hb
  go_wp2
  go_ret
  exact ⟨rfl, HB.out⟩
end Go.Proofs.Ythkacajlbenflaa.KeyN
