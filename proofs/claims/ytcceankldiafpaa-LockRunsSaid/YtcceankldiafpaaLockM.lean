/- Free: a transaction has nothing, and waits for nothing. -/
import Derived.Test.YtcceankldiafpaaLockI
import Derived.Test.YtcceankldiafpaaLockJ
set_option linter.unusedVariables false
set_option linter.unusedSimpArgs false
set_option linter.unusedSectionVars false
set_option maxRecDepth 100000
namespace Go.Proofs.Ytcceankldiafpaa.Lock
open Go.RowKit Go.WideShapes Go.Deep Go.Proofs.Ytcceankldiafpaa.Mem Go.Proofs.Ytcceankldiafpaa.Open Go.Proofs.Ytcceankldiafpaa.Maps
def delT (ws : List Wt) (p : Int × Int) : List Wt := match ws.findIdx? (fun t => sameT t p) with
  | some i => ws.take i ++ ws.drop (i + 1)
  | none => ws
def freeL (l : Line) (p : Int × Int) : Line × List Wt := if hasT l.1 p || hasT l.2 p then nextL (delT l.1 p) (delT l.2 p) else (l, [])
theorem delT_len (ws : List Wt) (p : Int × Int) : (delT ws p).length ≤ ws.length := by
  unfold delT
  split
  · rw [List.length_append, List.length_take, List.length_drop]; omega
  · exact Nat.le_refl _
theorem nextL_len : ∀ (ws has : List Wt), (nextL has ws).1.1.length + (nextL has ws).1.2.length ≤ has.length + ws.length ∧ (nextL has ws).2.length ≤ ws.length
  | [], has => by unfold nextL; simp
  | t :: ws, has => by
    have ih := nextL_len ws (giveL has t)
    have hg := giveL_len has t
    unfold nextL
    split
    · dsimp only
      rw [List.length_cons, List.length_cons]
      omega
    · dsimp only
      simp
theorem freeL_len (l : Line) (p : Int × Int) : (freeL l p).1.1.length + (freeL l p).1.2.length ≤ l.1.length + l.2.length ∧ (freeL l p).2.length ≤ l.2.length := by
  unfold freeL
  split
  · have h1 := nextL_len (delT l.2 p) (delT l.1 p)
    have h2 := delT_len l.1 p
    have h3 := delT_len l.2 p
    omega
  · simp
theorem firstZ_neg {ws : List Wt} {p : Int × Int} (h : firstZ (fun t => sameT t p) ws < 0) : ws.findIdx? (fun t => sameT t p) = none := by
  cases hf : ws.findIdx? (fun t => sameT t p) with
  | none => rfl
  | some i =>
    refine absurd h ?_
    unfold firstZ
    rw [hf]
    exact Int.not_lt.2 (Int.natCast_nonneg _)
theorem firstZ_pos {ws : List Wt} {p : Int × Int} (h : 0 ≤ firstZ (fun t => sameT t p) ws) : ∃ i : Nat, ws.findIdx? (fun t => sameT t p) = some i ∧ firstZ (fun t => sameT t p) ws = (i : Int) ∧ i < ws.length := by
  unfold firstZ at h ⊢
  cases hf : ws.findIdx? (fun t => sameT t p) with
  | none => rw [hf] at h; exact absurd h (by simp)
  | some i =>
    obtain ⟨hi, _⟩ := List.findIdx?_eq_some_iff_getElem.1 hf
    exact ⟨i, rfl, rfl, hi⟩
theorem del_cells {ws : List Wt} {i : Nat} : (wc ws).take (i * 3) ++ (wc ws).drop ((i + 1) * 3) = wc (ws.take i ++ ws.drop (i + 1)) := by
  rw [wc_take, wc_drop, wc_append]
theorem TGo.of_q {w w' : World} {B lt mb : Nat} {qs : List (S × Qv)} {k : S} {q q' : Qv} (hT : Tb w B lt mb qs) (hq : getM qs k = some q) (hg : QGo w w' B q q') : TGo w w' mb qs (setM qs k q') := by
  refine ⟨hg.fr.mono fun g _ hx => .inr ⟨k, q, hq, hx⟩, fun g hx => ?_⟩
  rcases hx with e | ⟨k1, q1, h1, hx⟩
  · exact .inl (.inl e)
  · rw [getM_set] at h1
    split at h1
    · injection h1 with h1
      subst h1
      rcases hg.feet g hx with e | e
      · exact .inl (.inr ⟨k, q, hq, e⟩)
      · exact .inr e
    · exact .inl (.inr ⟨k1, q1, h1, hx⟩)
theorem TGo.less {w w' : World} {mb : Nat} {qs : List (S × Qv)} {k : S} (ht : Fr (fun g => g = mb) w w') : TGo w w' mb qs (delM qs k) := by
  refine ⟨ht.mono fun g _ e => .inl e, fun g hx => .inl ?_⟩
  rcases hx with e | ⟨k1, q1, h1, hx⟩
  · exact .inl e
  · rw [getM_del] at h1
    split at h1
    · cases h1
    · exact .inr ⟨k1, q1, h1, hx⟩
def NE (qs : List (S × Qv)) : Prop := ∀ k q, getM qs k = some q → q.has ≠ [] ∨ q.waits ≠ []
/-- What Free has made of the keys that it has been through. -/
structure FInv (qs qs' : List (S × Qv)) (p : Int × Int) (done : List S) (gs : List Gr) : Prop where
  inn : ∀ k, k ∈ done → lineOf qs' k = (freeL (lineOf qs k) p).1
  out : ∀ k, k ∉ done → getM qs' k = getM qs k
  grants : gs = done.flatMap fun k => grs k (freeL (lineOf qs k) p).2
  ne : NE qs → NE qs'
def ofB (b : List UInt8) : S := ⟨b.toArray⟩
theorem ofB_kb (s : S) : ofB (kb s) = s := rfl
theorem encStr_ofB (b : List UInt8) : encStr b = .string (ofB b) := rfl
theorem FInv.skip {qs qs' : List (S × Qv)} {p : Int × Int} {done : List S} {gs : List Gr} {s : S} (h : FInv qs qs' p done gs) (hs : s ∉ done) (hf : freeL (lineOf qs s) p = (lineOf qs s, [])) : FInv qs qs' p (done ++ [s]) gs := by
  refine ⟨fun k hk => ?_, fun k hk => h.out k fun e => hk (List.mem_append_left _ e), ?_, h.ne⟩
  · rcases List.mem_append.1 hk with hk | hk
    · exact h.inn k hk
    · obtain rfl := List.mem_singleton.1 hk
      rw [hf]
      unfold lineOf
      rw [h.out _ hs]
  · rw [List.flatMap_append, ← h.grants]
    simp [hf, grs]
theorem FInv.did {qs qs' q2 : List (S × Qv)} {p : Int × Int} {done : List S} {gs : List Gr} {s : S} (h : FInv qs qs' p done gs) (hs : s ∉ done) (hl : lineOf q2 s = (freeL (lineOf qs s) p).1) (ho : ∀ k, k ≠ s → getM q2 k = getM qs' k) (hne : ∀ q, getM q2 s = some q → q.has ≠ [] ∨ q.waits ≠ []) : FInv qs q2 p (done ++ [s]) (gs ++ grs s (freeL (lineOf qs s) p).2) := by
  refine ⟨fun k hk => ?_, fun k hk => ?_, ?_, fun hn k q hq => ?_⟩
  · by_cases e : k = s
    · subst e; exact hl
    · rcases List.mem_append.1 hk with hk | hk
      · have := h.inn k hk
        unfold lineOf at this ⊢
        rw [ho k e]
        exact this
      · exact absurd (List.mem_singleton.1 hk) e
  · have h1 : k ≠ s := fun e => hk (List.mem_append_right _ (List.mem_singleton.2 e))
    rw [ho k h1]
    exact h.out k fun e => hk (List.mem_append_left _ e)
  · rw [List.flatMap_append, ← h.grants]
    simp
  · by_cases e : k = s
    · subst e; exact hne q hq
    · rw [ho k e] at hq
      exact h.ne hn k q hq
theorem Tb.gr {w w' : World} {B lt mb b : Nat} {qs : List (S × Qv)} {v : Value} {gs : List Gr} (h : Tb w B lt mb qs) (hg : GOwn w b v gs) (hf : Fr (fun g => v.ownBlock = some g) w w') : Tb w' B lt mb qs := by
  refine h.other hf (fun k q hq g h1 h2 => gown_feet (h.rows k q hq) hg h2 h1) (fun e => own_ne_row hg h.ft (by decide) e) (fun e => ?_)
  obtain ⟨es, c, h1, _⟩ := h.fm
  rcases hg.2 with ⟨h0, _⟩ | ⟨g', off, cap, cur, h0, _, hg', _⟩
  · rw [h0] at e; cases e
  · rw [h0] at e
    injection e with e
    subst e
    rw [h1] at hg'
    injection hg' with hg'
    cases hg'
theorem TGo.then_fr {w w' w2 : World} {mb : Nat} {qs qs' : List (S × Qv)} {S' : Nat → Prop} (h : TGo w w' mb qs qs') (hf : Fr S' w' w2) (hS : ∀ g, S' g → w.heap.size ≤ g) : TGo w w2 mb qs qs' := ⟨h.fr.trans hf fun i hi hs => by have := hS i hs; omega, h.feet⟩
theorem delT_none {ws : List Wt} {p : Int × Int} (h : ws.findIdx? (fun t => sameT t p) = none) : delT ws p = ws := by unfold delT; rw [h]
theorem delT_some {ws : List Wt} {p : Int × Int} {i : Nat} (h : ws.findIdx? (fun t => sameT t p) = some i) : delT ws p = ws.take i ++ ws.drop (i + 1) := by unfold delT; rw [h]
theorem gown_mb {w : World} {b mb : Nat} {qs : List (S × Qv)} {v : Value} {gs : List Gr} (hg : GOwn w b v gs) (hm : QMap w mb qs) {g : Nat} (h : v.ownBlock = some g) : g ≠ mb := fun e => by
  subst e
  obtain ⟨es, c, h1, _⟩ := hm
  rcases hg.2 with ⟨h0, _⟩ | ⟨g', off, cap, cur, h0, _, hg', _⟩
  · rw [h0] at h; cases h
  · rw [h0] at h
    injection h with h
    subst h
    rw [h1] at hg'
    injection hg' with hg'
    cases hg'
def FreeR (w : World) (B lt mb : Nat) (qs : List (S × Qv)) (p : Int × Int) (e : Ending) (w' : World) : Prop :=
  ∃ v qs' ks gs, e = .returned v ∧ GOwn w' w.heap.size v gs ∧ Tb w' B lt mb qs' ∧ TGo w w' mb qs qs' ∧ (ks : List (List UInt8)).Perm (qs.map fun q => kb q.1) ∧ ks.Pairwise (fun a b => ¬ b < a) ∧ FInv qs qs' p (ks.map ofB) gs
set_option maxHeartbeats 20000000 in
theorem free_any {w : World} {B lt mb : Nat} {qs : List (S × Qv)} (h : Tb w B lt mb qs) (p : Int × Int) {N : Nat} (hN : N ≤ 1000) (hb : Bnd qs N) (hl : qs.length ≤ 100) (hok : ∀ q ∈ qs, OkS q.1) :
    Calls Try.prog 14 #[.pointer (some ⟨lt, 0, none⟩), .agg #[.int .u64 p.1, .int .i64 p.2]] w (FreeR w B lt mb qs p) := by
  have H := Lib.hid h
  have HBN := Lib.hid hb
  have HOK := Lib.hid hok
  clear h hb hok
  go_enter Try.func14, Try.ntmps14
  go_upto_region 4 with fail
  obtain ⟨gt, hgt⟩ : ∃ g, g = w.heap.size := ⟨_, rfl⟩
  obtain ⟨X, hX⟩ : ∃ X, X = w.alloc (.cells #[.int .u64 p.1, .int .i64 p.2] 24) := ⟨_, rfl⟩
  rw [← hX, ← hgt]
  have HXB : Hid (Below w.heap.size w X) := Lib.hid (by rw [hX]; exact (Below.refl _ _).alloc (Nat.le_refl _) _)
  have HXT : Hid (X.heap[gt]? = some (.cells #[.int .u64 p.1, .int .i64 p.2] 24 (0, 0))) := Lib.hid (by rw [hX, hgt]; exact heap_alloc_new w _)
  have HTX := Lib.hid (H.out.below HXB.out)
  have hsX := HXB.out.size
  have HGT : Hid (w.heap.size = gt) := Lib.hid hgt.symm
  clear hX hgt
  have t0 := HTX.out.cell
  go_upto_region 5 with (first
    | (go_at_call 35; refine (keys_any X mb).mono ?_; rintro e W1 ⟨rfl, hW1⟩; rw [hW1]; clear hW1 W1)
    | (go_at_call 34; refine (sorted_any HTX.out.fm (by omega)).mono ?_; rintro e W2 ⟨v2, ks, rfl, hp2, hs2, hr2, hb2, hk2⟩; obtain ⟨A2, c2, e2⟩ : ∃ A c, v2 = .slice A ks.length c := (by obtain ⟨_, A, c, e, _⟩ := hr2; exact ⟨A, c, e⟩); subst e2; have HP2 := Lib.hid hp2; have HS2 := Lib.hid hs2; have HR2 := Lib.hid hr2; have HB2 := Lib.hid hb2; have HK2 := Lib.hid hk2; clear hp2 hs2 hr2 hb2 hk2))
  have HTW := Lib.hid (HTX.out.below HB2.out)
  have HBW : Hid (Below w.heap.size w W2) := Lib.hid (HXB.out.trans (HB2.out.mono hsX))
  have hsW := HB2.out.size
  have HFT : Hid (∀ g, TFeet mb qs g → g < w.heap.size) := Lib.hid (fun g hg => (H.out.feet hg).2)
  have HWT := Lib.hid (blk_below HXT.out HB2.out)
  have HND : Hid (ks.Nodup) := Lib.hid (by
    have h1 : (qs.map fun q => kb q.1).Nodup := by
      have h0 := H.out.fm.keys
      unfold Keys1 at h0
      rw [show (qs.map fun q => kb q.1) = (qs.map (·.1)).map kb by rw [List.map_map]; rfl]
      exact List.pairwise_map.2 (List.Pairwise.imp (fun {a b} hne (e : kb a = kb b) => hne (congrArg ofB e)) h0)
    exact HP2.out.nodup_iff.2 h1)
  have HKL : Hid (ks.length = qs.length) := Lib.hid (by rw [HP2.out.length_eq, List.length_map])
  have HKEY : Hid (∀ b, b ∈ ks → ∃ q, getM qs (ofB b) = some q ∧ OkS (ofB b)) := Lib.hid (fun b hb => by
    obtain ⟨q, hq, e⟩ := List.mem_map.1 (HP2.out.mem_iff.1 hb)
    obtain ⟨i, hi⟩ := List.getElem?_of_mem hq
    have e2 : ofB b = q.1 := by rw [← e]; rfl
    rw [e2]
    exact ⟨q.2, getM_at H.out.fm.keys hi, HOK.out q hq⟩)
  obtain ⟨nk, hnk⟩ : ∃ n, n = ks.length := ⟨_, rfl⟩
  rw [← hnk]
  have HNK := Lib.hid hnk
  have hnk2 : nk ≤ 100 := by rw [hnk, HKL.out]; exact hl
  clear hnk t0
  go_loopw [5, 20] (fun v5 v20 wr => ∃ (j : Nat) (gs : List Gr) (qs' : List (S × Qv)), j ≤ nk ∧ v20 = .int .i64 j ∧ GOwn wr W2.heap.size v5 gs ∧ gs.length ≤ j * 1000 ∧ Tb wr B lt mb qs' ∧ TGo W2 wr mb qs qs' ∧ FInv qs qs' p ((ks.take j).map ofB) gs) (fun _ v20 _ => nk - (intOf v20).toNat)
  case atStart => exact ⟨0, [], qs, Nat.zero_le _, rfl, Own.nil_ _ _ _ _, by simp, HTW.out, TGo.of_below (Below.refl _ _), ⟨fun k hk => (by cases hk), fun k _ => rfl, rfl, id⟩⟩
  case round =>
    obtain ⟨j, gs, qs', hj, rfl, hgo, hgl, htb, htg, hfi⟩ := hrel
    obtain ⟨A5, c5, rfl⟩ := hgo.form
    have HGO := Lib.hid hgo
    have HTB := Lib.hid htb
    have HTG := Lib.hid htg
    have HFI := Lib.hid hfi
    have hsz := htg.fr.size
    obtain ⟨ng, hng⟩ : ∃ n, n = gs.length := ⟨_, rfl⟩
    rw [← hng] at hgl ⊢
    have HNG := Lib.hid hng
    clear hgo htb htg hfi hng
    by_cases hlt : j < nk
    rotate_left
    · obtain rfl : j = nk := by omega
      go_wp2_with fail
      go_ret
      have hfi := HFI.out
      rw [HNK.out, List.take_length] at hfi
      exact ⟨_, qs', ks, gs, rfl, by rw [HNG.out]; exact Own.base_ HGO.out fun g hg => (by have := (Own.lt HGO.out g hg).1; have := HBW.out.size; omega), HTB.out, (TGo.of_below HBW.out).trans HTG.out, HP2.out, HS2.out, hfi⟩
    · obtain ⟨b, hbj⟩ : ∃ b, ks[j]? = some b := ⟨ks[j]'(by rw [← HNK.out]; omega), List.getElem?_eq_getElem _⟩
      have hmem := List.mem_of_getElem? hbj
      obtain ⟨q, hq0, hks⟩ := HKEY.out b hmem
      have hnd : ofB b ∉ (ks.take j).map ofB := fun hx => by
        obtain ⟨b2, hb2, e⟩ := List.mem_map.1 hx
        have e2 : b2 = b := congrArg kb e
        subst e2
        obtain ⟨i, hi⟩ := List.getElem?_of_mem hb2
        rw [List.getElem?_take] at hi
        split at hi
        · rename_i hij
          have := (List.getElem?_inj (by rw [← HNK.out]; omega) HND.out).1 (hi.trans hbj.symm)
          omega
        · cases hi
      have hq : getM qs' (ofB b) = some q := (HFI.out.out _ hnd).trans hq0
      have i0 : (0 : Int) ≤ (j : Int) := by omega
      have i1 : (j : Int) < (nk : Int) := by omega
      obtain ⟨gk, offk, ck, ek, hgk, _, _, hxk⟩ := HR2.out.cells (by rw [← HNK.out]; omega)
      injection ek with ek1 ek2 ek3
      clear ek2
      subst ek1 ek3
      have hgkn : ¬ TFeet mb qs gk := fun hx => by
        have := HFT.out gk hx
        have := HK2.out gk rfl
        omega
      have k0 : wr.cell? ⟨gk, offk + j, none⟩ = some (.string (ofB b)) := HTG.out.fr.cell (p := ⟨gk, offk + j, none⟩) (hxk j _ (by rw [List.getElem?_map, hbj]; rfl)) hgkn
      have hlk := run_lookupP HTB.out hks
      rw [hq] at hlk
      dsimp only [Option.map] at hlk
      have t0 := HTB.out.cell
      have HBJ := Lib.hid hbj
      have HQ0 := Lib.hid hq0
      have HQQ := Lib.hid hq
      have HOKB := Lib.hid hks
      have HNDD := Lib.hid hnd
      obtain ⟨s, hs⟩ : ∃ s, s = ofB b := ⟨_, rfl⟩
      rw [← hs] at k0 hlk HQ0 HQQ HOKB HNDD
      have HSB := Lib.hid hs
      have HQA := Lib.hid (HTB.out.rows s q HQQ.out)
      have HRT : Hid (wr.heap[gt]? = some (.cells #[.int .u64 p.1, .int .i64 p.2] 24 (0, 0))) := Lib.hid (HTG.out.fr.blk HWT.out fun hx => by have := HFT.out gt hx; have := HGT.out; omega)
      obtain ⟨q0, hv, wv, has, waits⟩ := q
      obtain ⟨Ah, ch, ehv, _⟩ := HQA.out.h.slice_
      obtain ⟨Aw, cw, ewv, _⟩ := HQA.out.wt.slice_
      dsimp only at ehv ewv hlk
      subst ehv ewv
      clear hbj hmem hq0 hks hnd hq hxk hgk hgkn hs
      go_upto_region 8 with fail
      clear k0 hlk t0
      obtain ⟨nh, hnh⟩ : ∃ n, n = has.length := ⟨_, rfl⟩
      obtain ⟨nw, hnw⟩ : ∃ n, n = waits.length := ⟨_, rfl⟩
      obtain ⟨ri, hri⟩ : ∃ r, r = firstZ (fun t => sameT t p) has := ⟨_, rfl⟩
      obtain ⟨rj, hrj⟩ : ∃ r, r = firstZ (fun t => sameT t p) waits := ⟨_, rfl⟩
      have HNH := Lib.hid hnh
      have HNW := Lib.hid hnw
      have HRI := Lib.hid hri
      have HRJ := Lib.hid hrj
      have HLE : Hid (has.length + waits.length ≤ N) := Lib.hid (HBN.out.rows HQ0.out)
      have HFH : Hid (∀ V, Below wr.heap.size wr V → Calls Try.prog 24 #[.slice Ah nh ch, .agg #[.int .u64 p.1, .int .i64 p.2]] V fun e w' => e = .returned (.int .i64 ri) ∧ Below wr.heap.size wr w') := Lib.hid (fun V hb => by rw [hri, hnh]; exact find_of HQA.out.h p hb)
      have HFW : Hid (∀ V, Below wr.heap.size wr V → Calls Try.prog 24 #[.slice Aw nw cw, .agg #[.int .u64 p.1, .int .i64 p.2]] V fun e w' => e = .returned (.int .i64 rj) ∧ Below wr.heap.size wr w') := Lib.hid (fun V hb => by rw [hrj, hnw]; exact find_of HQA.out.wt p hb)
      have HS : Hid (∀ V, Below wr.heap.size wr V → (V.cell? ⟨q0, 0, none⟩ = some (.slice Ah nh ch) ∧ V.cell? ⟨q0, 1, none⟩ = some (.slice Aw nw cw)) ∧ V.cell? ⟨gt, 0, none⟩ = some (.int .u64 p.1) ∧ V.cell? ⟨gt, 1, none⟩ = some (.int .i64 p.2)) := Lib.hid (fun V hb => ⟨by rw [hnh, hnw]; exact (HQA.out.below hb).cells, row2c (blk_below HRT.out hb)⟩)
      clear hnh hnw hri hrj
      go_cut [9, 10] from 30 to 41 (fun v9 v10 wx => v9 = .int .i64 ri ∧ v10 = .int .i64 rj ∧ Below wr.heap.size wr wx)
      case first =>
        go_region_held3 (fun V => (V.cell? ⟨q0, 0, none⟩ = some (.slice Ah nh ch) ∧ V.cell? ⟨q0, 1, none⟩ = some (.slice Aw nw cw)) ∧ V.cell? ⟨gt, 0, none⟩ = some (.int .u64 p.1) ∧ V.cell? ⟨gt, 1, none⟩ = some (.int .i64 p.2))
          ((first | (refine HS.out _ ?_; repeat (first | with_reducible exact Below.refl _ _ | exact HBa.out | exact HBb.out | with_reducible refine Below.drew ?_))))
          ((first | (go_at_call 24; with_reducible refine (HFH.out _ ?_).mono ?_; (repeat (first | with_reducible exact Below.refl _ _ | exact HBa.out | exact HBb.out | with_reducible refine Below.drew ?_)); rintro e wa ⟨rfl, hba⟩; have HBa := Lib.hid hba; clear hba) | (go_at_call 24; with_reducible refine (HFW.out _ ?_).mono ?_; (repeat (first | with_reducible exact Below.refl _ _ | exact HBa.out | exact HBb.out | with_reducible refine Below.drew ?_)); rintro e wb ⟨rfl, hbb⟩; have HBb := Lib.hid hbb; clear hbb)))
        all_goals
          rename_i hheld
          clear hheld
          go_wp2_with fail
          go_meet
          case rel => first | exact ⟨rfl, rfl, HBb.out⟩ | exact ⟨rfl, rfl, HBa.out⟩
      case rest =>
        obtain ⟨rfl, rfl, hb3⟩ := hcut
        obtain ⟨w3, e3⟩ : ∃ w3, w3 = wc := ⟨_, rfl⟩
        rw [← e3] at hb3 ⊢
        clear e3 wc
        have HB3 := Lib.hid hb3
        clear hb3 HFH HFW
        have HT3 := Lib.hid (HTB.out.below HB3.out)
        have HG3 : Hid (QGo wr w3 B ⟨q0, .slice Ah has.length ch, .slice Aw waits.length cw, has, waits⟩ ⟨q0, .slice Ah has.length ch, .slice Aw waits.length cw, has, waits⟩) := Lib.hid (QGo.of_below HQA.out HB3.out)
        have HO3 : Hid (GOwn w3 W2.heap.size (.slice A5 ng c5) gs) := Lib.hid (by rw [HNG.out]; exact Own.below HGO.out HB3.out)
        by_cases hbn : ri < 0 ∧ rj < 0
        · obtain ⟨hn1, hn2⟩ := hbn
          have hfr : freeL (lineOf qs s) p = (lineOf qs s, []) := by
            have e : lineOf qs s = (has, waits) := by unfold lineOf; rw [HQ0.out]
            rw [e]
            unfold freeL hasT
            rw [any_first, any_first, ← HRI.out, ← HRJ.out, decide_eq_false (by omega), decide_eq_false (by omega)]
            rfl
          have HFR := Lib.hid hfr
          clear hfr
          go_wp2_with fail
          go_roundw
          case rel => exact ⟨j + 1, gs, qs', by omega, by go_num, HO3.out, by have := HNG.out; omega, HT3.out, HTG.out.trans (TGo.of_below HB3.out), by rw [List.take_add_one, HBJ.out, List.map_append, show (some b).toList.map ofB = [s] by rw [HSB.out]; rfl]; exact HFI.out.skip HNDD.out HFR.out⟩
          case measure => simp [intOf]; omega
        · have HBN2 := Lib.hid hbn
          go_upto_region 9 with fail
          go_cut [47] from 42 to 47 (fun v47 wx => v47 = .bool false ∧ w3 = wx)
          case first =>
            by_cases hn1 : ri < 0
            · have hn2 : 0 ≤ rj := by omega
              clear hbn
              go_wp2_with fail
              go_meet
              case rel => exact ⟨by first | rfl | rw [decide_eq_false (by omega)], rfl⟩
            · have hn2 : 0 ≤ ri := by omega
              clear hbn
              go_wp2_with fail
              go_meet
              case rel => exact ⟨by first | rfl | rw [decide_eq_false (by omega)], rfl⟩
          case rest =>
          obtain ⟨rfl, rfl⟩ := hcut
          clear hbn
          go_upto_if 49 with fail
          go_cut [5] from 50 to 60 (fun v5 wx => v5 = .slice A5 ng c5 ∧ ∃ hv2, QGo w3 wx B ⟨q0, .slice Ah has.length ch, .slice Aw waits.length cw, has, waits⟩ ⟨q0, hv2, .slice Aw waits.length cw, delT has p, waits⟩)
          case first =>
            by_cases hpi : 0 ≤ ri
            · have hri := HRI.out
              obtain ⟨i, hf1, hf2, hil⟩ := firstZ_pos (by rw [← hri]; exact hpi)
              have hri2 := hri.trans hf2
              have HF1 := Lib.hid hf1
              have HDEL := Lib.hid (SlW.delete (HG3.out.at_.h) (wc_one _) i hil)
              obtain ⟨s0, s1⟩ := HG3.out.at_.cells
              have ew : IntKind.i64.wrap ((i : Int) + 1) = (i : Int) + 1 := by
                have := HLE.out
                rw [IntKind.wrap_i64]; omega
              subst hri2
              clear hri hf1 hf2
              dsimp only at s0 s1
              go_wp2_with (go_at_call 37; refine HDEL.out.mono ?_; rintro e w9 ⟨v9, rfl, ho9, he9, hf9⟩; obtain ⟨A9, c9, rfl, _⟩ := ho9.slice_; have hrow9 := hf9.blk HG3.out.at_.row HG3.out.at_.qb_h; obtain ⟨y0, y1⟩ := row2c hrow9; have y2 : w9.frozen? ⟨q0, 0, none⟩ = false := (by unfold World.frozen?; rw [hrow9]; rfl); have HO9 := Lib.hid ho9; have HE9 := Lib.hid he9; have HF9 := Lib.hid hf9; clear ho9 he9 hf9 hrow9)
              go_meet
              case rel =>
                have ho := HO9.out
                rw [del_cells] at ho
                have hz := HG3.out.at_.turn_h ho (by rw [List.length_append, List.length_take, List.length_drop]; omega) (fun g hg => .inl (HE9.out.symm.trans hg)) HF9.out
                rw [← delT_some HF1.out] at hz
                exact ⟨rfl, _, hz⟩
            · have hneg : ri < 0 := by omega
              have hd : delT has p = has := delT_none (firstZ_neg (by rw [← HRI.out]; exact hneg))
              have HD := Lib.hid hd
              clear hd
              go_wp2_with fail
              go_meet
              case rel => exact ⟨rfl, .slice Ah has.length ch, by rw [HD.out]; exact QGo.refl HG3.out.at_⟩
          case rest =>
            obtain ⟨rfl, hv2, hg4⟩ := hcut
            obtain ⟨w4, e4⟩ : ∃ w4, w4 = wc := ⟨_, rfl⟩
            rw [← e4] at hg4 ⊢
            clear e4 wc
            have HG4 := Lib.hid hg4
            clear hg4
            go_upto_if 62 with fail
            go_cut [5] from 63 to 73 (fun v5 wx => v5 = .slice A5 ng c5 ∧ ∃ wv2, QGo w4 wx B ⟨q0, hv2, .slice Aw waits.length cw, delT has p, waits⟩ ⟨q0, hv2, wv2, delT has p, delT waits p⟩)
            case first =>
              by_cases hpi : 0 ≤ rj
              · have hri := HRJ.out
                obtain ⟨i, hf1, hf2, hil⟩ := firstZ_pos (by rw [← hri]; exact hpi)
                have hri2 := hri.trans hf2
                have HF1 := Lib.hid hf1
                have HDEL := Lib.hid (SlW.delete (HG4.out.at_.wt) (wc_one _) i hil)
                obtain ⟨s0, s1⟩ := HG4.out.at_.cells
                have ew : IntKind.i64.wrap ((i : Int) + 1) = (i : Int) + 1 := by
                  have := HLE.out
                  rw [IntKind.wrap_i64]; omega
                subst hri2
                clear hri hf1 hf2
                dsimp only at s0 s1
                go_wp2_with (go_at_call 37; refine HDEL.out.mono ?_; rintro e w9 ⟨v9, rfl, ho9, he9, hf9⟩; obtain ⟨A9, c9, rfl, _⟩ := ho9.slice_; have hrow9 := hf9.blk HG4.out.at_.row HG4.out.at_.qb_w; obtain ⟨y0, y1⟩ := row2c hrow9; have y2 : w9.frozen? ⟨q0, 1, none⟩ = false := (by unfold World.frozen?; rw [hrow9]; rfl); have HO9 := Lib.hid ho9; have HE9 := Lib.hid he9; have HF9 := Lib.hid hf9; clear ho9 he9 hf9 hrow9)
                go_meet
                case rel =>
                  have ho := HO9.out
                  rw [del_cells] at ho
                  have hz := HG4.out.at_.turn_w ho (by rw [List.length_append, List.length_take, List.length_drop]; omega) (fun g hg => .inl (HE9.out.symm.trans hg)) HF9.out
                  rw [← delT_some HF1.out] at hz
                  exact ⟨rfl, _, hz⟩
              · have hneg : rj < 0 := by omega
                have hd : delT waits p = waits := delT_none (firstZ_neg (by rw [← HRJ.out]; exact hneg))
                have HD := Lib.hid hd
                clear hd
                go_wp2_with fail
                go_meet
                case rel => exact ⟨rfl, .slice Aw waits.length cw, by rw [HD.out]; exact QGo.refl HG4.out.at_⟩
            case rest =>
              obtain ⟨rfl, wv2, hg5⟩ := hcut
              obtain ⟨w5, e5⟩ : ∃ w5, w5 = wc := ⟨_, rfl⟩
              rw [← e5] at hg5 ⊢
              clear e5 wc
              have HG5 := Lib.hid hg5
              clear hg5
              obtain ⟨r, hr⟩ : ∃ r, r = nextL (delT has p) (delT waits p) := ⟨_, rfl⟩
              have HR := Lib.hid hr
              have hlen2 : (delT has p).length + (delT waits p).length ≤ N := by
                have h1 := delT_len has p
                have h2 := delT_len waits p
                have := HLE.out
                omega
              have hrl : r.1.1.length + r.1.2.length ≤ N ∧ r.2.length ≤ N := by
                have := nextL_len (delT waits p) (delT has p)
                rw [← hr] at this
                omega
              have HG3w : Hid (QGo w3 w5 B ⟨q0, .slice Ah has.length ch, .slice Aw waits.length cw, has, waits⟩ ⟨q0, hv2, wv2, delT has p, delT waits p⟩) := Lib.hid (HG4.out.trans HG5.out)
              obtain ⟨r11, hr11⟩ : ∃ l, l = r.1.1 := ⟨_, rfl⟩
              obtain ⟨r12, hr12⟩ : ∃ l, l = r.1.2 := ⟨_, rfl⟩
              obtain ⟨r2, hr2⟩ : ∃ l, l = r.2 := ⟨_, rfl⟩
              rw [← hr11, ← hr12, ← hr2] at hrl
              have HO5 : Hid (GOwn w5 W2.heap.size (.slice A5 ng c5) gs) := Lib.hid (Own.fr HO3.out HG3w.out.fr fun g hg e => gown_feet HG3.out.at_ HO3.out hg e)
              have HR11 := Lib.hid hr11
              have HR12 := Lib.hid hr12
              have HR2' := Lib.hid hr2
              have hfe : freeL (lineOf qs s) p = r := by
                have e : lineOf qs s = (has, waits) := by unfold lineOf; rw [HQ0.out]
                rw [e]
                unfold freeL hasT
                rw [any_first, any_first, ← HRI.out, ← HRJ.out, if_pos, hr]
                rcases Classical.em (0 ≤ ri) with h9 | h9
                · rw [decide_eq_true h9]; rfl
                · rw [decide_eq_true (show 0 ≤ rj from Classical.byContradiction fun h8 => HBN2.out ⟨by omega, by omega⟩)]; simp
              have HFE := Lib.hid hfe
              have HNX : Hid (Calls Try.prog 38 #[.pointer (some ⟨q0, 0, none⟩), .string s] w5 fun e w6 => ∃ A6 c6 hv6 wv6, e = .returned (.slice A6 r2.length c6) ∧ GOwn w6 w5.heap.size (.slice A6 r2.length c6) (grs s r2) ∧ QGo w5 w6 B ⟨q0, hv2, wv2, delT has p, delT waits p⟩ ⟨q0, hv6, wv6, r11, r12⟩) := Lib.hid (by
                refine (next_any HG5.out.at_ s (by dsimp only; omega)).mono ?_
                rintro e w6 ⟨v6, he, hg6, hv6, wv6, hq6⟩
                dsimp only at hg6 hq6
                rw [← hr] at hg6 hq6
                rw [← hr2] at hg6
                rw [← hr11, ← hr12] at hq6
                obtain ⟨A6, c6, e6⟩ := hg6.form
                rw [grs_len] at e6
                subst e6
                exact ⟨A6, c6, hv6, wv6, he, hg6, hq6⟩)
              clear hr hr11 hr12 hr2 hfe
              have hs5 : W2.heap.size ≤ w5.heap.size := by
                have := HB3.out.size
                have := HG3w.out.fr.size
                omega
              go_upto_region 15 with (first
                | (go_at_call 38; refine HNX.out.mono ?_; rintro e w6 ⟨A6, c6, hv6, wv6, rfl, hg6, hq6⟩; have HQ6 := Lib.hid hq6; have HO6 : Hid (GOwn w6 W2.heap.size (.slice A5 ng c5) gs) := Lib.hid (Own.fr HO5.out hq6.fr fun g hg e => gown_feet HG5.out.at_ HO5.out hg e); have HAP := Lib.hid (app_gr HO6.out (Nat.le_trans hs5 hq6.fr.size) (ns := grs s r2) (m := r2.length) (c := c6) (by rw [grs_len]) (by have h9 := Own.rd hg6; rw [grs_len] at h9; exact h9) (by have := HNG.out; omega) 32); clear hg6 hq6)
                | (at_builtin; refine wpL_append rfl _ _ 32 32 rfl rfl rfl HAP.out ?_; rintro v7 w7 ⟨ho7, hf7⟩; obtain ⟨A7, c7, e7⟩ := GOwn.form ho7; obtain ⟨n7, hn7⟩ : ∃ n, n = (gs ++ grs s r2).length := ⟨_, rfl⟩; rw [← hn7] at e7; subst e7; have HN7' := Lib.hid hn7; clear hn7; have HO7 := Lib.hid ho7; have HF7 := Lib.hid hf7; clear ho7 hf7))
              have HT6 := Lib.hid (HT3.out.turn HQQ.out (HG3w.out.trans HQ6.out))
              have HT7 := Lib.hid (HT6.out.gr HO6.out HF7.out)
              have HTG7 := Lib.hid (((HTG.out.trans (TGo.of_below HB3.out)).trans (TGo.of_q HT3.out HQQ.out (HG3w.out.trans HQ6.out))).then_fr HF7.out (fun g hg => (Own.lt HO6.out g hg).1))
              have hgs : getM (setM qs' s ⟨q0, hv6, wv6, r11, r12⟩) s = some ⟨q0, hv6, wv6, r11, r12⟩ := by rw [getM_set, if_pos rfl]
              have HGS := Lib.hid hgs
              have hQ7 := HT7.out.rows s _ hgs
              obtain ⟨z0, z1⟩ := hQ7.cells
              obtain ⟨Ah6, ch6, eh6, _⟩ := hQ7.h.slice_
              obtain ⟨Aw6, cw6, ew6, _⟩ := hQ7.wt.slice_
              dsimp only at z0 z1 eh6 ew6
              rw [eh6] at z0
              rw [ew6] at z1
              have t7 := HT7.out.cell
              have HDN : Hid ((ks.take (j + 1)).map ofB = (ks.take j).map ofB ++ [s]) := Lib.hid (by rw [List.take_add_one, HBJ.out, List.map_append, show (some b).toList.map ofB = [s] by rw [HSB.out]; rfl])
              obtain ⟨n11, hn11⟩ : ∃ n, n = r11.length := ⟨_, rfl⟩
              obtain ⟨n12, hn12⟩ : ∃ n, n = r12.length := ⟨_, rfl⟩
              rw [← hn11] at z0
              rw [← hn12] at z1
              have HN11 := Lib.hid hn11
              have HN12 := Lib.hid hn12
              have HN7 : Hid (n7 ≤ (j + 1) * 1000) := Lib.hid (by rw [HN7'.out, List.length_append, grs_len]; have := HNG.out; omega)
              obtain ⟨w8, hdel, hm8, ht8⟩ := run_deleteQ (ty := 0) HT7.out.fm HOKB.out
              have HM8 := Lib.hid hm8
              have HTT8 := Lib.hid ht8
              clear hgs hQ7 eh6 ew6 hn11 hn12 hm8 ht8
              have HR1e : Hid (r.1 = (r11, r12)) := Lib.hid (by rw [HR11.out, HR12.out])
              by_cases hz : n11 = 0 ∧ n12 = 0
              · obtain ⟨hz1, hz2⟩ := hz
                subst hz1 hz2
                go_wp2_with fail
                go_roundw
                case rel =>
                  have e11 : r11 = [] := List.eq_nil_of_length_eq_zero HN11.out.symm
                  have e12 : r12 = [] := List.eq_nil_of_length_eq_zero HN12.out.symm
                  refine ⟨j + 1, gs ++ grs s r2, _, by omega, by go_num, ?_, by rw [← HN7'.out]; exact HN7.out, HT7.out.less HTT8.out HM8.out, HTG7.out.trans (TGo.less HTT8.out.fr), ?_⟩
                  · have h9 : GOwn w8 W2.heap.size (.slice A7 n7 c7) (gs ++ grs s r2) := Own.fr HO7.out HTT8.out.fr fun g hg e => gown_mb HO7.out HT7.out.fm hg e
                    exact h9
                  · rw [HDN.out, HR2'.out, ← HFE.out]
                    refine HFI.out.did HNDD.out ?_ (fun k hk => ?_) (fun q hq => ?_)
                    · rw [HFE.out, HR1e.out, e11, e12]
                      unfold lineOf
                      rw [getM_del, if_pos rfl]
                    · rw [getM_del, if_neg (fun e => hk e.symm), getM_set, if_neg (fun e => hk e.symm)]
                    · rw [getM_del, if_pos rfl] at hq
                      cases hq
                case measure => simp [intOf]; omega
              · have HZ := Lib.hid hz
                by_cases hz1 : n11 = 0
                · subst hz1
                  have hz2 : ((n12 : Int) == 0) = false := beq_eq_false_iff_ne.2 (by omega)
                  have hz3 : ¬ n12 = 0 := by omega
                  clear hz
                  go_wp2_with fail
                  go_roundw
                  case rel =>
                    refine ⟨j + 1, gs ++ grs s r2, _, by omega, by go_num, ?_, by rw [← HN7'.out]; exact HN7.out, HT7.out, HTG7.out, ?_⟩
                    · have h9 := HO7.out
                      exact h9
                    · rw [HDN.out, HR2'.out, ← HFE.out]
                      refine HFI.out.did HNDD.out ?_ (fun k hk => ?_) (fun q hq => ?_)
                      · rw [HFE.out, HR1e.out]
                        unfold lineOf
                        rw [HGS.out]
                      · rw [getM_set, if_neg (fun e => hk e.symm)]
                      · rw [HGS.out] at hq
                        injection hq with hq
                        subst hq
                        dsimp only
                        have h11 := HN11.out
                        have h12 := HN12.out
                        have hz9 := HZ.out
                        rcases Classical.em (r11 = []) with e1 | e1
                        · refine .inr fun e2 => hz9 ⟨h11.trans (congrArg List.length e1), h12.trans (congrArg List.length e2)⟩
                        · exact .inl e1
                  case measure => simp [intOf]; omega
                · have hz2 : ((n11 : Int) == 0) = false := beq_eq_false_iff_ne.2 (by omega)
                  clear hz
                  go_wp2_with fail
                  go_roundw
                  case rel =>
                    refine ⟨j + 1, gs ++ grs s r2, _, by omega, by go_num, ?_, by rw [← HN7'.out]; exact HN7.out, HT7.out, HTG7.out, ?_⟩
                    · have h9 := HO7.out
                      exact h9
                    · rw [HDN.out, HR2'.out, ← HFE.out]
                      refine HFI.out.did HNDD.out ?_ (fun k hk => ?_) (fun q hq => ?_)
                      · rw [HFE.out, HR1e.out]
                        unfold lineOf
                        rw [HGS.out]
                      · rw [getM_set, if_neg (fun e => hk e.symm)]
                      · rw [HGS.out] at hq
                        injection hq with hq
                        subst hq
                        dsimp only
                        have h11 := HN11.out
                        have h12 := HN12.out
                        have hz9 := HZ.out
                        rcases Classical.em (r11 = []) with e1 | e1
                        · refine .inr fun e2 => hz9 ⟨h11.trans (congrArg List.length e1), h12.trans (congrArg List.length e2)⟩
                        · exact .inl e1
                  case measure => simp [intOf]; omega
#print axioms free_any
end Go.Proofs.Ytcceankldiafpaa.Lock
