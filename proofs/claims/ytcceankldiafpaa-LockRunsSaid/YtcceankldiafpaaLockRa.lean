/- LockReads: what Ask and Free do to a line of readers; Free, with all that is known of it. -/
import Derived.Test.YtcceankldiafpaaLockO
import Derived.Test.YtcceankldiafpaaLockV
set_option linter.unusedVariables false
set_option linter.unusedSimpArgs false
set_option linter.unusedSectionVars false
set_option maxRecDepth 100000
namespace Go.Proofs.Ytcceankldiafpaa.Lock
open Go.RowKit Go.WideShapes Go.Deep Go.Proofs.Ytcceankldiafpaa.Mem Go.Proofs.Ytcceankldiafpaa.Open Go.Proofs.Ytcceankldiafpaa.Maps
structure FreeO (w w' : World) (B lt mb N : Nat) (qs qs' : List (S × Qv)) (p : Int × Int) (ks : List (List UInt8)) (gs : List Gr) : Prop where
  tb : Tb w' B lt mb qs'
  go : TGo w w' mb qs qs'
  bnd : Bnd qs' N
  len : qs'.length ≤ qs.length
  line : ∀ k, lineOf qs' k = (freeL (lineOf qs k) p).1
  perm : (ks.map ofB).Perm (qs.map (·.1))
  sorted : ks.Pairwise (fun a b => ¬ b < a)
  grants : gs = (ks.map ofB).flatMap fun k => grs k (freeL (lineOf qs k) p).2
  ne : NE qs → NE qs'
def FreeF (w : World) (B lt mb N : Nat) (qs : List (S × Qv)) (p : Int × Int) (e : Ending) (w' : World) : Prop := ∃ A c qs' ks gs, e = .returned (.slice A (gs : List Gr).length c) ∧ GOwn w' w.heap.size (.slice A gs.length c) gs ∧ FreeO w w' B lt mb N qs qs' p ks gs
theorem free_full {w : World} {B lt mb N : Nat} {qs : List (S × Qv)} (h : Tb w B lt mb qs) (hbd : Bnd qs N) (hlen : qs.length ≤ 100) (p : Int × Int) (hN : N ≤ 100) :
    Calls Try.prog 14 #[.pointer (some ⟨lt, 0, none⟩), .agg #[.int .u64 p.1, .int .i64 p.2]] w (FreeF w B lt mb N qs p) := by
  have hokk : ∀ q ∈ qs, OkS q.1 := by
    obtain ⟨_, _, _, _, h3, _⟩ := h.fm
    exact h3
  have hnd := h.fm.keys
  refine (free_any h p (N := N) (by omega) hbd hlen hokk).mono ?_
  rintro e w' ⟨v, qs', ks, gs, he, hg, hT, hG, hp, hs, hi⟩
  have hkd : (ks.map ofB).Perm (qs.map (·.1)) := by
    have := hp.map ofB
    rw [List.map_map] at this
    exact this
  obtain ⟨A, c, ev⟩ := hg.form
  subst ev
  have hout : ∀ k', k' ∉ ks.map ofB → lineOf qs' k' = ([], []) ∧ lineOf qs k' = ([], []) := fun k' hn => by
    have h0 : getM qs k' = none := by
      cases hq : getM qs k' with
      | none => rfl
      | some q => exact absurd (hkd.mem_iff.2 (List.mem_map.2 ⟨_, getM_mem hq, rfl⟩)) hn
    unfold lineOf
    rw [hi.out k' hn, h0]
    exact ⟨rfl, rfl⟩
  have hline : ∀ k, lineOf qs' k = (freeL (lineOf qs k) p).1 := fun k' => by
    by_cases e : k' ∈ ks.map ofB
    · exact hi.inn k' e
    · obtain ⟨e1, e2⟩ := hout k' e
      rw [e1, e2, freeL_nil]
  have hbn : Bnd qs' N := fun k' => by
    rw [hline k']
    have h1 := freeL_len (lineOf qs k') p
    have h2 := hbd k'
    omega
  have hln : qs'.length ≤ qs.length := by
    have hnd' := hT.fm.keys
    unfold Keys1 at hnd hnd'
    have hsub : ∀ x, x ∈ qs'.map (·.1) → x ∈ qs.map (·.1) := fun x hx => by
      obtain ⟨q, hq, rfl⟩ := List.mem_map.1 hx
      obtain ⟨i, hi2⟩ := List.getElem?_of_mem hq
      have hq' := getM_at hnd' hi2
      refine Classical.byContradiction fun hn => ?_
      have hn2 : q.1 ∉ ks.map ofB := fun hm => hn (hkd.mem_iff.1 hm)
      rw [hi.out _ hn2] at hq'
      exact hn (List.mem_map.2 ⟨_, getM_mem hq', rfl⟩)
    have := nodup_le hnd' hsub
    simpa using this
  exact ⟨A, c, qs', ks, gs, he, hg, ⟨hT, hG, hbn, hln, hline, hkd, hs, hi.grants, hi.ne⟩⟩
theorem One1.free3 {w : World} {B lt mb : Nat} {k : S} {l l' : Line} {ws : List Wt} {N : Nat} {qs : List (S × Qv)} (h : One1 w B lt mb k l N qs) (p : Int × Int) (hN : N ≤ 100) (hl : l ≠ ([], [])) (hf : freeL l p = (l', ws)) :
    Calls Try.prog 14 #[.pointer (some ⟨lt, 0, none⟩), .agg #[.int .u64 p.1, .int .i64 p.2]] w fun e w' => ∃ A c qs' qs2, e = .returned (.slice A ws.length c) ∧ GOwn w' w.heap.size (.slice A ws.length c) (grs k ws) ∧ One1 w' B lt mb k l' N qs' ∧ TGo w w' mb qs qs2 := by
  refine (free_full h.tb h.bnd (by have := h.len; omega) p hN).mono ?_
  rintro e w' ⟨A, c, qs', ks, gs, he, hg, ho⟩
  have hnd := h.tb.fm.keys
  have hnk : (ks.map ofB).Nodup := ho.perm.nodup_iff.2 hnd
  have hkin : k ∈ ks.map ofB := ho.perm.mem_iff.2 (by
    cases hq : getM qs k with
    | some q => exact List.mem_map.2 ⟨_, getM_mem hq, rfl⟩
    | none =>
      refine absurd ?_ hl
      rw [← h.line]
      unfold lineOf
      rw [hq])
  have hgs : gs = grs k ws := by
    rw [ho.grants, flat_one (k := k) hnk hkin (fun k' hk' => by rw [h.else_ k' hk', freeL_nil]; rfl), h.line, hf]
  subst hgs
  rw [grs_len] at he hg
  exact ⟨A, c, qs', qs', he, hg, ⟨ho.tb, by rw [ho.line, h.line, hf], fun k' hk' => by rw [ho.line, h.else_ k' hk', freeL_nil], ho.bnd, by have := ho.len; have := h.len; omega⟩, ho.go⟩
/-- Readers. -/
structure Rds (R : List Wt) : Prop where
  md : ∀ u ∈ R, u.md = 1
  one : (tids R).Nodup
theorem Rds.nil : Rds [] := ⟨(fun u hu => by cases hu), List.nodup_nil⟩
theorem giveL_md {R : List Wt} {t : Wt} (h : ∀ u ∈ R, u.md = 1) (ht : t.md = 1) : ∀ u ∈ giveL R t, u.md = 1 := fun v hv => by
  cases hf : R.findIdx? (fun u => sameT u t.tid) with
  | some i =>
    obtain ⟨u, hu, he⟩ := find_some hf
    rw [giveL_old hf hu] at hv
    rcases List.mem_or_eq_of_mem_set hv with h9 | h9
    · exact h v h9
    · have := h u (List.mem_of_getElem? hu)
      rw [h9]
      dsimp only
      split
      · exact ht
      · exact this
  | none =>
    rw [giveL_new hf rfl] at hv
    rcases List.mem_append.1 hv with h9 | h9
    · exact h v (List.mem_of_mem_take h9)
    · rcases List.mem_cons.1 h9 with h9 | h9
      · rw [h9]; exact ht
      · exact h v (List.mem_of_mem_drop h9)
theorem hasAs_mem {R : List Wt} {p : Int × Int} {m : Int} (h : hasAs R p m = true) : p ∈ tids R := by
  unfold hasAs at h
  cases hf : R.findIdx? (fun t => sameT t p) with
  | none => rw [hf] at h; cases h
  | some i =>
    obtain ⟨u, hu, he⟩ := find_some hf
    exact List.mem_map.2 ⟨u, List.mem_of_getElem? hu, he⟩
theorem hasAs_not {R : List Wt} {p : Int × Int} {m : Int} (h : p ∉ tids R) : hasAs R p m = false := by
  cases e : hasAs R p m with
  | false => rfl
  | true => exact absurd (hasAs_mem e) h
theorem rd1 {R : List Wt} (h : Rds R) (t : Int × Int) : ∃ R', askL (R, []) t 1 = ((R', []), 1) ∧ Rds R' ∧ ∀ q, q ∈ tids R' ↔ q = t ∨ q ∈ tids R := by
  unfold askL
  rw [if_neg (by omega)]
  split
  · rename_i hh
    have := hasAs_mem hh
    exact ⟨R, rfl, h, fun q => ⟨.inr, fun e => e.elim (fun e => e ▸ this) id⟩⟩
  · rename_i hh
    rw [if_neg (by unfold hasT; simp), if_neg (by simp)]
    have hb : blocksL (R, []) t 1 = [] := by
      unfold blocksL blockL qv
      dsimp only
      rw [List.take_nil, List.append_nil, List.filter_eq_nil_iff]
      intro u hu
      have := h.md u hu
      simp [against, this]
    rw [if_pos hb]
    exact ⟨_, rfl, ⟨giveL_md h.md rfl, give_nodup _ h.one⟩, fun q => give_mem⟩
theorem blocks_w {R : List Wt} {p : Int × Int} (h : p ∉ tids R) : blocksL (R, []) p 2 = R := by
  unfold blocksL blockL qv
  dsimp only
  rw [List.take_nil, List.append_nil, List.filter_eq_self]
  intro u hu
  have : sameT u p = false := by
    cases e : sameT u p with
    | false => rfl
    | true => exact absurd (List.mem_map.2 ⟨u, hu, (same_iff _ _).1 e⟩) h
  simp [against, this]
theorem rd2 (p : Int × Int) : askL ([], []) p 2 = (([wt p 2], []), 1) := by rfl
theorem rd3 {R : List Wt} {p t : Int × Int} (h : p ∉ tids R) (ht : t ∈ tids R) (he : elder p t = false) : askL (R, []) p 2 = ((R, []), 3) := by
  obtain ⟨u, hu, e⟩ := List.mem_map.1 ht
  have hne : R ≠ [] := fun e => by rw [e] at hu; cases hu
  unfold askL
  rw [if_neg (by omega), if_neg (by rw [hasAs_not h]; simp), if_neg (by unfold hasT; simp), if_neg (by simp), blocks_w h, if_neg hne, if_pos (List.any_eq_true.2 ⟨u, hu, by unfold notYoung; rw [e, he]; rfl⟩)]
theorem rd4 {R : List Wt} {p : Int × Int} (h : p ∉ tids R) (hne : R ≠ []) (he : ∀ t ∈ tids R, elder p t = true) : askL (R, []) p 2 = ((R, [wt p 2]), 2) := by
  have hn : ¬ (R.any (notYoung p) = true) := fun e => by
    obtain ⟨u, hu, e⟩ := List.any_eq_true.1 e
    unfold notYoung at e
    rw [he u.tid (List.mem_map.2 ⟨u, hu, rfl⟩)] at e
    cases e
  unfold askL
  rw [if_neg (by omega), if_neg (by rw [hasAs_not h]; simp), if_neg (by unfold hasT; simp), if_neg (by simp), blocks_w h, if_neg hne, if_neg hn, List.take_nil, List.drop_nil, List.nil_append]
theorem rd5 {R : List Wt} {p : Int × Int} (h : p ∉ tids R) (hne : R ≠ []) (he : ∀ t ∈ tids R, elder p t = true) : askL (R, [wt p 2]) p 2 = ((R, [wt p 2]), 2) := by
  have := ask_again (R, []) p 2
  rw [rd4 h hne he] at this
  exact this
theorem free1_w {R : List Wt} {p : Int × Int} (h : p ∉ tids R) : free1 R (wt p 2) = R := by
  unfold free1
  rw [List.filter_eq_self]
  intro u hu
  have : sameT u p = false := by
    cases e : sameT u p with
    | false => rfl
    | true => exact absurd (List.mem_map.2 ⟨u, hu, (same_iff _ _).1 e⟩) h
  have e2 : sameT u (wt p 2).tid = false := this
  rw [e2]
  simp [against]
theorem del_not {R : List Wt} {p : Int × Int} (h : p ∉ tids R) : delT R p = R := by
  cases hf : R.findIdx? (fun t => sameT t p) with
  | none => exact delT_none hf
  | some i =>
    obtain ⟨u, hu, he⟩ := find_some hf
    exact absurd (List.mem_map.2 ⟨u, List.mem_of_getElem? hu, he⟩) h
theorem del_mem2 {R : List Wt} {p : Int × Int} {q : Int × Int} (hq : q ∈ tids R) (hne : q ≠ p) : q ∈ tids (delT R p) := by
  cases hf : R.findIdx? (fun t => sameT t p) with
  | none => rw [delT_none hf]; exact hq
  | some i =>
    obtain ⟨u, hu, he⟩ := find_some hf
    rw [delT_some hf]
    obtain ⟨v, hv, e⟩ := List.mem_map.1 hq
    have hs : R = R.take i ++ u :: R.drop (i + 1) := by
      obtain ⟨hi, e⟩ := List.getElem?_eq_some_iff.1 hu
      rw [← e, List.getElem_cons_drop, List.take_append_drop]
    rw [hs] at hv
    refine List.mem_map.2 ⟨v, ?_, e⟩
    rcases List.mem_append.1 hv with h9 | h9
    · exact List.mem_append_left _ h9
    · rcases List.mem_cons.1 h9 with h9 | h9
      · exact absurd (by rw [← e, h9, he]) hne
      · exact List.mem_append_right _ h9
theorem rd6 {R : List Wt} (h : Rds R) {p t : Int × Int} (hp : p ∉ tids R) (ht : t ∈ tids R) : Rds (delT R t) ∧ (∀ q, q ∈ tids (delT R t) ↔ q ∈ tids R ∧ q ≠ t) ∧ freeL (R, [wt p 2]) t = (if delT R t = [] then (([wt p 2], []), [wt p 2]) else ((delT R t, [wt p 2]), [])) := by
  obtain ⟨d1, d2, d3⟩ := del_mem (p := t) h.one
  have hmem : ∀ q, q ∈ tids (delT R t) ↔ q ∈ tids R ∧ q ≠ t := fun q => ⟨fun hq => ⟨d3 q hq, fun e => d2 (e ▸ hq)⟩, fun hq => del_mem2 hq.1 hq.2⟩
  have hne : t ≠ p := fun e => hp (e ▸ ht)
  have hpd : p ∉ tids (delT R t) := fun e => hp (d3 _ e)
  refine ⟨⟨fun u hu => h.md u ((del_sub R t).subset hu), d1⟩, hmem, ?_⟩
  have hw : delT [wt p 2] t = [wt p 2] := del_not (fun e => by
    have : t = p := by simpa [tids, Wt.tid] using e
    exact hne this)
  unfold freeL
  dsimp only
  rw [if_pos (by rw [(hasT_iff R t).2 ht]; rfl), hw]
  unfold nextL
  rw [free1_w hpd]
  split
  · rename_i e
    rw [e]
    rfl
  · rfl
theorem tids_len {R : List Wt} {os : List (Int × Int)} (h : Rds R) (ho : os.Nodup) (hm : ∀ q, q ∈ tids R ↔ q ∈ os) : R.length = os.length := by
  have h1 := nodup_le h.one fun x hx => (hm x).1 hx
  have h2 := nodup_le ho fun x hx => (hm x).2 hx
  have h3 : (tids R).length = R.length := List.length_map ..
  omega
#print axioms rd6
#print axioms One1.free3
end Go.Proofs.Ytcceankldiafpaa.Lock
