/- The law's lines and the table's are the same: askW is askL, freeW is freeL, of lines as they come. -/
import Derived.Test.YtcceankldiafpaaLockRf
import Derived.Test.YtcceankldiafpaaLockW
set_option linter.unusedVariables false
set_option linter.unusedSimpArgs false
set_option linter.unusedSectionVars false
namespace Go.Proofs.Ytcceankldiafpaa.Lock
open Go.RowKit Go.WideShapes Go.Deep Go.Proofs.Ytcceankldiafpaa.Mem Go.Proofs.Ytcceankldiafpaa.Open Go.Proofs.Ytcceankldiafpaa.Maps
structure LkOk (l : Line) : Prop where
  ok : LineOk l
  hm : ∀ u ∈ l.1, u.md = 1 ∨ u.md = 2
  wm : ∀ u ∈ l.2, u.md = 1 ∨ u.md = 2
  le : ∀ t ∈ l.2, ∀ u ∈ l.1, u.tid = t.tid → u.md ≤ t.md
  right : RightL l
theorem LkOk.nil : LkOk ([], []) := ⟨LineOk.nil, (fun u h => by cases h), (fun u h => by cases h), (fun u h => by cases h), RightL.nil⟩
theorem wt_ext {u t : Wt} (h : u.tid = t.tid) (m : Int) (hm : m = t.md) : (⟨u.num, u.nd, m⟩ : Wt) = t := by
  unfold Wt.tid at h
  injection h with h1 h2
  cases t
  simp_all
theorem give_same {has : List Wt} {t : Wt} (h : ∀ u ∈ has, u.tid = t.tid → u.md ≤ t.md) : giveW has t = giveL has t := by
  cases hf : has.findIdx? (fun u => sameT u t.tid) with
  | some i =>
    obtain ⟨u, hu, he⟩ := find_some hf
    rw [giveW_old hf, giveL_old hf hu]
    have hle := h u (List.mem_of_getElem? hu) he
    congr 1
    split
    · exact (wt_ext he _ rfl).symm
    · exact (wt_ext he _ (by omega)).symm
  | none => rw [giveW_new hf, giveL_new hf rfl]
theorem give_mds {has : List Wt} {t : Wt} (h : ∀ u ∈ has, u.md = 1 ∨ u.md = 2) (ht : t.md = 1 ∨ t.md = 2) : ∀ v ∈ giveL has t, v.md = 1 ∨ v.md = 2 := fun v hv => by
  cases hf : has.findIdx? (fun u => sameT u t.tid) with
  | some i =>
    obtain ⟨u, hu, he⟩ := find_some hf
    rw [giveL_old hf hu] at hv
    rcases List.mem_or_eq_of_mem_set hv with h9 | h9
    · exact h v h9
    · have := h u (List.mem_of_getElem? hu)
      rw [h9]
      dsimp only
      split
      · exact ht
      · exact this
  | none =>
    rw [giveL_new hf rfl] at hv
    rcases List.mem_append.1 hv with h9 | h9
    · exact h v (List.mem_of_mem_take h9)
    · rcases List.mem_cons.1 h9 with h9 | h9
      · rw [h9]; exact ht
      · exact h v (List.mem_of_mem_drop h9)
/-- give keeps 'le' of those who wait, if t is none of them, or has what it is given. -/
theorem give_le {has ws : List Wt} {t : Wt} (h1 : (tids has).Nodup) (h : ∀ w ∈ ws, ∀ u ∈ has, u.tid = w.tid → u.md ≤ w.md) (hn : t.tid ∉ tids ws) : ∀ w ∈ ws, ∀ u ∈ giveL has t, u.tid = w.tid → u.md ≤ w.md := fun w hw u hu he => by
  obtain ⟨rest, t', hp, ht', hr, _, _⟩ := give_perm t h1
  rcases List.mem_cons.1 (hp.mem_iff.1 hu) with e | e
  · subst e
    exact absurd (List.mem_map.2 ⟨w, hw, by rw [← he, ht']⟩) hn
  · exact h w hw u (hr u e).2 he
theorem next_same : ∀ (ws has : List Wt), (tids has).Nodup → (tids ws).Nodup → (∀ t ∈ ws, ∀ u ∈ has, u.tid = t.tid → u.md ≤ t.md) → nextW has ws = nextL has ws
  | [], has, _, _, _ => by unfold nextW nextL; rfl
  | t :: ws, has, h1, h2, h3 => by
    have hc := List.nodup_cons.1 (show (t.tid :: tids ws).Nodup from h2)
    have hg : giveW has t = giveL has t := give_same (fun u hu he => h3 t (List.mem_cons_self ..) u hu he)
    unfold nextW nextL
    rw [hg]
    split
    · rw [next_same ws (giveL has t) (give_nodup t h1) hc.2 (give_le h1 (fun w hw => h3 w (List.mem_cons_of_mem _ hw)) hc.1)]
    · rfl
theorem next_mds : ∀ (ws has : List Wt), (tids has).Nodup → (tids ws).Nodup → (∀ u ∈ has, u.md = 1 ∨ u.md = 2) → (∀ u ∈ ws, u.md = 1 ∨ u.md = 2) → (∀ t ∈ ws, ∀ u ∈ has, u.tid = t.tid → u.md ≤ t.md) →
    (∀ u ∈ (nextL has ws).1.1, u.md = 1 ∨ u.md = 2) ∧ (∀ u ∈ (nextL has ws).1.2, u.md = 1 ∨ u.md = 2) ∧ (∀ t ∈ (nextL has ws).1.2, ∀ u ∈ (nextL has ws).1.1, u.tid = t.tid → u.md ≤ t.md)
  | [], has, _, _, h, k, l => by unfold nextL; exact ⟨h, k, l⟩
  | t :: ws, has, h1, h2, h, k, l => by
    have hc := List.nodup_cons.1 (show (t.tid :: tids ws).Nodup from h2)
    unfold nextL
    split
    · exact next_mds ws (giveL has t) (give_nodup t h1) hc.2 (give_mds h (k t (List.mem_cons_self ..))) (fun u hu => k u (List.mem_cons_of_mem _ hu)) (give_le h1 (fun w hw => l w (List.mem_cons_of_mem _ hw)) hc.1)
    · exact ⟨h, k, l⟩
theorem hasW_same {has : List Wt} {p : Int × Int} {m : Int} (h : ∀ u ∈ has, u.md = 1 ∨ u.md = 2) (hm : m = 1 ∨ m = 2) : hasW has p m = hasAs has p m := by
  unfold hasW hasAs
  cases hf : has.findIdx? (fun t => sameT t p) with
  | none => rfl
  | some i =>
    obtain ⟨u, hu, he⟩ := find_some hf
    have := h u (List.mem_of_getElem? hu)
    simp only [List.getD_eq_getElem?_getD, hu, Option.getD_some]
    rw [decide_eq_decide]
    omega
theorem hasAs_le {has : List Wt} {p : Int × Int} {m : Int} (h1 : (tids has).Nodup) (h : hasAs has p m = false) : ∀ u ∈ has, u.tid = p → u.md ≤ m := fun u hu he => by
  obtain ⟨i, hi⟩ := List.getElem?_of_mem hu
  have hf : has.findIdx? (fun t => sameT t p) = some i := by
    refine first_at hi ((same_iff _ _).2 he) fun j v hj hv => ?_
    cases e : sameT v p with
    | false => rfl
    | true =>
      have e2 := (same_iff _ _).1 e
      have a1 : (tids has)[j]? = some p := by unfold tids; rw [List.getElem?_map, hv]; exact congrArg some e2
      have a2 : (tids has)[i]? = some p := by unfold tids; rw [List.getElem?_map, hi]; exact congrArg some he
      have b2 : i < (tids has).length := (List.getElem?_eq_some_iff.1 a2).1
      have := (List.getElem?_inj b2 h1).1 (a2.trans a1.symm)
      omega
  unfold hasAs at h
  rw [hf] at h
  simp only [List.getD_eq_getElem?_getD, hi, Option.getD_some, decide_eq_false_iff_not] at h
  omega
theorem ask_same {l : Line} (h : LkOk l) (p : Int × Int) {m : Int} (hm : m = 1 ∨ m = 2) : askW l p m = askL l p m := by
  unfold askW askL
  rw [hasW_same h.hm hm, if_neg (show ¬ ¬ (m = 1 ∨ m = 2) from fun e => e hm)]
  split
  · rfl
  rename_i hh
  have hle := hasAs_le (p := p) (m := m) h.ok.has1 (by simpa using hh)
  rw [give_same (t := ⟨p.1, p.2, m⟩) (fun u hu he => hle u hu he)]
theorem ask_lk {l : Line} (h : LkOk l) (p : Int × Int) (m : Int) (hm : m = 1 ∨ m = 2) : LkOk (askL l p m).1 := by
  refine ⟨(ask_ok h.ok p m).1, ?_, ?_, ?_, ask_right h.ok h.right p m⟩ <;>
  · unfold askL
    rw [if_neg (fun e => e hm)]
    split
    · first | exact h.hm | exact h.wm | exact h.le
    rename_i hh
    split
    · first | exact h.hm | exact h.wm | exact h.le
    rename_i hw
    split
    · first | exact h.hm | exact h.wm | exact h.le
    split
    · first
        | exact give_mds h.hm hm
        | exact h.wm
        | exact give_le h.ok.has1 h.le (fun e => hw ((hasT_iff _ _).2 e))
    split
    · first | exact h.hm | exact h.wm | exact h.le
    · have hin : ∀ w : Wt, w ∈ l.2.take (placeL l p) ++ ⟨p.1, p.2, m⟩ :: l.2.drop (placeL l p) → w = ⟨p.1, p.2, m⟩ ∨ w ∈ l.2 := fun w hw => by
        rcases List.mem_append.1 hw with e | e
        · exact .inr (List.mem_of_mem_take e)
        · rcases List.mem_cons.1 e with e | e
          · exact .inl e
          · exact .inr (List.mem_of_mem_drop e)
      first
        | exact h.hm
        | exact fun u hu => (hin u hu).elim (fun e => by rw [e]; exact hm) (h.wm u)
        | exact fun w hw u hu he => (hin w hw).elim (fun e => by rw [e] at he ⊢; exact hasAs_le (p := p) h.ok.has1 (by simpa using hh) u hu he) (fun e => h.le w e u hu he)
theorem free_same {l : Line} (h : LkOk l) (p : Int × Int) (hp : hasT l.1 p = true ∨ hasT l.2 p = true) : freeW l p = freeL l p := by
  unfold freeW freeL
  rw [if_pos (by rcases hp with e | e <;> simp [e])]
  exact next_same _ _ (del_mem h.ok.has1).1 (del_mem h.ok.waits1).1 (fun t ht u hu => h.le t ((del_sub _ _).subset ht) u ((del_sub _ _).subset hu))
theorem free_lk {l : Line} (h : LkOk l) (p : Int × Int) : LkOk (freeL l p).1 := by
  have hm : (∀ u ∈ (freeL l p).1.1, u.md = 1 ∨ u.md = 2) ∧ (∀ u ∈ (freeL l p).1.2, u.md = 1 ∨ u.md = 2) ∧ (∀ t ∈ (freeL l p).1.2, ∀ u ∈ (freeL l p).1.1, u.tid = t.tid → u.md ≤ t.md) := by
    unfold freeL
    split
    · exact next_mds _ _ (del_mem h.ok.has1).1 (del_mem h.ok.waits1).1 (fun u hu => h.hm u ((del_sub _ _).subset hu)) (fun u hu => h.wm u ((del_sub _ _).subset hu)) (fun t ht u hu => h.le t ((del_sub _ _).subset ht) u ((del_sub _ _).subset hu))
    · exact ⟨h.hm, h.wm, h.le⟩
  exact ⟨(free_ok h.ok p).1, hm.1, hm.2.1, hm.2.2, free_right h.ok h.right p⟩
theorem free_skip {l : Line} {p : Int × Int} (h1 : hasT l.1 p = false) (h2 : hasT l.2 p = false) : freeL l p = (l, []) := by
  unfold freeL
  rw [if_neg (by rw [h1, h2]; simp)]
#print axioms ask_same
#print axioms ask_lk
#print axioms free_same
#print axioms free_lk
end Go.Proofs.Ytcceankldiafpaa.Lock
