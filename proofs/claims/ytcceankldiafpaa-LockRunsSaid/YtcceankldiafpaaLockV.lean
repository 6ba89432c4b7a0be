/- What the law calls 'right' of a line is kept by Ask and Free. -/
import Derived.Test.YtcceankldiafpaaLockT
set_option linter.unusedVariables false
set_option linter.unusedSimpArgs false
set_option linter.unusedSectionVars false
namespace Go.Proofs.Ytcceankldiafpaa.Lock
open Go.RowKit Go.WideShapes Go.Deep Go.Proofs.Ytcceankldiafpaa.Mem Go.Proofs.Ytcceankldiafpaa.Open Go.Proofs.Ytcceankldiafpaa.Maps
theorem against_comm (a b : Int) : against a b = against b a := by
  unfold against
  by_cases h1 : a = 2 <;> by_cases h2 : b = 2 <;> simp [h1, h2]
structure RightL (l : Line) : Prop where
  one : (tids l.1).Nodup
  hh : l.1.Pairwise fun a b => against a.md b.md = false
  wh : ∀ w ∈ l.2, ∀ h ∈ l.1, h.tid ≠ w.tid → against h.md w.md = true → elder w.tid h.tid = true
  ww : l.2.Pairwise fun h w => against h.md w.md = true → elder w.tid h.tid = true
theorem RightL.nil : RightL ([], []) := ⟨List.nodup_nil, List.Pairwise.nil, (fun w hw => nomatch hw), List.Pairwise.nil⟩
/-- give, as lists in any order. -/
theorem give_perm {has : List Wt} (t : Wt) (h : (tids has).Nodup) : ∃ rest t', (giveL has t).Perm (t' :: rest) ∧ t'.tid = t.tid ∧ (∀ u ∈ rest, u.tid ≠ t.tid ∧ u ∈ has) ∧ rest.Sublist has ∧ (t' = t ∨ ∃ u ∈ has, u.tid = t.tid ∧ (t'.md = u.md ∨ t'.md = t.md) ∧ has.Perm (u :: rest)) := by
  cases hf : has.findIdx? (fun u => sameT u t.tid) with
  | some i =>
    obtain ⟨u, hu, he⟩ := find_some hf
    obtain ⟨hi, e⟩ := List.getElem?_eq_some_iff.1 hu
    have hs : has = has.take i ++ u :: has.drop (i + 1) := by rw [← e, List.getElem_cons_drop, List.take_append_drop]
    have hp : has.Perm (u :: (has.take i ++ has.drop (i + 1))) := by
      conv => lhs; rw [hs]
      exact List.perm_middle
    refine ⟨has.take i ++ has.drop (i + 1), ⟨u.num, u.nd, if u.md < t.md then t.md else u.md⟩, ?_, he, fun v hv => ?_, ?_, .inr ⟨u, List.mem_of_getElem? hu, he, ?_, hp⟩⟩
    · rw [giveL_old hf hu, List.set_eq_take_append_cons_drop, if_pos hi]
      exact List.perm_middle
    · have hn : (tids (u :: (has.take i ++ has.drop (i + 1)))).Nodup := ((hp.map Wt.tid).nodup_iff).1 h
      have hc := (List.nodup_cons.1 (show (u.tid :: tids (has.take i ++ has.drop (i + 1))).Nodup from hn)).1
      refine ⟨fun e2 => hc ?_, ?_⟩
      · rw [he, ← e2]; exact List.mem_map.2 ⟨v, hv, rfl⟩
      · exact hp.mem_iff.2 (List.mem_cons_of_mem _ hv)
    · conv => rhs; rw [hs]
      exact List.Sublist.append (List.Sublist.refl _) (List.sublist_cons_self ..)
    · dsimp only
      split
      · exact .inr rfl
      · exact .inl rfl
  | none =>
    refine ⟨has, t, ?_, rfl, fun u hu => ⟨fun e => find_none hf (List.mem_map.2 ⟨u, hu, e⟩), hu⟩, List.Sublist.refl _, .inl rfl⟩
    rw [giveL_new hf rfl]
    refine List.perm_middle.trans ?_
    rw [List.take_append_drop]
theorem give_right {has ws : List Wt} {t : Wt} (h1 : (tids has).Nodup) (h2 : has.Pairwise fun a b => against a.md b.md = false)
    (h3 : ∀ w ∈ ws, ∀ h ∈ has, h.tid ≠ w.tid → against h.md w.md = true → elder w.tid h.tid = true)
    (ht : ∀ h ∈ has, h.tid ≠ t.tid → against h.md t.md = false)
    (hw : ∀ w ∈ ws, w.tid ≠ t.tid → against t.md w.md = true → elder w.tid t.tid = true) :
    (giveL has t).Pairwise (fun a b => against a.md b.md = false) ∧ ∀ w ∈ ws, ∀ h ∈ giveL has t, h.tid ≠ w.tid → against h.md w.md = true → elder w.tid h.tid = true := by
  have hsym : ∀ {a b : Wt}, against a.md b.md = false → against b.md a.md = false := fun {a b} h => by rw [against_comm]; exact h
  obtain ⟨rest, t', hp, he, hr, hsub, hor⟩ := give_perm t h1
  refine ⟨?_, fun w hwm h hh hne hag => ?_⟩
  · refine (List.Perm.pairwise_iff hsym hp).2 (List.pairwise_cons.2 ⟨fun v hv => ?_, h2.sublist hsub⟩)
    obtain ⟨hv1, hv2⟩ := hr v hv
    have hvt := ht v hv2 hv1
    rcases hor with e | ⟨u, hu, hut, e, hpu⟩
    · rw [e, against_comm]; exact hvt
    · rcases e with e | e
      · rw [e]
        exact (List.pairwise_cons.1 ((List.Perm.pairwise_iff hsym hpu).1 h2)).1 v hv
      · rw [e, against_comm]; exact hvt
  · rcases List.mem_cons.1 (hp.mem_iff.1 hh) with e | e
    · subst e
      have hne' : w.tid ≠ t.tid := fun e2 => hne (he.trans e2.symm)
      rw [he]
      rcases hor with e | ⟨u, hu, hut, e, hpu⟩
      · rw [e] at hag; exact hw w hwm hne' hag
      · rcases e with e | e
        · rw [e] at hag
          rw [← hut]
          exact h3 w hwm u hu (fun e3 => hne' (by rw [← hut, e3])) hag
        · rw [e] at hag; exact hw w hwm hne' hag
    · exact h3 w hwm h (hr h e).2 hne hag
theorem del_sub (ws : List Wt) (p : Int × Int) : (delT ws p).Sublist ws := by
  cases hf : ws.findIdx? (fun t => sameT t p) with
  | none => rw [delT_none hf]; exact List.Sublist.refl _
  | some i =>
    rw [delT_some hf]
    conv => rhs; rw [← List.take_append_drop i ws]
    refine List.Sublist.append (List.Sublist.refl _) ?_
    rw [← List.drop_drop]
    exact List.drop_sublist ..
theorem next_right : ∀ (ws has : List Wt), (tids ws).Nodup → RightL (has, ws) → RightL (nextL has ws).1
  | [], has, h0, h => by unfold nextL; exact h
  | t :: ws, has, h0, h => by
    have hc := List.nodup_cons.1 (show (t.tid :: tids ws).Nodup from h0)
    unfold nextL
    split
    · rename_i hf
      have hw := List.pairwise_cons.1 h.ww
      have hfree : ∀ u ∈ has, u.tid ≠ t.tid → against u.md t.md = false := fun u hu hne => by
        cases ha : against u.md t.md with
        | false => rfl
        | true =>
          have : u ∈ free1 has t := by
            unfold free1
            refine List.mem_filter.2 ⟨hu, ?_⟩
            rw [ha, Bool.and_true, Bool.not_eq_true', Bool.eq_false_iff]
            exact fun e => hne ((same_iff _ _).1 e)
          rw [hf] at this
          cases this
      obtain ⟨g1, g2⟩ := give_right (ws := ws) h.one h.hh (fun w hw => h.wh w (List.mem_cons_of_mem _ hw)) hfree (fun w hwm _ hag => hw.1 w hwm hag)
      exact next_right ws (giveL has t) hc.2 ⟨give_nodup t h.one, g1, g2, hw.2⟩
    · exact h
theorem free_right {l : Line} (hk : LineOk l) (h : RightL l) (p : Int × Int) : RightL (freeL l p).1 := by
  unfold freeL
  split
  · refine next_right _ _ (del_mem hk.waits1).1 ⟨(del_mem h.one).1, h.hh.sublist (del_sub _ _), fun w hw u hu => h.wh w ((del_sub _ _).subset hw) u ((del_sub _ _).subset hu), h.ww.sublist (del_sub _ _)⟩
  · exact h
theorem ask_right {l : Line} (hk : LineOk l) (h : RightL l) (p : Int × Int) (m : Int) : RightL (askL l p m).1 := by
  unfold askL
  split
  · exact h
  split
  · exact h
  split
  · exact h
  rename_i hw
  split
  · exact h
  rename_i hy
  obtain ⟨pl, hpl⟩ : ∃ n, n = placeL l p := ⟨_, rfl⟩
  rw [← hpl] at hy ⊢
  have hnw : p ∉ tids l.2 := fun e => hw ((hasT_iff _ _).2 e)
  have hyng : ∀ w ∈ l.2.drop pl, against m w.md = true → elder w.tid p = true := fun w hwm hag => by
    cases he : elder w.tid p with
    | true => rfl
    | false =>
      refine absurd (List.any_eq_true.2 ⟨w, hwm, ?_⟩) hy
      unfold youngB
      rw [he, against_comm, hag]
      rfl
  have hblk : ∀ u, u ∈ l.1 ∨ u ∈ l.2.take pl → u.tid ≠ p → against u.md m = true → u ∈ blocksL l p m := fun u hu hne hag => by
    unfold blocksL blockL qv
    dsimp only
    refine List.mem_filter.2 ⟨?_, ?_⟩
    · rw [← hpl]
      exact List.mem_append.2 hu
    · rw [hag, Bool.and_true, Bool.not_eq_true', Bool.eq_false_iff]
      exact fun e => hne ((same_iff _ _).1 e)
  have htid : ∀ w ∈ l.2, w.tid ≠ p := fun w hwm e => hnw (e ▸ List.mem_map.2 ⟨w, hwm, rfl⟩)
  split
  · rename_i hb
    have hno : ∀ u, u ∈ l.1 ∨ u ∈ l.2.take pl → u.tid ≠ p → against u.md m = false := fun u hu hne => by
      cases ha : against u.md m with
      | false => rfl
      | true =>
        have := hblk u hu hne ha
        rw [hb] at this
        cases this
    obtain ⟨g1, g2⟩ := give_right (t := ⟨p.1, p.2, m⟩) h.one h.hh h.wh (fun u hu hne => hno u (.inl hu) hne) (fun w hwm hne hag => by
      rw [← List.take_append_drop pl l.2] at hwm
      rcases List.mem_append.1 hwm with h1 | h1
      · have := hno w (.inr h1) hne
        rw [against_comm] at this
        rw [this] at hag
        cases hag
      · exact hyng w h1 hag)
    exact ⟨give_nodup _ h.one, g1, g2, h.ww⟩
  rename_i hb
  split
  · exact h
  rename_i hny
  have hel : ∀ u, u ∈ l.1 ∨ u ∈ l.2.take pl → u.tid ≠ p → against u.md m = true → elder p u.tid = true := fun u hu hne hag => by
    cases he : elder p u.tid with
    | true => rfl
    | false =>
      refine absurd (List.any_eq_true.2 ⟨u, hblk u hu hne hag, ?_⟩) hny
      unfold notYoung
      rw [he]
      rfl
  refine ⟨h.one, h.hh, fun w hwm u hu hne hag => ?_, ?_⟩
  · dsimp only at hwm hu
    rcases List.mem_append.1 hwm with h1 | h1
    · exact h.wh w (List.mem_of_mem_take h1) u hu hne hag
    · rcases List.mem_cons.1 h1 with h1 | h1
      · subst h1
        exact hel u (.inl hu) hne hag
      · exact h.wh w (List.mem_of_mem_drop h1) u hu hne hag
  · have hww := h.ww
    rw [← List.take_append_drop pl l.2] at hww
    obtain ⟨w1, w2, w3⟩ := List.pairwise_append.1 hww
    refine List.pairwise_append.2 ⟨w1, List.pairwise_cons.2 ⟨fun w hwm hag => hyng w hwm hag, w2⟩, fun a ha b hb hag => ?_⟩
    rcases List.mem_cons.1 hb with e | e
    · subst e
      exact hel a (.inr ha) (htid a (List.mem_of_mem_take ha)) hag
    · exact w3 a ha b e hag
#print axioms free_right
#print axioms ask_right
end Go.Proofs.Ytcceankldiafpaa.Lock
