/- What Ask and Free keep of a line: nobody twice; the first who waits is kept from it; who is in it. -/
import Derived.Test.YtcceankldiafpaaLockM
set_option linter.unusedVariables false
set_option linter.unusedSimpArgs false
set_option linter.unusedSectionVars false
namespace Go.Proofs.Ytcceankldiafpaa.Lock
open Go.RowKit Go.WideShapes Go.Deep Go.Proofs.Ytcceankldiafpaa.Mem Go.Proofs.Ytcceankldiafpaa.Open Go.Proofs.Ytcceankldiafpaa.Maps
def tids (ws : List Wt) : List (Int × Int) := ws.map Wt.tid
theorem same_iff (t : Wt) (p : Int × Int) : sameT t p = true ↔ t.tid = p := by
  obtain ⟨a, b⟩ := p
  unfold sameT Wt.tid
  rw [decide_eq_true_eq, Prod.mk.injEq]
theorem hasT_iff (ws : List Wt) (p : Int × Int) : hasT ws p = true ↔ p ∈ tids ws := by
  unfold hasT tids
  rw [List.any_eq_true, List.mem_map]
  constructor
  · rintro ⟨t, ht, h⟩; exact ⟨t, ht, (same_iff t p).1 h⟩
  · rintro ⟨t, ht, h⟩; exact ⟨t, ht, (same_iff t p).2 h⟩
theorem find_none {ws : List Wt} {p : Int × Int} (h : ws.findIdx? (fun t => sameT t p) = none) : p ∉ tids ws := fun hm => by
  rw [List.findIdx?_eq_none_iff] at h
  obtain ⟨t, ht, e⟩ := List.mem_map.1 hm
  have := h t ht
  rw [(same_iff t p).2 e] at this
  cases this
theorem find_some {ws : List Wt} {p : Int × Int} {i : Nat} (h : ws.findIdx? (fun t => sameT t p) = some i) : ∃ u, ws[i]? = some u ∧ u.tid = p := by
  obtain ⟨hi, hs, _⟩ := List.findIdx?_eq_some_iff_getElem.1 h
  exact ⟨_, List.getElem?_eq_getElem hi, (same_iff _ _).1 hs⟩
theorem tids_set {ws : List Wt} {i : Nat} {u v : Wt} (hu : ws[i]? = some u) (he : v.tid = u.tid) : tids (ws.set i v) = tids ws := by
  unfold tids
  rw [List.map_set, he]
  apply List.ext_getElem?
  intro j
  rw [List.getElem?_set]
  by_cases e : i = j
  · subst e
    rw [if_pos rfl, List.length_map, if_pos (List.getElem?_eq_some_iff.1 hu).1, List.getElem?_map, hu]
    rfl
  · rw [if_neg e]
/-- give: either one's place is kept, or one is there more. -/
theorem give_tids (has : List Wt) (t : Wt) : (t.tid ∈ tids has ∧ tids (giveL has t) = tids has) ∨ (t.tid ∉ tids has ∧ ∃ a b, has = a ++ b ∧ giveL has t = a ++ t :: b) := by
  cases hf : has.findIdx? (fun u => sameT u t.tid) with
  | some i =>
    obtain ⟨u, hu, he⟩ := find_some hf
    left
    refine ⟨List.mem_map.2 ⟨u, List.mem_of_getElem? hu, he⟩, ?_⟩
    rw [giveL_old hf hu]
    exact tids_set hu rfl
  | none =>
    right
    refine ⟨find_none hf, _, _, (List.take_append_drop (has.findIdx fun u => !elder u.tid t.tid) has).symm, ?_⟩
    rw [giveL_new hf rfl]
theorem give_nodup {has : List Wt} (t : Wt) (h : (tids has).Nodup) : (tids (giveL has t)).Nodup := by
  rcases give_tids has t with ⟨_, e⟩ | ⟨hn, a, b, e1, e2⟩
  · rw [e]; exact h
  · rw [e2]
    rw [e1] at h hn
    unfold tids at h hn ⊢
    rw [List.map_append, List.map_cons]
    rw [List.map_append] at h hn
    exact (List.perm_middle.nodup_iff).2 (List.nodup_cons.2 ⟨hn, h⟩)
theorem give_mem {has : List Wt} {t : Wt} {p : Int × Int} : p ∈ tids (giveL has t) ↔ p = t.tid ∨ p ∈ tids has := by
  rcases give_tids has t with ⟨hm, e⟩ | ⟨hn, a, b, e1, e2⟩
  · rw [e]
    exact ⟨.inr, fun h => h.elim (fun e => e ▸ hm) id⟩
  · rw [e2, e1]
    unfold tids
    rw [List.map_append, List.map_cons, List.map_append, List.mem_append, List.mem_cons, List.mem_append]
    constructor
    · rintro (h | h | h)
      · exact .inr (.inl h)
      · exact .inl h
      · exact .inr (.inr h)
    · rintro (h | h | h)
      · exact .inr (.inl h)
      · exact .inl h
      · exact .inr (.inr h)
theorem del_mem {ws : List Wt} {p : Int × Int} (hn : (tids ws).Nodup) : (tids (delT ws p)).Nodup ∧ p ∉ tids (delT ws p) ∧ ∀ q, q ∈ tids (delT ws p) → q ∈ tids ws := by
  cases hf : ws.findIdx? (fun t => sameT t p) with
  | none =>
    rw [delT_none hf]
    exact ⟨hn, find_none hf, fun q h => h⟩
  | some i =>
    obtain ⟨u, hu, he⟩ := find_some hf
    rw [delT_some hf]
    have hs : ws = ws.take i ++ u :: ws.drop (i + 1) := by
      obtain ⟨hi, e⟩ := List.getElem?_eq_some_iff.1 hu
      rw [← e, List.getElem_cons_drop, List.take_append_drop]
    have hn2 : (tids (u :: (ws.take i ++ ws.drop (i + 1)))).Nodup := by
      rw [hs] at hn
      unfold tids at hn ⊢
      exact ((List.perm_middle.map Wt.tid).nodup_iff).1 (by simpa using hn)
    have hc := List.nodup_cons.1 (show (u.tid :: tids (ws.take i ++ ws.drop (i + 1))).Nodup from hn2)
    refine ⟨hc.2, ?_, fun q hq => ?_⟩
    · rw [← he]; exact hc.1
    · unfold tids at hq ⊢
      rw [List.map_append, List.mem_append] at hq
      obtain hq | hq := hq
      · obtain ⟨t, ht, e⟩ := List.mem_map.1 hq
        exact List.mem_map.2 ⟨t, List.mem_of_mem_take ht, e⟩
      · obtain ⟨t, ht, e⟩ := List.mem_map.1 hq
        exact List.mem_map.2 ⟨t, List.mem_of_mem_drop ht, e⟩
/-- What holds of every line. -/
structure LineOk (l : Line) : Prop where
  has1 : (tids l.1).Nodup
  waits1 : (tids l.2).Nodup
  kept : ∀ t ws, l.2 = t :: ws → free1 l.1 t ≠ []
theorem LineOk.nil : LineOk ([], []) := ⟨List.nodup_nil, List.nodup_nil, fun t ws h => by cases h⟩
theorem next_ok : ∀ (ws has : List Wt), (tids has).Nodup → (tids ws).Nodup → LineOk (nextL has ws).1 ∧ ∀ p, p ∈ tids (nextL has ws).1.1 ∨ p ∈ tids (nextL has ws).1.2 → p ∈ tids has ∨ p ∈ tids ws
  | [], has, h1, h2 => by
    unfold nextL
    exact ⟨⟨h1, h2, fun t ws h => by cases h⟩, fun p h => h⟩
  | t :: ws, has, h1, h2 => by
    have hc := List.nodup_cons.1 (show (t.tid :: tids ws).Nodup from h2)
    unfold nextL
    split
    · obtain ⟨a, b⟩ := next_ok ws (giveL has t) (give_nodup t h1) hc.2
      refine ⟨a, fun p h => ?_⟩
      rcases b p h with h | h
      · rcases give_mem.1 h with h | h
        · exact .inr (by rw [h]; exact List.mem_cons_self ..)
        · exact .inl h
      · exact .inr (List.mem_cons_of_mem _ h)
    · rename_i hne
      refine ⟨⟨h1, h2, fun t' ws' e => ?_⟩, fun p h => h⟩
      dsimp only at e ⊢
      injection e with e1 e2
      subst e1
      exact hne
theorem free_ok {l : Line} (h : LineOk l) (p : Int × Int) : LineOk (freeL l p).1 ∧ (∀ q, q ∈ tids (freeL l p).1.1 ∨ q ∈ tids (freeL l p).1.2 → (q ∈ tids l.1 ∨ q ∈ tids l.2) ∧ q ≠ p) := by
  unfold freeL
  obtain ⟨a1, a2, a3⟩ := del_mem (p := p) h.has1
  obtain ⟨b1, b2, b3⟩ := del_mem (p := p) h.waits1
  split
  · obtain ⟨c, d⟩ := next_ok (delT l.2 p) (delT l.1 p) a1 b1
    refine ⟨c, fun q hq => ?_⟩
    rcases d q hq with h1 | h1
    · exact ⟨.inl (a3 q h1), fun e => a2 (e ▸ h1)⟩
    · exact ⟨.inr (b3 q h1), fun e => b2 (e ▸ h1)⟩
  · rename_i hn
    refine ⟨h, fun q hq => ⟨hq, fun e => ?_⟩⟩
    subst e
    apply hn
    rcases hq with h1 | h1
    · rw [(hasT_iff _ _).2 h1]; rfl
    · rw [(hasT_iff _ _).2 h1]; simp
theorem free1_give {has : List Wt} {x t : Wt} (hm : x.md = 1 ∨ x.md = 2) (h : free1 has t ≠ []) : free1 (giveL has x) t ≠ [] := by
  obtain ⟨u, hu⟩ := List.exists_mem_of_ne_nil _ h
  unfold free1 at hu
  obtain ⟨hmem, hp⟩ := List.mem_filter.1 hu
  have key : ∀ v, v ∈ giveL has x → (!sameT v t.tid && against v.md t.md) = true → free1 (giveL has x) t ≠ [] := fun v hv hp => by
    apply List.ne_nil_of_mem (a := v)
    unfold free1
    exact List.mem_filter.2 ⟨hv, hp⟩
  cases hf : has.findIdx? (fun u => sameT u x.tid) with
  | none =>
    refine key u ?_ hp
    rw [giveL_new hf rfl]
    obtain ⟨j, hj⟩ : ∃ j, j = has.findIdx fun u => !elder u.tid x.tid := ⟨_, rfl⟩
    rw [← hj]
    rw [← List.take_append_drop j has, List.mem_append] at hmem
    rcases hmem with h1 | h1
    · exact List.mem_append_left _ h1
    · exact List.mem_append_right _ (List.mem_cons_of_mem _ h1)
  | some i =>
    obtain ⟨v, hv, he⟩ := find_some hf
    obtain ⟨k, hk⟩ := List.getElem?_of_mem hmem
    by_cases e : k = i
    · subst e
      rw [hk] at hv
      injection hv with hv
      subst hv
      refine key ⟨u.num, u.nd, if u.md < x.md then x.md else u.md⟩ ?_ ?_
      · rw [giveL_old hf hk]
        apply List.mem_of_getElem? (i := k)
        rw [List.getElem?_set, if_pos rfl, if_pos (List.getElem?_eq_some_iff.1 hk).1]
      · rw [Bool.and_eq_true] at hp ⊢
        refine ⟨hp.1, ?_⟩
        have h2 := hp.2
        unfold against at h2 ⊢
        rw [decide_eq_true_eq] at h2 ⊢
        dsimp only
        split <;> omega
    · refine key u ?_ hp
      rw [giveL_old hf hv]
      apply List.mem_of_getElem? (i := k)
      rw [List.getElem?_set, if_neg (fun e2 => e e2.symm)]
      exact hk
theorem ask_ok {l : Line} (h : LineOk l) (p : Int × Int) (m : Int) : LineOk (askL l p m).1 ∧ (∀ q, q ∈ tids (askL l p m).1.1 ∨ q ∈ tids (askL l p m).1.2 → q = p ∨ (q ∈ tids l.1 ∨ q ∈ tids l.2)) := by
  unfold askL
  split
  · exact ⟨h, fun q hq => .inr hq⟩
  rename_i hm
  have hm' : m = 1 ∨ m = 2 := Classical.not_not.1 hm
  split
  · exact ⟨h, fun q hq => .inr hq⟩
  split
  · exact ⟨h, fun q hq => .inr hq⟩
  rename_i hw
  split
  · exact ⟨h, fun q hq => .inr hq⟩
  split
  · refine ⟨⟨give_nodup _ h.has1, h.waits1, fun t ws e => free1_give hm' (h.kept t ws e)⟩, fun q hq => ?_⟩
    dsimp only at hq
    rcases hq with h1 | h1
    · rcases give_mem.1 h1 with h2 | h2
      · exact .inl h2
      · exact .inr (.inl h2)
    · exact .inr (.inr h1)
  rename_i hb
  split
  · exact ⟨h, fun q hq => .inr hq⟩
  · have hn : p ∉ tids l.2 := fun e => hw ((hasT_iff _ _).2 e)
    obtain ⟨pl, hpl⟩ : ∃ n, n = placeL l p := ⟨_, rfl⟩
    rw [← hpl]
    have hspl : l.2 = l.2.take pl ++ l.2.drop pl := (List.take_append_drop _ _).symm
    have htid : tids (l.2.take pl ++ ⟨p.1, p.2, m⟩ :: l.2.drop pl) = tids (l.2.take pl) ++ p :: tids (l.2.drop pl) := by unfold tids; rw [List.map_append, List.map_cons]; rfl
    have htid2 : tids l.2 = tids (l.2.take pl) ++ tids (l.2.drop pl) := by
      conv => lhs; rw [hspl]
      unfold tids
      rw [List.map_append]
    refine ⟨⟨h.has1, ?_, fun t ws e => ?_⟩, fun q hq => ?_⟩
    · dsimp only
      rw [htid]
      refine (List.perm_middle.nodup_iff).2 (List.nodup_cons.2 ?_)
      rw [← htid2]
      exact ⟨hn, h.waits1⟩
    · dsimp only at e ⊢
      cases hc : l.2.take pl with
      | nil =>
        rw [hc, List.nil_append] at e
        injection e with e1 e2
        subst e1
        intro h0
        apply hb
        unfold blocksL blockL qv
        dsimp only
        rw [← hpl, hc, List.append_nil]
        exact h0
      | cons a bs =>
        rw [hc, List.cons_append] at e
        injection e with e1 e2
        subst e1
        rw [hc, List.cons_append] at hspl
        exact h.kept _ _ hspl
    · dsimp only at hq
      rcases hq with h1 | h1
      · exact .inr (.inl h1)
      · rw [htid, List.mem_append, List.mem_cons] at h1
        rcases h1 with h1 | h1 | h1
        · exact .inr (.inr (by rw [htid2, List.mem_append]; exact .inl h1))
        · exact .inl h1
        · exact .inr (.inr (by rw [htid2, List.mem_append]; exact .inr h1))
theorem ask_ne (l : Line) (p : Int × Int) (m : Int) (hm : m = 1 ∨ m = 2) : (askL l p m).1.1 ≠ [] ∨ (askL l p m).1.2 ≠ [] := by
  have hg : ∀ (has : List Wt) (t : Wt), giveL has t ≠ [] := fun has t e => by
    have h1 : t.tid ∈ tids (giveL has t) := give_mem.2 (.inl rfl)
    rw [e] at h1
    cases h1
  unfold askL
  split
  · rename_i h; exact absurd hm h
  split
  · rename_i h
    refine .inl fun e => ?_
    dsimp only at e
    rw [e] at h
    cases h
  split
  · rename_i h
    refine .inr fun e => ?_
    dsimp only at e
    rw [e] at h
    cases h
  split
  · rename_i h
    refine .inr fun e => ?_
    dsimp only at e
    rw [e, List.drop_nil] at h
    cases h
  split
  · exact .inl (hg _ _)
  rename_i hb
  split
  · refine Classical.byContradiction fun hn => hb ?_
    have h1 : l.1 = [] := Classical.byContradiction fun h => hn (.inl h)
    have h2 : l.2 = [] := Classical.byContradiction fun h => hn (.inr h)
    exact blocks_nil p m h1 h2
  · refine .inr fun e => ?_
    dsimp only at e
    simp at e
/-- A line in which nobody is but one: nobody waits. -/
theorem alone {l : Line} (h : LineOk l) {p : Int × Int} (hp : ∀ q, q ∈ tids l.1 ∨ q ∈ tids l.2 → q = p) : l.2 = [] := by
  cases hc : l.2 with
  | nil => rfl
  | cons t ws =>
    refine absurd ?_ (h.kept t ws hc)
    unfold free1
    rw [List.filter_eq_nil_iff]
    intro u hu
    have h1 : u.tid = p := hp _ (.inl (List.mem_map.2 ⟨u, hu, rfl⟩))
    have h2 : t.tid = p := hp _ (.inr (by rw [hc]; exact List.mem_cons_self ..))
    rw [(same_iff u t.tid).2 (h1.trans h2.symm)]
    simp
theorem nobody {l : Line} (hp : ∀ q, ¬ (q ∈ tids l.1 ∨ q ∈ tids l.2)) : l = ([], []) := by
  obtain ⟨a, b⟩ := l
  have h1 : a = [] := by
    cases a with
    | nil => rfl
    | cons t ws => exact absurd (.inl (List.mem_cons_self ..)) (hp t.tid)
  have h2 : b = [] := by
    cases b with
    | nil => rfl
    | cons t ws => exact absurd (.inr (List.mem_cons_self ..)) (hp t.tid)
  rw [h1, h2]
#print axioms alone
#print axioms free_ok
#print axioms ask_ok
end Go.Proofs.Ytcceankldiafpaa.Lock
