/- A page that is split: each key stands on the side on which it is sought: the plain words. -/
import Derived.Test.YtfhpgmgmofganaaNodeT
set_option linter.unusedVariables false
set_option linter.unusedSimpArgs false
set_option linter.unusedSectionVars false
namespace Go.Proofs.Ytfhpgmgmofganaa.NodeA
open Go.RowKit Go.Proofs.Ytfhpgmgmofganaa.Kv
theorem kp_take (ks : List S) (i : Nat) : kp (ks.take i) = (kp ks).take i := by simp [kp, List.map_take]
theorem kp_drop (ks : List S) (i : Nat) : kp (ks.drop i) = (kp ks).drop i := by simp [kp, List.map_drop]
theorem rise_take {ks : List S} (h : Rise (kp ks)) (i : Nat) : Rise (kp (ks.take i)) := by rw [kp_take]; exact List.Pairwise.sublist (List.take_sublist _ _) h
theorem rise_drop {ks : List S} (h : Rise (kp ks)) (i : Nat) : Rise (kp (ks.drop i)) := by rw [kp_drop]; exact List.Pairwise.sublist (List.drop_sublist _ _) h
theorem rise_at {ks : List S} (h : Rise (kp ks)) {i j : Nat} {a b : S} (hi : ks[i]? = some a) (hj : ks[j]? = some b) (hij : i < j) : lt a b = true := by
  have h3 := List.pairwise_iff_getElem.1 h i j (List.getElem?_eq_some_iff.1 (kp_at hi)).1 (List.getElem?_eq_some_iff.1 (kp_at hj)).1 hij
  have e1 := (List.getElem?_eq_some_iff.1 (kp_at hi)).2
  have e2 := (List.getElem?_eq_some_iff.1 (kp_at hj)).2
  rw [e1, e2] at h3
  exact h3
theorem here_iff (ks : List S) (k : S) : here (kp ks) k = true ↔ k ∈ ks := by
  simp only [here, kp, List.any_map, List.any_eq_true, Function.comp, decide_eq_true_eq]
  constructor
  · rintro ⟨x, hx, rfl⟩; exact hx
  · intro h; exact ⟨k, h, rfl⟩
theorem take_lt {ks : List S} (h : Rise (kp ks)) {i : Nat} {b x : S} (hb : ks[i]? = some b) (hx : x ∈ ks.take i) : lt x b = true := by
  obtain ⟨j, hj⟩ := List.getElem?_of_mem hx
  rw [List.getElem?_take] at hj
  split at hj
  · exact rise_at h hj hb (by assumption)
  · cases hj
theorem drop_ge {ks : List S} (h : Rise (kp ks)) {i : Nat} {b x : S} (hb : ks[i]? = some b) (hx : x ∈ ks.drop i) : lt x b = false := by
  obtain ⟨j, hj⟩ := List.getElem?_of_mem hx
  rw [List.getElem?_drop] at hj
  rcases Nat.eq_zero_or_pos j with rfl | h0
  · rw [Nat.add_zero, hb] at hj
    injection hj with hj
    rw [hj]; exact lt_irrefl _
  · exact lt_asymm (rise_at h hb hj (by omega))
theorem here_left {ks : List S} (h : Rise (kp ks)) {i : Nat} {b k : S} (hb : ks[i]? = some b) (hk : lt k b = true) : here (kp (ks.take i)) k = here (kp ks) k := by
  rw [Bool.eq_iff_iff, here_iff, here_iff]
  refine ⟨List.mem_of_mem_take, fun hm => ?_⟩
  have h2 : k ∈ ks.take i ++ ks.drop i := by rw [List.take_append_drop]; exact hm
  rcases List.mem_append.1 h2 with h3 | h3
  · exact h3
  · rw [drop_ge h hb h3] at hk; cases hk
theorem here_right {ks : List S} (h : Rise (kp ks)) {i : Nat} {b k : S} (hb : ks[i]? = some b) (hk : lt k b = false) : here (kp (ks.drop i)) k = here (kp ks) k := by
  rw [Bool.eq_iff_iff, here_iff, here_iff]
  refine ⟨List.mem_of_mem_drop, fun hm => ?_⟩
  have h2 : k ∈ ks.take i ++ ks.drop i := by rw [List.take_append_drop]; exact hm
  rcases List.mem_append.1 h2 with h3 | h3
  · rw [take_lt h hb h3] at hk; cases hk
  · exact h3
/-- How many keys are k or less, counted. -/
theorem upTo_count : ∀ {ks : List S}, Rise (kp ks) → ∀ k : S, upTo ks k = ks.countP fun x => !lt k x
  | [], _, k => by simp [upTo, kp, here, pos]
  | q :: ks, h, k => by
    have hc := List.pairwise_cons.1 h
    have ih := upTo_count (ks := ks) hc.2 k
    have e : kp (q :: ks) = (q, (⟨#[]⟩ : S)) :: kp ks := rfl
    rw [List.countP_cons, ← ih]
    by_cases hq : lt q k = true
    · have h1 : lt k q = false := lt_asymm hq
      have h2 : ¬ q = k := lt_ne hq
      unfold upTo
      rw [e, pos_cons, here_cons, if_pos hq]
      simp only [decide_eq_false h2, Bool.false_or, h1]
      split <;> simp <;> omega
    · have hq' : lt q k = false := by simpa using hq
      have hz := pos_zero h (k := k) hq'
      have hz1 : pos (kp (q :: ks)) k = 0 := hz.1
      have hz2 : pos (kp ks) k = 0 := hz.2
      by_cases he : q = k
      · have hf : here (kp ks) k = false := by
          cases hh : here (kp ks) k with
          | false => rfl
          | true =>
            have hm := (here_iff ks k).1 hh
            have := hc.1 (k, ⟨#[]⟩) (List.mem_map.2 ⟨k, hm, rfl⟩)
            have h9 : lt q k = true := this
            rw [hq'] at h9; cases h9
        have ht : here (kp (q :: ks)) k = true := (here_iff _ k).2 (by rw [he]; exact List.mem_cons_self ..)
        have h1 : lt k q = false := by rw [he]; exact lt_irrefl _
        unfold upTo
        rw [ht, hf, hz1, hz2, h1]
        simp
      · have h1 : lt k q = true := by
          rcases lt_total he with h2 | h2
          · exact absurd h2 hq
          · exact h2
        have hn : ∀ x ∈ q :: ks, ¬ x = k := fun x hx ex => by
          rcases List.mem_cons.1 hx with rfl | hx
          · exact he ex
          · have := hc.1 (x, ⟨#[]⟩) (List.mem_map.2 ⟨x, hx, rfl⟩)
            have h9 : lt q x = true := this
            rw [ex] at h9
            rw [hq'] at h9; cases h9
        have hf : here (kp ks) k = false := by
          cases hh : here (kp ks) k with
          | false => rfl
          | true => exact absurd rfl (hn k (List.mem_cons_of_mem _ ((here_iff ks k).1 hh)))
        have ht : here (kp (q :: ks)) k = false := by
          cases hh : here (kp (q :: ks)) k with
          | false => rfl
          | true => exact absurd rfl (hn k ((here_iff _ k).1 hh))
        unfold upTo
        rw [ht, hf, hz1, hz2, h1]
        simp
theorem upTo_left {ks : List S} (h : Rise (kp ks)) {i : Nat} {b k : S} (hb : ks[i]? = some b) (hk : lt k b = true) : upTo (ks.take i) k = upTo ks k := by
  rw [upTo_count (rise_take h i), upTo_count h]
  conv => rhs; rw [← List.take_append_drop i ks, List.countP_append]
  have : (ks.drop i).countP (fun x => !lt k x) = 0 := by
    rw [List.countP_eq_zero]
    intro x hx
    have h1 := drop_ge h hb hx
    have h2 : lt k x = true := by
      cases h3 : lt k x with
      | true => rfl
      | false =>
        exfalso
        by_cases e2 : x = k
        · rw [e2, hk] at h1; cases h1
        · rcases lt_total e2 with h8 | h8
          · have := lt_trans h8 hk
            rw [this] at h1; cases h1
          · rw [h3] at h8; cases h8
    simp [h2]
  omega
theorem upTo_right {ks : List S} (h : Rise (kp ks)) {i : Nat} {b k : S} (hb : ks[i]? = some b) (hk : lt k b = false) : upTo ks k = i + 1 + upTo (ks.drop (i + 1)) k := by
  have hil := (List.getElem?_eq_some_iff.1 hb).1
  rw [upTo_count (rise_drop h (i + 1)), upTo_count h]
  conv => lhs; rw [← List.take_append_drop (i + 1) ks, List.countP_append]
  have : (ks.take (i + 1)).countP (fun x => !lt k x) = i + 1 := by
    have hlen : (ks.take (i + 1)).length = i + 1 := by simp; omega
    conv => rhs; rw [← hlen]
    rw [List.countP_eq_length]
    intro x hx
    have h2 : lt k x = false := by
      rw [List.take_add_one, hb] at hx
      rcases List.mem_append.1 hx with hx | hx
      · have h3 := take_lt h hb hx
        cases h4 : lt k x with
        | false => rfl
        | true =>
          have := lt_trans h4 h3
          rw [this] at hk; cases hk
      · obtain rfl : x = b := by simpa using hx
        exact hk
    simp [h2]
  omega
/-- A leaf whose values hang on its keys. -/
theorem valS_vk (ks kids) (k : S) (hr : Rise (kp ks)) : valS ⟨1, ks, ks.map vk, kids⟩ k = if here (kp ks) k = true then vk k else ⟨#[]⟩ := by
  unfold valS
  simp only [true_and]
  split
  · rename_i hh
    obtain ⟨p, hp, hk⟩ := (here_at hr k).1 hh
    have hl := here_pos_lt hr hh
    rw [kp_len] at hl
    obtain ⟨q, hq⟩ : ∃ q, ks[pos (kp ks) k]? = some q := ⟨ks[pos (kp ks) k], List.getElem?_eq_getElem _⟩
    rw [kp_at hq] at hp
    injection hp with hp
    rw [← hp] at hk
    have hk' : q = k := hk
    rw [List.getD_eq_getElem?_getD, List.getElem?_map, hq, hk']
    rfl
  · rfl
#print axioms upTo_right
end Go.Proofs.Ytfhpgmgmofganaa.NodeA
