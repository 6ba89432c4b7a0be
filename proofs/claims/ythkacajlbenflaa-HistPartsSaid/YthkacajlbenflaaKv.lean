/- Plain laws: byte strings in order; lists of keys and values that rise: laid, taken away, looked up. No program in sight. -/
import Derived.Lib.Bytealg
set_option linter.unusedVariables false
set_option linter.unusedSimpArgs false
namespace Go.Proofs.Ythkacajlbenflaa.Kv
open Go

theorem u8_lt_irrefl (a : UInt8) : ¬ a < a := by simp [UInt8.lt_iff_toNat_lt]
theorem less_irrefl : ∀ x : List UInt8, Op.bytesLess x x = false
  | [] => rfl
  | a :: x => by simp [Op.bytesLess, less_irrefl x, u8_lt_irrefl]
theorem less_trans : ∀ {x y z : List UInt8}, Op.bytesLess x y = true → Op.bytesLess y z = true → Op.bytesLess x z = true
  | _, [], _, h, _ => by cases ‹List UInt8› <;> simp [Op.bytesLess] at h
  | [], _ :: _, [], _, h => by simp [Op.bytesLess] at h
  | [], _ :: _, _ :: _, _, _ => rfl
  | _ :: _, _ :: _, [], _, h => by simp [Op.bytesLess] at h
  | a :: x, b :: y, c :: z, h, k => by
    simp only [Op.bytesLess, Bool.or_eq_true, Bool.and_eq_true, decide_eq_true_eq, beq_iff_eq] at h k ⊢
    rcases h with h | ⟨rfl, h⟩
    · rcases k with k | ⟨rfl, k⟩
      · left; rw [UInt8.lt_iff_toNat_lt] at *; omega
      · exact .inl h
    · rcases k with k | ⟨rfl, k⟩
      · exact .inl k
      · exact .inr ⟨rfl, less_trans h k⟩
theorem less_total : ∀ {x y : List UInt8}, x ≠ y → Op.bytesLess x y = true ∨ Op.bytesLess y x = true
  | [], [], h => absurd rfl h
  | [], _ :: _, _ => .inl rfl
  | _ :: _, [], _ => .inr rfl
  | a :: x, b :: y, h => by
    simp only [Op.bytesLess, Bool.or_eq_true, Bool.and_eq_true, decide_eq_true_eq, beq_iff_eq]
    by_cases hab : a = b
    · subst hab
      have hxy : x ≠ y := fun e => h (by rw [e])
      rcases less_total hxy with k | k
      · exact .inl (.inr ⟨rfl, k⟩)
      · exact .inr (.inr ⟨rfl, k⟩)
    · have : a.toNat ≠ b.toNat := fun e => hab (UInt8.toNat_inj.1 e)
      rw [UInt8.lt_iff_toNat_lt, UInt8.lt_iff_toNat_lt]
      omega
theorem cmp_neg : ∀ x y : List UInt8, Lib.compareBytes x y < 0 ↔ Op.bytesLess x y = true
  | [], [] => by simp [Lib.compareBytes, Op.bytesLess]
  | [], _ :: _ => by simp [Lib.compareBytes, Op.bytesLess]
  | _ :: _, [] => by simp [Lib.compareBytes, Op.bytesLess]
  | a :: x, b :: y => by
    simp only [Lib.compareBytes, Op.bytesLess, Bool.or_eq_true, Bool.and_eq_true, decide_eq_true_eq, beq_iff_eq]
    by_cases h1 : a < b
    · simp [h1]
    · by_cases h2 : b < a
      · have : a ≠ b := fun e => by subst e; exact h1 h2
        simp [h1, h2, this]
      · have : a = b := by
          rw [UInt8.lt_iff_toNat_lt] at h1 h2
          exact UInt8.toNat_inj.1 (by omega)
        subst this
        simp [h1, cmp_neg x y]
theorem cmp_zero : ∀ x y : List UInt8, Lib.compareBytes x y = 0 ↔ x = y
  | [], [] => by simp [Lib.compareBytes]
  | [], _ :: _ => by simp [Lib.compareBytes]
  | _ :: _, [] => by simp [Lib.compareBytes]
  | a :: x, b :: y => by
    simp only [Lib.compareBytes, List.cons.injEq]
    by_cases h1 : a < b
    · have : a ≠ b := fun e => by subst e; exact u8_lt_irrefl _ h1
      simp [h1, this]
    · by_cases h2 : b < a
      · have : a ≠ b := fun e => by subst e; exact h1 h2
        simp [h1, h2, this]
      · have : a = b := by
          rw [UInt8.lt_iff_toNat_lt] at h1 h2
          exact UInt8.toNat_inj.1 (by omega)
        subst this
        simp [h1, cmp_zero x y]

/-! ### Strings as the program has them -/
abbrev S := ByteArray
def lt (a b : S) : Bool := Op.bytesLess a.data.toList b.data.toList
theorem S_ext {a b : S} (h : a.data.toList = b.data.toList) : a = b := ByteArray.ext (Array.ext' h)
theorem lt_irrefl (a : S) : lt a a = false := less_irrefl _
theorem lt_trans {a b c : S} (h : lt a b = true) (k : lt b c = true) : lt a c = true := less_trans h k
theorem lt_total {a b : S} (h : a ≠ b) : lt a b = true ∨ lt b a = true := less_total (fun e => h (S_ext e))
theorem lt_asymm {a b : S} (h : lt a b = true) : lt b a = false := by
  cases hb : lt b a
  · rfl
  · have := lt_trans h hb; rw [lt_irrefl] at this; cases this
theorem lt_ne {a b : S} (h : lt a b = true) : a ≠ b := fun e => by subst e; rw [lt_irrefl] at h; cases h
theorem not_lt_trans {a b c : S} (h : lt b a = false) (k : lt c b = false) : lt c a = false := by
  cases hc : lt c a
  · rfl
  · by_cases e : a = b
    · subst e; rw [hc] at k; cases k
    · rcases lt_total e with e | e
      · have := lt_trans hc e; rw [k] at this; cases this
      · rw [h] at e; cases e
def cmpZ (a b : S) : Int := Lib.compareBytes a.data.toList b.data.toList
theorem cmpZ_neg (a b : S) : cmpZ a b < 0 ↔ lt a b = true := cmp_neg _ _
theorem cmpZ_zero (a b : S) : cmpZ a b = 0 ↔ a = b := (cmp_zero _ _).trans ⟨S_ext, fun e => by rw [e]⟩

/-! ### Keys that rise -/
abbrev P2 := S × S
/-- The keys rise, each once. -/
def Rise (ps : List P2) : Prop := ps.Pairwise fun p q => lt p.1 q.1 = true
/-- How many keys lie ahead of k. -/
def pos (ps : List P2) (k : S) : Nat := ps.countP fun p => lt p.1 k
def here (ps : List P2) (k : S) : Bool := ps.any fun p => decide (p.1 = k)
theorem pos_le (ps : List P2) (k : S) : pos ps k ≤ ps.length := List.countP_le_length
theorem pos_split : ∀ {ps : List P2}, Rise ps → ∀ (k : S) (i : Nat) (p : P2), ps[i]? = some p → (lt p.1 k = true ↔ i < pos ps k)
  | [], _, _, _, _, h => by simp at h
  | q :: ps, hr, k, i, p, h => by
    obtain ⟨h1, h2⟩ := List.pairwise_cons.1 hr
    by_cases hq : lt q.1 k = true
    · have hp : pos (q :: ps) k = pos ps k + 1 := by simp [pos, List.countP_cons, hq]
      cases i with
      | zero => simp at h; subst h; simp [hq, hp]
      | succ i =>
        have ih := pos_split h2 k i p (by simpa using h)
        rw [ih, hp]; omega
    · have hp : pos (q :: ps) k = 0 := by
        simp only [pos, List.countP_eq_zero]
        intro x hx
        rcases List.mem_cons.1 hx with rfl | hx
        · exact hq
        · intro hk
          exact hq (lt_trans (h1 x hx) hk)
      rw [hp]
      constructor
      · intro hk
        exfalso
        cases i with
        | zero => simp at h; subst h; exact hq hk
        | succ i => exact hq (lt_trans (h1 p (List.mem_of_getElem? (by simpa using h))) hk)
      · omega
/-- The key is there just where it would be laid. -/
theorem here_at {ps : List P2} (hr : Rise ps) (k : S) : here ps k = true ↔ ∃ p, ps[pos ps k]? = some p ∧ p.1 = k := by
  constructor
  · intro h
    simp only [here, List.any_eq_true, decide_eq_true_eq] at h
    obtain ⟨p, hp, rfl⟩ := h
    obtain ⟨i, hi⟩ := List.getElem?_of_mem hp
    have h1 := pos_split hr p.1 i p hi
    rw [lt_irrefl] at h1
    have hge : pos ps p.1 ≤ i := Nat.le_of_not_lt (fun hlt => by have := h1.2 hlt; cases this)
    have hil : i < ps.length := (List.getElem?_eq_some_iff.1 hi).1
    have h2 : ps[pos ps p.1]? = some (ps[pos ps p.1]'(by omega)) := List.getElem?_eq_getElem (by omega)
    refine ⟨_, h2, ?_⟩
    have h3 := pos_split hr p.1 _ _ h2
    have h4 : lt (ps[pos ps p.1]'(by omega)).1 p.1 = false := by
      cases hh : lt (ps[pos ps p.1]'(by omega)).1 p.1
      · rfl
      · have := h3.1 hh; omega
    by_cases e : pos ps p.1 = i
    · have := List.getElem?_eq_some_iff.1 hi
      obtain ⟨hh, he⟩ := this
      simp only [e, he]
    · have hlt : pos ps p.1 < i := by omega
      have := List.pairwise_iff_getElem.1 hr _ _ (by omega) hil hlt
      have he := (List.getElem?_eq_some_iff.1 hi).2
      rw [he, h4] at this
      cases this
  · rintro ⟨p, hp, rfl⟩
    simp only [here, List.any_eq_true, decide_eq_true_eq]
    exact ⟨p, List.mem_of_getElem? hp, rfl⟩
def getL (ps : List P2) (k : S) : Option S := (ps.find? fun p => decide (p.1 = k)).map (·.2)
def withL (ps : List P2) (k v : S) : List P2 := if here ps k then ps.set (pos ps k) (k, v) else ps.take (pos ps k) ++ (k, v) :: ps.drop (pos ps k)
def withoutL (ps : List P2) (k : S) : List P2 := if here ps k then ps.take (pos ps k) ++ ps.drop (pos ps k + 1) else ps
theorem getL_none {ps : List P2} {k : S} (h : here ps k = false) : getL ps k = none := by
  simp only [getL, Option.map_eq_none_iff, List.find?_eq_none]
  intro p hp
  simp only [here, List.any_eq_false] at h
  exact h p hp
theorem getL_isSome (ps : List P2) (k : S) : (getL ps k).isSome = here ps k := by
  cases h : here ps k
  · rw [getL_none h]; rfl
  · simp only [getL, Option.isSome_map, List.find?_isSome]
    simpa [here] using h
theorem rise_find {ps : List P2} (hr : Rise ps) {i : Nat} {p : P2} (h : ps[i]? = some p) : getL ps p.1 = some p.2 := by
  induction ps generalizing i with
  | nil => simp at h
  | cons q ps ih =>
    obtain ⟨h1, h2⟩ := List.pairwise_cons.1 hr
    cases i with
    | zero => simp at h; subst h; simp [getL]
    | succ i =>
      have hm := List.mem_of_getElem? (show ps[i]? = some p by simpa using h)
      have hne : ¬ decide (q.1 = p.1) = true := by simp; exact lt_ne (h1 p hm)
      have := ih h2 (by simpa using h)
      simp only [getL, List.find?_cons, hne] at this ⊢
      exact this
theorem getL_at {ps : List P2} (hr : Rise ps) {k v : S} : getL ps k = some v ↔ ps[pos ps k]? = some (k, v) := by
  constructor
  · intro h
    have hh : here ps k = true := by rw [← getL_isSome, h]; rfl
    obtain ⟨p, hp, rfl⟩ := (here_at hr k).1 hh
    have := rise_find hr hp
    rw [h] at this
    injection this with this
    rw [hp, this]
  · exact fun h => rise_find hr h
/-- Two lists of keys that rise, with the same under each key, are the same. -/
theorem rise_ext : ∀ {ps qs : List P2}, Rise ps → Rise qs → (∀ k, getL ps k = getL qs k) → ps = qs
  | [], [], _, _, _ => rfl
  | [], q :: qs, _, _, h => by have := h q.1; simp [getL] at this
  | p :: ps, [], _, _, h => by have := h p.1; simp [getL] at this
  | p :: ps, q :: qs, hp, hq, h => by
    obtain ⟨p1, p2⟩ := List.pairwise_cons.1 hp
    obtain ⟨q1, q2⟩ := List.pairwise_cons.1 hq
    have key : p.1 = q.1 := by
      by_cases e : p.1 = q.1
      · exact e
      · exfalso
        have hin : ∀ {a b : P2} {as bs : List P2}, Rise (a :: as) → (∀ k, getL (a :: as) k = getL (b :: bs) k) → Rise (b :: bs) → a.1 ≠ b.1 → lt b.1 a.1 = true := by
          intro a b as bs ha hab hb hne
          have h0 := hab a.1
          have h1 : getL (a :: as) a.1 = some a.2 := by simp [getL]
          rw [h1] at h0
          have hh : here (b :: bs) a.1 = true := by rw [← getL_isSome, ← h0]; rfl
          simp only [here, List.any_cons, Bool.or_eq_true, decide_eq_true_eq, List.any_eq_true] at hh
          rcases hh with hh | ⟨x, hx, hxa⟩
          · exact absurd hh.symm hne
          · have := (List.pairwise_cons.1 hb).1 x hx
            rw [hxa] at this
            exact this
        have a1 := hin hp h hq e
        have a2 := hin hq (fun k => (h k).symm) hp (fun x => e x.symm)
        rw [lt_asymm a1] at a2
        cases a2
    have val : p.2 = q.2 := by
      have := h p.1
      have e1 : getL (p :: ps) p.1 = some p.2 := by simp [getL]
      have e2 : getL (q :: qs) p.1 = some q.2 := by simp [getL, key]
      rw [e1, e2] at this
      injection this
    have hpq : p = q := Prod.ext key val
    subst hpq
    congr 1
    refine rise_ext p2 q2 (fun k => ?_)
    have hk := h k
    by_cases e : p.1 = k
    · subst e
      have n1 : here ps p.1 = false := by
        simp only [here, List.any_eq_false, decide_eq_true_eq]
        exact fun x hx e => lt_ne (p1 x hx) e.symm
      have n2 : here qs p.1 = false := by
        simp only [here, List.any_eq_false, decide_eq_true_eq]
        exact fun x hx e => lt_ne (q1 x hx) e.symm
      rw [getL_none n1, getL_none n2]
    · have ne : decide (p.1 = k) = false := by simpa using e
      simpa [getL, List.find?_cons, ne] using hk

/-! ### Laid, taken away -/
def insR (k v : S) : List P2 → List P2
  | [] => [(k, v)]
  | p :: ps => if lt p.1 k then p :: insR k v ps else if p.1 = k then (k, v) :: ps else (k, v) :: p :: ps
def delR (k : S) : List P2 → List P2
  | [] => []
  | p :: ps => if p.1 = k then ps else p :: delR k ps
theorem pos_cons (p : P2) (ps : List P2) (k : S) : pos (p :: ps) k = if lt p.1 k then pos ps k + 1 else pos ps k := by
  simp only [pos, List.countP_cons]; split <;> simp
theorem pos_zero {p : P2} {ps : List P2} (hr : Rise (p :: ps)) {k : S} (h : lt p.1 k = false) : pos (p :: ps) k = 0 ∧ pos ps k = 0 := by
  have h0 := pos_split hr k 0 p rfl
  rw [h] at h0
  have hz : pos (p :: ps) k = 0 := by
    rcases Nat.eq_zero_or_pos (pos (p :: ps) k) with e | e
    · exact e
    · have := h0.2 e; cases this
  rw [pos_cons, h] at hz
  refine ⟨?_, by simpa using hz⟩
  rw [pos_cons, h]; exact hz
theorem here_cons (p : P2) (ps : List P2) (k : S) : here (p :: ps) k = (decide (p.1 = k) || here ps k) := by simp [here]
theorem here_false {p : P2} {ps : List P2} (hr : Rise (p :: ps)) {k : S} (h : p.1 = k ∨ lt k p.1 = true) : here ps k = false := by
  simp only [here, List.any_eq_false, decide_eq_true_eq]
  intro x hx e
  have h1 := (List.pairwise_cons.1 hr).1 x hx
  rw [e] at h1
  rcases h with rfl | h
  · rw [lt_irrefl] at h1; cases h1
  · rw [lt_asymm h1] at h; cases h
theorem with_eq : ∀ {ps : List P2}, Rise ps → ∀ k v : S, withL ps k v = insR k v ps
  | [], _, k, v => by simp [withL, here, pos, insR]
  | p :: ps, hr, k, v => by
    have h2 := (List.pairwise_cons.1 hr).2
    unfold insR
    by_cases h : lt p.1 k = true
    · have hne := lt_ne h
      rw [if_pos h, ← with_eq h2 k v]
      unfold withL
      rw [here_cons, decide_eq_false hne, Bool.false_or, pos_cons, if_pos h]
      split <;> simp
    · have h' : lt p.1 k = false := by simpa using h
      obtain ⟨z1, z2⟩ := pos_zero hr h'
      rw [if_neg h]
      unfold withL
      rw [z1]
      by_cases e : p.1 = k
      · rw [if_pos e, here_cons, decide_eq_true e]; simp
      · have hf := here_false hr (k := k) (.inr ((lt_total e).resolve_left h))
        rw [if_neg e, here_cons, decide_eq_false e, hf]; simp
theorem without_eq : ∀ {ps : List P2}, Rise ps → ∀ k : S, withoutL ps k = delR k ps
  | [], _, k => by simp [withoutL, here, delR]
  | p :: ps, hr, k => by
    have h2 := (List.pairwise_cons.1 hr).2
    unfold delR
    by_cases h : lt p.1 k = true
    · have hne := lt_ne h
      rw [if_neg hne, ← without_eq h2 k]
      unfold withoutL
      rw [here_cons, decide_eq_false hne, Bool.false_or, pos_cons, if_pos h]
      split <;> simp
    · have h' : lt p.1 k = false := by simpa using h
      obtain ⟨z1, z2⟩ := pos_zero hr h'
      unfold withoutL
      rw [z1]
      by_cases e : p.1 = k
      · rw [if_pos e, here_cons, decide_eq_true e]; simp
      · have hf := here_false hr (k := k) (.inr ((lt_total e).resolve_left h))
        rw [if_neg e, here_cons, decide_eq_false e, hf, ← without_eq h2 k]
        unfold withoutL
        rw [hf]; simp
theorem mem_insR {k v : S} : ∀ {ps : List P2} {x : P2}, x ∈ insR k v ps → x = (k, v) ∨ x ∈ ps
  | [], x, h => by simp [insR] at h; exact .inl h
  | p :: ps, x, h => by
    unfold insR at h
    split at h
    · rcases List.mem_cons.1 h with rfl | h
      · exact .inr (List.mem_cons_self ..)
      · rcases mem_insR h with e | e
        · exact .inl e
        · exact .inr (List.mem_cons_of_mem _ e)
    · split at h
      · rcases List.mem_cons.1 h with e | e
        · exact .inl e
        · exact .inr (List.mem_cons_of_mem _ e)
      · rcases List.mem_cons.1 h with e | e
        · exact .inl e
        · exact .inr e
theorem rise_insR : ∀ {ps : List P2}, Rise ps → ∀ k v : S, Rise (insR k v ps)
  | [], _, k, v => by simp [insR, Rise]
  | p :: ps, hr, k, v => by
    obtain ⟨h1, h2⟩ := List.pairwise_cons.1 hr
    unfold insR
    by_cases h : lt p.1 k = true
    · rw [if_pos h]
      refine List.pairwise_cons.2 ⟨fun x hx => ?_, rise_insR h2 k v⟩
      rcases mem_insR hx with rfl | hx
      · exact h
      · exact h1 x hx
    · rw [if_neg h]
      by_cases e : p.1 = k
      · rw [if_pos e]; subst e
        exact List.pairwise_cons.2 ⟨fun x hx => h1 x hx, h2⟩
      · have hk := (lt_total e).resolve_left h
        rw [if_neg e]
        refine List.pairwise_cons.2 ⟨fun x hx => ?_, hr⟩
        rcases List.mem_cons.1 hx with rfl | hx
        · exact hk
        · exact lt_trans hk (h1 x hx)
theorem getL_cons (p : P2) (ps : List P2) (k : S) : getL (p :: ps) k = if p.1 = k then some p.2 else getL ps k := by
  simp only [getL, List.find?_cons]
  by_cases e : p.1 = k
  · simp [e]
  · simp [e]
theorem getL_insR : ∀ {ps : List P2}, Rise ps → ∀ k v k' : S, getL (insR k v ps) k' = if k = k' then some v else getL ps k'
  | [], _, k, v, k' => by simp [insR, getL_cons, getL]
  | p :: ps, hr, k, v, k' => by
    obtain ⟨h1, h2⟩ := List.pairwise_cons.1 hr
    unfold insR
    by_cases h : lt p.1 k = true
    · rw [if_pos h, getL_cons, getL_cons, getL_insR h2 k v k']
      by_cases e : k = k'
      · subst e
        rw [if_neg (lt_ne h), if_pos rfl]
        simp
      · rw [if_neg e, if_neg e]
    · rw [if_neg h]
      by_cases e : p.1 = k
      · rw [if_pos e, getL_cons, getL_cons]
        subst e
        split <;> rfl
      · rw [if_neg e, getL_cons]
theorem mem_delR {k : S} : ∀ {ps : List P2} {x : P2}, x ∈ delR k ps → x ∈ ps
  | [], x, h => by simp [delR] at h
  | p :: ps, x, h => by
    unfold delR at h
    split at h
    · exact List.mem_cons_of_mem _ h
    · rcases List.mem_cons.1 h with rfl | h
      · exact List.mem_cons_self ..
      · exact List.mem_cons_of_mem _ (mem_delR h)
theorem rise_delR : ∀ {ps : List P2}, Rise ps → ∀ k : S, Rise (delR k ps)
  | [], _, k => by simp [delR, Rise]
  | p :: ps, hr, k => by
    obtain ⟨h1, h2⟩ := List.pairwise_cons.1 hr
    unfold delR
    split
    · exact h2
    · exact List.pairwise_cons.2 ⟨fun x hx => h1 x (mem_delR hx), rise_delR h2 k⟩
theorem getL_delR : ∀ {ps : List P2}, Rise ps → ∀ k k' : S, getL (delR k ps) k' = if k = k' then none else getL ps k'
  | [], _, k, k' => by simp [delR, getL]
  | p :: ps, hr, k, k' => by
    obtain ⟨h1, h2⟩ := List.pairwise_cons.1 hr
    unfold delR
    by_cases e : p.1 = k
    · rw [if_pos e, getL_cons]
      subst e
      by_cases e' : p.1 = k'
      · subst e'
        rw [if_pos rfl]
        exact getL_none (here_false hr (.inl rfl))
      · rw [if_neg e', if_neg e']
    · rw [if_neg e, getL_cons, getL_cons, getL_delR h2 k k']
      by_cases e' : k = k'
      · subst e'
        rw [if_neg e, if_pos rfl]
        simp
      · rw [if_neg e', if_neg e']
theorem rise_with {ps : List P2} (h : Rise ps) (k v : S) : Rise (withL ps k v) := by rw [with_eq h]; exact rise_insR h k v
theorem rise_without {ps : List P2} (h : Rise ps) (k : S) : Rise (withoutL ps k) := by rw [without_eq h]; exact rise_delR h k
theorem getL_with {ps : List P2} (h : Rise ps) (k v k' : S) : getL (withL ps k v) k' = if k = k' then some v else getL ps k' := by rw [with_eq h]; exact getL_insR h k v k'
theorem getL_without {ps : List P2} (h : Rise ps) (k k' : S) : getL (withoutL ps k) k' = if k = k' then none else getL ps k' := by rw [without_eq h]; exact getL_delR h k k'
theorem rise_nil : Rise [] := List.Pairwise.nil
theorem here_pos_lt {ps : List P2} (hr : Rise ps) {k : S} (h : here ps k = true) : pos ps k < ps.length := by
  obtain ⟨p, hp, _⟩ := (here_at hr k).1 h
  exact (List.getElem?_eq_some_iff.1 hp).1
theorem length_with {ps : List P2} (hr : Rise ps) (k v : S) : (withL ps k v).length = if here ps k then ps.length else ps.length + 1 := by
  unfold withL
  have := pos_le ps k
  split
  · simp
  · simp; omega
theorem length_without {ps : List P2} (hr : Rise ps) (k : S) : (withoutL ps k).length = if here ps k then ps.length - 1 else ps.length := by
  unfold withoutL
  split
  · have := here_pos_lt hr ‹_›
    simp; omega
  · rfl
end Go.Proofs.Ythkacajlbenflaa.Kv
