/- Leaves laid in whatever order, and emptied: the plain words; Put and Drop of such leaves. -/
import Derived.Test.YtfhpgmgmofganaaNodeY
import Derived.Test.YtfhpgmgmofganaaNodeU
set_option linter.unusedVariables false
set_option linter.unusedSimpArgs false
set_option linter.unusedSectionVars false
namespace Go.Proofs.Ytfhpgmgmofganaa.NodeA
open Go.RowKit Go.WideShapes Go.Deep Go.Proofs.Ytfhpgmgmofganaa.Mem Go.Proofs.Ytfhpgmgmofganaa.Open Go.Proofs.Ytfhpgmgmofganaa.Kv
def rot (ks : List S) (t i : Nat) : List S := (List.range i).map fun x => ks.getD ((x + t) % ks.length) ⟨#[]⟩
theorem rot_snoc (ks : List S) (t i : Nat) : rot ks t (i + 1) = rot ks t i ++ [ks.getD ((i + t) % ks.length) ⟨#[]⟩] := by simp [rot, List.range_succ]
theorem rot_all (ks : List S) (t : Nat) (k : S) : k ∈ ks ↔ k ∈ rot ks t ks.length := by
  simp only [rot, List.mem_map, List.mem_range]
  constructor
  · intro h
    obtain ⟨j, hj, rfl⟩ := List.mem_iff_getElem.1 h
    have hn : 0 < ks.length := by omega
    have ht := Nat.mod_lt t hn
    refine ⟨(j + (ks.length - t % ks.length)) % ks.length, Nat.mod_lt _ hn, ?_⟩
    have e : ((j + (ks.length - t % ks.length)) % ks.length + t) % ks.length = j := by
      rw [Nat.mod_add_mod]
      have h2 := Nat.div_add_mod t ks.length
      rw [show j + (ks.length - t % ks.length) + t = j + ks.length * (t / ks.length + 1) by rw [Nat.mul_add]; omega, Nat.add_mul_mod_self_left, Nat.mod_eq_of_lt hj]
    rw [e, List.getD_eq_getElem?_getD, List.getElem?_eq_getElem hj]; rfl
  · rintro ⟨i, hi, rfl⟩
    have hn : 0 < ks.length := by omega
    have hm := Nat.mod_lt (i + t) hn
    rw [List.getD_eq_getElem?_getD, List.getElem?_eq_getElem hm]
    exact List.getElem_mem hm

def leafOf (ks : List S) : Pg := ⟨1, ks, ks.map vk, []⟩
def delK (ks : List S) (k : S) : List S := if here (kp ks) k = true then ks.take (pos (kp ks) k) ++ ks.drop (pos (kp ks) k + 1) else ks
theorem kp_del (ks : List S) (k : S) : kp (delK ks k) = withoutL (kp ks) k := by
  unfold delK withoutL
  split
  · simp [kp, List.map_take, List.map_drop]
  · rfl
theorem insK_rise {ks : List S} (h : Rise (kp ks)) (k : S) : Rise (kp (insK ks k)) := by rw [kp_ins h]; exact rise_with h _ _
theorem delK_rise {ks : List S} (h : Rise (kp ks)) (k : S) : Rise (kp (delK ks k)) := by rw [kp_del]; exact rise_without h _
theorem insK_mem (ks : List S) (k x : S) : x ∈ insK ks k ↔ x = k ∨ x ∈ ks := by
  unfold insK
  split
  · rename_i hh
    have hk := (here_iff ks k).1 hh
    constructor
    · exact .inr
    · rintro (rfl | h)
      · exact hk
      · exact h
  · constructor
    · intro h
      rcases List.mem_append.1 h with h | h
      · exact .inr (List.mem_of_mem_take h)
      · rcases List.mem_cons.1 h with h | h
        · exact .inl h
        · exact .inr (List.mem_of_mem_drop h)
    · rintro (rfl | h)
      · simp
      · rw [← List.take_append_drop (pos (kp ks) k) ks] at h
        rcases List.mem_append.1 h with h | h
        · exact List.mem_append_left _ h
        · exact List.mem_append_right _ (List.mem_cons_of_mem _ h)
theorem delK_mem {ks : List S} (h : Rise (kp ks)) (k x : S) : x ∈ delK ks k ↔ x ∈ ks ∧ x ≠ k := by
  rw [← here_iff, ← getL_isSome, kp_del, getL_without h]
  by_cases e : k = x
  · rw [if_pos e]
    simp [e]
  · rw [if_neg e, getL_isSome, here_iff]
    exact ⟨fun h => ⟨h, fun e' => e e'.symm⟩, fun h => h.1⟩
theorem rise_mem_ext {a b : List S} (ha : Rise (kp a)) (hb : Rise (kp b)) (h : ∀ x, x ∈ a ↔ x ∈ b) : a = b := by
  have h1 : kp a = kp b := by
    refine rise_ext ha hb fun k => ?_
    have hg : ∀ l : List S, getL (kp l) k = if here (kp l) k = true then some ⟨#[]⟩ else none := fun l => by
      split
      · rename_i hh
        have h9 : (getL (kp l) k).isSome = true := by rw [getL_isSome]; exact hh
        cases hq : getL (kp l) k with
        | none => rw [hq] at h9; cases h9
        | some v =>
          simp only [getL, Option.map_eq_some_iff] at hq
          obtain ⟨p, hp, rfl⟩ := hq
          have hm := List.mem_of_find?_eq_some hp
          simp only [kp, List.mem_map] at hm
          obtain ⟨y, _, rfl⟩ := hm
          rfl
      · rename_i hh
        exact getL_none (by simpa using hh)
    rw [hg a, hg b]
    have : here (kp a) k = here (kp b) k := by rw [Bool.eq_iff_iff, here_iff, here_iff]; exact h k
    rw [this]
  have h2 : (kp a).map (·.1) = (kp b).map (·.1) := by rw [h1]
  simpa [kp, Function.comp_def] using h2
theorem leafK_mem_iff (l : List S) : ∀ x, x ∈ leafK l ↔ x ∈ l := by
  have h : ∀ n (l : List S), l.length = n → ∀ x, x ∈ leafK l ↔ x ∈ l := by
    intro n
    induction n with
    | zero => intro l hl x; obtain rfl := List.eq_nil_of_length_eq_zero hl; exact Iff.rfl
    | succ n ih =>
      intro l hl x
      obtain ⟨l', q, rfl⟩ : ∃ l' q, l = l' ++ [q] := ⟨l.dropLast, l.getLast (by intro e; simp [e] at hl), (List.dropLast_concat_getLast _).symm⟩
      rw [leafK_snoc, insK_mem, ih l' (by simpa using hl)]
      simp [or_comm]
  exact h _ l rfl
theorem leafK_rot (keys : List S) (t : Nat) : leafK (rot keys t keys.length) = leafK keys := by
  refine rise_mem_ext (leafK_rise _ _ rfl).1 (leafK_rise _ _ rfl).1 fun x => ?_
  rw [leafK_mem_iff, leafK_mem_iff]
  exact (rot_all keys t x).symm
/-- Keys taken out one by one. -/
def delsK (ks l : List S) : List S := l.foldl delK ks
theorem delsK_snoc (ks l : List S) (k : S) : delsK ks (l ++ [k]) = delK (delsK ks l) k := by simp [delsK]
theorem delK_len (ks : List S) (k : S) : (delK ks k).length ≤ ks.length := by
  unfold delK
  split
  · simp; omega
  · exact Nat.le_refl _
theorem delsK_facts {ks : List S} (h : Rise (kp ks)) : ∀ n (l : List S), l.length = n → Rise (kp (delsK ks l)) ∧ (delsK ks l).length ≤ ks.length ∧ ∀ x, x ∈ delsK ks l ↔ x ∈ ks ∧ x ∉ l := by
  intro n
  induction n with
  | zero => intro l hl; obtain rfl := List.eq_nil_of_length_eq_zero hl; exact ⟨h, Nat.le_refl _, fun x => by simp [delsK]⟩
  | succ n ih =>
    intro l hl
    obtain ⟨l', q, rfl⟩ : ∃ l' q, l = l' ++ [q] := ⟨l.dropLast, l.getLast (by intro e; simp [e] at hl), (List.dropLast_concat_getLast _).symm⟩
    obtain ⟨h1, h2, h3⟩ := ih l' (by simpa using hl)
    rw [delsK_snoc]
    refine ⟨delK_rise h1 _, Nat.le_trans (delK_len _ _) h2, fun x => ?_⟩
    rw [delK_mem h1, h3]
    simp [and_assoc, not_or]
theorem delsK_rot (keys : List S) (t : Nat) : delsK (leafK keys) (rot keys t keys.length) = [] := by
  obtain ⟨_, _, h3⟩ := delsK_facts (leafK_rise _ keys rfl).1 _ (rot keys t keys.length) rfl
  refine List.eq_nil_iff_forall_not_mem.2 fun x hx => ?_
  obtain ⟨h4, h5⟩ := (h3 x).1 hx
  exact h5 ((rot_all keys t x).1 ((leafK_mem_iff keys x).1 h4))
theorem set_vk {ks : List S} (h : Rise (kp ks)) {k : S} (hh : here (kp ks) k = true) : (ks.map vk).set (pos (kp ks) k) (vk k) = ks.map vk := by
  obtain ⟨p, hp, hk⟩ := (here_at h k).1 hh
  have hl := here_pos_lt h hh
  rw [kp_len] at hl
  obtain ⟨q, hq⟩ : ∃ q, ks[pos (kp ks) k]? = some q := ⟨ks[pos (kp ks) k], List.getElem?_eq_getElem _⟩
  rw [kp_at hq] at hp
  injection hp with hp
  rw [← hp] at hk
  have hk' : q = k := hk
  apply List.ext_getElem?
  intro i
  rw [List.getElem?_set]
  split
  · rename_i e
    subst e
    rw [List.getElem?_map, hq, hk']
    simp
    omega
  · rfl
theorem put_vk {kv vv nv : Value} {ks : List S} (w : World) (h : PgR w kv vv nv (leafOf ks)) (hr : Rise (kp ks)) (hl : ks.length ≤ 50) (k : S) :
    Calls Try.prog 19 #[pv 1 kv vv nv, .string k, .string (vk k)] w fun e w' => ∃ kv' vv' nv', e = .returned (pv 1 kv' vv' nv') ∧ PgO w' w.heap.size kv' vv' nv' (leafOf (insK ks k)) ∧ Below w.heap.size w w' := by
  cases hh : here (kp ks) k with
  | true =>
    have h9 := put_there w h hr (by simp) hl k (vk k) hh
    rw [set_vk hr hh] at h9
    have e : insK ks k = ks := by unfold insK; rw [if_pos hh]
    rw [e]
    exact h9
  | false =>
    have h9 := put_new w h hr (by simp) hl k (vk k) hh
    have e : insK ks k = ks.take (pos (kp ks) k) ++ k :: ks.drop (pos (kp ks) k) := by unfold insK; rw [if_neg (by rw [hh]; decide)]
    have e2 : (ks.map vk).take (pos (kp ks) k) ++ vk k :: (ks.map vk).drop (pos (kp ks) k) = (insK ks k).map vk := by rw [e]; simp [List.map_take, List.map_drop]
    rw [e2, ← e] at h9
    exact h9
theorem drop_vk {kv vv nv : Value} {ks : List S} (w : World) (h : PgR w kv vv nv (leafOf ks)) (hr : Rise (kp ks)) (hl : ks.length ≤ 50) (k : S) :
    Calls Try.prog 20 #[pv 1 kv vv nv, .string k] w fun e w' => ∃ kv' vv' nv', e = .returned (pv 1 kv' vv' nv') ∧ PgO w' w.heap.size kv' vv' nv' (leafOf (delK ks k)) ∧ Below w.heap.size w w' := by
  cases hh : here (kp ks) k with
  | true =>
    have h9 := drop_there w h hr (by simp) hl k hh
    have e : delK ks k = ks.take (pos (kp ks) k) ++ ks.drop (pos (kp ks) k + 1) := by unfold delK; rw [if_pos hh]
    have e2 : (ks.map vk).take (pos (kp ks) k) ++ (ks.map vk).drop (pos (kp ks) k + 1) = (delK ks k).map vk := by rw [e]; simp [List.map_take, List.map_drop]
    rw [e2, ← e] at h9
    exact h9
  | false =>
    have h9 := drop_not w h hr (by simp) hl k hh
    have e : delK ks k = ks := by unfold delK; rw [if_neg (by rw [hh]; decide)]
    rw [e]
    exact h9
#print axioms drop_vk
end Go.Proofs.Ytfhpgmgmofganaa.NodeA
