/- KeySame's walk: whether two maps have the same. -/
import Derived.Test.YtllmaoimngeofaaKeyTR
set_option linter.unusedVariables false
set_option linter.unusedSimpArgs false
namespace Go.Proofs.Ytllmaoimngeofaa.KeyS
open Go.RowKit Go.WideShapes Go.Deep Go.Proofs.Ytllmaoimngeofaa.Mem Go.Proofs.Ytllmaoimngeofaa.Open Go.Proofs.Ytllmaoimngeofaa.KeyM Go.Proofs.Ytllmaoimngeofaa.KeyN Go.Proofs.Ytllmaoimngeofaa.KeyT Go.Proofs.Ytllmaoimngeofaa.Kv
attribute [local irreducible] withL withoutL

/-! ### The plain law -/
def vx (k : S) : S := k ++ ⟨#[120]⟩
def build (l : List S) : List P2 := l.foldl (fun ps k => withL ps k (vx k)) []
theorem build_snoc (l : List S) (k : S) : build (l ++ [k]) = withL (build l) k (vx k) := by simp [build]
open Classical in
theorem build_facts : ∀ n (l : List S), l.length = n → Rise (build l) ∧ (build l).length ≤ n ∧ ∀ k, getL (build l) k = if k ∈ l then some (vx k) else none
  | 0, l, h => by
    obtain rfl := List.eq_nil_of_length_eq_zero h
    exact ⟨rise_nil, Nat.le_refl _, fun k => by simp [build, getL]⟩
  | n + 1, l, h => by
    obtain ⟨l', k, rfl⟩ : ∃ l' k, l = l' ++ [k] := ⟨l.dropLast, l.getLast (by intro e; simp [e] at h), (List.dropLast_concat_getLast _).symm⟩
    obtain ⟨h1, h2, h3⟩ := build_facts n l' (by simpa using h)
    rw [build_snoc]
    refine ⟨rise_with h1 _ _, Nat.le_trans (len_with h1 k (vx k)) (by omega), fun k' => ?_⟩
    rw [getL_with h1, h3]
    by_cases e : k = k'
    · subst e; simp
    · simp [e, Ne.symm e]
theorem build_rise (l : List S) : Rise (build l) := (build_facts _ l rfl).1
theorem build_len (l : List S) : (build l).length ≤ l.length := (build_facts _ l rfl).2.1
open Classical in
theorem build_get (l : List S) (k : S) : getL (build l) k = if k ∈ l then some (vx k) else none := (build_facts _ l rfl).2.2 k
open Classical in
theorem build_same {l l' : List S} (h : ∀ k, k ∈ l ↔ k ∈ l') : build l = build l' := by
  apply rise_ext (build_rise _) (build_rise _)
  intro k
  rw [build_get, build_get]
  by_cases e : k ∈ l
  · rw [if_pos e, if_pos ((h k).1 e)]
  · rw [if_neg e, if_neg (fun x => e ((h k).2 x))]
/-- The keys from the t-th on, and round. -/
def rot (ks : List S) (t i : Nat) : List S := (List.range i).map fun x => ks.getD ((x + t) % ks.length) ⟨#[]⟩
theorem rot_snoc (ks : List S) (t i : Nat) : rot ks t (i + 1) = rot ks t i ++ [ks.getD ((i + t) % ks.length) ⟨#[]⟩] := by simp [rot, List.range_succ]
theorem rot_all (ks : List S) (t : Nat) (k : S) : k ∈ ks ↔ k ∈ rot ks t ks.length := by
  simp only [rot, List.mem_map, List.mem_range]
  constructor
  · intro h
    obtain ⟨j, hj, rfl⟩ := List.mem_iff_getElem.1 h
    have hn : 0 < ks.length := by omega
    have ht := Nat.mod_lt t hn
    refine ⟨(j + (ks.length - t % ks.length)) % ks.length, Nat.mod_lt _ hn, ?_⟩
    have e : ((j + (ks.length - t % ks.length)) % ks.length + t) % ks.length = j := by
      rw [Nat.mod_add_mod]
      have h2 := Nat.div_add_mod t ks.length
      rw [show j + (ks.length - t % ks.length) + t = j + ks.length * (t / ks.length + 1) by rw [Nat.mul_add]; omega, Nat.add_mul_mod_self_left, Nat.mod_eq_of_lt hj]
    rw [e, List.getD_eq_getElem?_getD, List.getElem?_eq_getElem hj]; rfl
  · rintro ⟨i, hi, rfl⟩
    have hn : 0 < ks.length := by omega
    have hm := Nat.mod_lt (i + t) hn
    rw [List.getD_eq_getElem?_getD, List.getElem?_eq_getElem hm]
    exact List.getElem_mem hm
theorem with_same {ps : List P2} (h : Rise ps) (k v : S) : ps = withL ps k v ↔ getL ps k = some v := by
  constructor
  · intro e
    rw [e, getL_with h, if_pos rfl]
  · intro e
    apply rise_ext h (rise_with h _ _)
    intro k'
    rw [getL_with h]
    by_cases hk : k = k'
    · subst hk; rw [if_pos rfl, e]
    · rw [if_neg hk]
theorem without_same {ps : List P2} (h : Rise ps) (k : S) : ps = withoutL ps k ↔ getL ps k = none := by
  constructor
  · intro e
    rw [e, getL_without h, if_pos rfl]
  · intro e
    apply rise_ext h (rise_without h _)
    intro k'
    rw [getL_without h]
    by_cases hk : k = k'
    · subst hk; rw [if_pos rfl, e]
    · rw [if_neg hk]
theorem same_with {ps : List P2} (h : Rise ps) (k v : S) : decide (ps = withL ps k v) = (here ps k && decide (getS ps k = v)) := by
  rw [Bool.eq_iff_iff]
  simp only [decide_eq_true_eq, Bool.and_eq_true, with_same h]
  rw [← getL_isSome]
  unfold getS
  cases getL ps k with
  | none => simp
  | some x => simp
theorem same_without {ps : List P2} (h : Rise ps) (k : S) : decide (ps = withoutL ps k) = !here ps k := by
  rw [Bool.eq_iff_iff]
  simp only [decide_eq_true_eq, without_same h]
  rw [← getL_isSome]
  cases getL ps k with
  | none => simp
  | some x => simp
#print axioms rot_all
end Go.Proofs.Ytllmaoimngeofaa.KeyS
