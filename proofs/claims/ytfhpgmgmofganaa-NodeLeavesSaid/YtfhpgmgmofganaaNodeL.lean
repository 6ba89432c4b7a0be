/- The law's own leaf: texts laid in order, each once: the plain words. -/
import Derived.Test.YtfhpgmgmofganaaNodeE
set_option linter.unusedVariables false
set_option linter.unusedSimpArgs false
set_option linter.unusedSectionVars false
namespace Go.Proofs.Ytfhpgmgmofganaa.NodeA
open Go.RowKit Go.Proofs.Ytfhpgmgmofganaa.Kv
def E0 : S := ⟨#[]⟩
/-- One text more. -/
def insK (ks : List S) (k : S) : List S := if here (kp ks) k = true then ks else ks.take (pos (kp ks) k) ++ k :: ks.drop (pos (kp ks) k)
theorem kp_ins {ks : List S} (hr : Rise (kp ks)) (k : S) : kp (insK ks k) = withL (kp ks) k E0 := by
  unfold insK withL
  by_cases hh : here (kp ks) k = true
  · rw [if_pos hh, if_pos hh]
    obtain ⟨p, hp, hk⟩ := (here_at hr k).1 hh
    apply List.ext_getElem?
    intro i
    rw [List.getElem?_set]
    by_cases hi : pos (kp ks) k = i
    · subst hi
      rw [if_pos rfl, if_pos (List.getElem?_eq_some_iff.1 hp).1, hp]
      have : p.2 = E0 := by
        simp only [kp, List.getElem?_map] at hp
        cases hq : ks[pos (kp ks) k]? with
        | none => simp only [kp] at hq; rw [hq] at hp; cases hp
        | some q =>
          simp only [kp] at hq
          rw [hq] at hp
          injection hp with hp
          rw [← hp]; rfl
      rw [← hk, ← this]
    · rw [if_neg hi]
  · rw [if_neg hh, if_neg hh]
    simp [kp, List.map_take, List.map_drop]
    rfl
def leafK (keys : List S) : List S := keys.foldl insK []
theorem leafK_snoc (keys : List S) (k : S) : leafK (keys ++ [k]) = insK (leafK keys) k := by simp [leafK]
theorem leafK_rise : ∀ n (keys : List S), keys.length = n → Rise (kp (leafK keys)) ∧ (leafK keys).length ≤ n
  | 0, l, h => by
    obtain rfl := List.eq_nil_of_length_eq_zero h
    exact ⟨rise_nil, Nat.le_refl _⟩
  | n + 1, l, h => by
    obtain ⟨l', k, rfl⟩ : ∃ l' k, l = l' ++ [k] := ⟨l.dropLast, l.getLast (by intro e; simp [e] at h), (List.dropLast_concat_getLast _).symm⟩
    obtain ⟨h1, h2⟩ := leafK_rise n l' (by simpa using h)
    rw [leafK_snoc]
    refine ⟨by rw [kp_ins h1]; exact rise_with h1 _ _, ?_⟩
    unfold insK
    split
    · omega
    · have := pos_le (kp (leafK l')) k
      rw [kp_len] at this
      simp
      omega
#print axioms leafK_rise
end Go.Proofs.Ytfhpgmgmofganaa.NodeA
