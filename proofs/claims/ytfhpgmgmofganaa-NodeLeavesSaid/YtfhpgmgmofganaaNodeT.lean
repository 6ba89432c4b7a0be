/- Keys that rise: which stand at or below a key. -/
import Derived.Test.YtfhpgmgmofganaaNodeH
set_option linter.unusedVariables false
set_option linter.unusedSimpArgs false
set_option linter.unusedSectionVars false
namespace Go.Proofs.Ytfhpgmgmofganaa.NodeA
open Go.RowKit Go.Proofs.Ytfhpgmgmofganaa.Kv
/-- How many of rising keys are k or less. -/
def upTo (ks : List S) (k : S) : Nat := if here (kp ks) k = true then pos (kp ks) k + 1 else pos (kp ks) k
theorem upTo_le {ks : List S} (hr : Rise (kp ks)) (k : S) : upTo ks k ≤ ks.length := by
  have h1 := pos_le (kp ks) k
  rw [kp_len] at h1
  unfold upTo
  split
  · rename_i h
    have := here_pos_lt hr h
    rw [kp_len] at this
    omega
  · exact h1
theorem bl_lt (a b : S) : Op.bytesLess a.toList b.toList = lt a b := by rw [ByteArray.toList_eq, ByteArray.toList_eq]; rfl
theorem at_lt {ks : List S} (hr : Rise (kp ks)) {k q : S} {j : Nat} (hq : ks[j]? = some q) : lt q k = true ↔ j < pos (kp ks) k := pos_split hr k j _ (kp_at hq)
theorem at_eq {ks : List S} (hr : Rise (kp ks)) {k q : S} {j : Nat} (hq : ks[j]? = some q) : q = k ↔ here (kp ks) k = true ∧ j = pos (kp ks) k := by
  constructor
  · intro e
    subst e
    have hh : here (kp ks) q = true := by
      rw [here_at hr]
      -- the first place at or above q is j
      have h1 : ¬ j < pos (kp ks) q := fun h => by
        have := (at_lt hr hq).2 h
        rw [lt_irrefl] at this; cases this
      have hjl := (List.getElem?_eq_some_iff.1 hq).1
      obtain ⟨p, hp⟩ : ∃ p, ks[pos (kp ks) q]? = some p := ⟨ks[pos (kp ks) q]'(by omega), List.getElem?_eq_getElem _⟩
      refine ⟨_, kp_at hp, ?_⟩
      rcases Nat.lt_or_ge (pos (kp ks) q) j with hl | hl
      · exfalso
        have h2 : lt p q = true := by
          have hpw := hr
          unfold Rise at hpw
          have h3 := List.pairwise_iff_getElem.1 hpw (pos (kp ks) q) j (by rw [kp_len]; omega) (by rw [kp_len]; exact hjl) hl
          have e1 := (List.getElem?_eq_some_iff.1 (kp_at hp)).2
          have e2 := (List.getElem?_eq_some_iff.1 (kp_at hq)).2
          rw [e1, e2] at h3
          exact h3
        have := (at_lt hr hp).1 h2
        omega
      · obtain rfl : j = pos (kp ks) q := by omega
        rw [hq] at hp
        injection hp with hp
        exact hp.symm
    refine ⟨hh, ?_⟩
    obtain ⟨p, hp, hk⟩ := (here_at hr q).1 hh
    have h1 : ¬ j < pos (kp ks) q := fun h => by
      have := (at_lt hr hq).2 h
      rw [lt_irrefl] at this; cases this
    rcases Nat.lt_or_ge (pos (kp ks) q) j with hl | hl
    · exfalso
      have h3 := List.pairwise_iff_getElem.1 hr (pos (kp ks) q) j (List.getElem?_eq_some_iff.1 hp).1 (List.getElem?_eq_some_iff.1 (kp_at hq)).1 hl
      have e1 := (List.getElem?_eq_some_iff.1 hp).2
      have e2 := (List.getElem?_eq_some_iff.1 (kp_at hq)).2
      rw [e1, e2, hk] at h3
      have h4 : lt q q = true := h3
      rw [lt_irrefl] at h4; cases h4
    · omega
  · rintro ⟨hh, rfl⟩
    obtain ⟨p, hp, hk⟩ := (here_at hr k).1 hh
    rw [kp_at hq] at hp
    injection hp with hp
    rw [← hp] at hk
    exact hk
/-- k is not below q, just where q stands among the first upTo. -/
theorem at_le {ks : List S} (hr : Rise (kp ks)) {k q : S} {j : Nat} (hq : ks[j]? = some q) : lt k q = false ↔ j < upTo ks k := by
  by_cases hl : lt q k = true
  · have h1 := (at_lt hr hq).1 hl
    have h2 := lt_asymm hl
    refine ⟨fun _ => ?_, fun _ => h2⟩
    unfold upTo; split <;> omega
  · by_cases he : q = k
    · obtain ⟨hh, hj⟩ := (at_eq hr hq).1 he
      subst he
      refine ⟨fun _ => ?_, fun _ => lt_irrefl _⟩
      unfold upTo; rw [if_pos hh]; omega
    · have h2 : lt k q = true := by
        rcases lt_total he with h | h
        · exact absurd h hl
        · exact h
      refine ⟨fun h => (by rw [h2] at h; cases h), fun h => ?_⟩
      exfalso
      have h3 : ¬ j < pos (kp ks) k := fun h => hl ((at_lt hr hq).2 h)
      have h4 : ¬ (here (kp ks) k = true ∧ j = pos (kp ks) k) := fun h => he ((at_eq hr hq).2 h)
      unfold upTo at h
      split at h
      · rename_i hh
        exact h4 ⟨hh, by omega⟩
      · exact h3 h
#print axioms at_le
end Go.Proofs.Ytfhpgmgmofganaa.NodeA
