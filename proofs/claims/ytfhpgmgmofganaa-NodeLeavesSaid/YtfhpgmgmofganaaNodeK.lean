/- A leaf with something under a key, as pairs: the plain words; Put, Drop, Get of it. -/
import Derived.Test.YtfhpgmgmofganaaNodeZ
import Derived.Test.YtfhpgmgmofganaaNodeV
set_option linter.unusedVariables false
set_option linter.unusedSimpArgs false
set_option linter.unusedSectionVars false
namespace Go.Proofs.Ytfhpgmgmofganaa.NodeA
open Go.RowKit Go.WideShapes Go.Deep Go.Proofs.Ytfhpgmgmofganaa.Mem Go.Proofs.Ytfhpgmgmofganaa.Open Go.Proofs.Ytfhpgmgmofganaa.Kv
def pgOf (ps : List P2) : Pg := ⟨1, ps.map (·.1), ps.map (·.2), []⟩
def prs (ks : List S) : List P2 := ks.map fun k => (k, vk k)
theorem kp_pos (ps : List P2) (k : S) : pos (kp (ps.map (·.1))) k = pos ps k := by
  simp [pos, kp, List.countP_map, Function.comp_def]
theorem kp_here (ps : List P2) (k : S) : here (kp (ps.map (·.1))) k = here ps k := by
  simp [here, kp, List.any_map, Function.comp_def]
theorem kp_rise {ps : List P2} (h : Rise ps) : Rise (kp (ps.map (·.1))) := by
  unfold Rise at *
  rw [kp, List.pairwise_map, List.pairwise_map]
  exact h
theorem prs_fst (ks : List S) : (prs ks).map (·.1) = ks := by simp [prs, Function.comp_def]
theorem prs_snd (ks : List S) : (prs ks).map (·.2) = ks.map vk := by simp [prs, Function.comp_def]
theorem prs_rise {ks : List S} (h : Rise (kp ks)) : Rise (prs ks) := by
  unfold Rise at *
  rw [prs, List.pairwise_map]
  rw [kp, List.pairwise_map] at h
  exact h
theorem prs_pos (ks : List S) (k : S) : pos (prs ks) k = pos (kp ks) k := by rw [← kp_pos, prs_fst]
theorem prs_here (ks : List S) (k : S) : here (prs ks) k = here (kp ks) k := by rw [← kp_here, prs_fst]
theorem valS_of {ps : List P2} (h : Rise ps) {k y : S} (hg : getL ps k = some y) : valS (pgOf ps) k = y ∧ gotS (pgOf ps) k = true := by
  have hh : here ps k = true := by rw [← getL_isSome, hg]; rfl
  have hp := (getL_at h).1 hg
  constructor
  · unfold valS pgOf
    simp only [true_and]
    rw [kp_here, if_pos hh, kp_pos, List.getD_eq_getElem?_getD, List.getElem?_map, hp]
    rfl
  · unfold gotS pgOf
    simp only
    rw [kp_here, hh]; rfl
theorem prs_get {ks : List S} (h : Rise (kp ks)) {x : S} (hx : x ∈ ks) : getL (prs ks) x = some (vk x) := by
  obtain ⟨i, hi⟩ := List.getElem?_of_mem hx
  exact rise_find (prs_rise h) (i := i) (p := (x, vk x)) (by simp [prs, hi])
theorem put_pairs {kv vv nv : Value} {ks : List S} (w : World) (h : PgR w kv vv nv (leafOf ks)) (hr : Rise (kp ks)) (hl : ks.length ≤ 50) (k v : S) :
    Calls Try.prog 19 #[pv 1 kv vv nv, .string k, .string v] w fun e w' => ∃ kv' vv' nv', e = .returned (pv 1 kv' vv' nv') ∧ PgO w' w.heap.size kv' vv' nv' (pgOf (withL (prs ks) k v)) ∧ Below w.heap.size w w' := by
  have e1 := prs_fst ks
  have e2 := prs_snd ks
  cases hh : here (kp ks) k with
  | true =>
    have h9 := put_there w h hr (by simp) hl k v hh
    have hk : ((prs ks).set (pos (kp ks) k) (k, v)).map (·.1) = ks := by
      rw [List.map_set, e1]
      obtain ⟨p, hp, hk⟩ := (here_at hr k).1 hh
      obtain ⟨q, hq⟩ : ∃ q, ks[pos (kp ks) k]? = some q := by
        have hl := here_pos_lt hr hh
        rw [kp_len] at hl
        exact ⟨ks[pos (kp ks) k], List.getElem?_eq_getElem _⟩
      rw [kp_at hq] at hp
      injection hp with hp
      rw [← hp] at hk
      have hk' : q = k := hk
      apply List.ext_getElem?
      intro i
      rw [List.getElem?_set]
      split
      · rename_i e
        subst e
        rw [hq, if_pos (List.getElem?_eq_some_iff.1 hq).1, hk']
      · rfl
    have hp : pgOf (withL (prs ks) k v) = ⟨1, ks, (ks.map vk).set (pos (kp ks) k) v, []⟩ := by
      unfold withL pgOf
      rw [prs_here, hh, prs_pos]
      simp only [if_true]
      rw [hk, List.map_set, e2]
    rw [hp]
    exact h9
  | false =>
    have h9 := put_new w h hr (by simp) hl k v hh
    have hp : pgOf (withL (prs ks) k v) = ⟨1, ks.take (pos (kp ks) k) ++ k :: ks.drop (pos (kp ks) k), (ks.map vk).take (pos (kp ks) k) ++ v :: (ks.map vk).drop (pos (kp ks) k), []⟩ := by
      unfold withL pgOf
      rw [prs_here, hh, prs_pos]
      simp only [Bool.false_eq_true, if_false, List.map_append, List.map_cons, List.map_take, List.map_drop, e1, e2]
    rw [hp]
    exact h9
#print axioms put_pairs
end Go.Proofs.Ytfhpgmgmofganaa.NodeA
