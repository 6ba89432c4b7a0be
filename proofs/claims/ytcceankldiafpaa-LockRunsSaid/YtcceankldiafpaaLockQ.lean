/- The laws' ops, opened; any table with bounds; a wish made again; the law's 'same'. -/
import Derived.Test.YtcceankldiafpaaLockN
set_option linter.unusedVariables false
set_option linter.unusedSimpArgs false
set_option linter.unusedSectionVars false
set_option maxRecDepth 100000
namespace Go.Proofs.Ytcceankldiafpaa.Lock
open Go.RowKit Go.WideShapes Go.Deep Go.Proofs.Ytcceankldiafpaa.Mem Go.Proofs.Ytcceankldiafpaa.Open Go.Proofs.Ytcceankldiafpaa.Maps
structure OpT where
  k : Int
  tid : Int × Int
  key : S
  md : Int
def OpT.cs (o : OpT) : List Value := [.int .i64 o.k, .int .u64 o.tid.1, .int .i64 o.tid.2, .string o.key, .int .i64 o.md]
def oc (os : List OpT) : List Value := os.flatMap OpT.cs
theorem oc_at : ∀ {os : List OpT} {i : Nat} {o : OpT}, os[i]? = some o → ∀ (j : Nat) (u : Value), o.cs[j]? = some u → (oc os)[i * 5 + j]? = some u
  | [], i, r, h => by simp at h
  | p :: rs, 0, r, h => by
    have h' : p = r := by simpa using h
    subst h'
    intro j u hu
    have hl : j < p.cs.length := (List.getElem?_eq_some_iff.1 hu).1
    show (p.cs ++ oc rs)[0 * 5 + j]? = _
    rw [Nat.zero_mul, Nat.zero_add, List.getElem?_append_left hl]
    exact hu
  | p :: rs, i + 1, r, h => by
    have h' : rs[i]? = some r := by simpa using h
    intro j u hu
    show (p.cs ++ oc rs)[(i + 1) * 5 + j]? = _
    have hl : p.cs.length = 5 := rfl
    rw [List.getElem?_append_right (by omega), hl, show (i + 1) * 5 + j - 5 = i * 5 + j by omega]
    exact oc_at h' _ _ hu
structure OpsIn (w : World) (v : Value) (os : List OpT) : Prop where
  rd : Rd w w.heap.size 5 v os.length (oc os)
  each : ∀ o ∈ os, o.key.size ≤ 140737488351232
theorem OpsIn.up {w w' : World} {v : Value} {os : List OpT} (h : OpsIn w v os) (hb : Below w.heap.size w w') : OpsIn w' v os := ⟨h.rd.up hb, h.each⟩
section
variable {H : Type} {enc : TypeId × Value → H} {w : World} {base : Nat} {spare : Nat → Bool} {held : Bool}
theorem op_of {cs : List Value} (h : Reads1 enc Try.prog w base spare held 42 cs) : ∃ o : OpT, cs = o.cs ∧ o.key.size ≤ 140737488351232 := by
  obtain ⟨hl, hf⟩ := reads_struct Try.underlying42 h
  have hl2 : cs.length = 5 := hl
  match cs, hl2 with
  | [c0, c1, c2, c3, c4], _ =>
    obtain ⟨k, e0, _⟩ := reads_int Try.underlying3 (hf 0 _ rfl)
    obtain ⟨t, et, _⟩ := tid_of (hf 1 _ rfl)
    have et' : [c1, c2] = _ := et
    obtain ⟨s, e3, ws⟩ := reads_string Try.underlying9 (hf 2 _ rfl)
    obtain ⟨m, e4, _⟩ := reads_int Try.underlying3 (hf 3 _ rfl)
    injection et' with b1 et'
    injection et' with b2 _
    exact ⟨⟨k, t, s, m⟩, by rw [cell_eq (show [c0] = [Value.int .i64 k] from e0), b1, b2, cell_eq (show [c3] = [Value.string s] from e3), cell_eq (show [c4] = [Value.int .i64 m] from e4)]; rfl, ws⟩
theorem ops_of {css : List (List Value)} (h : ∀ c ∈ css, c.length = 5 ∧ Reads1 enc Try.prog w base spare held 42 c) : ∃ os : List OpT, css.flatten = oc os ∧ css.length = os.length ∧ ∀ o ∈ os, o.key.size ≤ 140737488351232 := by
  induction css with
  | nil => exact ⟨[], rfl, rfl, fun _ h => by cases h⟩
  | cons c css ih =>
    obtain ⟨ps, e1, e2, e3⟩ := ih (fun c hc => h c (List.mem_cons_of_mem _ hc))
    obtain ⟨p, rfl, hp⟩ := op_of (h c (List.mem_cons_self ..)).2
    exact ⟨p :: ps, by rw [List.flatten_cons, e1]; rfl, by simp [e2], fun x hx => (List.mem_cons.1 hx).elim (fun e => e ▸ hp) (e3 x)⟩
theorem ops_val {v : Value} {r : Reach} {b : Nat} (ok : Value.okWide Try.prog w r b 39 v) (h : Reads1 enc Try.prog w base spare held 39 v.cells.toList) : ∃ os : List OpT, OpsIn w v os := by
  obtain ⟨a, l, c, rfl⟩ := okWide_slice Try.underlying39 ok
  obtain ⟨v, n, css, e, rfl, hr, hc, _⟩ := reads_slice Try.underlying39 (k := 5) rfl (by omega) h
  have e' := cell_eq (show [Value.slice a l c] = [v] from e)
  subst e'
  obtain ⟨qs, e1, e2, e3⟩ := ops_of hc
  rw [e1, e2] at hr
  exact ⟨qs, hr, e3⟩
theorem op_val {v : Value} {r : Reach} {b : Nat} (ok : Value.okWide Try.prog w r b 42 v) (h : Reads1 enc Try.prog w base spare held 42 v.cells.toList) : ∃ o : OpT, v = .agg o.cs.toArray ∧ o.key.size ≤ 140737488351232 := by
  obtain ⟨cs, rfl, _⟩ := okWide_struct Try.underlying42 ok
  obtain ⟨o, h1, h2⟩ := op_of h
  exact ⟨o, by rw [← Array.toArray_toList (xs := cs), show cs.toList = _ from h1], h2⟩
end
/-- A table with bounds. -/
structure AnyT (w : World) (B lt mb : Nat) (N : Nat) (qs : List (S × Qv)) : Prop where
  tb : Tb w B lt mb qs
  bnd : Bnd qs N
  len : qs.length ≤ N
theorem AnyT.below {w w' : World} {B lt mb N : Nat} {qs : List (S × Qv)} (h : AnyT w B lt mb N qs) (hb : Below w.heap.size w w') : AnyT w' B lt mb N qs := ⟨h.tb.below hb, h.bnd, h.len⟩
theorem AnyT.more {w : World} {B lt mb N M : Nat} {qs : List (S × Qv)} (h : AnyT w B lt mb N qs) (hN : N ≤ M) : AnyT w B lt mb M qs := ⟨h.tb, fun k => Nat.le_trans (h.bnd k) hN, Nat.le_trans h.len hN⟩
def AskA (w : World) (B lt mb N : Nat) (qs : List (S × Qv)) (k : S) (r : Line × Int) (e : Ending) (w' : World) : Prop := e = .returned (.int .i64 r.2) ∧ ∃ qs', AnyT w' B lt mb (N + 1) qs' ∧ lineOf qs' k = r.1 ∧ TGo w w' mb qs qs'
theorem AnyT.ask {w : World} {B lt mb N : Nat} {qs : List (S × Qv)} (h : AnyT w B lt mb N qs) {k : S} (hk : OkS k) (p : Int × Int) (m : Int) (hN : N ≤ 50000) :
    Calls Try.prog 13 #[.pointer (some ⟨lt, 0, none⟩), .agg #[.int .u64 p.1, .int .i64 p.2], .string k, .int .i64 m] w (AskA w B lt mb N qs k (askL (lineOf qs k) p m)) := by
  refine (ask_any h.tb hk p m fun k q hq => by have := h.bnd.rows hq; omega).mono ?_
  rintro e w' ⟨he, qs', h1, h2, h3⟩
  have h5 := h3.len
  have h6 := h.len
  exact ⟨he, qs', ⟨h1, h3.bnd h.bnd, by omega⟩, h3.line, h2⟩
def FreeA (w : World) (B lt mb N : Nat) (e : Ending) (w' : World) : Prop := ∃ A n c qs', e = .returned (.slice A n c) ∧ AnyT w' B lt mb N qs' ∧ Below B w w'
theorem AnyT.free {w : World} {B lt mb N : Nat} {qs : List (S × Qv)} (h : AnyT w B lt mb N qs) (p : Int × Int) (hN : N ≤ 100) :
    Calls Try.prog 14 #[.pointer (some ⟨lt, 0, none⟩), .agg #[.int .u64 p.1, .int .i64 p.2]] w (FreeA w B lt mb N) := by
  have hokk : ∀ q ∈ qs, OkS q.1 := by
    obtain ⟨_, _, _, _, h3, _⟩ := h.tb.fm
    exact h3
  have hnd := h.tb.fm.keys
  refine (free_any h.tb p (N := N) (by omega) h.bnd (by have := h.len; omega) hokk).mono ?_
  rintro e w' ⟨v, qs', ks, gs, he, hg, hT, hG, hp, hs, hi⟩
  have hkd : (ks.map ofB).Perm (qs.map (·.1)) := by
    have := hp.map ofB
    rw [List.map_map] at this
    exact this
  obtain ⟨A, c, ev⟩ := hg.form
  subst ev
  have hbn : Bnd qs' N := fun k' => by
    by_cases e : k' ∈ ks.map ofB
    · rw [hi.inn k' e]
      have h1 := freeL_len (lineOf qs k') p
      have h2 := h.bnd k'
      omega
    · have h2 := h.bnd k'
      unfold lineOf at h2 ⊢
      rw [hi.out k' e]
      exact h2
  have hln : qs'.length ≤ qs.length := by
    have hnd' := hT.fm.keys
    unfold Keys1 at hnd hnd'
    have hsub : ∀ x, x ∈ qs'.map (·.1) → x ∈ qs.map (·.1) := fun x hx => by
      obtain ⟨q, hq, rfl⟩ := List.mem_map.1 hx
      obtain ⟨i, hi2⟩ := List.getElem?_of_mem hq
      have hq' := getM_at hnd' hi2
      refine Classical.byContradiction fun hn => ?_
      have hn2 : q.1 ∉ ks.map ofB := fun hm => hn (hkd.mem_iff.1 hm)
      rw [hi.out _ hn2] at hq'
      exact hn (List.mem_map.2 ⟨_, getM_mem hq', rfl⟩)
    have := nodup_le hnd' hsub
    simpa using this
  exact ⟨A, _, c, qs', he, ⟨hT, hbn, by have := h.len; omega⟩, hG.below h.tb⟩
/-- A wish made again is answered the same, and nothing turns. -/
theorem hasAs_give (has : List Wt) (p : Int × Int) (m : Int) : hasAs (giveL has ⟨p.1, p.2, m⟩) p m = true := by
  cases hf : has.findIdx? (fun t => sameT t p) with
  | some i =>
    obtain ⟨hi, hs, hb⟩ := List.findIdx?_eq_some_iff_getElem.1 hf
    have hu : has[i]? = some has[i] := List.getElem?_eq_getElem hi
    rw [giveL_old (t := ⟨p.1, p.2, m⟩) (i := i) (u := has[i]) hf hu]
    have h2 : (has.set i ⟨has[i].num, has[i].nd, if has[i].md < m then m else has[i].md⟩).findIdx? (fun t => sameT t p) = some i := by
      rw [List.findIdx?_eq_some_iff_getElem]
      refine ⟨by rw [List.length_set]; exact hi, ?_, fun j hj => ?_⟩
      · rw [List.getElem_set_self]
        exact hs
      · rw [List.getElem_set_ne (by omega)]
        exact hb j hj
    unfold hasAs
    rw [h2]
    simp only [List.getD_eq_getElem?_getD, List.getElem?_set, if_pos hi, if_true, Option.getD_some, decide_eq_true_eq]
    split <;> omega
  | none =>
    rw [giveL_new (t := ⟨p.1, p.2, m⟩) (j := has.findIdx fun u => !elder u.tid (Wt.tid ⟨p.1, p.2, m⟩)) hf rfl]
    obtain ⟨j, hj⟩ : ∃ j, j = has.findIdx fun u => !elder u.tid (Wt.tid ⟨p.1, p.2, m⟩) := ⟨_, rfl⟩
    rw [← hj]
    have hjl : j ≤ has.length := by rw [hj]; exact List.findIdx_le_length
    rw [List.findIdx?_eq_none_iff] at hf
    have hlt : (has.take j).length = j := by rw [List.length_take]; omega
    have hget : (has.take j ++ ⟨p.1, p.2, m⟩ :: has.drop j)[j]? = some ⟨p.1, p.2, m⟩ := by
      rw [List.getElem?_append_right (by omega), hlt, Nat.sub_self]
      rfl
    have h2 : (has.take j ++ ⟨p.1, p.2, m⟩ :: has.drop j).findIdx? (fun t => sameT t p) = some j := by
      refine first_at hget (by simp [sameT]) fun i u hi hu => ?_
      rw [List.getElem?_append_left (by omega), List.getElem?_take, if_pos hi] at hu
      exact hf u (List.mem_of_getElem? hu)
    unfold hasAs
    rw [h2]
    simp only [List.getD_eq_getElem?_getD, hget, Option.getD_some]
    exact decide_eq_true (Int.le_refl _)
theorem ask_again (l : Line) (p : Int × Int) (m : Int) : askL (askL l p m).1 p m = askL l p m := by
  by_cases h1 : m = 1 ∨ m = 2
  rotate_left
  · have e : askL l p m = (l, 3) := by unfold askL; rw [if_pos h1]
    rw [e]; exact e
  have h1' : ¬ ¬ (m = 1 ∨ m = 2) := fun h => h h1
  by_cases h2 : hasAs l.1 p m = true
  · have e : askL l p m = (l, 1) := by unfold askL; rw [if_neg h1', if_pos h2]
    rw [e]; exact e
  by_cases h3 : hasT l.2 p = true
  · have e : askL l p m = (l, 2) := by unfold askL; rw [if_neg h1', if_neg h2, if_pos h3]
    rw [e]; exact e
  by_cases h4 : (l.2.drop (placeL l p)).any (youngB m p) = true
  · have e : askL l p m = (l, 3) := by unfold askL; rw [if_neg h1', if_neg h2, if_neg h3, if_pos h4]
    rw [e]; exact e
  by_cases h5 : blocksL l p m = []
  · have e : askL l p m = ((giveL l.1 ⟨p.1, p.2, m⟩, l.2), 1) := by unfold askL; rw [if_neg h1', if_neg h2, if_neg h3, if_neg h4, if_pos h5]
    rw [e]
    unfold askL
    rw [if_neg h1', if_pos (hasAs_give _ _ _)]
  by_cases h6 : (blocksL l p m).any (notYoung p) = true
  · have e : askL l p m = (l, 3) := by unfold askL; rw [if_neg h1', if_neg h2, if_neg h3, if_neg h4, if_neg h5, if_pos h6]
    rw [e]; exact e
  · have e : askL l p m = ((l.1, l.2.take (placeL l p) ++ ⟨p.1, p.2, m⟩ :: l.2.drop (placeL l p)), 2) := by unfold askL; rw [if_neg h1', if_neg h2, if_neg h3, if_neg h4, if_neg h5, if_neg h6]
    rw [e]
    unfold askL
    rw [if_neg h1', if_neg h2, if_pos (by unfold hasT; rw [List.any_append, List.any_cons]; simp [sameT])]
#print axioms ask_again
end Go.Proofs.Ytcceankldiafpaa.Lock
