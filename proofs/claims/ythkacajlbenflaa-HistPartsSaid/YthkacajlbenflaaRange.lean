/- 'for k, v := range m' over a map that reads as a list of pairs; entries may be deleted in the round. -/
import Derived.Test.YthkacajlbenflaaMapS
import Derived.Maps.Range
set_option linter.unusedVariables false
set_option linter.unusedSimpArgs false
set_option linter.unusedSectionVars false
namespace Go.Proofs.Ythkacajlbenflaa.Maps
open Go.RowKit Go.Proofs.Ythkacajlbenflaa.Mem
section
variable {κ ν : Type} [DecidableEq κ] {P : Program} {k : TypeId} {enc : κ → Value} {encv : ν → Value} {Ok : κ → Prop} {w w' : World} {b r cnt : Nat} {ms : List (κ × ν)} {left : κ → Bool}
/-- The loop under way: which keys are still to come, and how many. -/
def RngAt (enc : κ → Value) (encv : ν → Value) (Ok : κ → Prop) (w : World) (b r : Nat) (ms : List (κ × ν)) (left : κ → Bool) (cnt : Nat) : Prop :=
  ∃ es clock since seen c0, w.heap[b]? = some (.map es clock) ∧ es.toList.map (fun e => (e.key, e.val)) = ms.map (fun p => (enc p.1, encv p.2)) ∧ (∀ p ∈ ms, Ok p.1) ∧ Keys1 ms ∧ MapKept.Stamped es clock ∧
    w.heap[r]? = some (.mapIter (some b) since seen c0) ∧ (∀ x ∈ es.toList, x.born < since) ∧ (leftOf es seen).size = cnt ∧
    (∀ e ∈ es.toList, ∀ x, e.key = enc x → left x = !seen.contains e.born) ∧ since ≤ c0 ∧ since ≤ clock
theorem RngAt.map (h : RngAt enc encv Ok w b r ms left cnt) : MapAt enc encv Ok w b ms := by
  obtain ⟨es, clock, _, _, _, h1, h2, h3, h4, h5, _⟩ := h
  exact ⟨es, clock, h1, h2, h3, h4, h5⟩
theorem RngAt.left_eq (h : RngAt enc encv Ok w b r ms left cnt) : w.rangeLeft b r = cnt := by
  obtain ⟨es, clock, since, seen, c0, hb, _, _, _, _, hr, _, hc, _⟩ := h
  simp only [World.rangeLeft, hb, hr]
  exact hc
theorem RngAt.ne (h : RngAt enc encv Ok w b r ms left cnt) : r ≠ b := by
  obtain ⟨es, clock, since, seen, c0, hb, _, _, _, _, hr, _⟩ := h
  intro e
  rw [e, hb] at hr
  cases hr
theorem RngAt.lt (h : RngAt enc encv Ok w b r ms left cnt) : r < w.heap.size := by
  obtain ⟨es, clock, since, seen, c0, _, _, _, _, _, hr, _⟩ := h
  exact (Array.getElem?_eq_some_iff.1 hr).1
theorem RngAt.iter (h : RngAt enc encv Ok w b r ms left cnt) : ∃ a c d e, w.heap[r]? = some (.mapIter a c d e) := by
  obtain ⟨es, clock, since, seen, c0, _, _, _, _, _, hr, _⟩ := h
  exact ⟨_, _, _, _, hr⟩
theorem RngAt.okk (h : RngAt enc encv Ok w b r ms left cnt) : ∀ p ∈ ms, Ok p.1 := by
  obtain ⟨es, clock, since, seen, c0, _, _, h3, _⟩ := h
  exact h3
theorem RngAt.kept (h : RngAt enc encv Ok w b r ms left cnt) (hb' : w'.heap[b]? = w.heap[b]?) (hr' : w'.heap[r]? = w.heap[r]?) : RngAt enc encv Ok w' b r ms left cnt := by
  obtain ⟨es, clock, since, seen, c0, hb, h2, h3, h4, h5, hr, rest⟩ := h
  exact ⟨es, clock, since, seen, c0, hb'.trans hb, h2, h3, h4, h5, hr'.trans hr, rest⟩
theorem RngAt.below (h : RngAt enc encv Ok w b r ms left cnt) (hb : Below w.heap.size w w') : RngAt enc encv Ok w' b r ms left cnt := h.kept (hb.block _ h.map.lt) (hb.block _ h.lt)
/-- 'range m'. -/
theorem run_range {t e : TypeId} (ht : P.underlying t = some (.map k e)) (h : MapAt enc encv Ok w b ms) :
    ∃ w', (Instr.range t (.map (some b))).run P w = .ok (.pointer (some ⟨w.heap.size, 0, none⟩)) w' ∧ RngAt enc encv Ok w' b w.heap.size ms (fun _ => true) ms.length ∧ Below w.heap.size w w' := by
  have hlt := h.lt
  obtain ⟨es, clock, hb, h2, h3, h4, h5⟩ := h
  refine ⟨_, run_range_map w t k e b es clock ht hb, ⟨es, clock, clock, #[], clock, ((MapKept.heap_alloc w _).2 b hlt).trans hb, h2, h3, h4, h5, (MapKept.heap_alloc w _).1, h5.1, ?_, ?_, Nat.le_refl _, Nat.le_refl _⟩, (Below.refl _ _).alloc (Nat.le_refl _) _⟩
  · have := congrArg List.length h2
    simp only [List.length_map] at this
    have e1 : leftOf es #[] = es := by
      unfold leftOf
      exact Array.filter_eq_self.2 (fun e _ => by simp)
    rw [e1, ← Array.length_toList]
    exact this
  · intro e he x hx
    simp
theorem entry_of {es : Array MapEntry} (h2 : es.toList.map (fun e => (e.key, e.val)) = ms.map (fun p => (enc p.1, encv p.2))) {e : MapEntry} (he : e ∈ es.toList) : ∃ p ∈ ms, e.key = enc p.1 ∧ e.val = encv p.2 := by
  have : (e.key, e.val) ∈ ms.map (fun p => (enc p.1, encv p.2)) := h2 ▸ List.mem_map.2 ⟨e, he, rfl⟩
  obtain ⟨p, hp, hq⟩ := List.mem_map.1 this
  injection hq with q1 q2
  exact ⟨p, hp, q1.symm, q2.symm⟩
theorem of_entry {es : Array MapEntry} (h2 : es.toList.map (fun e => (e.key, e.val)) = ms.map (fun p => (enc p.1, encv p.2))) {p : κ × ν} (hp : p ∈ ms) : ∃ e ∈ es.toList, e.key = enc p.1 ∧ e.val = encv p.2 := by
  have : (enc p.1, encv p.2) ∈ es.toList.map (fun e => (e.key, e.val)) := h2 ▸ List.mem_map.2 ⟨p, hp, rfl⟩
  obtain ⟨e, he, hq⟩ := List.mem_map.1 this
  injection hq with q1 q2
  exact ⟨e, he, q1, q2⟩
/-- THE STEP. -/
theorem RngAt.next (K : Km P k enc Ok) (h : RngAt enc encv Ok w b r ms left cnt) (ty : TypeId) :
    (cnt = 0 ∧ (∀ p ∈ ms, left p.1 = false) ∧ (Instr.next (.pointer (some ⟨r, 0, none⟩)) false ty).run P w = .ok (.tuple #[.bool false]) w) ∨
    ∃ p w' cnt', p ∈ ms ∧ left p.1 = true ∧ (Instr.next (.pointer (some ⟨r, 0, none⟩)) false ty).run P w = .ok (.tuple #[.bool true, enc p.1, encv p.2]) w' ∧
      RngAt enc encv Ok w' b r ms (fun x => left x && !decide (x = p.1)) cnt' ∧ cnt' < cnt ∧ Fr (fun g => g = r) w w' ∧ w'.heap.size = w.heap.size ∧ (Instr.entry (.pointer (some ⟨r, 0, none⟩))).run P w' = .ok (.tuple #[enc p.1, encv p.2]) w' := by
  have hne := h.ne
  obtain ⟨es, clock, since, seen, c0, hb, h2, h3, h4, h5, hr, hold, rfl, hl1, hsc, hsk⟩ := h
  rcases run_next_at (P := P) w ty r b since c0 seen es clock hr hb hold hsc with ⟨h0, hrun⟩ | ⟨e, he, w1, hal, hrun⟩
  · refine Or.inl ⟨h0, fun p hp => ?_, hrun⟩
    obtain ⟨e, he, hk, _⟩ := of_entry h2 hp
    rw [hl1 e he p.1 hk, all_seen es seen h0 e he]
    rfl
  · obtain ⟨hem, hes⟩ := mem_left he
    obtain ⟨p, hp, hk, hv⟩ := entry_of h2 hem
    have hr1 : w1.heap[r]? = some (.mapIter (some b) since seen c0) := by rcases hal with rfl | rfl <;> exact hr
    have hb1 : w1.heap[b]? = some (.map es clock) := by rcases hal with rfl | rfl <;> exact hb
    have hset := MapKept.heap_set (o' := .mapIter (some b) since (seen.push e.born) clock) hr1
    have hb' : (ChangeMaps.setBlock w1 r (.mapIter (some b) since (seen.push e.born) clock)).heap[b]? = some (.map es clock) := (hset.2 b (fun e1 => hne e1.symm)).trans hb1
    have hst := (MapKept.stamped_iff es clock).1 h5
    refine Or.inr ⟨p, _, _, hp, by rw [hl1 e hem p.1 hk, hes]; rfl, by rw [← hk, ← hv]; exact hrun,
      ⟨es, clock, since, seen.push e.born, clock, hb', h2, h3, h4, h5, hset.1, hold, rfl, fun e2 he2 x hx => ?_, hsk, hsk⟩, left_shrinks es seen e he, ?_, ?_,
      by rw [← hk, ← hv]; exact run_entry_at _ r b since seen es clock e hset.1 hb' hem hst.2.1⟩
    · show (left x && !decide (x = p.1)) = _
      rw [hl1 e2 he2 x hx, contains_push]
      have hiff : (e2.born == e.born) = decide (x = p.1) := by
        by_cases hbe : e2.born = e.born
        · obtain rfl := born_inj hst.2.1 he2 hem hbe
          have : enc x = enc p.1 := hx.symm.trans hk
          rw [decide_eq_true (K.inj _ _ this)]
          simp
        · have e1 : (e2.born == e.born) = false := by simp [hbe]
          rw [e1]
          refine (decide_eq_false fun e3 => hbe ?_).symm
          rw [e3] at hx
          exact congrArg MapEntry.born (entry_eq_of_key hst.2.2 he2 hem (hx.trans hk.symm))
      rw [hiff]
      cases seen.contains e2.born <;> cases decide (x = p.1) <;> rfl
    · rcases hal with rfl | rfl
      · exact ⟨rfl, rfl, rfl, by simp [ChangeMaps.setBlock], fun i _ hi => hset.2 i hi⟩
      · exact ⟨rfl, rfl, rfl, by simp [ChangeMaps.setBlock], fun i _ hi => hset.2 i hi⟩
    · rcases hal with rfl | rfl <;> simp [ChangeMaps.setBlock]
/-- 'delete(m, k)' in the round. -/
theorem RngAt.delete {t e : TypeId} (K : Km P k enc Ok) (ht : P.underlying t = some (.map k e)) (h : RngAt enc encv Ok w b r ms left cnt) {x : κ} (hx : Ok x) (ty : TypeId) :
    ∃ w' cnt', (Builtin.delete_ #[t, k] ty #[.map (some b), enc x]).run P w = .ok (.tuple #[]) w' ∧ RngAt enc encv Ok w' b r (delM ms x) left cnt' ∧ cnt' ≤ cnt ∧ Turned w w' b := by
  have hne := h.ne
  have hm := h.map
  obtain ⟨w', hrun, hm', ht'⟩ := run_delete (ty := ty) K ht hm hx
  have hr' : w'.heap[r]? = w.heap[r]? := ht'.fr.block r h.lt hne
  obtain ⟨es, clock, since, seen, c0, hb, h2, h3, h4, h5, hr, hold, rfl, hl1, hsc, hsk⟩ := h
  obtain ⟨es', clock', hb', h2', h3', h4', h5'⟩ := hm'
  have hsub : es'.toList.Sublist es.toList ∧ clock' = clock := by
    obtain ⟨es0, c00, g1, g2, g5, g3, g4⟩ := hm.find K hx
    rw [hb] at g1
    injection g1 with g1
    injection g1 with g1 g1c
    subst g1 g1c
    rcases g4 with ⟨f1, f2, f6⟩ | ⟨j, v0, e', f1, f2, f3, f4⟩
    · have hr9 : (Builtin.delete_ #[t, k] ty #[.map (some b), enc x]).run P w = .ok (.tuple #[]) { w with heap := w.heap.setIfInBounds b (.map es clock) } := by
        simp [Builtin.delete_, run_underlying ht, MapKept.run_getObj_map hb, g3, f1, MapKept.run_setObj_map _ hb, Result.andThen]
      rw [hrun] at hr9
      injection hr9 with _ hr9
      rw [hr9] at hb'
      have hq := (MapKept.heap_set (o' := .map es clock) hb).1
      rw [hq] at hb'
      injection hb' with hb'
      injection hb' with e1 e2
      subst e1 e2
      exact ⟨List.Sublist.refl _, rfl⟩
    · have hr9 : (Builtin.delete_ #[t, k] ty #[.map (some b), enc x]).run P w = .ok (.tuple #[]) { w with heap := w.heap.setIfInBounds b (.map (es.eraseIdxIfInBounds j) clock) } := by
        simp [Builtin.delete_, run_underlying ht, MapKept.run_getObj_map hb, g3, f1, MapKept.run_setObj_map _ hb, Result.andThen]
      rw [hrun] at hr9
      injection hr9 with _ hr9
      rw [hr9] at hb'
      have hq := (MapKept.heap_set (o' := .map (es.eraseIdxIfInBounds j) clock) hb).1
      rw [hq] at hb'
      injection hb' with hb'
      injection hb' with e1 e2
      subst e1 e2
      refine ⟨?_, rfl⟩
      rw [Array.toList_eraseIdxIfInBounds]
      exact List.eraseIdx_sublist _ _
  obtain ⟨hsub, rfl⟩ := hsub
  refine ⟨w', _, hrun, ⟨es', clock', since, seen, c0, hb', h2', h3', h4', h5', hr'.trans hr, fun x hx => hold x (hsub.subset hx), rfl, fun e he => hl1 e (hsub.subset he), hsc, hsk⟩, ?_, ht'⟩
  have e1 : ∀ a : Array MapEntry, (leftOf a seen).size = (a.toList.filter fun e => !seen.contains e.born).length := fun a => by
    unfold leftOf
    rw [← Array.toList_filter, Array.length_toList]
  rw [e1, e1]
  exact (hsub.filter _).length_le
end
#print axioms RngAt.next
#print axioms RngAt.delete
end Go.Proofs.Ythkacajlbenflaa.Maps
