/- A region that draws its order: a load may be taken first where only LATE operations, which wait for it, write its cell. (Over the library's 'YieldsIf', 'wpOp_putIf' and the readiness laws.) -/
import Derived.Test.YthkacajlbenflaaMem
import Derived.OrdersHeld
import Derived.Deep.RegionHeld3
set_option linter.unusedVariables false
namespace Go.Proofs.Ythkacajlbenflaa.Held3
open Go.RowKit
section
variable {P : Program} {ops : Array Oper} {Q : Exit → Act → World → Prop} {md : Region.Mode} {S : World → Prop} {early : Nat → Bool} {R : Nat → World → World → Prop}
/-- From here on, whatever comes up: each operation i turns worlds as R i says. -/
def Ways (P : Program) (md : Region.Mode) (ops : Array Oper) (Q : Exit → Act → World → Prop) (R : Nat → World → World → Prop) : Nat → Array Bool → Act → World → Prop
  | 0, listed, a, w => Region.ready md ops listed = [] ∧ Q .normal a w
  | n + 1, listed, a, w => (Region.ready md ops listed = [] → Q .normal a w) ∧
    ∀ i, i ∈ Region.ready md ops listed → wpOp P ops Q i (fun a' w' => R i w w' ∧ Ways P md ops Q R n (listed.setIfInBounds i true) a' w') a w
theorem Ways.any : ∀ (n : Nat) {listed : Array Bool} {a : Act} {w : World}, Ways P md ops Q R n listed a w → wpAny P md ops Q n listed a w
  | 0, _, _, _, h => h
  | n + 1, _, _, _, h => ⟨h.1, fun i hi => wpOp_mono (fun _ _ x => Ways.any n x.2) (h.2 i hi)⟩
/-- Who is not early waits for i. -/
def lateWait (md : Region.Mode) (ops : Array Oper) (listed : Array Bool) (early : Nat → Bool) (i : Nat) : Bool :=
  (List.range ops.size).all fun j => j == i || listed.getD j true || early j || match ops[j]? with
    | some o => o.after.any fun e => Region.binds md e && e.on == i
    | none => true
theorem lateWait_set {listed : Array Bool} {i j : Nat} (h : lateWait md ops listed early i = true) : lateWait md ops (listed.setIfInBounds j true) early i = true := by
  unfold lateWait at *
  rw [List.all_eq_true] at *
  intro k hk
  have h1 := h k hk
  by_cases hjk : j = k
  · subst hjk
    have hs : (listed.setIfInBounds j true).getD j true = true := by
      rcases Nat.lt_or_ge j listed.size with hl | hl
      · simp [hl]
      · simp [Array.getElem?_eq_none (show (listed.setIfInBounds j true).size ≤ j by simpa using hl)]
    simp [hs]
  · rw [getD_set_ne true hjk]; exact h1
theorem early_of {listed : Array Bool} {i j : Nat} {o : Oper} (h : lateWait md ops listed early i = true) (ho : ops[j]? = some o) (hji : j ≠ i) (hu : listed.getD j true = false) (hno : ∀ e ∈ o.after, Region.binds md e = true → e.on ≠ i) : early j = true := by
  unfold lateWait at h
  rw [List.all_eq_true] at h
  have h1 := h j (List.mem_range.2 (Array.getElem?_eq_some_iff.1 ho).1)
  rw [ho, hu] at h1
  have hb : (j == i) = false := by simpa using hji
  simp only [hb, Bool.false_or, Bool.or_eq_true] at h1
  rcases h1 with h1 | h1
  · exact h1
  · exfalso
    obtain ⟨e, he, hh⟩ := Array.any_eq_true'.1 h1
    rw [Bool.and_eq_true, beq_iff_eq] at hh
    exact hno e he hh.1 hh.2
theorem Ways.first {i : Nat} {oi : Oper} {v : Value} (hR : ∀ j w w', R j w w' → early j = true → S w → S w') (hRr : ∀ j w, R j w w) (hi : ops[i]? = some oi) (hs : Region.noSelect ops = true) (hQ : ∀ c a w, Q (.panic c) (a.put oi.dst v) w → Q (.panic c) a w) :
    ∀ (n : Nat) (listed : Array Bool) (a : Act) (w : World), lateWait md ops listed early i = true →
      (∀ j oj, ops[j]? = some oj → j ≠ i → listed.getD j true = false → (∀ e ∈ oj.after, Region.binds md e = true → e.on ≠ i) → oi.apart ops oj = true) →
      i ∈ Region.ready md ops listed → YieldsIf P ops S oi v a → S w → Ways P md ops Q R n (listed.setIfInBounds i true) (a.put oi.dst v) w → Ways P md ops Q R (n + 1) listed a w := by
  intro n
  induction n with
  | zero =>
    intro listed a w hlw hap hr hy hS H
    refine ⟨fun h0 => absurd hr (by rw [h0]; exact List.not_mem_nil), fun j hj => ?_⟩
    by_cases hji : j = i
    · rw [hji]; exact hy.wpOp hi hS ⟨hRr _ _, H⟩
    · have h1 := ready_mono hj hji
      rw [H.1] at h1
      exact absurd h1 List.not_mem_nil
  | succ n ih =>
    intro listed a w hlw hap hr hy hS H
    refine ⟨fun h0 => absurd hr (by rw [h0]; exact List.not_mem_nil), fun j hj => ?_⟩
    by_cases hji : j = i
    · rw [hji]; exact hy.wpOp hi hS ⟨hRr _ _, H⟩
    · have hiu := (mem_ready.1 hr).1
      obtain ⟨hju, oj, hoj, hall⟩ := mem_ready.1 hj
      have hno : ∀ e ∈ oj.after, Region.binds md e = true → e.on ≠ i := by
        intro e he hb heq
        have h1 := hall e he hb
        rw [heq] at h1
        have hlt : i < listed.size := by
          rcases Nat.lt_or_ge i listed.size with hl | hl
          · exact hl
          · simp [Array.getElem?_eq_none hl] at hiu
        simp [hlt] at hiu h1
        rw [hiu] at h1
        cases h1
      have hej := early_of hlw hoj hji hju hno
      have h2 := wpOp_putIf hoj (hap j oj hoj hji hju hno) (fun cs b => Region.noSelect_spec hs i oi cs b hi) (fun cs b => Region.noSelect_spec hs j oj cs b hoj) hQ hy (H.2 j (ready_mono hj hji))
      refine wpOp_mono (fun a' w' x => ⟨x.2.1, ih (listed.setIfInBounds j true) a' w' (lateWait_set hlw) (fun k ok hk hki hku hkn => hap k ok hk hki ?_ hkn) (ready_mono hr (Ne.symm hji)) x.1 (hR _ _ _ x.2.1 hej hS) ?_⟩) h2
      · by_cases hjk : j = k
        · rw [← hjk]; exact hju
        · rw [getD_set_ne true hjk] at hku; exact hku
      · rw [Array.setIfInBounds_comm _ _ hji]; exact x.2.2
/-- The i-th of a list, by reckoning alone. -/
def nth : List Oper → Nat → Option Oper
  | [], _ => none
  | o :: _, 0 => some o
  | _ :: l, i + 1 => nth l i
theorem nth_eq : ∀ (l : List Oper) (i : Nat), nth l i = l[i]?
  | [], _ => rfl
  | _ :: _, 0 => rfl
  | _ :: l, i + 1 => (nth_eq l i).trans (by simp)
theorem nth_ops {i : Nat} {o : Oper} (h : nth ops.toList i = some o) : ops[i]? = some o := by rw [← Array.getElem?_toList, ← nth_eq]; exact h
/-- Take number i first. -/
theorem Ways.take {i : Nat} {oi : Oper} (S : World → Prop) (early : Nat → Bool) (v : Value) {n : Nat} {listed : Array Bool} {a : Act} {w : World} (hi0 : nth ops.toList i = some oi) (hs : Region.noSelect ops = true) (hf : Region.free md ops listed i = true) (hlw : lateWait md ops listed early i = true)
    (hr : (Region.ready md ops listed).contains i = true) (hQ : ∀ c a w, Q (.panic c) (a.put oi.dst v) w → Q (.panic c) a w) (hS : S w) (hy : YieldsIf P ops S oi v a) (hR : ∀ j w w', R j w w' → early j = true → S w → S w') (hRr : ∀ j w, R j w w)
    (h : Ways P md ops Q R n (listed.setIfInBounds i true) (a.put oi.dst v) w) : Ways P md ops Q R (n + 1) listed a w :=
  Ways.first hR hRr (nth_ops hi0) hs hQ n listed a w hlw (Region.free_spec (nth_ops hi0) hf) (by simpa using hr) hy hS h
theorem Ways.firstT {i : Nat} {oi : Oper} {v : Value} (hRr : ∀ j w, R j w w) (hi : ops[i]? = some oi) (hs : Region.noSelect ops = true) (hQ : ∀ c a w, Q (.panic c) (a.put oi.dst v) w → Q (.panic c) a w) :
    ∀ (n : Nat) (listed : Array Bool) (a : Act) (w : World),
      (∀ j oj, ops[j]? = some oj → j ≠ i → listed.getD j true = false → (∀ e ∈ oj.after, Region.binds md e = true → e.on ≠ i) → oi.apart ops oj = true) →
      i ∈ Region.ready md ops listed → YieldsIf P ops (fun _ => True) oi v a → Ways P md ops Q R n (listed.setIfInBounds i true) (a.put oi.dst v) w → Ways P md ops Q R (n + 1) listed a w := by
  intro n
  induction n with
  | zero =>
    intro listed a w hap hr hy H
    refine ⟨fun h0 => absurd hr (by rw [h0]; exact List.not_mem_nil), fun j hj => ?_⟩
    by_cases hji : j = i
    · rw [hji]; exact hy.wpOp hi trivial ⟨hRr _ _, H⟩
    · have h1 := ready_mono hj hji
      rw [H.1] at h1
      exact absurd h1 List.not_mem_nil
  | succ n ih =>
    intro listed a w hap hr hy H
    refine ⟨fun h0 => absurd hr (by rw [h0]; exact List.not_mem_nil), fun j hj => ?_⟩
    by_cases hji : j = i
    · rw [hji]; exact hy.wpOp hi trivial ⟨hRr _ _, H⟩
    · have hiu := (mem_ready.1 hr).1
      obtain ⟨hju, oj, hoj, hall⟩ := mem_ready.1 hj
      have hno : ∀ e ∈ oj.after, Region.binds md e = true → e.on ≠ i := by
        intro e he hb heq
        have h1 := hall e he hb
        rw [heq] at h1
        have hlt : i < listed.size := by
          rcases Nat.lt_or_ge i listed.size with hl | hl
          · exact hl
          · simp [Array.getElem?_eq_none hl] at hiu
        simp [hlt] at hiu h1
        rw [hiu] at h1
        cases h1
      have h2 := wpOp_putIf hoj (hap j oj hoj hji hju hno) (fun cs b => Region.noSelect_spec hs i oi cs b hi) (fun cs b => Region.noSelect_spec hs j oj cs b hoj) hQ hy (H.2 j (ready_mono hj hji))
      refine wpOp_mono (fun a' w' x => ⟨x.2.1, ih (listed.setIfInBounds j true) a' w' (fun k ok hk hki hku hkn => hap k ok hk hki ?_ hkn) (ready_mono hr (Ne.symm hji)) x.1 ?_⟩) h2
      · by_cases hjk : j = k
        · rw [← hjk]; exact hju
        · rw [getD_set_ne true hjk] at hku; exact hku
      · rw [Array.setIfInBounds_comm _ _ hji]; exact x.2.2
/-- Take number i first, whatever the world. -/
theorem Ways.plain {i : Nat} {oi : Oper} (v : Value) {n : Nat} {listed : Array Bool} {a : Act} {w : World} (hi0 : nth ops.toList i = some oi) (hs : Region.noSelect ops = true) (hf : Region.free md ops listed i = true)
    (hr : (Region.ready md ops listed).contains i = true) (hQ : ∀ c a w, Q (.panic c) (a.put oi.dst v) w → Q (.panic c) a w) (hy : YieldsIf P ops (fun _ => True) oi v a) (hRr : ∀ j w, R j w w)
    (h : Ways P md ops Q R n (listed.setIfInBounds i true) (a.put oi.dst v) w) : Ways P md ops Q R (n + 1) listed a w :=
  Ways.firstT hRr (nth_ops hi0) hs hQ n listed a w (Region.free_spec (nth_ops hi0) hf) (by simpa using hr) hy h
/-- The beginning. -/
theorem ways_start {id : Nat} {a : Act} {w : World} (R : Nat → World → World → Prop) (hm : P.follows .mixedOrders = true) (h : Ways P .any ops Q R ops.size (Array.replicate ops.size false) a w.drew) : (Code.region id ops true).wp P Q a w :=
  wp_region_any hm (Ways.any _ h)
theorem Ways.done {listed : Array Bool} {a : Act} {w : World} (hr : Region.ready md ops listed = []) (h : Q .normal a w) : ∀ n, Ways P md ops Q R n listed a w
  | 0 => ⟨hr, h⟩
  | _ + 1 => ⟨fun _ => h, by rw [hr]; intro i hi; cases hi⟩
/-- One operation may come up: it comes up. -/
theorem Ways.one {i : Nat} {o : Oper} {n : Nat} {listed : Array Bool} {a : Act} {w : World} (ho0 : nth ops.toList i = some o) (hr : Region.ready md ops listed = [i])
    (h : ∀ K : Act → World → Prop, Shut (∀ a w', R i w w' → Ways P md ops Q R n (listed.setIfInBounds i true) a w' → K a w') → if Region.wanted o (yielded ops a.tmps) = true then Oper.wp P o a w K Q else K (a.put o.dst undef) w) : Ways P md ops Q R (n + 1) listed a w :=
  ⟨fun h0 => (by rw [hr] at h0; cases h0), fun j hj => by
    rw [hr] at hj
    obtain rfl := List.mem_singleton.1 hj
    exact wpOp_step (nth_ops ho0) (fun K hK => h K (fun a w hS hW => hK a w ⟨hS, hW⟩))⟩
/-- Two may. -/
theorem Ways.two {i j : Nat} {o p : Oper} {n : Nat} {listed : Array Bool} {a : Act} {w : World} (ho0 : nth ops.toList i = some o) (hp0 : nth ops.toList j = some p) (hr : Region.ready md ops listed = [i, j])
    (h : ∀ K : Act → World → Prop, Shut (∀ a w', R i w w' → Ways P md ops Q R n (listed.setIfInBounds i true) a w' → K a w') → if Region.wanted o (yielded ops a.tmps) = true then Oper.wp P o a w K Q else K (a.put o.dst undef) w)
    (h2 : ∀ K : Act → World → Prop, Shut (∀ a w', R j w w' → Ways P md ops Q R n (listed.setIfInBounds j true) a w' → K a w') → if Region.wanted p (yielded ops a.tmps) = true then Oper.wp P p a w K Q else K (a.put p.dst undef) w) : Ways P md ops Q R (n + 1) listed a w :=
  ⟨fun h0 => (by rw [hr] at h0; cases h0), fun k hk => by
    rw [hr] at hk
    rcases List.mem_cons.1 hk with rfl | hk
    · exact wpOp_step (nth_ops ho0) (fun K hK => h K (fun a w hS hW => hK a w ⟨hS, hW⟩))
    · obtain rfl := List.mem_singleton.1 hk
      exact wpOp_step (nth_ops hp0) (fun K hK => h2 K (fun a w hS hW => hK a w ⟨hS, hW⟩))⟩
/-- Three may. -/
theorem Ways.three {i j l : Nat} {o p q : Oper} {n : Nat} {listed : Array Bool} {a : Act} {w : World} (ho0 : nth ops.toList i = some o) (hp0 : nth ops.toList j = some p) (hq0 : nth ops.toList l = some q) (hr : Region.ready md ops listed = [i, j, l])
    (h : ∀ K : Act → World → Prop, Shut (∀ a w', R i w w' → Ways P md ops Q R n (listed.setIfInBounds i true) a w' → K a w') → if Region.wanted o (yielded ops a.tmps) = true then Oper.wp P o a w K Q else K (a.put o.dst undef) w)
    (h2 : ∀ K : Act → World → Prop, Shut (∀ a w', R j w w' → Ways P md ops Q R n (listed.setIfInBounds j true) a w' → K a w') → if Region.wanted p (yielded ops a.tmps) = true then Oper.wp P p a w K Q else K (a.put p.dst undef) w)
    (h3 : ∀ K : Act → World → Prop, Shut (∀ a w', R l w w' → Ways P md ops Q R n (listed.setIfInBounds l true) a w' → K a w') → if Region.wanted q (yielded ops a.tmps) = true then Oper.wp P q a w K Q else K (a.put q.dst undef) w) : Ways P md ops Q R (n + 1) listed a w :=
  ⟨fun h0 => (by rw [hr] at h0; cases h0), fun k hk => by
    rw [hr] at hk
    rcases List.mem_cons.1 hk with rfl | hk
    · exact wpOp_step (nth_ops ho0) (fun K hK => h K (fun a w hS hW => hK a w ⟨hS, hW⟩))
    · rcases List.mem_cons.1 hk with rfl | hk
      · exact wpOp_step (nth_ops hp0) (fun K hK => h2 K (fun a w hS hW => hK a w ⟨hS, hW⟩))
      · obtain rfl := List.mem_singleton.1 hk
        exact wpOp_step (nth_ops hq0) (fun K hK => h3 K (fun a w hS hW => hK a w ⟨hS, hW⟩))⟩
end
#print axioms Ways.take
end Go.Proofs.Ythkacajlbenflaa.Held3
