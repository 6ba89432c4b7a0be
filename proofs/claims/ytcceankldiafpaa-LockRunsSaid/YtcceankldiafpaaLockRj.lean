/- LockRuns: what the table says in order is what the law's lines say. -/
import Derived.Test.YtcceankldiafpaaLockRi
set_option linter.unusedVariables false
set_option linter.unusedSimpArgs false
set_option linter.unusedSectionVars false
namespace Go.Proofs.Ytcceankldiafpaa.Lock
open Go.RowKit Go.WideShapes Go.Deep Go.Proofs.Ytcceankldiafpaa.Mem Go.Proofs.Ytcceankldiafpaa.Open Go.Proofs.Ytcceankldiafpaa.Maps
theorem uniq_sorted : ∀ {xs ys : List S}, xs.Pairwise kLt → ys.Pairwise kLt → (∀ k, k ∈ xs ↔ k ∈ ys) → xs = ys
  | [], [], _, _, _ => rfl
  | [], y :: ys, _, _, h => by have := (h y).2 (List.mem_cons_self ..); cases this
  | x :: xs, [], _, _, h => by have := (h x).1 (List.mem_cons_self ..); cases this
  | x :: xs, y :: ys, h1, h2, h => by
    have a1 := List.pairwise_cons.1 h1
    have a2 := List.pairwise_cons.1 h2
    have e : x = y := by
      rcases List.mem_cons.1 ((h x).1 (List.mem_cons_self ..)) with e | e
      · exact e
      · rcases List.mem_cons.1 ((h y).2 (List.mem_cons_self ..)) with e2 | e2
        · exact e2.symm
        · have b1 := a1.1 y e2
          have b2 := a2.1 x e
          have b3 : Kv.lt x x = true := Kv.lt_trans b1 b2
          rw [Kv.lt_irrefl] at b3
          cases b3
    subst e
    rw [uniq_sorted a1.2 a2.2 fun k => ⟨fun hk => ?_, fun hk => ?_⟩]
    · rcases List.mem_cons.1 ((h k).1 (List.mem_cons_of_mem _ hk)) with e | e
      · exact absurd e.symm (Kv.lt_ne (a1.1 k hk))
      · exact e
    · rcases List.mem_cons.1 ((h k).2 (List.mem_cons_of_mem _ hk)) with e | e
      · exact absurd e.symm (Kv.lt_ne (a2.1 k hk))
      · exact e
theorem sorted_ofB : ∀ {ks : List (List UInt8)}, ks.Pairwise (fun a b => ¬ b < a) → (ks.map ofB).Nodup → (ks.map ofB).Pairwise kLt
  | [], _, _ => List.Pairwise.nil
  | a :: ks, h, hn => by
    have h1 := List.pairwise_cons.1 h
    have h2 := List.nodup_cons.1 (show (ofB a :: ks.map ofB).Nodup from hn)
    refine List.pairwise_cons.2 ⟨fun k hk => ?_, sorted_ofB h1.2 h2.2⟩
    obtain ⟨b, hb, rfl⟩ := List.mem_map.1 hk
    have hne : a ≠ b := fun e => h2.1 (by rw [e]; exact hk)
    have hnl := h1.1 b hb
    show Op.bytesLess (ofB a).data.toList (ofB b).data.toList = true
    have e1 : (ofB a).data.toList = a := by simp [ofB]
    have e2 : (ofB b).data.toList = b := by simp [ofB]
    rw [e1, e2]
    rcases Kv.less_total hne with e | e
    · exact e
    · rw [Go.Proofs.bytesLess_eq, decide_eq_true_eq] at e
      exact absurd e hnl
def fullB (o : Ln) : Bool := decide (0 < o.has.length + o.waits.length)
section
variable {N M : Nat} {qs qs' : List (S × Qv)} {os : List Ln} {p : Int × Int}
theorem RunK.full (h : RunK N M qs os) {o : Ln} (ho : o ∈ os) : fullB o = true ↔ ∃ q, getM qs o.key = some q := by
  have hs := h.same1 o ho
  unfold fullB
  rw [decide_eq_true_eq]
  unfold lineOf at hs
  cases hq : getM qs o.key with
  | none =>
    rw [hq] at hs
    have hs' : (([] : List Wt), ([] : List Wt)) = (o.has, o.waits) := hs
    injection hs' with e1 e2
    rw [← e1, ← e2]
    simp
  | some q =>
    rw [hq] at hs
    have hs' : (q.has, q.waits) = (o.has, o.waits) := hs
    injection hs' with e1 e2
    have hn := h.ne _ _ hq
    rw [e1, e2] at hn
    refine ⟨fun _ => ⟨q, rfl⟩, fun _ => ?_⟩
    rcases hn with e | e
    · have := List.length_pos_iff.2 e; omega
    · have := List.length_pos_iff.2 e; omega
/-- The keys of the table, in order. -/
theorem RunK.keys (h : RunK N M qs os) (hs : os.Pairwise fun a b => kLt a.key b.key) (hk : Keys1 qs) {ks : List S} (hp : ks.Perm (qs.map (·.1))) (hso : ks.Pairwise kLt) : ks = (os.filter fullB).map Ln.key := by
  refine uniq_sorted hso ?_ fun k => ?_
  · rw [List.pairwise_map]
    exact hs.filter _
  · rw [hp.mem_iff, List.mem_map, List.mem_map]
    constructor
    · rintro ⟨q, hq, rfl⟩
      obtain ⟨i, hi⟩ := List.getElem?_of_mem hq
      have hg := getM_at hk hi
      by_cases hx : ∃ o ∈ os, o.key = q.1
      · obtain ⟨o, ho, e⟩ := hx
        exact ⟨o, List.mem_filter.2 ⟨ho, (h.full ho).2 ⟨_, by rw [e]; exact hg⟩⟩, e⟩
      · have h2 := h.same2 q.1 fun o ho e => hx ⟨o, ho, e⟩
        have hn := h.ne _ _ hg
        unfold lineOf at h2
        rw [hg] at h2
        injection h2 with e1 e2
        rcases hn with e | e
        · exact absurd e1 e
        · exact absurd e2 e
    · rintro ⟨o, ho, rfl⟩
      obtain ⟨ho1, ho2⟩ := List.mem_filter.1 ho
      obtain ⟨q, hq⟩ := (h.full ho1).1 ho2
      exact ⟨_, getM_mem hq, rfl⟩
theorem RunK.count (h : RunK N M qs os) (hs : os.Pairwise fun a b => kLt a.key b.key) (hk : Keys1 qs) {ks : List (List UInt8)} (hp : (ks.map ofB).Perm (qs.map (·.1))) (hso : ks.Pairwise fun a b => ¬ b < a) : qs.length = (os.filter fullB).length := by
  have e := h.keys hs hk hp (sorted_ofB hso (hp.nodup_iff.2 hk))
  have h1 := hp.length_eq
  have h2 := congrArg List.length e
  rw [List.length_map] at h1 h2
  rw [List.length_map] at h1 h2
  omega
/-- Whose keys those are. -/
theorem RunK.mine (h : RunK N M qs os) (hs : os.Pairwise fun a b => kLt a.key b.key) (hk : Keys1 qs) {ks : List (List UInt8)} (hp : (ks.map ofB).Perm (qs.map (·.1))) (hso : ks.Pairwise fun a b => ¬ b < a) (p : Int × Int) :
    (ks.map ofB).filter (fun k => hasT (lineOf qs k).1 p) = (os.filter fun o => hasT o.has p).map Ln.key := by
  rw [h.keys hs hk hp (sorted_ofB hso (hp.nodup_iff.2 hk)), List.filter_map]
  congr 1
  rw [List.filter_filter]
  refine List.filter_congr fun o ho => ?_
  have e := h.same1 o ho
  show (hasT (lineOf qs o.key).1 p && fullB o) = _
  rw [e]
  cases hh : hasT o.has p with
  | false =>
    show (hasT o.has p && _) = _
    rw [hh]; rfl
  | true =>
    show (hasT o.has p && _) = _
    rw [hh, Bool.true_and]
    obtain ⟨u, hu, _⟩ := List.any_eq_true.1 hh
    have := List.length_pos_of_mem hu
    unfold fullB
    rw [decide_eq_true_eq]
    omega
/-- What Free grants, in order. -/
theorem RunK.grants (h : RunK N M qs os) (hs : os.Pairwise fun a b => kLt a.key b.key) (hk : Keys1 qs) {ks : List (List UInt8)} (hp : (ks.map ofB).Perm (qs.map (·.1))) (hso : ks.Pairwise fun a b => ¬ b < a) (p : Int × Int) :
    ((ks.map ofB).flatMap fun k => grs k (freeL (lineOf qs k) p).2) = os.flatMap fun o => grs o.key (freeL o.ln p).2 := by
  rw [h.keys hs hk hp (sorted_ofB hso (hp.nodup_iff.2 hk))]
  have : ∀ ls : List Ln, (∀ o ∈ ls, o ∈ os) → (((ls.filter fullB).map Ln.key).flatMap fun k => grs k (freeL (lineOf qs k) p).2) = ls.flatMap fun o => grs o.key (freeL o.ln p).2 := by
    intro ls
    induction ls with
    | nil => intro _; rfl
    | cons o ls ih =>
      intro hin
      have ho := hin o (List.mem_cons_self ..)
      have hi := ih fun x hx => hin x (List.mem_cons_of_mem _ hx)
      rw [List.flatMap_cons, List.filter_cons]
      split
      · rw [List.map_cons, List.flatMap_cons, hi, h.same1 o ho]
      · rename_i hf
        have hz : o.ln = ([], []) := by
          unfold fullB at hf
          rw [decide_eq_true_eq] at hf
          have e1 : o.has = [] := List.eq_nil_of_length_eq_zero (by omega)
          have e2 : o.waits = [] := List.eq_nil_of_length_eq_zero (by omega)
          show (o.has, o.waits) = _
          rw [e1, e2]
        rw [hi, hz, freeL_nil]
        rfl
  exact this os fun o ho => ho
/-- The table freed, and each of the law's lines. -/
theorem RunK.free {w w' : World} {B lt mb : Nat} {os' : List Ln} {ks : List (List UInt8)} {gs : List Gr} (h : RunK N M qs os) (hk : os'.map Ln.key = os.map Ln.key) (hl : os'.map Ln.ln = os.map fun o => (freeL o.ln p).1) (hf : FreeO w w' B lt mb N qs qs' p ks gs) : RunK N M qs' os' := by
  have hlen : os'.length = os.length := by have := congrArg List.length hk; simpa using this
  refine ⟨hf.bnd, Nat.le_trans hf.len h.len, hf.ne h.ne, by have := h.osl; omega, fun o ho => ?_, fun k hkk => ?_⟩
  · obtain ⟨i, hi⟩ := List.getElem?_of_mem ho
    have hlt := (List.getElem?_eq_some_iff.1 hi).1
    obtain ⟨x, hx⟩ : ∃ x, os[i]? = some x := ⟨os[i]'(by omega), List.getElem?_eq_getElem _⟩
    have e1 : (os'.map Ln.key)[i]? = some o.key := by rw [List.getElem?_map, hi]; rfl
    have e2 : (os'.map Ln.ln)[i]? = some o.ln := by rw [List.getElem?_map, hi]; rfl
    rw [hk, List.getElem?_map, hx] at e1
    rw [hl, List.getElem?_map, hx] at e2
    have e1' : x.key = o.key := by simpa using e1
    have e2' : (freeL x.ln p).1 = o.ln := by simpa using e2
    rw [hf.line, ← e2', ← e1', h.same1 x (List.mem_of_getElem? hx)]
  · rw [hf.line, h.same2 k fun x hx e => ?_, freeL_nil]
    have : x.key ∈ os'.map Ln.key := by rw [hk]; exact List.mem_map.2 ⟨x, hx, rfl⟩
    obtain ⟨o, ho, e2⟩ := List.mem_map.1 this
    exact hkk o ho (e2.trans e)
end
#print axioms RunK.mine
#print axioms RunK.grants
#print axioms RunK.free
end Go.Proofs.Ytcceankldiafpaa.Lock
