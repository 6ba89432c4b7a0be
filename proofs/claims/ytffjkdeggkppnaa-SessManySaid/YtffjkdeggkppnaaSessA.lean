/- A node's sessions in memory. -/
import Derived.Test.YtffjkdeggkppnaaTid
import Derived.Test.YtffjkdeggkppnaaKeyA
import Derived.Test.YtffjkdeggkppnaaOpen
import Derived.Test.YtffjkdeggkppnaaRes
import Derived.Deep.Cut
import Derived.Deep.CutRange
set_option linter.unusedVariables false
set_option linter.unusedSimpArgs false
set_option linter.unusedSectionVars false
namespace Go.Proofs.Ytffjkdeggkppnaa.Sess
open Go.RowKit Go.WideShapes Go.Deep Go.Proofs.Ytffjkdeggkppnaa.Mem Go.Proofs.Ytffjkdeggkppnaa.Maps Go.Proofs.Ytffjkdeggkppnaa.Tid
abbrev S := ByteArray
structure Ans where
  sess : Int
  req : Int
  code : Int
  val : S
  has : Bool
  tid : Int × Int
structure One where
  req : Int
  busy : Bool
  tid : Int × Int
  op : Bool
  last : Ans
def ansV (a : Ans) : Value := .agg #[.int .i64 a.sess, .int .i64 a.req, .int .i64 a.code, .string a.val, .bool a.has, .int .u64 a.tid.1, .int .i64 a.tid.2]
def ansR (a : Ans) : Obj := .cells #[.int .i64 a.sess, .int .i64 a.req, .int .i64 a.code, .string a.val, .bool a.has, .int .u64 a.tid.1, .int .i64 a.tid.2] 34 (0, 0)
def oneR (o : One) : Obj := .cells #[.int .i64 o.req, .bool o.busy, .int .u64 o.tid.1, .int .i64 o.tid.2, .bool o.op, .int .i64 o.last.sess, .int .i64 o.last.req, .int .i64 o.last.code, .string o.last.val, .bool o.last.has, .int .u64 o.last.tid.1, .int .i64 o.last.tid.2] 57 (0, 0)
def encI (n : Int) : Value := .int .i64 n
def OkI (n : Int) : Prop := (Lit.int .i64 n).wf = true
def encQ (q : Nat × One) : Value := .pointer (some ⟨q.1, 0, none⟩)
theorem km_int : Km Try.prog 3 encI OkI :=
  ⟨Maps.int_keyed Try.underlying3, fun x hx => ⟨.int .i64 x, by
    unfold OkI at hx
    simp [keyOf, mapKey, Try.underlying3, encI, hx]⟩, fun x y e => by unfold encI at e; injection e⟩
abbrev SAt := MapAt encI encQ OkI
abbrev OAt := MapAt encT encI IdOk
/-- The table. -/
structure Tab (w : World) (B gt ba bo : Nat) (ss : List (Int × (Nat × One))) (of : List ((Int × Int) × Int)) : Prop where
  ft : w.heap[gt]? = some (.cells #[.map (some ba), .map (some bo)] 54 (0, 0))
  fa : SAt w ba ss
  fo : OAt w bo of
  rows : ∀ n q, getM ss n = some q → w.heap[q.1]? = some (oneR q.2) ∧ B ≤ q.1
  lt : B ≤ gt
  la : B ≤ ba
  lo : B ≤ bo
  apart : ∀ n m q r, getM ss n = some q → getM ss m = some r → q.1 = r.1 → n = m
  ne : ba ≠ bo
  into : ∀ t n, getM of t = some n → ∃ q, getM ss n = some q
/-- What a call turns: below B nothing; no row of another type than a session's. -/
structure Kp (B : Nat) (w w' : World) : Prop where
  below : Below B w w'
  cells : ∀ (g : Nat) (cs : Array Value) (t : TypeId) (f : Nat × Nat), w.heap[g]? = some (.cells cs t f) → t ≠ 57 → w'.heap[g]? = some (.cells cs t f)
section
variable {B gt ba bo : Nat} {w w' w2 : World} {ss : List (Int × (Nat × One))} {of : List ((Int × Int) × Int)}
theorem lt_size {w : World} {g : Nat} {o : Obj} (h : w.heap[g]? = some o) : g < w.heap.size := (Array.getElem?_eq_some_iff.1 h).1
theorem Kp.refl (B : Nat) (w : World) : Kp B w w := ⟨Below.refl _ _, fun _ _ _ _ h _ => h⟩
theorem Kp.trans (h : Kp B w w') (k : Kp B w' w2) : Kp B w w2 := ⟨h.below.trans k.below, fun g cs t f hg ht => k.cells g cs t f (h.cells g cs t f hg ht) ht⟩
theorem Kp.of_below (h : Below w.heap.size w w') (hB : B ≤ w.heap.size) : Kp B w w' := ⟨h.mono hB, fun g cs t f hg _ => (h.block g (lt_size hg)).trans hg⟩
theorem Kp.of_turned {b : Nat} (h : Turned w w' b) (hB : B ≤ b) (hm : ∃ es c, w.heap[b]? = some (.map es c)) : Kp B w w' :=
  ⟨below_turned h (Below.refl _ _) hB, fun g cs t f hg _ => by
    refine (h.fr.block g (lt_size hg) fun e => ?_).trans hg
    subst e
    obtain ⟨es, c, hm⟩ := hm
    rw [hg] at hm
    cases hm⟩
theorem Kp.of_fr {g : Nat} {cs : Array Value} {f : Nat × Nat} (h : Fr (fun k => k = g) w w') (hB : B ≤ g) (hBw : B ≤ w.heap.size) (hg : w.heap[g]? = some (.cells cs 57 f)) : Kp B w w' :=
  ⟨h.below hBw (fun i _ e => by omega), fun k c t f' hk ht => by
    refine (h.block k (lt_size hk) fun e => ?_).trans hk
    subst e
    rw [hg] at hk
    injection hk with hk
    injection hk with _ e
    exact ht e.symm⟩
theorem Kp.drewN (h : Kp B w w') (n : Nat) : Kp B w (w'.drewN n) := ⟨below_drewN h.below n, h.cells⟩
theorem Kp.drew (h : Kp B w w') : Kp B w w'.drew := h.drewN 1
theorem Tab.size (h : Tab w B gt ba bo ss of) : B ≤ w.heap.size := by have := lt_size h.ft; have := h.lt; omega
theorem Tab.below (h : Tab w B gt ba bo ss of) (hb : Below w.heap.size w w') : Tab w' B gt ba bo ss of :=
  ⟨(hb.block _ (lt_size h.ft)).trans h.ft, h.fa.below hb, h.fo.below hb, fun n q hq => ⟨(hb.block _ (lt_size (h.rows n q hq).1)).trans (h.rows n q hq).1, (h.rows n q hq).2⟩, h.lt, h.la, h.lo, h.apart, h.ne, h.into⟩
theorem Tab.drewN (h : Tab w B gt ba bo ss of) (n : Nat) : Tab (w.drewN n) B gt ba bo ss of := ⟨h.ft, h.fa, h.fo, h.rows, h.lt, h.la, h.lo, h.apart, h.ne, h.into⟩
theorem Tab.alloc (h : Tab w B gt ba bo ss of) (o : Obj) : Tab (w.alloc o) B gt ba bo ss of := h.below ((Below.refl _ _).alloc (Nat.le_refl _) _)
theorem map_encQ {ss : List (Int × (Nat × One))} {n : Int} {g : Nat} {o o' : One} (hk : Keys1 ss) (h : getM ss n = some (g, o)) : (setM ss n (g, o')).map (fun p => (encI p.1, encQ p.2)) = ss.map (fun p => (encI p.1, encQ p.2)) := by
  have hm := getM_mem h
  unfold setM
  rw [if_pos (List.any_eq_true.2 ⟨_, hm, by simp⟩), List.map_map]
  apply List.map_congr_left
  intro p hp
  simp only [Function.comp]
  by_cases e : p.1 = n
  · rw [if_pos e]
    obtain ⟨i, hi⟩ := List.getElem?_of_mem hp
    obtain ⟨j, hj⟩ := List.getElem?_of_mem hm
    have := keys_at hk hi hj e
    subst this
    rw [hi] at hj
    injection hj with hj
    rw [hj]; rfl
  · rw [if_neg e]
theorem SAt.same {b : Nat} {n : Int} {g : Nat} {o o' : One} (h : SAt w b ss) (hq : getM ss n = some (g, o)) (hk : w'.heap[b]? = w.heap[b]?) : SAt w' b (setM ss n (g, o')) := by
  obtain ⟨es, c, h1, h2, h3, h4, h5⟩ := h
  refine ⟨es, c, hk.trans h1, h2.trans (map_encQ h4 hq).symm, ?_, keys_set h4 _ _, h5⟩
  intro p hp
  have := map_encQ (o' := o') h4 hq
  have hp' : (encI p.1, encQ p.2) ∈ ss.map (fun p => (encI p.1, encQ p.2)) := this ▸ List.mem_map.2 ⟨p, hp, rfl⟩
  obtain ⟨r, hr, e⟩ := List.mem_map.1 hp'
  have e1 : encI r.1 = encI p.1 := congrArg Prod.fst e
  have e2 : r.1 = p.1 := by unfold encI at e1; injection e1
  rw [← e2]; exact h3 r hr
/-- A session's row is laid anew. -/
theorem Tab.set (h : Tab w B gt ba bo ss of) {n : Int} {g : Nat} {o o' : One} (hq : getM ss n = some (g, o)) (hf : Fr (fun k => k = g) w w') (hg : w'.heap[g]? = some (oneR o')) : Tab w' B gt ba bo (setM ss n (g, o')) of ∧ Kp B w w' := by
  have hr := h.rows n _ hq
  have hnm : ∀ b es c, w.heap[b]? = some (.map es c) → b ≠ g := fun b es c hb e => by
    subst e
    rw [hr.1] at hb
    cases hb
  have hka : w'.heap[ba]? = w.heap[ba]? := by
    obtain ⟨es, c, h1, _⟩ := h.fa
    exact hf.block _ h.fa.lt (hnm _ _ _ h1)
  have hko : w'.heap[bo]? = w.heap[bo]? := by
    obtain ⟨es, c, h1, _⟩ := h.fo
    exact hf.block _ h.fo.lt (hnm _ _ _ h1)
  have hgt : gt ≠ g := fun e => by
    subst e
    have := h.ft.symm.trans hr.1
    injection this with this
    injection this with _ e
    exact absurd e (by decide)
  refine ⟨⟨(hf.block _ (lt_size h.ft) hgt).trans h.ft, h.fa.same hq hka, h.fo.kept hko, ?_, h.lt, h.la, h.lo, ?_, h.ne, ?_⟩, ?_⟩
  · intro m r hm
    rw [getM_set] at hm
    split at hm
    · injection hm with hm
      subst hm
      exact ⟨hg, hr.2⟩
    · rename_i hmn
      have hm' := h.rows m r hm
      refine ⟨(hf.block _ (lt_size hm'.1) fun e => hmn (h.apart n m _ _ hq hm e.symm)).trans hm'.1, hm'.2⟩
  · intro a b q r ha hb e
    rw [getM_set] at ha hb
    split at ha <;> split at hb
    · rename_i h1 h2; exact h1.symm.trans h2
    · rename_i h1 h2
      injection ha with ha
      subst ha
      exact h1.symm.trans (h.apart n b _ _ hq hb e)
    · rename_i h1 h2
      injection hb with hb
      subst hb
      exact (h.apart a n _ _ ha hq e).trans h2
    · exact h.apart a b q r ha hb e
  · intro t m hm
    obtain ⟨q, hq'⟩ := h.into t m hm
    rw [getM_set]
    split
    · exact ⟨_, rfl⟩
    · exact ⟨q, hq'⟩
  · exact Kp.of_fr hf hr.2 h.size (by exact hr.1)
/-- A session more, whose row is new. -/
theorem Tab.more (h : Tab w B gt ba bo ss of) {n : Int} {g : Nat} {o : One} (hn : getM ss n = none) (hg : w.heap[g]? = some (oneR o)) (hgB : B ≤ g) (hnew : ∀ m q, getM ss m = some q → q.1 ≠ g) (ht : Turned w w' ba) (hm : SAt w' ba (setM ss n (g, o))) : Tab w' B gt ba bo (setM ss n (g, o)) of ∧ Kp B w w' := by
  obtain ⟨es, c, h1, _⟩ := h.fa
  have hc : ∀ (k : Nat) (cs : Array Value) (t : TypeId) (f : Nat × Nat), w.heap[k]? = some (.cells cs t f) → w'.heap[k]? = some (.cells cs t f) := fun k cs t f hk => (ht.fr.block k (lt_size hk) fun e => by
    subst e
    rw [hk] at h1
    cases h1).trans hk
  refine ⟨⟨hc _ _ _ _ h.ft, hm, h.fo.kept (ht.fr.block _ h.fo.lt fun e => h.ne e.symm), ?_, h.lt, h.la, h.lo, ?_, h.ne, ?_⟩, Kp.of_turned ht h.la ⟨_, _, h1⟩⟩
  · intro m r hm
    rw [getM_set] at hm
    split at hm
    · injection hm with hm
      subst hm
      exact ⟨hc _ _ _ _ hg, hgB⟩
    · exact ⟨hc _ _ _ _ (h.rows m r hm).1, (h.rows m r hm).2⟩
  · intro a b q r ha hb e
    rw [getM_set] at ha hb
    split at ha <;> split at hb
    · rename_i h1 h2; exact h1.symm.trans h2
    · injection ha with ha
      subst ha
      exact absurd e.symm (hnew b r hb)
    · injection hb with hb
      subst hb
      exact absurd e (hnew a q ha)
    · exact h.apart a b q r ha hb e
  · intro t m hm
    obtain ⟨q, hq'⟩ := h.into t m hm
    rw [getM_set]
    split
    · exact ⟨_, rfl⟩
    · exact ⟨q, hq'⟩
theorem Tab.turnO (h : Tab w B gt ba bo ss of) (ht : Turned w w' bo) {of' : List ((Int × Int) × Int)} (hm : OAt w' bo of') (hin : ∀ t n, getM of' t = some n → ∃ q, getM ss n = some q) : Tab w' B gt ba bo ss of' ∧ Kp B w w' := by
  obtain ⟨es, c, h1, _⟩ := h.fo
  have hc : ∀ (k : Nat) (cs : Array Value) (t : TypeId) (f : Nat × Nat), w.heap[k]? = some (.cells cs t f) → w'.heap[k]? = some (.cells cs t f) := fun k cs t f hk => (ht.fr.block k (lt_size hk) fun e => by
    subst e
    rw [hk] at h1
    cases h1).trans hk
  exact ⟨⟨hc _ _ _ _ h.ft, h.fa.kept (ht.fr.block _ h.fa.lt h.ne), hm, fun n q hq => ⟨hc _ _ _ _ (h.rows n q hq).1, (h.rows n q hq).2⟩, h.lt, h.la, h.lo, h.apart, h.ne, hin⟩, Kp.of_turned ht h.lo ⟨_, _, h1⟩⟩
theorem Kp.new (h : Kp B w w') {g : Nat} (hf : Fr (fun k => k = g) w' w2) (hg : w.heap.size ≤ g) (hB : B ≤ w.heap.size) : Kp B w w2 :=
  ⟨h.below.trans (hf.below (Nat.le_trans hB h.below.size) (fun i _ e => by omega)), fun k cs t f hk ht => (hf.block k (by have := lt_size (h.cells k cs t f hk ht); omega) (by have := lt_size hk; omega)).trans (h.cells k cs t f hk ht)⟩
theorem Tab.skip (h : Tab w B gt ba bo ss of) {g : Nat} (hf : Fr (fun k => k = g) w w') {cs : Array Value} {t : TypeId} {f : Nat × Nat} (hg : w.heap[g]? = some (.cells cs t f)) (h1 : t ≠ 57) (h2 : t ≠ 54) : Tab w' B gt ba bo ss of := by
  have hm : ∀ b es c, w.heap[b]? = some (.map es c) → b ≠ g := fun b es c hb e => by
    subst e
    rw [hg] at hb
    cases hb
  have hc : ∀ (k : Nat) (cs' : Array Value) (t' : TypeId) (f' : Nat × Nat), w.heap[k]? = some (.cells cs' t' f') → t' ≠ t → k ≠ g := fun k cs' t' f' hk ht e => by
    subst e
    rw [hg] at hk
    injection hk with hk
    injection hk with _ e
    exact ht e.symm
  refine ⟨(hf.block _ (lt_size h.ft) (hc _ _ _ _ h.ft fun e => h2 e.symm)).trans h.ft, ?_, ?_, fun n q hq => ⟨(hf.block _ (lt_size (h.rows n q hq).1) (hc _ _ _ _ (h.rows n q hq).1 fun e => h1 e.symm)).trans (h.rows n q hq).1, (h.rows n q hq).2⟩, h.lt, h.la, h.lo, h.apart, h.ne, h.into⟩
  · obtain ⟨es, c, e1, _⟩ := h.fa
    exact h.fa.kept (hf.block _ h.fa.lt (hm _ _ _ e1))
  · obtain ⟨es, c, e1, _⟩ := h.fo
    exact h.fo.kept (hf.block _ h.fo.lt (hm _ _ _ e1))
theorem run_sess (h : Tab w B gt ba bo ss of) {n : Int} (hn : OkI n) : (Instr.lookup 51 (.map (some ba)) (.int .i64 n) false).run Try.prog w = .ok (.pointer ((getM ss n).map fun q => ⟨q.1, 0, none⟩)) w := by
  have h1 := run_lookup (P := Try.prog) (t := 51) (e := 55) (z := .pointer none) km_int Try.underlying51 (by kernel_rfl) h.fa (x := n) hn false
  unfold encI at h1
  rw [h1]
  cases getM ss n <;> rfl
theorem run_of (h : Tab w B gt ba bo ss of) {t : Int × Int} (ht : IdOk t) : (Instr.lookup 52 (.map (some bo)) (.agg #[.int .u64 t.1, .int .i64 t.2]) true).run Try.prog w = .ok (.tuple #[.int .i64 ((getM of t).getD 0), .bool (getM of t).isSome]) w := by
  have h1 := run_lookup (P := Try.prog) (t := 52) (e := 3) (z := .int .i64 0) km_tid Try.underlying52 (by kernel_rfl) h.fo (x := t) ht true
  unfold encT at h1
  rw [h1]
  cases getM of t <;> rfl
theorem run_lens (h : Tab w B gt ba bo ss of) (ty : TypeId) : (Builtin.len_ #[51] ty #[.map (some ba)]).run Try.prog w = .ok (.int .i64 ss.length) w := Maps.run_len (P := Try.prog) Try.underlying51 h.fa
theorem cell_at {w : World} {g : Nat} {cs : Array Value} {t : TypeId} (hr : w.heap[g]? = some (.cells cs t (0, 0))) {j : Nat} {u : Value} (h : cs[j]? = some u) : w.cell? ⟨g, j, none⟩ = some u := by
  rw [cell_of_row _ _ _ _ _ _ hr]; exact h
theorem cell_free {w : World} {g : Nat} {cs : Array Value} {t : TypeId} (hr : w.heap[g]? = some (.cells cs t (0, 0))) (j : Nat) : w.frozen? ⟨g, j, none⟩ = false := by unfold World.frozen?; rw [hr]; rfl
theorem tab_cells (h : Tab w B gt ba bo ss of) : w.cell? ⟨gt, 0, none⟩ = some (.map (some ba)) ∧ w.cell? ⟨gt, 1, none⟩ = some (.map (some bo)) := ⟨cell_at h.ft rfl, cell_at h.ft rfl⟩
theorem one_cells {g : Nat} {o : One} (h : w.heap[g]? = some (oneR o)) :
    w.cell? ⟨g, 0, none⟩ = some (.int .i64 o.req) ∧ w.cell? ⟨g, 1, none⟩ = some (.bool o.busy) ∧ w.cell? ⟨g, 2, none⟩ = some (.int .u64 o.tid.1) ∧ w.cell? ⟨g, 3, none⟩ = some (.int .i64 o.tid.2) ∧ w.cell? ⟨g, 4, none⟩ = some (.bool o.op) ∧ w.cell? ⟨g, 5, none⟩ = some (.int .i64 o.last.sess) ∧ w.cell? ⟨g, 6, none⟩ = some (.int .i64 o.last.req) ∧ w.cell? ⟨g, 7, none⟩ = some (.int .i64 o.last.code) ∧ w.cell? ⟨g, 8, none⟩ = some (.string o.last.val) ∧ w.cell? ⟨g, 9, none⟩ = some (.bool o.last.has) ∧ w.cell? ⟨g, 10, none⟩ = some (.int .u64 o.last.tid.1) ∧ w.cell? ⟨g, 11, none⟩ = some (.int .i64 o.last.tid.2) ∧ ∀ j, w.frozen? ⟨g, j, none⟩ = false :=
  ⟨cell_at h rfl, cell_at h rfl, cell_at h rfl, cell_at h rfl, cell_at h rfl, cell_at h rfl, cell_at h rfl, cell_at h rfl, cell_at h rfl, cell_at h rfl, cell_at h rfl, cell_at h rfl, cell_free h⟩
theorem ans_cells {g : Nat} {a : Ans} (h : w.heap[g]? = some (ansR a)) :
    w.cell? ⟨g, 0, none⟩ = some (.int .i64 a.sess) ∧ w.cell? ⟨g, 1, none⟩ = some (.int .i64 a.req) ∧ w.cell? ⟨g, 2, none⟩ = some (.int .i64 a.code) ∧ w.cell? ⟨g, 3, none⟩ = some (.string a.val) ∧ w.cell? ⟨g, 4, none⟩ = some (.bool a.has) ∧ w.cell? ⟨g, 5, none⟩ = some (.int .u64 a.tid.1) ∧ w.cell? ⟨g, 6, none⟩ = some (.int .i64 a.tid.2) ∧ ∀ j, w.frozen? ⟨g, j, none⟩ = false :=
  ⟨cell_at h rfl, cell_at h rfl, cell_at h rfl, cell_at h rfl, cell_at h rfl, cell_at h rfl, cell_at h rfl, cell_free h⟩
end
#print axioms Tab.more
end Go.Proofs.Ytffjkdeggkppnaa.Sess
