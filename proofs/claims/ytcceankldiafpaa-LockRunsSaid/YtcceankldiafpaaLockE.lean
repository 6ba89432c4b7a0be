/- The table in memory. -/
import Derived.Test.YtcceankldiafpaaLockD
import Derived.Test.YtcceankldiafpaaMapS
set_option linter.unusedVariables false
set_option linter.unusedSimpArgs false
set_option linter.unusedSectionVars false
namespace Go.Proofs.Ytcceankldiafpaa.Lock
open Go.RowKit Go.WideShapes Go.Deep Go.Proofs.Ytcceankldiafpaa.Mem Go.Proofs.Ytcceankldiafpaa.Open Go.Proofs.Ytcceankldiafpaa.Maps
abbrev S := ByteArray
def encS (s : S) : Value := .string s
def OkS (s : S) : Prop := s.size ≤ maxLen
def encQ (q : Qv) : Value := .pointer (some ⟨q.qb, 0, none⟩)
theorem km_str : Km Try.prog 9 encS OkS := km_string Try.underlying9
abbrev QMap := MapAt encS encQ OkS
/-- The table: its row, its map, a queue for each key, no block of two. -/
structure Tb (w : World) (B lt mb : Nat) (qs : List (S × Qv)) : Prop where
  ft : w.heap[lt]? = some (.cells #[.map (some mb)] 64 (0, 0))
  fm : QMap w mb qs
  rows : ∀ k q, getM qs k = some q → QAt w B q
  apart : ∀ k k' q q', getM qs k = some q → getM qs k' = some q' → k ≠ k' → ∀ g, Feet q g → ¬ Feet q' g
  ll : B ≤ lt
  lm : B ≤ mb
theorem not_feet_row {w : World} {B : Nat} {q : Qv} (h : QAt w B q) {g : Nat} {cs : Array Value} {t : TypeId} {f : Nat × Nat} (hg : w.heap[g]? = some (.cells cs t f)) (h1 : t ≠ 47) (h2 : t ≠ 68) : ¬ Feet q g := fun hx => by
  rcases hx with rfl | e | e
  · have := hg.symm.trans h.row
    injection this with this
    injection this with _ e
    exact h2 e
  · exact own_ne_row h.h hg (fun e => h1 e.symm) e
  · exact own_ne_row h.wt hg (fun e => h1 e.symm) e
theorem not_feet_map {w : World} {B : Nat} {q : Qv} (h : QAt w B q) {g : Nat} {es : Array MapEntry} {c : Nat} (hg : w.heap[g]? = some (.map es c)) : ¬ Feet q g := fun hx => by
  have hown : ∀ (v : Value) (n : Nat) (xs : List Value), Own w B 47 3 v n xs → ¬ v.ownBlock = some g := fun v n xs ho e => by
    rcases ho.2 with ⟨h0, _⟩ | ⟨g', off, cap, cur, h0, _, hg', _⟩
    · rw [h0] at e; cases e
    · rw [h0] at e
      injection e with e
      subst e
      rw [hg] at hg'
      injection hg' with hg'
      cases hg'
  rcases hx with rfl | e | e
  · have := h.row; rw [hg] at this; injection this with this; cases this
  · exact hown _ _ _ h.h e
  · exact hown _ _ _ h.wt e
theorem ty_tw : (64 : TypeId) ≠ 47 := by decide
theorem ty_tq : (64 : TypeId) ≠ 68 := by decide
section
variable {w w' : World} {B lt mb : Nat} {qs : List (S × Qv)} {k : S} {q q' : Qv}
theorem Tb.size (h : Tb w B lt mb qs) : B ≤ w.heap.size := by have := lt_size h.ft; have := h.ll; omega
theorem Tb.below (h : Tb w B lt mb qs) (hb : Below w.heap.size w w') : Tb w' B lt mb qs :=
  ⟨blk_below h.ft hb, h.fm.below hb, fun k q hq => (h.rows k q hq).below hb, h.apart, h.ll, h.lm⟩
theorem Tb.drewN (h : Tb w B lt mb qs) (n : Nat) : Tb (w.drewN n) B lt mb qs := h.below (below_drewN (Below.refl _ _) n)
theorem Tb.alloc (h : Tb w B lt mb qs) (o : Obj) : Tb (w.alloc o) B lt mb qs := h.below ((Below.refl _ _).alloc (Nat.le_refl _) _)
theorem Tb.cell (h : Tb w B lt mb qs) : w.cell? ⟨lt, 0, none⟩ = some (.map (some mb)) := row1c h.ft
theorem Tb.not_lt (h : Tb w B lt mb qs) (hQ : QAt w B q) : ¬ Feet q lt := not_feet_row hQ h.ft ty_tw ty_tq
theorem Tb.not_mb (h : Tb w B lt mb qs) (hQ : QAt w B q) : ¬ Feet q mb := by
  obtain ⟨es, c, h1, _⟩ := h.fm
  exact not_feet_map hQ h1
theorem Tb.ne (h : Tb w B lt mb qs) : lt ≠ mb := fun e => by
  obtain ⟨es, c, h1, _⟩ := h.fm
  rw [← e, h.ft] at h1
  injection h1 with h1
  cases h1
/-- Something else has turned. -/
theorem Tb.other (h : Tb w B lt mb qs) {S' : Nat → Prop} (hf : Fr S' w w') (hS : ∀ k q, getM qs k = some q → ∀ g, Feet q g → ¬ S' g) (h1 : ¬ S' lt) (h2 : ¬ S' mb) : Tb w' B lt mb qs :=
  ⟨hf.blk h.ft h1, h.fm.kept (hf.block _ h.fm.lt h2), fun k q hq => (h.rows k q hq).fr hf (hS k q hq), h.apart, h.ll, h.lm⟩
theorem map_encQ (hk : Keys1 qs) (h : getM qs k = some q) (he : q'.qb = q.qb) : (setM qs k q').map (fun p => (encS p.1, encQ p.2)) = qs.map (fun p => (encS p.1, encQ p.2)) := by
  have hm := getM_mem h
  unfold setM
  rw [if_pos (List.any_eq_true.2 ⟨_, hm, by simp⟩), List.map_map]
  apply List.map_congr_left
  intro p hp
  simp only [Function.comp]
  by_cases e : p.1 = k
  · rw [if_pos e]
    obtain ⟨i, hi⟩ := List.getElem?_of_mem hp
    obtain ⟨j, hj⟩ := List.getElem?_of_mem hm
    have := keys_at hk hi hj e
    subst this
    rw [hi] at hj
    injection hj with hj
    rw [hj]
    simp only [encQ, he]
  · rw [if_neg e]
theorem QMap.same {b : Nat} (h : QMap w b qs) (hq : getM qs k = some q) (he : q'.qb = q.qb) (hk : w'.heap[b]? = w.heap[b]?) : QMap w' b (setM qs k q') := by
  obtain ⟨es, c, h1, h2, h3, h4, h5⟩ := h
  refine ⟨es, c, hk.trans h1, h2.trans (map_encQ h4 hq he).symm, ?_, keys_set h4 _ _, h5⟩
  intro p hp
  have := map_encQ (q' := q') h4 hq he
  have hp' : (encS p.1, encQ p.2) ∈ qs.map (fun p => (encS p.1, encQ p.2)) := this ▸ List.mem_map.2 ⟨p, hp, rfl⟩
  obtain ⟨r, hr, e⟩ := List.mem_map.1 hp'
  have e1 : encS r.1 = encS p.1 := congrArg Prod.fst e
  have e2 : r.1 = p.1 := by unfold encS at e1; injection e1
  rw [← e2]; exact h3 r hr
/-- A queue has turned. -/
theorem Tb.turn (h : Tb w B lt mb qs) (hq : getM qs k = some q) (hg : QGo w w' B q q') : Tb w' B lt mb (setM qs k q') := by
  have hQ := h.rows k q hq
  refine ⟨hg.fr.blk h.ft (h.not_lt hQ), QMap.same h.fm hq hg.same (hg.fr.block _ h.fm.lt (h.not_mb hQ)), fun k' q2 h2 => ?_, fun k1 k2 q1 q2 h1 h2 hne g hg1 hg2 => ?_, h.ll, h.lm⟩
  · rw [getM_set] at h2
    split at h2
    · injection h2 with h2
      subst h2
      exact hg.at_
    · rename_i hne
      exact (h.rows k' q2 h2).fr hg.fr fun g hg2 hg1 => h.apart k k' q q2 hq h2 hne g hg1 hg2
  · rw [getM_set] at h1 h2
    split at h1 <;> split at h2
    · rename_i a b; exact hne (a.symm.trans b)
    · rename_i a b
      injection h1 with h1
      subst h1
      rcases hg.feet g hg1 with e | e
      · exact h.apart k k2 q q2 hq h2 b g e hg2
      · have := ((h.rows k2 q2 h2).feet hg2).2
        omega
    · rename_i a b
      injection h2 with h2
      subst h2
      rcases hg.feet g hg2 with e | e
      · exact h.apart k k1 q q1 hq h1 a g e hg1
      · have := ((h.rows k1 q1 h1).feet hg1).2
        omega
    · exact h.apart k1 k2 q1 q2 h1 h2 hne g hg1 hg2
theorem setM_self {ms : List (S × Qv)} (hn : Keys1 ms) {x : S} {v : Qv} (h : getM ms x = some v) : setM ms x v = ms := by
  obtain ⟨j, hj⟩ := List.getElem?_of_mem (getM_mem h)
  rw [setM_at hn hj]
  apply List.ext_getElem?
  intro i
  rw [List.getElem?_set]
  by_cases e : j = i
  · subst e
    rw [if_pos rfl, if_pos (List.getElem?_eq_some_iff.1 hj).1, hj]
  · rw [if_neg e]
theorem turned_cells (ht : Turned w w' mb) (hm : ∃ es c, w.heap[mb]? = some (.map es c)) {g : Nat} {cs : Array Value} {t : TypeId} {f : Nat × Nat} (hg : w.heap[g]? = some (.cells cs t f)) : w'.heap[g]? = some (.cells cs t f) := by
  refine (ht.fr.block g (lt_size hg) fun e => ?_).trans hg
  subst e
  obtain ⟨es, c, hm⟩ := hm
  rw [hg] at hm
  injection hm with hm
  cases hm
theorem QAt.turned (h : QAt w B q) (ht : Turned w w' mb) (hm : ∃ es c, w.heap[mb]? = some (.map es c)) : QAt w' B q := by
  obtain ⟨es, c, hm⟩ := hm
  exact h.fr ht.fr fun g hg e => by subst e; exact not_feet_map h hm hg
/-- A queue laid under its own key. -/
theorem Tb.laid (h : Tb w B lt mb qs) (hq : getM qs k = some q) (ht : Turned w w' mb) (hm : QMap w' mb (setM qs k q)) : Tb w' B lt mb qs := by
  obtain ⟨es, c, h1, _⟩ := h.fm
  rw [setM_self h.fm.keys hq] at hm
  exact ⟨turned_cells ht ⟨_, _, h1⟩ h.ft, hm, fun k q hq => (h.rows k q hq).turned ht ⟨_, _, h1⟩, h.apart, h.ll, h.lm⟩
/-- A queue more. -/
theorem Tb.more (h : Tb w B lt mb qs) (hk : getM qs k = none) (hQ : QAt w B q) (hnew : ∀ k' q', getM qs k' = some q' → ∀ g, Feet q g → ¬ Feet q' g) (ht : Turned w w' mb) (hm : QMap w' mb (setM qs k q)) : Tb w' B lt mb (setM qs k q) := by
  obtain ⟨es, c, h1, _⟩ := h.fm
  refine ⟨turned_cells ht ⟨_, _, h1⟩ h.ft, hm, fun k' q2 h2 => ?_, fun k1 k2 q1 q2 e1 e2 hne g hg1 hg2 => ?_, h.ll, h.lm⟩
  · rw [getM_set] at h2
    split at h2
    · injection h2 with h2
      subst h2
      exact hQ.turned ht ⟨_, _, h1⟩
    · exact (h.rows k' q2 h2).turned ht ⟨_, _, h1⟩
  · rw [getM_set] at e1 e2
    split at e1 <;> split at e2
    · rename_i a b; exact hne (a.symm.trans b)
    · injection e1 with e1
      subst e1
      exact hnew k2 q2 e2 g hg1 hg2
    · injection e2 with e2
      subst e2
      exact hnew k1 q1 e1 g hg2 hg1
    · exact h.apart k1 k2 q1 q2 e1 e2 hne g hg1 hg2
/-- A key deleted. -/
theorem Tb.less (h : Tb w B lt mb qs) (ht : Turned w w' mb) (hm : QMap w' mb (delM qs k)) : Tb w' B lt mb (delM qs k) := by
  obtain ⟨es, c, h1, _⟩ := h.fm
  have hd : ∀ k' q2, getM (delM qs k) k' = some q2 → getM qs k' = some q2 := fun k' q2 h2 => by
    rw [getM_del] at h2
    split at h2
    · cases h2
    · exact h2
  exact ⟨turned_cells ht ⟨_, _, h1⟩ h.ft, hm, fun k' q2 h2 => (h.rows k' q2 (hd _ _ h2)).turned ht ⟨_, _, h1⟩, fun k1 k2 q1 q2 e1 e2 => h.apart k1 k2 q1 q2 (hd _ _ e1) (hd _ _ e2), h.ll, h.lm⟩
theorem Tb.new (w : World) : Tb ((w.alloc (.map #[] 0)).alloc (.cells #[.map (some w.heap.size)] 64)) w.heap.size (w.heap.size + 1) w.heap.size [] := by
  refine ⟨by have := heap_alloc_new (w.alloc (.map #[] 0)) (.cells #[.map (some w.heap.size)] 64); simpa using this, (MapAt.new w).alloc _, fun k q hq => (by cases hq), fun k k' q q' hq => (by cases hq), by omega, Nat.le_refl _⟩
theorem run_lookupQ (h : Tb w B lt mb qs) (hk : OkS k) : (Instr.lookup 62 (.map (some mb)) (.string k) true).run Try.prog w = .ok (.tuple #[.pointer ((getM qs k).map fun q => ⟨q.qb, 0, none⟩), .bool (getM qs k).isSome]) w := by
  have h1 := run_lookup (P := Try.prog) (t := 62) (e := 65) (z := .pointer none) km_str Try.underlying62 (by kernel_rfl) h.fm (x := k) hk true
  unfold encS at h1
  rw [h1]
  cases getM qs k <;> rfl
theorem run_lookupP (h : Tb w B lt mb qs) (hk : OkS k) : (Instr.lookup 62 (.map (some mb)) (.string k) false).run Try.prog w = .ok (.pointer ((getM qs k).map fun q => ⟨q.qb, 0, none⟩)) w := by
  have h1 := run_lookup (P := Try.prog) (t := 62) (e := 65) (z := .pointer none) km_str Try.underlying62 (by kernel_rfl) h.fm (x := k) hk false
  unfold encS at h1
  rw [h1]
  cases getM qs k <;> rfl
theorem run_updateQ (h : QMap w mb qs) (hk : OkS k) (q : Qv) : ∃ w', (Instr.mapUpdate 62 (.map (some mb)) (.string k) (.pointer (some ⟨q.qb, 0, none⟩))).run Try.prog w = .ok () w' ∧ QMap w' mb (setM qs k q) ∧ Turned w w' mb := run_update (P := Try.prog) (t := 62) (e := 65) km_str Try.underlying62 h (x := k) hk q
theorem run_deleteQ {ty : TypeId} (h : QMap w mb qs) (hk : OkS k) : ∃ w', (Builtin.delete_ #[62, 9] ty #[.map (some mb), .string k]).run Try.prog w = .ok (.tuple #[]) w' ∧ QMap w' mb (delM qs k) ∧ Turned w w' mb := run_delete (P := Try.prog) (t := 62) (e := 65) km_str Try.underlying62 h (x := k) hk
theorem run_lenQ {ty : TypeId} (h : QMap w mb qs) : (Builtin.len_ #[62] ty #[.map (some mb)]).run Try.prog w = .ok (.int .i64 qs.length) w := Maps.run_len (P := Try.prog) Try.underlying62 h
end
#print axioms run_updateQ
end Go.Proofs.Ytcceankldiafpaa.Lock
