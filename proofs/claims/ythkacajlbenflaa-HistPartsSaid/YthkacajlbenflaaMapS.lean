/- (as Maps, the stamps kept) Go's maps in memory: a block that holds an association list; looked up, laid, deleted, counted. -/
import Derived.Test.YthkacajlbenflaaMem
import Derived.Maps.Keyed
set_option linter.unusedVariables false
set_option linter.unusedSimpArgs false
set_option linter.unusedSectionVars false
namespace Go.Proofs.Ythkacajlbenflaa.Maps
open Go.RowKit Go.WideShapes Go.Proofs.Ythkacajlbenflaa.Mem

/-! ### Association lists -/
section
variable {κ ν : Type} [DecidableEq κ]
def getM (ms : List (κ × ν)) (x : κ) : Option ν := (ms.find? fun p => decide (p.1 = x)).map (·.2)
def setM (ms : List (κ × ν)) (x : κ) (v : ν) : List (κ × ν) := if ms.any (fun p => decide (p.1 = x)) then ms.map (fun p => if p.1 = x then (x, v) else p) else ms ++ [(x, v)]
def delM (ms : List (κ × ν)) (x : κ) : List (κ × ν) := ms.filter fun p => !decide (p.1 = x)
def Keys1 (ms : List (κ × ν)) : Prop := (ms.map (·.1)).Nodup
theorem getM_cons (p : κ × ν) (ms : List (κ × ν)) (x : κ) : getM (p :: ms) x = if p.1 = x then some p.2 else getM ms x := by
  unfold getM
  rw [List.find?_cons]
  by_cases h : p.1 = x <;> simp [h]
theorem getM_nil (x : κ) : getM ([] : List (κ × ν)) x = none := rfl
theorem getM_none {ms : List (κ × ν)} {x : κ} : getM ms x = none ↔ ∀ p ∈ ms, p.1 ≠ x := by
  unfold getM
  simp [List.find?_eq_none]
theorem getM_at : ∀ {ms : List (κ × ν)} {j : Nat} {x : κ} {v : ν}, Keys1 ms → ms[j]? = some (x, v) → getM ms x = some v
  | [], j, x, v, _, h => by simp at h
  | p :: ms, 0, x, v, _, h => by
    have h' : p = (x, v) := by simpa using h
    subst h'
    rw [getM_cons, if_pos rfl]
  | p :: ms, j + 1, x, v, hn, h => by
    have h' : ms[j]? = some (x, v) := by simpa using h
    have hn' := List.nodup_cons.1 hn
    rw [getM_cons, if_neg, getM_at hn'.2 h']
    intro e
    exact hn'.1 (by show p.1 ∈ _; rw [e]; exact List.mem_map.2 ⟨_, List.mem_of_getElem? h', rfl⟩)
theorem getM_mem {ms : List (κ × ν)} {x : κ} {v : ν} (h : getM ms x = some v) : (x, v) ∈ ms := by
  unfold getM at h
  cases hf : ms.find? fun p => decide (p.1 = x) with
  | none => rw [hf] at h; simp at h
  | some p =>
    rw [hf] at h
    have h1 := List.find?_some hf
    have h2 := List.mem_of_find?_eq_some hf
    simp at h h1
    subst h h1
    exact h2
theorem keys_at {ms : List (κ × ν)} (hn : Keys1 ms) {i j : Nat} {p q : κ × ν} (hi : ms[i]? = some p) (hj : ms[j]? = some q) (e : p.1 = q.1) : i = j := by
  have h1 : (ms.map (·.1))[i]? = some p.1 := by simp [hi]
  have h2 : (ms.map (·.1))[j]? = some p.1 := by simp [hj, e]
  have hil := (List.getElem?_eq_some_iff.1 h1).1
  exact (List.getElem?_inj hil hn).1 (h1.trans h2.symm)
theorem any_at {ms : List (κ × ν)} {j : Nat} {x : κ} {v : ν} (h : ms[j]? = some (x, v)) : ms.any (fun p => decide (p.1 = x)) = true := List.any_eq_true.2 ⟨_, List.mem_of_getElem? h, by simp⟩
theorem setM_at {ms : List (κ × ν)} (hn : Keys1 ms) {j : Nat} {x : κ} {v0 v : ν} (h : ms[j]? = some (x, v0)) : setM ms x v = ms.set j (x, v) := by
  unfold setM
  rw [if_pos (any_at h)]
  apply List.ext_getElem?
  intro i
  rw [List.getElem?_map, List.getElem?_set]
  by_cases hij : j = i
  · subst hij
    rw [if_pos rfl, if_pos (List.getElem?_eq_some_iff.1 h).1, h]
    simp
  · rw [if_neg hij]
    cases hi : ms[i]? with
    | none => rfl
    | some p =>
      have : ¬ p.1 = x := fun e => hij (keys_at hn h hi e.symm)
      simp [this]
theorem setM_new {ms : List (κ × ν)} {x : κ} {v : ν} (h : ∀ p ∈ ms, p.1 ≠ x) : setM ms x v = ms ++ [(x, v)] := by
  unfold setM
  rw [if_neg]
  intro e
  obtain ⟨p, hp, hx⟩ := List.any_eq_true.1 e
  exact h p hp (by simpa using hx)
theorem getM_set (ms : List (κ × ν)) (x y : κ) (v : ν) : getM (setM ms x v) y = if x = y then some v else getM ms y := by
  have hmap : ∀ ms : List (κ × ν), ms.any (fun p => decide (p.1 = x)) = true → getM (ms.map (fun p => if p.1 = x then (x, v) else p)) y = if x = y then some v else getM ms y := by
    intro ms
    induction ms with
    | nil => intro h; simp at h
    | cons p ms ih =>
      intro h
      rw [List.map_cons, getM_cons, getM_cons]
      by_cases hp : p.1 = x
      · rw [if_pos hp]
        by_cases hy : x = y
        · simp [hy]
        · have : ¬ p.1 = y := fun e => hy (hp.symm.trans e)
          rw [if_neg hy, if_neg hy, if_neg this]
          clear ih h
          induction ms with
          | nil => rfl
          | cons q ms ih =>
            rw [List.map_cons, getM_cons, getM_cons, ih]
            by_cases hq : q.1 = x
            · have : ¬ q.1 = y := fun e => hy (hq.symm.trans e)
              rw [if_pos hq, if_neg hy, if_neg this]
            · rw [if_neg hq]
      · have h' : ms.any (fun p => decide (p.1 = x)) = true := by simpa [hp] using h
        rw [if_neg hp, ih h']
        by_cases hy : x = y
        · have : ¬ p.1 = y := fun e => hp (e.trans hy.symm)
          rw [if_neg this, if_pos hy, if_pos hy]
        · rw [if_neg hy, if_neg hy]
  unfold setM
  split
  · exact hmap ms ‹_›
  · rename_i h
    have hno : ∀ p ∈ ms, p.1 ≠ x := fun p hp e => h (List.any_eq_true.2 ⟨p, hp, by simp [e]⟩)
    clear h hmap
    induction ms with
    | nil => rw [List.nil_append, getM_cons]
    | cons p ms ih =>
      rw [List.cons_append, getM_cons, getM_cons, ih (fun q hq => hno q (List.mem_cons_of_mem _ hq))]
      have hp := hno p (List.mem_cons_self ..)
      by_cases hy : x = y
      · have : ¬ p.1 = y := fun e => hp (e.trans hy.symm)
        rw [if_neg this, if_pos hy, if_pos hy]
      · rw [if_neg hy, if_neg hy]
theorem getM_del (ms : List (κ × ν)) (x y : κ) : getM (delM ms x) y = if x = y then none else getM ms y := by
  unfold delM
  induction ms with
  | nil => simp [getM]
  | cons p ms ih =>
    rw [List.filter_cons]
    by_cases hp : p.1 = x
    · rw [if_neg (by simp [hp]), ih, getM_cons]
      by_cases hy : x = y
      · rw [if_pos hy, if_pos hy]
      · have : ¬ p.1 = y := fun e => hy (hp.symm.trans e)
        rw [if_neg this]
    · rw [if_pos (by simp [hp]), getM_cons, getM_cons, ih]
      by_cases hy : x = y
      · have : ¬ p.1 = y := fun e => hp (e.trans hy.symm)
        rw [if_neg this, if_pos hy, if_pos hy]
      · rw [if_neg hy, if_neg hy]
theorem keys_set {ms : List (κ × ν)} (h : Keys1 ms) (x : κ) (v : ν) : Keys1 (setM ms x v) := by
  unfold setM Keys1
  split
  · have : (ms.map (fun p => if p.1 = x then (x, v) else p)).map (·.1) = ms.map (·.1) := by
      rw [List.map_map]
      apply List.map_congr_left
      intro p _
      by_cases hp : p.1 = x <;> simp [hp]
    rw [this]; exact h
  · rename_i hn
    rw [List.map_append]
    refine List.nodup_append.2 ⟨h, by simp, fun a ha b hb e => ?_⟩
    obtain ⟨p, hp, rfl⟩ := List.mem_map.1 ha
    have : b = x := by simpa using hb
    exact hn (List.any_eq_true.2 ⟨p, hp, by simp [e, this]⟩)
theorem keys_del {ms : List (κ × ν)} (h : Keys1 ms) (x : κ) : Keys1 (delM ms x) := by
  have h' : ms.Pairwise (fun p q => p.1 ≠ q.1) := List.pairwise_map.1 h
  exact List.pairwise_map.2 (h'.filter _)
theorem delM_at {ms : List (κ × ν)} (hn : Keys1 ms) {j : Nat} {x : κ} {v : ν} (h : ms[j]? = some (x, v)) : delM ms x = ms.eraseIdx j := by
  refine ChangeMaps.filter_eq_eraseIdx (fun p => decide (p.1 = x)) ms j (x, v) h (by simp) ?_
  have h' : ms.Pairwise (fun p q => p.1 ≠ q.1) := List.pairwise_map.1 hn
  refine h'.imp ?_
  intro a b hab
  simp only [decide_eq_true_eq]
  intro hh
  exact hab (hh.1.trans hh.2.symm)
theorem delM_none {ms : List (κ × ν)} {x : κ} (h : ∀ p ∈ ms, p.1 ≠ x) : delM ms x = ms := by
  unfold delM
  rw [List.filter_eq_self]
  intro p hp
  simp [h p hp]
theorem length_set {ms : List (κ × ν)} (x : κ) (v : ν) : (setM ms x v).length = if (getM ms x).isSome then ms.length else ms.length + 1 := by
  by_cases h : ms.any (fun p => decide (p.1 = x)) = true
  · have : (getM ms x).isSome = true := by
      cases hg : getM ms x with
      | some _ => rfl
      | none =>
        obtain ⟨p, hp, hx⟩ := List.any_eq_true.1 h
        exact absurd (by simpa using hx) (getM_none.1 hg p hp)
    rw [setM, if_pos h, if_pos this, List.length_map]
  · have : getM ms x = none := getM_none.2 fun p hp e => h (List.any_eq_true.2 ⟨p, hp, by simp [e]⟩)
    rw [setM, if_neg h, this]
    simp
theorem length_del {ms : List (κ × ν)} (hn : Keys1 ms) (x : κ) : (delM ms x).length = if (getM ms x).isSome then ms.length - 1 else ms.length := by
  cases hg : getM ms x with
  | none => rw [delM_none (getM_none.1 hg)]; rfl
  | some v =>
    obtain ⟨j, hj⟩ := List.getElem?_of_mem (getM_mem hg)
    rw [delM_at hn hj, List.length_eraseIdx, if_pos (List.getElem?_eq_some_iff.1 hj).1]
    rfl
end

/-! ### Maps -/
section
variable {κ ν : Type} [DecidableEq κ] {P : Program} {k : TypeId} {enc : κ → Value} {encv : ν → Value} {Ok : κ → Prop}
/-- A key type's words. -/
structure Km (P : Program) (k : TypeId) (enc : κ → Value) (Ok : κ → Prop) : Prop where
  keyed : Maps.Keyed P k
  key : ∀ x, Ok x → ∃ l, keyOf P k (enc x) = some l
  inj : ∀ x y, enc x = enc y → x = y
theorem km_string (hk : P.underlying k = some .string) : Km P k (fun s : ByteArray => Value.string s) (fun s => s.size ≤ maxLen) :=
  ⟨Maps.Keyed.of_law (WideMaps.string_law hk), fun x hx => ⟨_, WideMaps.keyOf_string_mk hk hx⟩, fun x y e => by injection e⟩
def MapAt (enc : κ → Value) (encv : ν → Value) (Ok : κ → Prop) (w : World) (b : Nat) (ms : List (κ × ν)) : Prop :=
  ∃ es clock, w.heap[b]? = some (.map es clock) ∧ es.toList.map (fun e => (e.key, e.val)) = ms.map (fun p => (enc p.1, encv p.2)) ∧ (∀ p ∈ ms, Ok p.1) ∧ Keys1 ms ∧ MapKept.Stamped es clock
variable {w w' : World} {b : Nat} {ms : List (κ × ν)}
theorem MapAt.keys (h : MapAt enc encv Ok w b ms) : Keys1 ms := by obtain ⟨_, _, _, _, _, h, _⟩ := h; exact h
theorem MapAt.lt (h : MapAt enc encv Ok w b ms) : b < w.heap.size := by obtain ⟨_, _, h, _⟩ := h; exact (Array.getElem?_eq_some_iff.1 h).1
theorem MapAt.kept (h : MapAt enc encv Ok w b ms) (hk : w'.heap[b]? = w.heap[b]?) : MapAt enc encv Ok w' b ms := by
  obtain ⟨es, c, h1, h2⟩ := h; exact ⟨es, c, hk.trans h1, h2⟩
theorem MapAt.below (h : MapAt enc encv Ok w b ms) (hb : Below w.heap.size w w') : MapAt enc encv Ok w' b ms := h.kept (hb.block b h.lt)
theorem MapAt.drewN (h : MapAt enc encv Ok w b ms) (n : Nat) : MapAt enc encv Ok (w.drewN n) b ms := h
theorem MapAt.drew (h : MapAt enc encv Ok w b ms) : MapAt enc encv Ok w.drew b ms := h
theorem MapAt.alloc (h : MapAt enc encv Ok w b ms) (o : Obj) : MapAt enc encv Ok (w.alloc o) b ms := h.kept (Below.heap_alloc w o b h.lt)
theorem MapAt.new (w : World) : MapAt enc encv Ok (w.alloc (.map #[] 0)) w.heap.size [] := ⟨#[], 0, heap_alloc_new w _, rfl, by simp, by simp [Keys1], MapKept.stamped_empty 0⟩
theorem MapAt.nocell (h : MapAt enc encv Ok w b ms) {p : Addr} {v : Value} (hc : w.cell? p = some v) : p.block ≠ b := by
  obtain ⟨es, c, h1, _⟩ := h
  intro e
  unfold World.cell? at hc
  rw [e, h1] at hc
  cases hc
theorem MapAt.find (K : Km P k enc Ok) (h : MapAt enc encv Ok w b ms) {x : κ} (hx : Ok x) : ∃ es clock, w.heap[b]? = some (.map es clock) ∧ es.toList.map (fun e => (e.key, e.val)) = ms.map (fun p => (enc p.1, encv p.2)) ∧ MapKept.Stamped es clock ∧
    (∀ em, (Instr.checkKey em 10000 k (enc x)).run P w = .ok () w) ∧
    (((Instr.findKey k (enc x) es.toList).run P w = .ok none w ∧ (∀ p ∈ ms, p.1 ≠ x) ∧ ∀ e ∈ es.toList, e.key ≠ enc x) ∨ ∃ j v e, (Instr.findKey k (enc x) es.toList).run P w = .ok (some (j, encv v)) w ∧ ms[j]? = some (x, v) ∧ es[j]? = some e ∧ e.key = enc x) := by
  obtain ⟨es, c, h1, h2, h3, h4, h5⟩ := h
  obtain ⟨l, hl⟩ := K.key x hx
  have hkeys : ∀ e ∈ es.toList, ∃ l, keyOf P k e.key = some l := by
    intro e he
    have : (e.key, e.val) ∈ ms.map (fun p => (enc p.1, encv p.2)) := h2 ▸ List.mem_map.2 ⟨e, he, rfl⟩
    obtain ⟨p, hp, he⟩ := List.mem_map.1 this
    obtain ⟨l, hl⟩ := K.key p.1 (h3 p hp)
    exact ⟨l, by rw [← hl]; congr 1; injection he with e1 e2; exact e1.symm⟩
  refine ⟨es, c, h1, h2, h5, fun em => K.keyed.check w em hl, ?_⟩
  rcases K.keyed.find w hl es.toList hkeys with ⟨f1, f2⟩ | ⟨j, e, f1, f2, f3⟩
  · refine .inl ⟨f1, fun p hp e => ?_, f2⟩
    have : (enc p.1, encv p.2) ∈ es.toList.map (fun e => (e.key, e.val)) := h2 ▸ List.mem_map.2 ⟨p, hp, rfl⟩
    obtain ⟨e0, he0, hq⟩ := List.mem_map.1 this
    injection hq with q1 q2
    exact f2 e0 he0 (by rw [q1, e])
  · have hm : (ms.map (fun p => (enc p.1, encv p.2)))[j]? = some (e.key, e.val) := by rw [← h2, List.getElem?_map, f2]; rfl
    rw [List.getElem?_map] at hm
    cases hj : ms[j]? with
    | none => rw [hj] at hm; cases hm
    | some p =>
      rw [hj] at hm
      injection hm with hm
      injection hm with q1 q2
      obtain rfl : p.1 = x := K.inj _ _ (q1.trans f3)
      exact .inr ⟨j, p.2, e, by rw [q2]; exact f1, hj, by rw [← Array.getElem?_toList]; exact f2, f3⟩
theorem run_lookup {t e : TypeId} {z : Value} (K : Km P k enc Ok) (ht : P.underlying t = some (.map k e)) (hz : (zeroValue e).run P w = .ok z w) (h : MapAt enc encv Ok w b ms) {x : κ} (hx : Ok x) (ok : Bool) :
    (Instr.lookup t (.map (some b)) (enc x) ok).run P w = .ok (if ok then .tuple #[(getM ms x).elim z encv, .bool (getM ms x).isSome] else (getM ms x).elim z encv) w := by
  obtain ⟨es, c, h1, h2, h5, h3, h4⟩ := h.find K hx
  rcases h4 with ⟨f1, f2, f6⟩ | ⟨j, v, e', f1, f2, f3, f4⟩
  · have hg : getM ms x = none := getM_none.2 f2
    cases ok <;> simp [Instr.lookup, run_underlying ht, MapKept.run_getObj_map h1, h3, f1, hz, hg, Result.andThen]
  · have hg : getM ms x = some v := getM_at h.keys f2
    cases ok <;> simp [Instr.lookup, run_underlying ht, MapKept.run_getObj_map h1, h3, f1, hz, hg, Result.andThen]
/-- What a change of a map's block leaves. -/
structure Turned (w w' : World) (b : Nat) : Prop where
  fr : Fr (fun i => i = b) w w'
  size : w'.heap.size = w.heap.size
  cell : ∀ p, w'.cell? p = w.cell? p
  frozen : ∀ p, w'.frozen? p = w.frozen? p
theorem turned {w : World} {b : Nat} {es es' : Array MapEntry} {c c' : Nat} (h : w.heap[b]? = some (.map es c)) : Turned w { w with heap := w.heap.setIfInBounds b (.map es' c') } b := by
  have hlt := (Array.getElem?_eq_some_iff.1 h).1
  refine ⟨⟨rfl, rfl, rfl, by simp, fun i hi hs => ?_⟩, by simp, fun p => ?_, fun p => ?_⟩
  · rw [Array.getElem?_setIfInBounds_ne (fun e => hs e.symm)]
  · by_cases hp : p.block = b
    · unfold World.cell?
      rw [hp, h]
      simp [hlt]
    · exact World.cell?_of_block (by simp only; rw [Array.getElem?_setIfInBounds_ne (fun e => hp e.symm)])
  · unfold World.frozen?
    by_cases hp : p.block = b
    · rw [hp, h]
      simp [hlt]
    · simp only
      rw [Array.getElem?_setIfInBounds_ne (fun e => hp e.symm)]
theorem run_update {t e : TypeId} (K : Km P k enc Ok) (ht : P.underlying t = some (.map k e)) (h : MapAt enc encv Ok w b ms) {x : κ} (hx : Ok x) (v : ν) :
    ∃ w', (Instr.mapUpdate t (.map (some b)) (enc x) (encv v)).run P w = .ok () w' ∧ MapAt enc encv Ok w' b (setM ms x v) ∧ Turned w w' b := by
  obtain ⟨es, c, h1, h2, h5, h3, h4⟩ := h.find K hx
  obtain ⟨_, _, _, _, hok, hk, _⟩ := h
  obtain ⟨l, hl⟩ := K.key x hx
  have hlt := (Array.getElem?_eq_some_iff.1 h1).1
  have hok' : ∀ p ∈ setM ms x v, Ok p.1 := by
    intro p hp
    unfold setM at hp
    split at hp
    · obtain ⟨q, hq, rfl⟩ := List.mem_map.1 hp
      by_cases hqx : q.1 = x
      · rw [if_pos hqx]; exact hx
      · rw [if_neg hqx]; exact hok q hq
    · rcases List.mem_append.1 hp with hp | hp
      · exact hok p hp
      · have : p = (x, v) := by simpa using hp
        rw [this]; exact hx
  rcases h4 with ⟨f1, f2, f6⟩ | ⟨j, v0, e', f1, f2, f3, f4⟩
  · refine ⟨_, by simp [Instr.mapUpdate, run_underlying ht, MapKept.run_getObj_map h1, h3, f1, MapKept.run_setObj_map _ h1, Result.andThen]; rfl, ⟨_, _, by first | (simp [hlt]; done) | (simp [hlt]; rfl), ?_, hok', keys_set hk x v, MapKept.stamped_push h5 f6⟩, turned h1⟩
    rw [setM_new f2, Array.toList_push, List.map_append, h2, List.map_append]
    rfl
  · have f3' : es[j]? = some e' := f3
    refine ⟨_, by simp [Instr.mapUpdate, run_underlying ht, MapKept.run_getObj_map h1, h3, f1, f3', f4, K.keyed.stays w hl, MapKept.run_setObj_map _ h1, Result.andThen]; rfl, ⟨_, _, by first | (simp [hlt]; done) | (simp [hlt]; rfl), ?_, hok', keys_set hk x v, MapKept.stamped_modify h5 j (fun e => { key := enc x, val := encv v, born := e.born }) (fun _ _ => rfl) (fun e _ hi => by rw [f3] at hi; injection hi with hi; subst hi; exact f4.symm)⟩, turned h1⟩
    have f5 : es.toList[j]? = some e' := by rw [Array.getElem?_toList]; exact f3
    rw [setM_at hk f2, Array.toList_modify, ChangeMaps.modify_eq_set _ _ _ _ f5, List.map_set, List.map_set, h2]
theorem run_delete {t e ty : TypeId} (K : Km P k enc Ok) (ht : P.underlying t = some (.map k e)) (h : MapAt enc encv Ok w b ms) {x : κ} (hx : Ok x) :
    ∃ w', (Builtin.delete_ #[t, k] ty #[.map (some b), enc x]).run P w = .ok (.tuple #[]) w' ∧ MapAt enc encv Ok w' b (delM ms x) ∧ Turned w w' b := by
  obtain ⟨es, c, h1, h2, h5, h3, h4⟩ := h.find K hx
  obtain ⟨_, _, _, _, hok, hk, _⟩ := h
  have hlt := (Array.getElem?_eq_some_iff.1 h1).1
  have hok' : ∀ p ∈ delM ms x, Ok p.1 := fun p hp => hok p (List.mem_filter.1 hp).1
  rcases h4 with ⟨f1, f2, f6⟩ | ⟨j, v0, e', f1, f2, f3, f4⟩
  · refine ⟨_, by simp [Builtin.delete_, run_underlying ht, MapKept.run_getObj_map h1, h3, f1, MapKept.run_setObj_map _ h1, Result.andThen]; rfl, ⟨_, _, by first | (simp [hlt]; done) | (simp [hlt]; rfl), ?_, hok', keys_del hk x, h5⟩, turned h1⟩
    rw [delM_none f2, h2]
  · refine ⟨_, by simp [Builtin.delete_, run_underlying ht, MapKept.run_getObj_map h1, h3, f1, MapKept.run_setObj_map _ h1, Result.andThen]; rfl, ⟨_, _, by first | (simp [hlt]; done) | (simp [hlt]; rfl), ?_, hok', keys_del hk x, MapKept.stamped_erase h5 _⟩, turned h1⟩
    rw [delM_at hk f2, Array.toList_eraseIdxIfInBounds, ChangeMaps.map_eraseIdx, h2, ← ChangeMaps.map_eraseIdx]
theorem run_len {t e ty : TypeId} (ht : P.underlying t = some (.map k e)) (h : MapAt enc encv Ok w b ms) : (Builtin.len_ #[t] ty #[.map (some b)]).run P w = .ok (.int .i64 ms.length) w := by
  obtain ⟨es, c, h1, h2, _⟩ := h
  have hl : es.size = ms.length := by have := congrArg List.length h2; simpa using this
  simp [Builtin.len_, run_underlying ht, MapKept.run_getObj_map h1, hl, goInt]
end
section
variable {w w' : World} {b B k n : Nat} {v : Value} {xs : List Value}
theorem rd_turned (h : Rd w B k v n xs) (ht : Turned w w' b) : Rd w' B k v n xs := h.keep fun p _ => ht.cell p
theorem below_turned (ht : Turned w w' b) {base : Nat} {a : World} (h : Below base a w) (hb : base ≤ b) : Below base a w' :=
  ⟨ht.fr.os.trans h.os, ht.fr.tape.trans h.tape, ht.fr.output.trans h.output, by rw [ht.size]; exact h.size, fun i hi => by
    by_cases hs : i < w.heap.size
    · exact (ht.fr.block i hs (by omega)).trans (h.block i hi)
    · rw [← h.block i hi, Array.getElem?_eq_none (by rw [ht.size]; omega), Array.getElem?_eq_none (by omega)]⟩
end
end Go.Proofs.Ythkacajlbenflaa.Maps
