/- LockEnds: the tables that it sees. -/
import Derived.Test.YtcceankldiafpaaLockL
import Derived.Test.YtcceankldiafpaaLockS
import Derived.Test.YtcceankldiafpaaLockQ
set_option linter.unusedVariables false
set_option linter.unusedSimpArgs false
set_option linter.unusedSectionVars false
set_option maxRecDepth 100000
namespace Go.Proofs.Ytcceankldiafpaa.Lock
open Go.RowKit Go.WideShapes Go.Deep Go.Proofs.Ytcceankldiafpaa.Mem Go.Proofs.Ytcceankldiafpaa.Open Go.Proofs.Ytcceankldiafpaa.Maps
theorem own_not {w : World} {B b k n : Nat} {e : TypeId} {v : Value} {xs : List Value} {q : Qv} (hQ : QAt w B q) (ho : Own w b e k v n xs) (h1 : e ≠ 47) (h2 : e ≠ 68) {g : Nat} (h : v.ownBlock = some g) : ¬ Feet q g := fun hx => by
  rcases ho.2 with ⟨h0, _⟩ | ⟨g', off, cap, cur, h0, _, hg', _⟩
  · rw [h0] at h; cases h
  · rw [h0] at h
    injection h with h
    subst h
    exact not_feet_row hQ hg' h1 h2 hx
theorem own_not_map {w : World} {b k n mb : Nat} {e : TypeId} {v : Value} {xs : List Value} {qs : List (S × Qv)} (hm : QMap w mb qs) (ho : Own w b e k v n xs) {g : Nat} (h : v.ownBlock = some g) : g ≠ mb := fun he => by
  subst he
  obtain ⟨es, c, h1, _⟩ := hm
  rcases ho.2 with ⟨h0, _⟩ | ⟨g', off, cap, cur, h0, _, hg', _⟩
  · rw [h0] at h; cases h
  · rw [h0] at h
    injection h with h
    subst h
    rw [h1] at hg'
    injection hg' with hg'
    cases hg'
theorem Tb.far {w : World} {B lt mb b k n : Nat} {e : TypeId} {v : Value} {xs : List Value} {qs : List (S × Qv)} (h : Tb w B lt mb qs) (ho : Own w b e k v n xs) (h1 : e ≠ 47) (h2 : e ≠ 68) {g : Nat} (hg : v.ownBlock = some g) : ¬ TFeet mb qs g := fun hx => by
  rcases hx with e | ⟨k, q, hq, hx⟩
  · exact own_not_map h.fm ho hg e
  · exact own_not (h.rows k q hq) ho h1 h2 hg hx
theorem Tb.row {w w' : World} {B lt mb b k n : Nat} {e : TypeId} {v : Value} {xs : List Value} {qs : List (S × Qv)} (h : Tb w B lt mb qs) (ho : Own w b e k v n xs) (h1 : e ≠ 47) (h2 : e ≠ 68) (h3 : e ≠ 64) (hf : Fr (fun g => v.ownBlock = some g) w w') : Tb w' B lt mb qs :=
  h.other hf (fun k q hq g g1 g2 => own_not (h.rows k q hq) ho h1 h2 g2 g1) (fun e => own_ne_row ho h.ft h3 e) (fun e => own_not_map h.fm ho e rfl)
structure EndT (w : World) (B lt mb N : Nat) (T : Int × Int → Prop) (qs : List (S × Qv)) : Prop where
  tb : Tb w B lt mb qs
  bnd : Bnd qs N
  len : qs.length ≤ N
  ne : NE qs
  ok : ∀ k, LineOk (lineOf qs k)
  mem : ∀ k q, q ∈ tids (lineOf qs k).1 ∨ q ∈ tids (lineOf qs k).2 → T q
theorem EndT.below {w w' : World} {B lt mb N : Nat} {T : Int × Int → Prop} {qs : List (S × Qv)} (h : EndT w B lt mb N T qs) (hb : Below w.heap.size w w') : EndT w' B lt mb N T qs := ⟨h.tb.below hb, h.bnd, h.len, h.ne, h.ok, h.mem⟩
theorem EndT.more {w : World} {B lt mb N M : Nat} {T T' : Int × Int → Prop} {qs : List (S × Qv)} (h : EndT w B lt mb N T qs) (hN : N ≤ M) (hT : ∀ q, T q → T' q) : EndT w B lt mb M T' qs := ⟨h.tb, fun k => Nat.le_trans (h.bnd k) hN, Nat.le_trans h.len hN, h.ne, h.ok, fun k q hq => hT q (h.mem k q hq)⟩
theorem EndT.new {w : World} {B lt mb : Nat} (h : Tb w B lt mb []) : EndT w B lt mb 0 (fun _ => False) [] := ⟨h, Bnd.nil, Nat.le_refl _, fun k q hq => (by cases hq), fun k => LineOk.nil, fun k q hq => (by rcases hq with h | h <;> cases h)⟩
set_option maxHeartbeats 2000000 in
theorem ask_bad {w : World} {B lt mb : Nat} {qs : List (S × Qv)} (h : Tb w B lt mb qs) (k : S) (p : Int × Int) (m : Int) (hm : ¬ (m = 1 ∨ m = 2)) :
    Calls Try.prog 13 #[.pointer (some ⟨lt, 0, none⟩), .agg #[.int .u64 p.1, .int .i64 p.2], .string k, .int .i64 m] w fun e w' => e = .returned (.int .i64 3) ∧ Below w.heap.size w w' := by
  have b1 : (m != 1) = true := by simp; omega
  have b2 : (m != 2) = true := by simp; omega
  clear h hm
  go_enter Try.func13, Try.ntmps13
  go_wp2_with fail
  go_ret
  exact ⟨rfl, ((Below.refl _ _).alloc (Nat.le_refl _) _).alloc (by simp) _⟩
def AskE (w : World) (B lt mb N : Nat) (T : Int × Int → Prop) (qs : List (S × Qv)) (p : Int × Int) (e : Ending) (w' : World) : Prop := ∃ a qs', e = .returned (.int .i64 a) ∧ EndT w' B lt mb (N + 1) (fun q => q = p ∨ T q) qs' ∧ TGo w w' mb qs qs'
theorem EndT.ask {w : World} {B lt mb N : Nat} {T : Int × Int → Prop} {qs : List (S × Qv)} (h : EndT w B lt mb N T qs) {k : S} (hk : OkS k) (p : Int × Int) (m : Int) (hN : N ≤ 50000) :
    Calls Try.prog 13 #[.pointer (some ⟨lt, 0, none⟩), .agg #[.int .u64 p.1, .int .i64 p.2], .string k, .int .i64 m] w (AskE w B lt mb N T qs p) := by
  by_cases hm : m = 1 ∨ m = 2
  rotate_left
  · refine (ask_bad h.tb k p m hm).mono ?_
    rintro e w' ⟨he, hb⟩
    exact ⟨3, qs, he, (h.below hb).more (by omega) fun q hq => .inr hq, TGo.of_below hb⟩
  refine (ask_any h.tb hk p m fun k q hq => by have := h.bnd.rows hq; omega).mono ?_
  rintro e w' ⟨he, qs', h1, h2, h3⟩
  have h5 := h3.len
  have h6 := h.len
  obtain ⟨o1, o2⟩ := ask_ok (h.ok k) p m
  refine ⟨_, qs', he, ⟨h1, h3.bnd h.bnd, by omega, fun k' q hq => ?_, fun k' => ?_, fun k' q hq => ?_⟩, h2⟩
  · by_cases e : k' = k
    · subst e
      have hl := h3.line
      unfold lineOf at hl
      rw [hq] at hl
      have hn := ask_ne (lineOf qs k') p m hm
      unfold lineOf at hn
      rw [← hl] at hn
      exact hn
    · rcases h3 with ⟨rfl, _⟩ | ⟨q', rfl, _⟩
      · exact h.ne k' q hq
      · rw [getM_set, if_neg (fun e2 => e e2.symm)] at hq
        exact h.ne k' q hq
  · by_cases e : k' = k
    · subst e
      rw [h3.line]
      exact o1
    · rw [h3.other e]
      exact h.ok k'
  · by_cases e : k' = k
    · subst e
      rw [h3.line] at hq
      exact (o2 q hq).imp id (h.mem k' q)
    · rw [h3.other e] at hq
      exact .inr (h.mem k' q hq)
def FreeE (w : World) (B lt mb N : Nat) (T : Int × Int → Prop) (qs : List (S × Qv)) (p : Int × Int) (e : Ending) (w' : World) : Prop := ∃ A n c qs', e = .returned (.slice A n c) ∧ EndT w' B lt mb N (fun q => T q ∧ q ≠ p) qs' ∧ TGo w w' mb qs qs'
theorem EndT.free {w : World} {B lt mb N : Nat} {T : Int × Int → Prop} {qs : List (S × Qv)} (h : EndT w B lt mb N T qs) (p : Int × Int) (hN : N ≤ 100) :
    Calls Try.prog 14 #[.pointer (some ⟨lt, 0, none⟩), .agg #[.int .u64 p.1, .int .i64 p.2]] w (FreeE w B lt mb N T qs p) := by
  have hokk : ∀ q ∈ qs, OkS q.1 := by
    obtain ⟨_, _, _, _, h3, _⟩ := h.tb.fm
    exact h3
  have hnd := h.tb.fm.keys
  refine (free_any h.tb p (N := N) (by omega) h.bnd (by have := h.len; omega) hokk).mono ?_
  rintro e w' ⟨v, qs', ks, gs, he, hg, hT, hG, hp, hs, hi⟩
  have hkd : (ks.map ofB).Perm (qs.map (·.1)) := by
    have := hp.map ofB
    rw [List.map_map] at this
    exact this
  obtain ⟨A, c, ev⟩ := hg.form
  subst ev
  have hout : ∀ k', k' ∉ ks.map ofB → lineOf qs' k' = ([], []) := fun k' hn => by
    unfold lineOf
    rw [hi.out k' hn]
    cases hq : getM qs k' with
    | none => rfl
    | some q => exact absurd (hkd.mem_iff.2 (List.mem_map.2 ⟨_, getM_mem hq, rfl⟩)) hn
  have hbn : Bnd qs' N := fun k' => by
    by_cases e : k' ∈ ks.map ofB
    · rw [hi.inn k' e]
      have h1 := freeL_len (lineOf qs k') p
      have h2 := h.bnd k'
      omega
    · rw [hout k' e]
      exact Nat.zero_le _
  have hln : qs'.length ≤ qs.length := by
    have hnd' := hT.fm.keys
    unfold Keys1 at hnd hnd'
    have hsub : ∀ x, x ∈ qs'.map (·.1) → x ∈ qs.map (·.1) := fun x hx => by
      obtain ⟨q, hq, rfl⟩ := List.mem_map.1 hx
      obtain ⟨i, hi2⟩ := List.getElem?_of_mem hq
      have hq' := getM_at hnd' hi2
      refine Classical.byContradiction fun hn => ?_
      have hn2 : q.1 ∉ ks.map ofB := fun hm => hn (hkd.mem_iff.1 hm)
      rw [hi.out _ hn2] at hq'
      exact hn (List.mem_map.2 ⟨_, getM_mem hq', rfl⟩)
    have := nodup_le hnd' hsub
    simpa using this
  refine ⟨A, _, c, qs', he, ⟨hT, hbn, by have := h.len; omega, hi.ne h.ne, fun k' => ?_, fun k' q hq => ?_⟩, hG⟩
  · by_cases e : k' ∈ ks.map ofB
    · rw [hi.inn k' e]
      exact (free_ok (h.ok k') p).1
    · rw [hout k' e]
      exact LineOk.nil
  · by_cases e : k' ∈ ks.map ofB
    · rw [hi.inn k' e] at hq
      obtain ⟨a1, a2⟩ := (free_ok (h.ok k') p).2 q hq
      exact ⟨h.mem k' q a1, a2⟩
    · rw [hout k' e] at hq
      rcases hq with h9 | h9 <;> cases h9
/-- Nobody is in it: no key is. -/
theorem EndT.empty {w : World} {B lt mb N : Nat} {T : Int × Int → Prop} {qs : List (S × Qv)} (h : EndT w B lt mb N T qs) (hT : ∀ q, ¬ T q) : qs = [] := by
  cases qs with
  | nil => rfl
  | cons x qs =>
    have hq : getM (x :: qs) x.1 = some x.2 := by rw [getM_cons, if_pos rfl]
    have hl : lineOf (x :: qs) x.1 = ([], []) := nobody fun q hq => hT q (h.mem _ q hq)
    have hn := h.ne _ _ hq
    unfold lineOf at hl
    rw [hq] at hl
    injection hl with e1 e2
    rcases hn with h9 | h9
    · exact absurd e1 h9
    · exact absurd e2 h9
#print axioms EndT.free
#print axioms EndT.empty
/-- The law's own list of transactions. -/
def pc (ps : List (Int × Int)) : List Value := ps.flatMap fun p => [.int .u64 p.1, .int .i64 p.2]
theorem pc_len : ∀ ps : List (Int × Int), (pc ps).length = ps.length * 2
  | [] => rfl
  | p :: ps => by
    show ([Value.int .u64 p.1, .int .i64 p.2] ++ pc ps).length = _
    rw [List.length_append, pc_len ps]
    show 2 + ps.length * 2 = (ps.length + 1) * 2
    omega
theorem pc_at : ∀ {ps : List (Int × Int)} {i : Nat} {p : Int × Int}, ps[i]? = some p → (pc ps)[i * 2]? = some (.int .u64 p.1) ∧ (pc ps)[i * 2 + 1]? = some (.int .i64 p.2)
  | [], i, p, h => by simp at h
  | q :: ps, 0, p, h => by
    have h' : q = p := by simpa using h
    subst h'
    exact ⟨rfl, rfl⟩
  | q :: ps, i + 1, p, h => by
    have h' : ps[i]? = some p := by simpa using h
    have ih := pc_at h'
    have e : pc (q :: ps) = [Value.int .u64 q.1, .int .i64 q.2] ++ pc ps := rfl
    rw [e, List.getElem?_append_right (by simp; omega), List.getElem?_append_right (by simp; omega)]
    simp only [List.length_cons, List.length_nil]
    rw [show (i + 1) * 2 - (0 + 1 + 1) = i * 2 by omega, show (i + 1) * 2 + 1 - (0 + 1 + 1) = i * 2 + 1 by omega]
    exact ih
theorem tyT : Ty Try.prog 24 2 16 (.agg #[.int .u64 0, .int .i64 0]) := Ty.of (by kernel_rfl) rfl
def POwn (w : World) (B : Nat) (v : Value) (ps : List (Int × Int)) : Prop := Own w B 24 2 v ps.length (pc ps)
theorem POwn.form {w : World} {B : Nat} {v : Value} {ps : List (Int × Int)} (h : POwn w B v ps) : ∃ A c, v = .slice A ps.length c := by
  obtain ⟨A, c, e, _⟩ := Own.slice_ h
  exact ⟨A, c, e⟩
theorem t_w : (24 : TypeId) ≠ 47 := by decide
theorem t_q : (24 : TypeId) ≠ 68 := by decide
theorem t_t : (24 : TypeId) ≠ 64 := by decide
theorem app_p {W : World} {B : Nat} {v : Value} {ps : List (Int × Int)} (ho : POwn W B v ps) (hB : B ≤ W.heap.size) (p : Int × Int) (hlim : ps.length ≤ 100000) (t : TypeId) :
    Does Try.prog (W.alloc (.cells #[.int .u64 p.1, .int .i64 p.2] 24)) (Builtin.append_ #[45, 45] t #[v, .slice (some ⟨W.heap.size, 0, none⟩) 1 1]) fun v' w' => POwn w' B v' (ps ++ [p]) ∧ Fr (fun g => v.ownBlock = some g) (W.alloc (.cells #[.int .u64 p.1, .int .i64 p.2] 24)) w' := by
  obtain ⟨v', w', hrun, ho', hg, hbl, _⟩ := run_append (P := Try.prog) (W.alloc (.cells #[.int .u64 p.1, .int .i64 p.2] 24)) (ty := t) Try.underlying45 Try.underlying45 tyT (Own.alloc ho (.cells #[.int .u64 p.1, .int .i64 p.2] 24)) (A := some ⟨W.heap.size, 0, none⟩) (m := 1) (c := 1) (news := pc [p]) rfl
    (fun h0 => ⟨_, _, rfl, fun j u hu => by
      rw [Nat.zero_add, cell_of_row _ _ _ _ _ _ (heap_alloc_new W _)]
      rw [show pc [p] = [Value.int .u64 p.1, .int .i64 p.2] from rfl] at hu
      simpa using hu⟩) (by
      intro u hu
      rw [show pc [p] = [Value.int .u64 p.1, .int .i64 p.2] from rfl] at hu
      simp only [List.mem_cons, List.not_mem_nil, or_false] at hu
      rcases hu with rfl | rfl <;> rfl) (by unfold maxLen; omega) (by omega) (by simp; omega)
  refine ⟨v', w', hrun, ?_, Fr.of_grown hg (fun g e => e)⟩
  unfold POwn
  rw [List.length_append, List.length_singleton, show pc (ps ++ [p]) = pc ps ++ pc [p] by simp [pc]]
  exact ho'
#print axioms app_p
end Go.Proofs.Ytcceankldiafpaa.Lock
