/- Words for memory: frames; slices that are read; rows of the call's own, at whatever place in their block; append, copy, clear over them. -/
import Derived.WalkKit
import Derived.WalkSpells
import Derived.Deep.Draws
import Derived.Deep.AppendLies
import Derived.Deep.RegionLaw
import Derived.Deep.RegionHeld3
import Derived.Deep.QuietTactic
import Derived.Deep.LoopGhost
import Derived.BigQuiet
import Derived.StillTailTactics
import Derived.KernelRfl
import Derived.Lib.Hide
set_option linter.unusedVariables false
set_option linter.unusedSimpArgs false
namespace Go.Proofs.Ythkacajlbenflaa.Mem
open Go.RowKit

/-! ### Frames -/
/-- Outside S nothing that was there has turned. -/
structure Fr (S : Nat → Prop) (w w' : World) : Prop where
  os : w'.os = w.os
  tape : w'.tape = w.tape
  output : w'.output = w.output
  size : w.heap.size ≤ w'.heap.size
  block : ∀ k, k < w.heap.size → ¬ S k → w'.heap[k]? = w.heap[k]?
section
variable {S T : Nat → Prop} {a b c w : World}
theorem Fr.refl (S : Nat → Prop) (w : World) : Fr S w w := ⟨rfl, rfl, rfl, Nat.le_refl _, fun _ _ _ => rfl⟩
theorem Fr.trans (h : Fr S a b) (k : Fr T b c) (hT : ∀ i, i < a.heap.size → T i → S i) : Fr S a c :=
  ⟨k.os.trans h.os, k.tape.trans h.tape, k.output.trans h.output, Nat.le_trans h.size k.size, fun i hi hs =>
    (k.block i (Nat.lt_of_lt_of_le hi h.size) (fun ht => hs (hT i hi ht))).trans (h.block i hi hs)⟩
theorem Fr.mono (h : Fr S a b) (hS : ∀ i, i < a.heap.size → S i → T i) : Fr T a b :=
  ⟨h.os, h.tape, h.output, h.size, fun i hi hs => h.block i hi (fun hx => hs (hS i hi hx))⟩
theorem Fr.drewN (h : Fr S a w) (n : Nat) : Fr S a (w.drewN n) := ⟨h.os, h.tape, h.output, h.size, h.block⟩
theorem Fr.drew (h : Fr S a w) : Fr S a w.drew := ⟨h.os, h.tape, h.output, h.size, h.block⟩
theorem Fr.alloc (h : Fr S a w) (o : Obj) : Fr S a (w.alloc o) :=
  ⟨h.os, h.tape, h.output, Nat.le_trans h.size (by simp), fun i hi hs => (Below.heap_alloc w o i (Nat.lt_of_lt_of_le hi h.size)).trans (h.block i hi hs)⟩
theorem Fr.setCell (h : Fr S a w) {p : Addr} (hp : S p.block ∨ a.heap.size ≤ p.block) (u : Value) : Fr S a (w.setCell p u) :=
  ⟨h.os, h.tape, h.output, by simpa [World.setCell] using h.size, fun i hi hs => (Below.heap_setCell w p u i (by
    rintro rfl
    rcases hp with hp | hp
    · exact hs hp
    · omega)).trans (h.block i hi hs)⟩
theorem Fr.setRow (h : Fr S a w) {g : Nat} (hp : S g ∨ a.heap.size ≤ g) (cs : Array Value) : Fr S a (w.setRow g cs) :=
  ⟨h.os, h.tape, h.output, by simpa using h.size, fun i hi hs => (setRow_other w g i cs (by
    rintro rfl
    rcases hp with hp | hp
    · exact hs hp
    · omega)).trans (h.block i hi hs)⟩
theorem Fr.below (h : Fr S a b) {B : Nat} (hB : B ≤ a.heap.size) (hS : ∀ i, i < a.heap.size → S i → B ≤ i) : Below B a b :=
  ⟨h.os, h.tape, h.output, h.size, fun i hi => h.block i (by omega) (fun hx => by have := hS i (by omega) hx; omega)⟩
theorem Fr.of_below (h : Below a.heap.size a b) (S : Nat → Prop) : Fr S a b := ⟨h.os, h.tape, h.output, h.size, fun i hi _ => h.block i hi⟩
theorem Fr.of_grown {row : Option Nat} (h : a.grownBy b row) (hr : ∀ g, row = some g → S g) : Fr S a b :=
  ⟨h.os, h.tape, h.output, h.size, fun i hi hs => h.block i hi (fun e => hs (hr i e.symm))⟩
theorem Fr.cell (h : Fr S a b) {p : Addr} {v : Value} (hc : a.cell? p = some v) (hs : ¬ S p.block) : b.cell? p = some v :=
  (World.cell?_of_block (h.block p.block (World.block_lt_of_cell? a p hc) hs)).trans hc
theorem Fr.blk (h : Fr S a b) {g : Nat} {o : Obj} (hg : a.heap[g]? = some o) (hs : ¬ S g) : b.heap[g]? = some o :=
  (h.block g (Array.getElem?_eq_some_iff.1 hg).1 hs).trans hg
/-- What only new blocks have turned. -/
theorem Fr.mono_new {g : Nat} (h : Fr (fun k => k = g) a b) (hg : a.heap.size ≤ g := by exact Nat.le_refl _) {T : Nat → Prop} : Fr T a b := h.mono fun i hi e => by subst e; omega
theorem below_drewN {B : Nat} {a w : World} (h : Below B a w) (n : Nat) : Below B a (w.drewN n) := ⟨h.os, h.tape, h.output, h.size, h.block⟩
theorem below_then {B : Nat} {w w1 w2 : World} (h : Below B w w1) (hB : B ≤ w1.heap.size) (k : Below w1.heap.size w1 w2) : Below B w w2 :=
  h.trans (k.mono hB)
end

/-! ### A slice that is read -/
/-- The slice value v holds the n elements xs (k cells each, flat), in blocks below B. -/
def Rd (w : World) (B k : Nat) (v : Value) (n : Nat) (xs : List Value) : Prop :=
  xs.length = n * k ∧ ∃ A c, v = .slice A n c ∧ n ≤ c ∧ c ≤ maxLen ∧
    (0 < n → ∃ g off, A = some ⟨g, off, none⟩ ∧ g < B ∧ ∀ j u, xs[j]? = some u → w.cell? ⟨g, off + j, none⟩ = some u)
section
variable {w w' : World} {B B' k n : Nat} {v : Value} {xs : List Value}
theorem Rd.keep (h : Rd w B k v n xs) (hk : ∀ p : Addr, p.block < B → w'.cell? p = w.cell? p) : Rd w' B k v n xs := by
  obtain ⟨hl, A, c, hv, hn, hc, ha⟩ := h
  refine ⟨hl, A, c, hv, hn, hc, fun h0 => ?_⟩
  obtain ⟨g, off, hA, hg, hx⟩ := ha h0
  exact ⟨g, off, hA, hg, fun j u hu => (hk ⟨g, off + j, none⟩ hg).trans (hx j u hu)⟩
theorem Rd.below (h : Rd w B k v n xs) (hb : Below B w w') : Rd w' B k v n xs := h.keep fun _ hp => hb.cell hp
theorem Rd.more (h : Rd w B k v n xs) (hB : B ≤ B') : Rd w B' k v n xs := by
  obtain ⟨hl, A, c, hv, hn, hc, ha⟩ := h
  refine ⟨hl, A, c, hv, hn, hc, fun h0 => ?_⟩
  obtain ⟨g, off, hA, hg, hx⟩ := ha h0
  exact ⟨g, off, hA, by omega, hx⟩
theorem Rd.up (h : Rd w w.heap.size k v n xs) (hb : Below w.heap.size w w') : Rd w' w'.heap.size k v n xs := (h.below hb).more hb.size
theorem Rd.drewN (h : Rd w B k v n xs) (m : Nat) : Rd (w.drewN m) B k v n xs := h
theorem Rd.drew (h : Rd w B k v n xs) : Rd w.drew B k v n xs := h
theorem Rd.alloc (h : Rd w B k v n xs) (hB : B ≤ w.heap.size) (o : Obj) : Rd (w.alloc o) B k v n xs := h.keep fun p hp => World.cell?_alloc_lt w o p (by omega)
theorem Rd.nil_ (w : World) (B k : Nat) : Rd w B k (.slice none 0 0) 0 [] := ⟨by simp, none, 0, rfl, Nat.le_refl _, Nat.zero_le _, fun h => absurd h (by omega)⟩
theorem Rd.len_le (h : Rd w B k v n xs) : n ≤ maxLen := by obtain ⟨_, A, c, _, h1, h2, _⟩ := h; omega
theorem Rd.cells (h : Rd w B k v n xs) (h0 : 0 < n) : ∃ g off c, v = .slice (some ⟨g, off, none⟩) n c ∧ g < B ∧ n ≤ c ∧ c ≤ maxLen ∧ ∀ j u, xs[j]? = some u → w.cell? ⟨g, off + j, none⟩ = some u := by
  obtain ⟨hl, A, c, rfl, hn, hc, ha⟩ := h
  obtain ⟨g, off, rfl, hg, hx⟩ := ha h0
  exact ⟨g, off, c, rfl, hg, hn, hc, hx⟩
/-- All of one value's cells are one-cell values. -/
def One (xs : List Value) : Prop := ∀ u ∈ xs, u.oneCell' = true
theorem One.append {xs ys : List Value} (h : One xs) (k : One ys) : One (xs ++ ys) := fun u hu => by
  rcases List.mem_append.1 hu with hu | hu
  · exact h u hu
  · exact k u hu
theorem One.take {xs : List Value} (h : One xs) (n : Nat) : One (xs.take n) := fun u hu => h u (List.mem_of_mem_take hu)
theorem One.drop {xs : List Value} (h : One xs) (n : Nat) : One (xs.drop n) := fun u hu => h u (List.mem_of_mem_drop hu)
theorem One.nil : One [] := fun _ h => by cases h
end

/-! ### A row of the call's own -/
/-- v (nil, or at some place of a block from base on that is not frozen) holds the n elements xs, k cells each. -/
def Own (w : World) (base : Nat) (e : TypeId) (k : Nat) (v : Value) (n : Nat) (xs : List Value) : Prop :=
  xs.length = n * k ∧ ((v = .slice none 0 0 ∧ n = 0) ∨
   ∃ g off cap cur, v = .slice (some ⟨g, off, none⟩) n cap ∧ base ≤ g ∧ w.heap[g]? = some (.cells cur e (0, 0)) ∧ n ≤ cap ∧ cap ≤ maxLen ∧ off + cap * k ≤ cur.size ∧ (cur.toList.drop off).take (n * k) = xs)
section
variable {w w' : World} {base base' k n : Nat} {e : TypeId} {v : Value} {xs : List Value}
theorem Own.of_owns (h : w.ownsRow base e k v n xs) : Own w base e k v n xs := by
  refine ⟨h.1, ?_⟩
  rcases h.2 with h | ⟨g, cap, cur, hv, hb, hg, hn, hc, hs, ht⟩
  · exact .inl h
  · exact .inr ⟨g, 0, cap, cur, hv, hb, hg, hn, hc, by omega, by simpa using ht⟩
theorem Own.nil_ (w : World) (base : Nat) (e : TypeId) (k : Nat) : Own w base e k (.slice none 0 0) 0 [] := ⟨by simp, .inl ⟨rfl, rfl⟩⟩
theorem Own.lt (h : Own w base e k v n xs) : ∀ g, v.ownBlock = some g → base ≤ g ∧ g < w.heap.size := by
  intro g hg
  rcases h.2 with ⟨rfl, _⟩ | ⟨g', off, cap, cur, rfl, hb, hh, _⟩
  · simp [Value.ownBlock] at hg
  · simp [Value.ownBlock] at hg
    subst hg
    exact ⟨hb, (Array.getElem?_eq_some_iff.1 hh).1⟩
theorem Own.base_ (h : Own w base e k v n xs) (hb : ∀ g, v.ownBlock = some g → base' ≤ g) : Own w base' e k v n xs := by
  refine ⟨h.1, ?_⟩
  rcases h.2 with h | ⟨g, off, cap, cur, rfl, hbb, rest⟩
  · exact .inl h
  · exact .inr ⟨g, off, cap, cur, rfl, hb g (by simp [Value.ownBlock]), rest⟩
theorem Own.kept (h : Own w base e k v n xs) (hk : ∀ g, v.ownBlock = some g → w'.heap[g]? = w.heap[g]?) : Own w' base e k v n xs := by
  refine ⟨h.1, ?_⟩
  rcases h.2 with h | ⟨g, off, cap, cur, rfl, hb, hg, rest⟩
  · exact .inl h
  · exact .inr ⟨g, off, cap, cur, rfl, hb, by rw [hk g (by simp [Value.ownBlock])]; exact hg, rest⟩
theorem Own.fr {S : Nat → Prop} (h : Own w base e k v n xs) (hf : Fr S w w') (hS : ∀ g, v.ownBlock = some g → ¬ S g) : Own w' base e k v n xs :=
  h.kept fun g hg => hf.block g (h.lt g hg).2 (hS g hg)
theorem Own.below (h : Own w base e k v n xs) (hb : Below w.heap.size w w') : Own w' base e k v n xs := h.kept fun g hg => hb.block g (h.lt g hg).2
theorem Own.drewN (h : Own w base e k v n xs) (m : Nat) : Own (w.drewN m) base e k v n xs := h
theorem Own.drew (h : Own w base e k v n xs) : Own w.drew base e k v n xs := h
theorem Own.alloc (h : Own w base e k v n xs) (o : Obj) : Own (w.alloc o) base e k v n xs := h.kept fun g hg => Below.heap_alloc w o g (h.lt g hg).2
theorem own_cells {cur : Array Value} {off m : Nat} {xs : List Value} (ht : (cur.toList.drop off).take m = xs) {j : Nat} {u : Value} (hu : xs[j]? = some u) : cur[off + j]? = some u := by
  subst ht
  rw [List.getElem?_take] at hu
  split at hu
  · rw [List.getElem?_drop] at hu; simpa using hu
  · cases hu
theorem Own.rd (h : Own w base e k v n xs) : Rd w w.heap.size k v n xs := by
  refine ⟨h.1, ?_⟩
  rcases h.2 with ⟨rfl, rfl⟩ | ⟨g, off, cap, cur, rfl, hb, hg, hn, hc, hs, ht⟩
  · exact ⟨none, 0, rfl, Nat.le_refl _, Nat.zero_le _, fun h => absurd h (by omega)⟩
  · exact ⟨_, cap, rfl, hn, hc, fun _ => ⟨g, off, rfl, (Array.getElem?_eq_some_iff.1 hg).1, fun j u hu => by rw [cell_of_row w g _ cur e (0, 0) hg]; exact own_cells ht hu⟩⟩
theorem Own.slice_ (h : Own w base e k v n xs) : ∃ A c, v = .slice A n c ∧ n ≤ c ∧ c ≤ maxLen := by
  obtain ⟨_, A, c, hv, h1, h2, _⟩ := h.rd
  exact ⟨A, c, hv, h1, h2⟩
theorem Own.frozen (h : Own w base e k v n xs) {g : Nat} (hg : v.ownBlock = some g) (j : Nat) : w.frozen? ⟨g, j, none⟩ = false := by
  rcases h.2 with ⟨rfl, _⟩ | ⟨g', off, cap, cur, rfl, hb, hh, _⟩
  · simp [Value.ownBlock] at hg
  · have : g' = g := by simpa [Value.ownBlock] using hg
    subst this
    simp [World.frozen?, hh]
theorem Own.form (h : Own w base e k v n xs) (h0 : 0 < n) : ∃ g off cap cur, v = .slice (some ⟨g, off, none⟩) n cap ∧ base ≤ g ∧ w.heap[g]? = some (.cells cur e (0, 0)) ∧ n ≤ cap ∧ cap ≤ maxLen ∧ off + cap * k ≤ cur.size ∧ (cur.toList.drop off).take (n * k) = xs := by
  rcases h.2 with ⟨_, rfl⟩ | h
  · omega
  · exact h
/-- One cell of it is turned. -/
theorem Own.set {g off cap : Nat} (h : Own w base e k (.slice (some ⟨g, off, none⟩) n cap) n xs) (j : Nat) (u : Value) : Own (w.setCell ⟨g, off + j, none⟩ u) base e k (.slice (some ⟨g, off, none⟩) n cap) n (xs.set j u) := by
  obtain ⟨hl, h⟩ := h
  refine ⟨by simpa using hl, ?_⟩
  rcases h with ⟨h, _⟩ | ⟨g', off', cap', cur, hv, hb, hg, hn, hc, hs, ht⟩
  · cases h
  · injection hv with ha hn' hc'
    injection ha with ha
    injection ha with h1 h2
    subst h1 h2 hc'
    refine .inr ⟨g, off, cap, cur.setIfInBounds (off + j) u, rfl, hb, ?_, hn, hc, by simpa using hs, ?_⟩
    · simp [World.setCell, Array.getElem?_modify, hg]
    · have hbd : n * k ≤ cap * k := Nat.mul_le_mul_right _ hn
      rw [← ht]
      apply List.ext_getElem?
      intro i
      rw [List.getElem?_set, List.getElem?_take, List.getElem?_take, List.getElem?_drop, List.getElem?_drop, Array.toList_setIfInBounds, List.getElem?_set]
      by_cases hi : i < n * k
      · rw [if_pos hi, if_pos hi]
        by_cases hj : j = i
        · subst hj
          have h1 : j < (List.take (n * k) (List.drop off cur.toList)).length := by simp; omega
          have h2 : off + j < cur.toList.length := by simp; omega
          simp only [if_true, h1, h2]
        · rw [if_neg hj, if_neg (by omega)]
      · rw [if_neg hi, if_neg hi]
        by_cases hj : j = i
        · subst hj
          have h1 : ¬ j < (List.take (n * k) (List.drop off cur.toList)).length := by simp; omega
          simp only [if_true, h1, if_false]
        · rw [if_neg hj]
end

/-! ### append -/
section
variable {P : Program} (w : World)
theorem lenSl (A : Option Addr) (n c : Nat) : (Builtin.lenOf (.slice A n c)).run P w = .ok n w := rfl
theorem run_append_room' (t tx ty e e2 : TypeId) (i : TypeInfo) (ht : P.underlying t = some (.slice e)) (htx : P.underlying tx = some (.slice e2)) (hi : P.info? e = some i)
    (g off sLen sCap : Nat) (cur : Array Value) (hg : w.heap[g]? = some (.cells cur e (0, 0)))
    (a : Addr) (m c : Nat) (news : List Value) (hl : news.length = m * i.size) (hnews : ∀ j u, news[j]? = some u → w.cell? (a.add j) = some u) (h1 : ∀ u ∈ news, u.oneCell' = true)
    (hroom : sLen + m ≤ sCap) (hfit : off + sLen * i.size + news.length ≤ cur.size) :
    (Builtin.append_ #[t, tx] ty #[.slice (some ⟨g, off, none⟩) sLen sCap, .slice (some a) m c]).run P w =
      .ok (.slice (some ⟨g, off, none⟩) (sLen + m) sCap) (w.setRow g (cur.toList.take (off + sLen * i.size) ++ news ++ cur.toList.drop (off + sLen * i.size + news.length)).toArray) := by
  have hf := run_firstCells_some (P := P) w i.size m a m c news hl hnews
  have hst := run_storeCells_at P g (off + sLen * i.size) e news 0 cur w hg (by simpa using hfit) h1
  simp only [Nat.add_zero] at hst
  have hadd : (⟨g, off, none⟩ : Addr).add (sLen * i.size) = ⟨g, off + sLen * i.size, none⟩ := by unfold Addr.add; split <;> simp_all
  simp [Builtin.append_, run_underlying ht, run_underlying htx, sizeOf, typeInfo, hi, Builtin.lenOf, hroom, hf, hadd, hst]
theorem run_append_nil' (t tx ty e e2 : TypeId) (i : TypeInfo) (z : Value) (ht : P.underlying t = some (.slice e)) (htx : P.underlying tx = some (.slice e2)) (hi : P.info? e = some i) (hz : i.zero = some z)
    (a : Addr) (n c : Nat) (news : List Value) (hl : news.length = n * i.size) (hnews : ∀ j v, news[j]? = some v → w.cell? (a.add j) = some v)
    (h0 : 0 < n) (h63 : (n : Int) ≤ 9223372036854775807) (h48 : n * i.bytes ≤ 281474976710656) :
    (Builtin.append_ #[t, tx] ty #[.slice none 0 0, .slice (some a) n c]).run P w =
      .ok (.slice (some ⟨w.heap.size, 0, none⟩) n (grownCap w n 0 e)) (w.drew.alloc (.cells (news.toArray ++ Builtin.zeroCells z.cells (grownCap w n 0 e - n)) e)) := by
  have hn : n ≠ 0 := by omega
  have h63' : ¬ (9223372036854775807 < (n : Int)) := by omega
  have h48' : ¬ (281474976710656 < Builtin.nextslicecap n 0 * i.bytes) := by rw [nextslicecap_zero h0]; omega
  have hf := run_firstCells_some (P := P) w.drew i.size n a n c news hl (by simpa using hnews)
  simp [Builtin.append_, run_underlying ht, run_underlying htx, sizeOf, typeInfo, zeroValue, hi, hz, Builtin.lenOf, hn, h63', h48', Question.forced, run_firstCells_none, hf, newRow, grownCap]
theorem run_append_grow' (t tx ty e e2 : TypeId) (i : TypeInfo) (z : Value) (ht : P.underlying t = some (.slice e)) (htx : P.underlying tx = some (.slice e2)) (hi : P.info? e = some i) (hz : i.zero = some z)
    (b : Addr) (sLen sCap : Nat) (olds : List Value) (hlo : olds.length = sLen * i.size) (holds : ∀ j v, olds[j]? = some v → w.cell? (b.add j) = some v)
    (a : Addr) (n c : Nat) (news : List Value) (hl : news.length = n * i.size) (hnews : ∀ j v, news[j]? = some v → w.cell? (a.add j) = some v)
    (hg : sCap < sLen + n) (h63 : ((sLen + n : Nat) : Int) ≤ 9223372036854775807) (hfit : Builtin.nextslicecap (sLen + n) sCap * i.bytes ≤ 281474976710656) :
    (Builtin.append_ #[t, tx] ty #[.slice (some b) sLen sCap, .slice (some a) n c]).run P w =
      .ok (.slice (some ⟨w.heap.size, 0, none⟩) (sLen + n) (grownCap w (sLen + n) sCap e))
        (w.drew.alloc (.cells (olds.toArray ++ news.toArray ++ Builtin.zeroCells z.cells (grownCap w (sLen + n) sCap e - (sLen + n))) e)) := by
  have hn : ¬ (sLen + n ≤ sCap) := by omega
  have h63' : ¬ (9223372036854775807 < ((sLen : Int) + (n : Int))) := by omega
  have h48' : ¬ (281474976710656 < Builtin.nextslicecap (sLen + n) sCap * i.bytes) := by omega
  have hf := run_firstCells_some (P := P) w.drew i.size n a n c news hl (by simpa using hnews)
  have hfo := run_firstCells_some (P := P) w.drew i.size sLen b sLen sCap olds hlo (by simpa using holds)
  simp [Builtin.append_, run_underlying ht, run_underlying htx, sizeOf, typeInfo, zeroValue, hi, hz, Builtin.lenOf, hn, h63', h48', Question.forced, hf, hfo, newRow, grownCap]
  congr 2
  apply Array.ext'
  simp [List.append_assoc]
end
/-- What is known of a type by its row of the table. -/
structure Ty (P : Program) (e : TypeId) (k bytes : Nat) (z : Value) : Prop where
  info : ∃ i, P.info? e = some i ∧ i.zero = some z ∧ i.size = k ∧ i.bytes = bytes
  zk : z.cells.size = k
theorem Ty.of {P : Program} {e : TypeId} {k bytes : Nat} {z : Value} (h : (P.info? e).map (fun i => (i.zero, i.size, i.bytes)) = some (some z, k, bytes)) (hz : z.cells.size = k) : Ty P e k bytes z := by
  obtain ⟨i, hi, hx⟩ := Option.map_eq_some_iff.1 h
  simp only [Prod.mk.injEq] at hx
  exact ⟨⟨i, hi, hx.1, hx.2.1, hx.2.2⟩, hz⟩

theorem run_append {P : Program} (w : World) {t tx ty e e2 : TypeId} {k bytes : Nat} {z : Value} (ht : P.underlying t = some (.slice e)) (htx : P.underlying tx = some (.slice e2)) (hT : Ty P e k bytes z)
    {base : Nat} {v : Value} {n : Nat} {xs : List Value} (hown : Own w base e k v n xs)
    {A : Option Addr} {m c : Nat} {news : List Value} (hl : news.length = m * k) (hnews : 0 < m → ∃ g off, A = some ⟨g, off, none⟩ ∧ ∀ j u, news[j]? = some u → w.cell? ⟨g, off + j, none⟩ = some u) (h1 : One news)
    (h63 : n + m ≤ maxLen) (hbytes : (n + m) * bytes ≤ 140737488355328) (hbase : base ≤ w.heap.size) :
    ∃ v' w', (Builtin.append_ #[t, tx] ty #[v, .slice A m c]).run P w = .ok v' w' ∧ Own w' base e k v' (n + m) (xs ++ news) ∧ w.grownBy w' v.ownBlock ∧
      (v'.ownBlock = v.ownBlock ∨ v'.ownBlock = some w.heap.size) ∧ (v' = .slice none 0 0 ↔ v = .slice none 0 0 ∧ m = 0) := by
  obtain ⟨⟨i, hi, hz, rfl, rfl⟩, hzs⟩ := hT
  have hsmall : n + m ≤ 9223372036854775807 := by simp only [maxLen] at h63; omega
  have hlen : (xs ++ news).length = (n + m) * i.size := by rw [List.length_append, hown.1, hl, Nat.add_mul]
  rcases Nat.eq_zero_or_pos m with hm | hm
  · subst hm
    have hn : news = [] := List.eq_nil_of_length_eq_zero (by simpa using hl)
    subst hn
    refine ⟨v, w, ?_, by simpa using hown, ⟨rfl, rfl, rfl, Nat.le_refl _, fun _ _ _ => rfl⟩, .inl rfl, by simp⟩
    obtain ⟨A', c', rfl, hnc, _⟩ := hown.slice_
    have hfc : (Builtin.firstCells i.size 0 (.slice A 0 c)).run P w = .ok #[] w := by
      cases A with
      | none => simp [Builtin.firstCells]
      | some a => simp [Builtin.firstCells, loadCells, loadCellsFrom]
    rcases A' with _ | ⟨g, off, sp⟩
    · simp [Builtin.append_, run_underlying ht, run_underlying htx, sizeOf, typeInfo, hi, Builtin.lenOf, hnc, hfc, storeCells]
    · simp [Builtin.append_, run_underlying ht, run_underlying htx, sizeOf, typeInfo, hi, Builtin.lenOf, hnc, hfc, storeCells]
  · obtain ⟨ga, oa, rfl, hcells⟩ := hnews hm
    have hadd : ∀ j, (⟨ga, oa, none⟩ : Addr).add j = ⟨ga, oa + j, none⟩ := fun j => by unfold Addr.add; split <;> simp_all
    have hcells' : ∀ j u, news[j]? = some u → w.cell? ((⟨ga, oa, none⟩ : Addr).add j) = some u := fun j u hu => by rw [hadd]; exact hcells j u hu
    have grown : ∀ (old : Nat), old < n + m → ∀ (row : Option Nat),
        Own (w.drew.alloc (.cells (xs.toArray ++ news.toArray ++ Builtin.zeroCells z.cells (grownCap w (n + m) old e - (n + m))) e)) base e i.size
          (.slice (some ⟨w.heap.size, 0, none⟩) (n + m) (grownCap w (n + m) old e)) (n + m) (xs ++ news) ∧
        w.grownBy (w.drew.alloc (.cells (xs.toArray ++ news.toArray ++ Builtin.zeroCells z.cells (grownCap w (n + m) old e - (n + m))) e)) row := by
      intro old ho row
      have hge := grownCap_ge w (n + m) old e
      have hcm : grownCap w (n + m) old e ≤ maxLen := grownCap_le_maxLen w (n + m) old e h63
      refine ⟨⟨hlen, .inr ⟨w.heap.size, 0, _, _, rfl, hbase, heap_alloc_new w.drew _, hge, hcm, ?_, ?_⟩⟩, ⟨rfl, rfl, rfl, by simp, fun k hk _ => Below.heap_alloc w.drew _ k (by simpa using hk)⟩⟩
      · simp only [Array.size_append, List.size_toArray, size_zeroCells, hzs, hown.1, hl, ← Nat.add_mul, Nat.zero_add]
        apply Nat.mul_le_mul_right
        omega
      · simp only [Array.toList_append, List.append_assoc, List.drop_zero]
        rw [← List.append_assoc, ← hlen]
        exact List.take_left
    rcases hown.2 with ⟨rfl, rfl⟩ | ⟨g, off, cap, cur, rfl, hbg, hg, hnc, hcm, hcs, htake⟩
    · have hx : xs = [] := List.eq_nil_of_length_eq_zero (by simpa using hown.1)
      subst hx
      have hr := run_append_nil' (P := P) w t tx ty e e2 i z ht htx hi hz ⟨ga, oa, none⟩ m c news hl hcells' hm (by omega) (by have hb := hbytes; simp only [Nat.zero_add] at hb; omega)
      have hgr := grown 0 (by omega) (Value.ownBlock (.slice none 0 0))
      simp only [Nat.zero_add, List.nil_append, Array.empty_append] at hgr ⊢
      exact ⟨_, _, hr, hgr.1, hgr.2, .inr rfl, by simp; omega⟩
    · by_cases hroom : n + m ≤ cap
      · have hfit : off + n * i.size + news.length ≤ cur.size := by
          have : (n + m) * i.size ≤ cap * i.size := Nat.mul_le_mul_right _ hroom
          rw [Nat.add_mul] at this
          omega
        have hr := run_append_room' (P := P) w t tx ty e e2 i ht htx hi g off n cap cur hg ⟨ga, oa, none⟩ m c news hl hcells' h1 hroom hfit
        refine ⟨_, _, hr, ⟨hlen, .inr ⟨g, off, cap, _, rfl, hbg, setRow_heap w g cur _ e _ hg, hroom, hcm, ?_, ?_⟩⟩, ⟨rfl, rfl, rfl, by simp, fun k hk hne => setRow_other w g k _ (fun e => hne (by simp [Value.ownBlock, e]))⟩, .inl (by simp [Value.ownBlock]), by simp⟩
        · simp only [List.size_toArray, List.length_append, List.length_take, List.length_drop, Array.length_toList]
          omega
        · have hlo : (List.take (off + n * i.size) cur.toList).length = off + n * i.size := by simp; omega
          have e1 : List.drop off (List.take (off + n * i.size) cur.toList ++ news ++ List.drop (off + n * i.size + news.length) cur.toList) = xs ++ news ++ List.drop (off + n * i.size + news.length) cur.toList := by
            rw [List.append_assoc, List.drop_append_of_le_length (by omega), List.drop_take, htake.symm]
            simp [Nat.add_sub_cancel_left, List.append_assoc]
          simp only []
          rw [e1, ← hlen]
          exact List.take_left
      · have holds : ∀ j u, xs[j]? = some u → w.cell? ((⟨g, off, none⟩ : Addr).add j) = some u := fun j u hu => by
          have ha : (⟨g, off, none⟩ : Addr).add j = ⟨g, off + j, none⟩ := by unfold Addr.add; split <;> simp_all
          rw [ha, cell_of_row w g _ cur e (0, 0) hg]
          exact own_cells htake hu
        have hr := run_append_grow' (P := P) w t tx ty e e2 i z ht htx hi hz ⟨g, off, none⟩ n cap xs hown.1 holds ⟨ga, oa, none⟩ m c news hl hcells' (by omega) (by omega) (growslice_fits (by omega) hbytes)
        have hgr := grown cap (by omega) (Value.ownBlock (.slice (some ⟨g, off, none⟩) n cap))
        exact ⟨_, _, hr, hgr.1, hgr.2, .inr rfl, by simp⟩

/-! ### copy, clear, rows turned -/
/-- The row cur with news laid over it from place o on. -/
def splice (cur : Array Value) (o : Nat) (news : List Value) : Array Value := (cur.toList.take o ++ news ++ cur.toList.drop (o + news.length)).toArray
theorem size_splice {cur : Array Value} {o : Nat} {news : List Value} (h : o + news.length ≤ cur.size) : (splice cur o news).size = cur.size := by
  simp only [splice, List.size_toArray, List.length_append, List.length_take, List.length_drop, Array.length_toList]
  omega
theorem splice_at {cur : Array Value} {o : Nat} {news : List Value} (h : o + news.length ≤ cur.size) (j : Nat) : (splice cur o news)[j]? = if o ≤ j ∧ j < o + news.length then news[j - o]? else cur[j]? := by
  simp only [splice, List.getElem?_toArray, List.append_assoc]
  rw [List.getElem?_append, List.getElem?_append, List.getElem?_take, List.getElem?_drop]
  simp only [List.length_take, Array.length_toList, Nat.min_eq_left (show o ≤ cur.size by omega), Array.getElem?_toList]
  by_cases h1 : j < o
  · rw [if_pos h1, if_pos h1, if_neg (by omega)]
  · rw [if_neg h1]
    by_cases h2 : j < o + news.length
    · rw [if_pos (by omega), if_pos (by omega)]
    · rw [if_neg (by omega), if_neg (by omega)]
      congr 1
      omega
theorem splice_list {cur : Array Value} {o : Nat} {news : List Value} (h : o + news.length ≤ cur.size) (off m : Nat) (xs : List Value) (hm : off + m ≤ cur.size)
    (hx : xs.length = m) (ha : ∀ j, j < m → xs[j]? = if o ≤ off + j ∧ off + j < o + news.length then news[off + j - o]? else cur[off + j]?) : ((splice cur o news).toList.drop off).take m = xs := by
  apply List.ext_getElem?
  intro i
  rw [List.getElem?_take, List.getElem?_drop, Array.getElem?_toList, splice_at h]
  by_cases hi : i < m
  · rw [if_pos hi, ha i hi]
  · rw [if_neg hi, List.getElem?_eq_none (by omega)]
section
variable {P : Program} (w : World)
theorem add_lit' (g o j : Nat) : (⟨g, o, none⟩ : Addr).add j = ⟨g, o + j, none⟩ := by unfold Addr.add; split <;> simp_all
theorem run_copy_at {t tx ty e : TypeId} {k bytes : Nat} {z : Value} (ht : P.underlying t = some (.slice e)) (hT : Ty P e k bytes z) {g o dLen dc : Nat} {cur : Array Value} (hg : w.heap[g]? = some (.cells cur e (0, 0)))
    {sg so m c : Nat} {news : List Value} (hl : news.length = min m dLen * k) (hnews : ∀ j u, news[j]? = some u → w.cell? ⟨sg, so + j, none⟩ = some u) (h1 : One news) (hfit : o + news.length ≤ cur.size) :
    (Builtin.copy_ #[t, tx] ty #[.slice (some ⟨g, o, none⟩) dLen dc, .slice (some ⟨sg, so, none⟩) m c]).run P w = .ok (goInt (min m dLen : Nat)) (w.setRow g (splice cur o news)) := by
  obtain ⟨⟨i, hi, hz, rfl, rfl⟩, hzs⟩ := hT
  have hf := run_firstCells_some (P := P) w i.size (min m dLen) ⟨sg, so, none⟩ m c news hl (fun j u hu => by rw [add_lit']; exact hnews j u hu)
  have hst := run_storeCells_at P g o e news 0 cur w hg (by simpa using hfit) h1
  simp only [Nat.add_zero] at hst
  have hmin : Nat.min m dLen = min m dLen := rfl
  simp [Builtin.copy_, run_underlying ht, sizeOf, typeInfo, hi, Builtin.lenOf, hmin, hf, hst, splice]
theorem run_clear_at {t ty e : TypeId} {k bytes : Nat} {z : Value} (ht : P.underlying t = some (.slice e)) (hT : Ty P e k bytes z) {g o n c : Nat} {cur : Array Value} (hg : w.heap[g]? = some (.cells cur e (0, 0)))
    (h1 : One z.cells.toList) (hfit : o + n * k ≤ cur.size) :
    ∃ news, news.length = n * k ∧ (Builtin.clear_ #[t] ty #[.slice (some ⟨g, o, none⟩) n c]).run P w = .ok (.tuple #[]) (w.setRow g (splice cur o news)) := by
  obtain ⟨⟨i, hi, hz, rfl, rfl⟩, hzs⟩ := hT
  have hzl : (Builtin.zeroCells z.cells n).toList.length = n * i.size := by simp [Builtin.zeroCells, hzs]
  refine ⟨(Builtin.zeroCells z.cells n).toList, hzl, ?_⟩
  rcases Nat.eq_zero_or_pos n with h0 | h0
  · subst h0
    have hz0 : (Builtin.zeroCells z.cells 0).toList = [] := List.eq_nil_of_length_eq_zero (by simpa using hzl)
    have hs : splice cur o [] = cur := by simp [splice]
    rw [hz0, hs, setRow_self w g cur e (0, 0) hg]
    simp [Builtin.clear_, run_underlying ht]
  · have h1' : ∀ v ∈ (Builtin.zeroCells z.cells n).toList, v.oneCell' = true := by
      intro v hv
      simp only [Builtin.zeroCells, Array.toList_map, List.mem_map] at hv
      obtain ⟨a, ha, rfl⟩ := hv
      have hak : a < n * z.cells.size := by simpa using ha
      have hk0 : 0 < z.cells.size := by
        rcases Nat.eq_zero_or_pos z.cells.size with h | h
        · rw [h] at hak; simp at hak
        · exact h
      have hlt : a % z.cells.size < z.cells.size := Nat.mod_lt _ hk0
      rw [getElem!_pos z.cells _ hlt]
      exact h1 _ (by simp)
    have hst := run_storeCells_at P g o e (Builtin.zeroCells z.cells n).toList 0 cur w hg (by simpa [hzl] using hfit) h1'
    simp only [Nat.add_zero] at hst
    cases n with
    | zero => omega
    | succ n => simp [Builtin.clear_, run_underlying ht, zeroValue, typeInfo, hi, hz, hst, splice]
end

/-! ### The rules of the walk -/
/-- The computation s, from the world w on, gives a value and a world of which R holds. -/
def Does (P : Program) (w : World) (s : Sem Value) (R : Value → World → Prop) : Prop := ∃ v' w', s.run P w = .ok v' w' ∧ R v' w'
theorem Does.mk {P : Program} {w : World} {s : Sem Value} {R : Value → World → Prop} {v : Value} {w1 : World} (h : s.run P w = .ok v w1) (hR : R v w1) : Does P w s R := ⟨v, w1, h, hR⟩
theorem Does.mono {P : Program} {w : World} {s : Sem Value} {R R' : Value → World → Prop} (h : Does P w s R) (hR : ∀ v w', R v w' → R' v w') : Does P w s R' := by
  obtain ⟨v, w', h1, h2⟩ := h
  exact ⟨v, w', h1, hR _ _ h2⟩
section
variable {P : Program} {ops : Array Oper} {rest : List Oper} {o : Oper} {a : Act} {Q : Exit → Act → World → Prop} {w : World}
theorem wp_append {K : Act → World → Prop} (s x : Operand) (t tx : TypeId) (ho : o.op = .call { callee := .builtin .append, args := #[s, x], argTypes := #[t, tx] })
    {v vx : Value} (hs : a.eval s = v) (hx : a.eval x = vx) {R : Value → World → Prop} (hrun : Does P w (Builtin.append_ #[t, tx] o.type #[v, vx]) R)
    (h : ∀ v' w', R v' w' → K (a.put o.dst v') w') : o.wp P a w K Q := by
  obtain ⟨v', w', hr, hR⟩ := hrun
  unfold Oper.wp execOp
  simp only [ho, resolve, invoke, builtin, Sem.run_bind, Sem.run_pure, Result.andThen_ok, List.map_toArray, List.map_cons, List.map_nil, hs, hx, hr]
  exact h v' w' hR
theorem wpL_append (hgd : o.guard = none) (s x : Operand) (t tx : TypeId) (ho : o.op = .call { callee := .builtin .append, args := #[s, x], argTypes := #[t, tx] })
    {v vx : Value} (hs : a.eval s = v) (hx : a.eval x = vx) {R : Value → World → Prop} (hrun : Does P w (Builtin.append_ #[t, tx] o.type #[v, vx]) R)
    (h : ∀ v' w', R v' w' → wpList P ops Q rest (a.put o.dst v') w') : wpList P ops Q (o :: rest) a w :=
  wpList_plain hgd fun _ hK => wp_append s x t tx ho hs hx hrun fun v' w' hR => hK _ _ (h v' w' hR)
theorem wp_copy {K : Act → World → Prop} (s x : Operand) (t tx : TypeId) (ho : o.op = .call { callee := .builtin .copy, args := #[s, x], argTypes := #[t, tx] })
    {v vx : Value} (hs : a.eval s = v) (hx : a.eval x = vx) {R : Value → World → Prop} (hrun : Does P w (Builtin.copy_ #[t, tx] o.type #[v, vx]) R)
    (h : ∀ v' w', R v' w' → K (a.put o.dst v') w') : o.wp P a w K Q := by
  obtain ⟨v', w', hr, hR⟩ := hrun
  unfold Oper.wp execOp
  simp only [ho, resolve, invoke, builtin, Sem.run_bind, Sem.run_pure, Result.andThen_ok, List.map_toArray, List.map_cons, List.map_nil, hs, hx, hr]
  exact h v' w' hR
theorem wpL_copy (hgd : o.guard = none) (s x : Operand) (t tx : TypeId) (ho : o.op = .call { callee := .builtin .copy, args := #[s, x], argTypes := #[t, tx] })
    {v vx : Value} (hs : a.eval s = v) (hx : a.eval x = vx) {R : Value → World → Prop} (hrun : Does P w (Builtin.copy_ #[t, tx] o.type #[v, vx]) R)
    (h : ∀ v' w', R v' w' → wpList P ops Q rest (a.put o.dst v') w') : wpList P ops Q (o :: rest) a w :=
  wpList_plain hgd fun _ hK => wp_copy s x t tx ho hs hx hrun fun v' w' hR => hK _ _ (h v' w' hR)
theorem step_append {K : Act → World → Prop} {E : Prop} (hgd : o.guard = none) (s x : Operand) (t tx : TypeId) (ho : o.op = .call { callee := .builtin .append, args := #[s, x], argTypes := #[t, tx] })
    {v vx : Value} (hs : a.eval s = v) (hx : a.eval x = vx) {R : Value → World → Prop} (hrun : Does P w (Builtin.append_ #[t, tx] o.type #[v, vx]) R)
    (h : ∀ v' w', R v' w' → K (a.put o.dst v') w') : if Region.wanted o (yielded ops a.tmps) = true then Oper.wp P o a w K Q else E := by
  rw [if_pos (by simp [Region.wanted, hgd])]
  exact wp_append s x t tx ho hs hx hrun h
theorem step_copy {K : Act → World → Prop} {E : Prop} (hgd : o.guard = none) (s x : Operand) (t tx : TypeId) (ho : o.op = .call { callee := .builtin .copy, args := #[s, x], argTypes := #[t, tx] })
    {v vx : Value} (hs : a.eval s = v) (hx : a.eval x = vx) {R : Value → World → Prop} (hrun : Does P w (Builtin.copy_ #[t, tx] o.type #[v, vx]) R)
    (h : ∀ v' w', R v' w' → K (a.put o.dst v') w') : if Region.wanted o (yielded ops a.tmps) = true then Oper.wp P o a w K Q else E := by
  rw [if_pos (by simp [Region.wanted, hgd])]
  exact wp_copy s x t tx ho hs hx hrun h
theorem wpL_clear (hgd : o.guard = none) (s : Operand) (t : TypeId) (ho : o.op = .call { callee := .builtin .clear, args := #[s], argTypes := #[t] })
    {v : Value} (hs : a.eval s = v) {R : Value → World → Prop} (hrun : Does P w (Builtin.clear_ #[t] o.type #[v]) R)
    (h : ∀ v' w', R v' w' → wpList P ops Q rest (a.put o.dst v') w') : wpList P ops Q (o :: rest) a w := by
  obtain ⟨v', w', hr, hR⟩ := hrun
  refine wpList_plain hgd fun _ hK => ?_
  unfold Oper.wp execOp
  simp only [ho, resolve, invoke, builtin, Sem.run_bind, Sem.run_pure, Result.andThen_ok, List.map_toArray, List.map_cons, List.map_nil, hs, hr]
  exact hK _ _ (h v' w' hR)
end
end Go.Proofs.Ythkacajlbenflaa.Mem
