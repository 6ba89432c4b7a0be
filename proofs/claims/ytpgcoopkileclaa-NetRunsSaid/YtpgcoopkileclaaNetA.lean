/- A net in memory, and what its calls do. -/
import Derived.Test.YtpgcoopkileclaaProg
import Derived.Test.YtpgcoopkileclaaSlL
import Derived.Test.YtpgcoopkileclaaSlB
import Derived.Test.YtpgcoopkileclaaOpen
set_option linter.unusedVariables false
set_option linter.unusedSimpArgs false
set_option linter.unusedSectionVars false
namespace Go.Proofs.Ytpgcoopkileclaa.NetA
open Go.RowKit Go.WideShapes Go.Deep Go.Proofs.Ytpgcoopkileclaa.Mem Go.Proofs.Ytpgcoopkileclaa.Open

abbrev B := List UInt8
def bc (b : B) : List Value := b.map fun x => .int .u8 (x.toNat : Int)
theorem bc_len (b : B) : (bc b).length = b.length := by simp [bc]
theorem bc_one (b : B) : One (bc b) := by
  intro u hu
  obtain ⟨x, _, rfl⟩ := List.mem_map.1 hu
  rfl
theorem bc_at {b : B} {i : Nat} {x : UInt8} (h : b[i]? = some x) : (bc b)[i]? = some (.int .u8 (x.toNat : Int)) := by simp [bc, h]
theorem bc_set (b : B) (i : Nat) (x : UInt8) : (bc b).set i (.int .u8 (x.toNat : Int)) = bc (b.set i x) := by simp [bc]
/-- A letter: to whom, the value of its bytes' slice, the bytes. -/
abbrev R3 := Int × Value × B
def rc (rs : List R3) : List Value := rs.flatMap fun r => [.int .i64 r.1, r.2.1]
theorem rc_len : ∀ rs : List R3, (rc rs).length = rs.length * 2
  | [] => rfl
  | r :: rs => by have := rc_len rs; simp only [rc, List.flatMap_cons, List.length_append, List.length_cons, List.length_nil] at *; omega
theorem rc_append (rs ss : List R3) : rc (rs ++ ss) = rc rs ++ rc ss := by simp [rc]
theorem rc_at : ∀ {rs : List R3} {i : Nat} {r : R3}, rs[i]? = some r → (rc rs)[i * 2]? = some (.int .i64 r.1) ∧ (rc rs)[i * 2 + 1]? = some r.2.1
  | [], i, r, h => by simp at h
  | p :: rs, 0, r, h => by
    have h' : p = r := by simpa using h
    subst h'
    exact ⟨rfl, rfl⟩
  | p :: rs, i + 1, r, h => by
    have h' : rs[i]? = some r := by simpa using h
    have e : rc (p :: rs) = [.int .i64 p.1, p.2.1] ++ rc rs := rfl
    have f : ∀ x, (rc (p :: rs))[x + 2]? = (rc rs)[x]? := fun x => by rw [e, List.getElem?_append_right (by simp)]; simp
    obtain ⟨a, b⟩ := rc_at h'
    rw [show (i + 1) * 2 = i * 2 + 2 by omega, show i * 2 + 2 + 1 = i * 2 + 1 + 2 by omega, f, f]
    exact ⟨a, b⟩
theorem rc_take : ∀ (rs : List R3) (i : Nat), (rc rs).take (i * 2) = rc (rs.take i)
  | [], i => by simp [rc]
  | r :: rs, 0 => by simp [rc]
  | r :: rs, i + 1 => by
    have e : rc (r :: rs) = [.int .i64 r.1, r.2.1] ++ rc rs := rfl
    have e2 : rc (r :: rs.take i) = [.int .i64 r.1, r.2.1] ++ rc (rs.take i) := rfl
    rw [List.take_succ_cons, e, e2, ← rc_take rs i, show (i + 1) * 2 = 2 + i * 2 by omega, List.take_append, List.take_of_length_le (by simp)]
    simp
theorem rc_drop : ∀ (rs : List R3) (i : Nat), (rc rs).drop (i * 2) = rc (rs.drop i)
  | [], i => by simp [rc]
  | r :: rs, 0 => by simp
  | r :: rs, i + 1 => by
    have e : rc (r :: rs) = [.int .i64 r.1, r.2.1] ++ rc rs := rfl
    rw [List.drop_succ_cons, e, ← rc_drop rs i, show (i + 1) * 2 = 2 + i * 2 by omega, List.drop_append]
    simp
theorem slice_one {w : World} {base k n : Nat} {e : TypeId} {v : Value} {xs : List Value} (h : Own w base e k v n xs) : v.oneCell' = true := by
  obtain ⟨A, c, rfl, _⟩ := h.slice_; rfl
/-- n's cell at block nb holds the slice av; its letters are rs; all of it lies from base on, and each slice in a block of its own. -/
structure NetAt (w : World) (base nb : Nat) (av : Value) (rs : List R3) : Prop where
  hb : base ≤ nb
  cell : w.heap[nb]? = some (.cells #[av] 28 (0, 0))
  own : Own w base 33 2 av rs.length (rc rs)
  bytes : ∀ r ∈ rs, Own w base 5 1 r.2.1 r.2.2.length (bc r.2.2)
  small : ∀ r ∈ rs, r.2.2.length ≤ 200 ∧ 0 ≤ r.1 ∧ r.1 < 64
  len : rs.length ≤ 2000
  apart : rs.Pairwise fun r s => ∀ g, r.2.1.ownBlock = some g → s.2.1.ownBlock ≠ some g
section
variable {w w' : World} {base base' nb : Nat} {av : Value} {rs : List R3}
/-- The blocks of a net: its own, the letters', each letter's bytes'. -/
def Foot (nb : Nat) (av : Value) (rs : List R3) (g : Nat) : Prop := g = nb ∨ av.ownBlock = some g ∨ ∃ r ∈ rs, r.2.1.ownBlock = some g
theorem NetAt.kept (h : NetAt w base nb av rs) (hk : ∀ g, Foot nb av rs g → w'.heap[g]? = w.heap[g]?) : NetAt w' base nb av rs :=
  ⟨h.hb, (hk nb (.inl rfl)).trans h.cell, h.own.kept fun g hg => hk g (.inr (.inl hg)), fun r hr => (h.bytes r hr).kept fun g hg => hk g (.inr (.inr ⟨r, hr, hg⟩)), h.small, h.len, h.apart⟩
theorem NetAt.foot (h : NetAt w base nb av rs) {g : Nat} (hg : Foot nb av rs g) : base ≤ g ∧ g < w.heap.size := by
  rcases hg with rfl | hg | ⟨r, hr, hg⟩
  · exact ⟨h.hb, (Array.getElem?_eq_some_iff.1 h.cell).1⟩
  · exact h.own.lt g hg
  · exact (h.bytes r hr).lt g hg
theorem NetAt.below (h : NetAt w base nb av rs) (hb : Below w.heap.size w w') : NetAt w' base nb av rs := h.kept fun g hg => hb.block g (h.foot hg).2
theorem NetAt.fr {S : Nat → Prop} (h : NetAt w base nb av rs) (hf : Fr S w w') (hS : ∀ g, Foot nb av rs g → ¬ S g) : NetAt w' base nb av rs := h.kept fun g hg => hf.block g (h.foot hg).2 (hS g hg)
theorem NetAt.drewN (h : NetAt w base nb av rs) (n : Nat) : NetAt (w.drewN n) base nb av rs := h.kept fun g _ => rfl
theorem NetAt.alloc (h : NetAt w base nb av rs) (o : Obj) : NetAt (w.alloc o) base nb av rs := h.kept fun g hg => Below.heap_alloc w o g (h.foot hg).2
theorem NetAt.new (w : World) : NetAt (w.alloc (.cells #[.slice none 0 0] 28)) w.heap.size w.heap.size (.slice none 0 0) [] :=
  ⟨Nat.le_refl _, heap_alloc_new w _, Own.nil_ _ _ _ _, by simp, by simp, Nat.zero_le _, List.Pairwise.nil⟩
theorem NetAt.ncell (h : NetAt w base nb av rs) : w.cell? ⟨nb, 0, none⟩ = some av := by rw [cell_of_row _ _ _ _ _ _ h.cell]; rfl
theorem NetAt.nfree (h : NetAt w base nb av rs) : w.frozen? ⟨nb, 0, none⟩ = false := by
  unfold World.frozen?
  rw [h.cell]
  rfl
theorem NetAt.len_any (h : NetAt w base nb av rs) : Calls Try.prog 10 #[.pointer (some ⟨nb, 0, none⟩)] w fun e w' => e = .returned (.int .i64 rs.length) ∧ w' = w := by
  obtain ⟨A, c, e, _⟩ := h.own.slice_
  have hc := h.ncell
  subst e
  go_enter Try.func10, Try.ntmps10
  go_wp2
  go_ret
  exact ⟨rfl, rfl⟩
theorem len_nil (w : World) : Calls Try.prog 10 #[.pointer none] w fun e w' => e = .returned (.int .i64 0) ∧ w' = w := by
  go_enter Try.func10, Try.ntmps10
  go_wp2
  go_ret
  exact ⟨rfl, rfl⟩
theorem NetAt.in_any (h : NetAt w base nb av rs) (at_ : Int) : Calls Try.prog 16 #[.pointer (some ⟨nb, 0, none⟩), .int .i64 at_] w fun e w' => e = .returned (.bool (decide (0 ≤ at_ ∧ at_ < rs.length))) ∧ w' = w := by
  by_cases h0 : 0 ≤ at_
  · go_enter Try.func16, Try.ntmps16
    go_wp2_with fail
    refine h.len_any.mono ?_
    rintro e w' ⟨rfl, rfl⟩
    go_wp2_with fail
    go_ret
    exact ⟨by simp [h0], rfl⟩
  · go_enter Try.func16, Try.ntmps16
    go_wp2_with fail
    go_ret
    exact ⟨by simp; intro _; omega, rfl⟩
theorem in_nil (w : World) (at_ : Int) : Calls Try.prog 16 #[.pointer none, .int .i64 at_] w fun e w' => e = .returned (.bool false) ∧ w' = w := by
  by_cases h0 : 0 ≤ at_
  · go_enter Try.func16, Try.ntmps16
    go_wp2_with fail
    refine (len_nil w).mono ?_
    rintro e w' ⟨rfl, rfl⟩
    go_wp2_with fail
    go_ret
    exact ⟨by simp; omega, rfl⟩
  · go_enter Try.func16, Try.ntmps16
    go_wp2_with fail
    go_ret
    exact ⟨by simp [h0], rfl⟩
theorem send_nil (w : World) (to : Int) (v : Value) : Calls Try.prog 8 #[.pointer none, .int .i64 to, v] w fun e w' => e = .returned (.int .i64 1) ∧ w' = w := by
  go_enter Try.func8, Try.ntmps8
  go_wp2
  go_ret
  exact ⟨rfl, rfl⟩
theorem send_arg {A : Option Addr} {n c : Nat} (to : Int) (h : ¬ (0 ≤ to ∧ to < 64 ∧ n ≤ 200)) (w : World) : Calls Try.prog 8 #[.pointer (some ⟨nb, 0, none⟩), .int .i64 to, .slice A n c] w fun e w' => e = .returned (.int .i64 1) ∧ w' = w := by
  by_cases h0 : to < 0
  · go_enter Try.func8, Try.ntmps8
    go_wp2
    go_ret
    exact ⟨rfl, rfl⟩
  · by_cases h1 : 64 ≤ to
    · go_enter Try.func8, Try.ntmps8
      go_wp2
      go_ret
      exact ⟨rfl, rfl⟩
    · have h2 : 200 < n := by omega
      go_enter Try.func8, Try.ntmps8
      go_wp2
      go_ret
      exact ⟨rfl, rfl⟩
theorem NetAt.send_many (h : NetAt w base nb av rs) (hf : rs.length = 2000) {A : Option Addr} {n c : Nat} (to : Int) (hto : 0 ≤ to ∧ to < 64 ∧ n ≤ 200) : Calls Try.prog 8 #[.pointer (some ⟨nb, 0, none⟩), .int .i64 to, .slice A n c] w fun e w' => e = .returned (.int .i64 3) ∧ w' = w := by
  obtain ⟨A', c', e, _⟩ := h.own.slice_
  have hc := h.ncell
  subst e
  rw [hf] at hc
  obtain ⟨h1, h2, h3⟩ := hto
  go_enter Try.func8, Try.ntmps8
  go_wp2
  go_ret
  exact ⟨rfl, rfl⟩
end
end Go.Proofs.Ytpgcoopkileclaa.NetA
