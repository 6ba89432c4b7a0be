/- Spoil; a text of bytes; the document's example. -/
import Derived.Test.YtpgcoopkileclaaNetC
import Derived.Laws.IdiomStrings
import Derived.Lib.BufferRead
import Derived.Lib.SlBytesConst
set_option linter.unusedVariables false
set_option linter.unusedSimpArgs false
set_option linter.unusedSectionVars false
namespace Go.Proofs.Ytpgcoopkileclaa.NetA
open Go.RowKit Go.WideShapes Go.Deep Go.Proofs.Ytpgcoopkileclaa.Mem Go.Proofs.Ytpgcoopkileclaa.Open
section
variable {w w' : World} {base base' nb : Nat} {av : Value} {rs : List R3}
/-- string(b). -/
theorem run_str {Bd : Nat} {v : Value} {b : B} (h : Rd w Bd 1 v b.length (bc b)) : (convert 29 9 v).run Try.prog w = .ok (.string ⟨b.toArray⟩) w := by
  obtain ⟨_, A, c, rfl, _, _, hx⟩ := h
  rcases Nat.eq_zero_or_pos b.length with h0 | h0
  · obtain rfl := List.eq_nil_of_length_eq_zero h0
    rcases A with _ | a
    · exact Lib.run_convert_nil_bytes w _ _ _ c Try.underlying29 Try.underlying5 Try.underlying9
    · exact run_convert_bytes_back w _ _ _ a c [] Try.underlying29 Try.underlying5 Try.underlying9 (fun j hj => absurd hj (by simp))
  · obtain ⟨g, off, rfl, _, hx⟩ := hx h0
    refine run_convert_bytes_back w _ _ _ ⟨g, off, none⟩ c b Try.underlying29 Try.underlying5 Try.underlying9 (fun j hj => ?_)
    have : (⟨g, off, none⟩ : Addr).add j = ⟨g, off + j, none⟩ := by unfold Addr.add; split <;> simp_all
    rw [this]
    exact hx j _ (bc_at (List.getElem?_eq_getElem hj))
theorem str_beq (a b : ByteArray) : (a.toList == b.toList) = decide (a = b) := by
  rw [ByteArray.toList_eq, ByteArray.toList_eq]
  by_cases h : a = b
  · subst h; simp
  · rw [decide_eq_false h, beq_eq_false_iff_ne]
    intro e
    exact h (ByteArray.ext (Array.ext' e))
theorem xor_u8 (x y : UInt8) : bits .xor .u8 (x.toNat : Int) (y.toNat : Int) = ((x ^^^ y).toNat : Int) := by
  have e : bits .xor .u8 (x.toNat : Int) (y.toNat : Int) = IntKind.u8.wrap (((BitVec.ofInt 8 (x.toNat : Int) ^^^ BitVec.ofInt 8 (y.toNat : Int)).toNat : Nat) : Int) := rfl
  rw [e, BitVec.toNat_xor, UInt8.toNat_xor, BitVec.ofInt_natCast, BitVec.ofInt_natCast, BitVec.toNat_ofNat, BitVec.toNat_ofNat]
  have hx := x.toNat_lt
  have hy := y.toNat_lt
  rw [Nat.mod_eq_of_lt hx, Nat.mod_eq_of_lt hy, IntKind.wrap_u8]
  have h8 : x.toNat ^^^ y.toNat < 2 ^ 8 := Nat.xor_lt_two_pow hx hy
  omega
theorem u8_of {n : Int} (h : (Lit.int .u8 n).wf = true) : ∃ y : UInt8, n = (y.toNat : Int) := by
  have h2 : 0 ≤ n ∧ n ≤ 255 := by simpa [Lit.wf, IntKind.min, IntKind.max, IntKind.signed, IntKind.bits] using h
  exact ⟨UInt8.ofNat n.toNat, by simp; omega⟩
theorem spoil_nil (w : World) (at_ i : Int) (v : Value) : Calls Try.prog 13 #[.pointer none, .int .i64 at_, .int .i64 i, v] w fun e w' => e = .returned (.int .i64 4) ∧ w' = w := by
  go_enter Try.func13, Try.ntmps13
  go_wp2_with fail
  refine (in_nil _ _).mono ?_
  rintro e w' ⟨rfl, rfl⟩
  go_wp2_with fail
  go_ret
  exact ⟨rfl, rfl⟩
theorem NetAt.spoil_out (h : NetAt w base nb av rs) {at_ : Int} (hat : ¬ (0 ≤ at_ ∧ at_ < rs.length)) (i : Int) (v : Value) : Calls Try.prog 13 #[.pointer (some ⟨nb, 0, none⟩), .int .i64 at_, .int .i64 i, v] w fun e w' => e = .returned (.int .i64 4) ∧ w' = w := by
  have hd := decide_eq_false hat
  have H := Lib.hid (h.in_any at_)
  go_enter Try.func13, Try.ntmps13
  go_wp2_with fail
  refine H.out.mono ?_
  rintro e w' ⟨he, rfl⟩
  rw [hd] at he
  subst he
  go_wp2_with fail
  go_ret
  exact ⟨rfl, rfl⟩
theorem NetAt.spoil_past (h : NetAt w base nb av rs) {k : Nat} {r : R3} (hk : rs[k]? = some r) {i : Int} (hi : ¬ (0 ≤ i ∧ i < r.2.2.length)) (v : Value) : Calls Try.prog 13 #[.pointer (some ⟨nb, 0, none⟩), .int .i64 k, .int .i64 i, v] w fun e w' => e = .returned (.int .i64 4) ∧ w' = w := by
  obtain ⟨to, bv, b⟩ := r
  have hil := (List.getElem?_eq_some_iff.1 hk).1
  have hd := decide_eq_true (show 0 ≤ (k : Int) ∧ (k : Int) < (rs.length : Int) by omega)
  have H := Lib.hid (h.in_any (k : Int))
  obtain ⟨g, off, cap, cur, rfl, _, hg, _, _, _, hcur⟩ := h.own.form (by omega)
  obtain ⟨Ab, cb, hbv, _⟩ := (h.bytes _ (List.mem_of_getElem? hk)).slice_
  have hbv' : bv = .slice Ab b.length cb := hbv
  subst hbv'
  obtain ⟨x0, x1⟩ := rc_at hk
  have n0 := h.ncell
  have n1 : w.cell? ⟨g, off + k * 2 + 1, none⟩ = some (.slice Ab b.length cb) := by rw [cell_of_row _ _ _ _ _ _ hg]; exact own_cells hcur x1
  have hk0 : (0 : Int) ≤ (k : Int) := by omega
  have hk1 : (k : Int) < (rs.length : Int) := by omega
  clear h hg hcur x0 x1 hbv hk
  dsimp only at hi
  by_cases h0 : i < 0
  · go_enter Try.func13, Try.ntmps13
    go_wp2_with fail
    refine H.out.mono ?_
    rintro e w' ⟨he, rfl⟩
    rw [hd] at he
    subst he
    go_wp2_with fail
    go_ret
    exact ⟨rfl, rfl⟩
  · have h1 : (b.length : Int) ≤ i := by omega
    go_enter Try.func13, Try.ntmps13
    go_wp2_with fail
    refine H.out.mono ?_
    rintro e w' ⟨he, rfl⟩
    rw [hd] at he
    subst he
    go_wp2_with fail
    go_ret
    exact ⟨rfl, rfl⟩
/-- What Spoil has made of a net. -/
def Spoilt (w w' : World) (base nb : Nat) (av : Value) (rs : List R3) (k : Nat) (r : R3) (i : Nat) (x : UInt8) : Prop :=
  NetAt w' base nb av (rs.set k (r.1, r.2.1, r.2.2.set i x)) ∧ Fr (fun g => r.2.1.ownBlock = some g) w w'
theorem NetAt.apart_at (h : NetAt w base nb av rs) {j k : Nat} {r s : R3} (hj : rs[j]? = some r) (hk : rs[k]? = some s) (hjk : j ≠ k) {g : Nat} (hg : r.2.1.ownBlock = some g) : s.2.1.ownBlock ≠ some g := by
  obtain ⟨hj1, hj2⟩ := List.getElem?_eq_some_iff.1 hj
  obtain ⟨hk1, hk2⟩ := List.getElem?_eq_some_iff.1 hk
  rcases Nat.lt_or_gt_of_ne hjk with hlt | hlt
  · have := List.pairwise_iff_getElem.1 h.apart j k hj1 hk1 hlt g
    rw [hj2, hk2] at this
    exact this hg
  · intro e
    have := List.pairwise_iff_getElem.1 h.apart k j hk1 hj1 hlt g
    rw [hj2, hk2] at this
    exact this e hg
theorem NetAt.spoilt (h : NetAt w base nb av rs) {k : Nat} {to : Int} {b : B} {g off cap : Nat} (hk : rs[k]? = some (to, .slice (some ⟨g, off, none⟩) b.length cap, b)) (i : Nat) (x : UInt8) :
    Spoilt w (w.setCell ⟨g, off + i, none⟩ (.int .u8 (x.toNat : Int))) base nb av rs k (to, .slice (some ⟨g, off, none⟩) b.length cap, b) i x := by
  have hmem := List.mem_of_getElem? hk
  have hown := h.bytes _ hmem
  have hset := hown.set i (.int .u8 (x.toNat : Int))
  dsimp only at hset
  rw [bc_set] at hset
  have hkl := (List.getElem?_eq_some_iff.1 hk).1
  have hgt : ∃ cur, w.heap[g]? = some (.cells cur 5 (0, 0)) := by
    rcases hown.2 with ⟨h1, _⟩ | ⟨g2, _, _, cur, h1, _, hg2, _⟩
    · cases h1
    · injection h1 with h1 _ _
      injection h1 with h1
      injection h1 with h1 _
      subst h1
      exact ⟨cur, hg2⟩
  obtain ⟨cur, hgt⟩ := hgt
  have hbl : ∀ j s, rs[j]? = some s → j ≠ k → s.2.1.ownBlock ≠ some g := fun j s hj hjk => h.apart_at hk hj (Ne.symm hjk) rfl
  have hgetset : ∀ s ∈ rs.set k (to, Value.slice (some ⟨g, off, none⟩) b.length cap, b.set i x), s = (to, .slice (some ⟨g, off, none⟩) b.length cap, b.set i x) ∨ ∃ j, rs[j]? = some s ∧ j ≠ k := fun s hs => by
    obtain ⟨j, hj⟩ := List.getElem?_of_mem hs
    rw [List.getElem?_set] at hj
    by_cases hjk : k = j
    · rw [if_pos hjk, if_pos (by omega)] at hj
      injection hj with hj
      exact .inl hj.symm
    · rw [if_neg hjk] at hj
      exact .inr ⟨j, hj, Ne.symm hjk⟩
  have hav : av.ownBlock ≠ some g := fun e => by
    rcases h.own.2 with ⟨h0, _⟩ | ⟨g', _, _, _, h0, _, hg', _⟩
    · rw [h0] at e; cases e
    · rw [h0] at e
      injection e with e
      subst e
      rw [hgt] at hg'
      cases hg'
  have hnb : nb ≠ g := fun e => by
    have := h.cell
    rw [e, hgt] at this
    cases this
  have hoth : ∀ g', g' ≠ g → (w.setCell ⟨g, off + i, none⟩ (.int .u8 (x.toNat : Int))).heap[g']? = w.heap[g']? := fun g' hg' => Below.heap_setCell w _ _ g' hg'
  have hrc : rc (rs.set k (to, Value.slice (some ⟨g, off, none⟩) b.length cap, b.set i x)) = rc rs := by
    have hflat : ∀ (rs : List R3) (k : Nat) (r s : R3), rs[k]? = some r → s.1 = r.1 → s.2.1 = r.2.1 → rc (rs.set k s) = rc rs := by
      intro rs
      induction rs with
      | nil => intro k r s h; simp at h
      | cons p rs ih =>
        intro k r s h e1 e2
        cases k with
        | zero =>
          have h' : p = r := by simpa using h
          subst h'
          simp only [List.set_cons_zero, rc, List.flatMap_cons, e1, e2]
        | succ k =>
          have h' : rs[k]? = some r := by simpa using h
          have := ih k r s h' e1 e2
          simp only [rc] at this
          simp only [List.set_cons_succ, rc, List.flatMap_cons, this]
    exact hflat rs k _ _ hk rfl rfl
  refine ⟨⟨h.hb, (hoth nb hnb).trans h.cell, ?_, ?_, ?_, by simpa using h.len, ?_⟩, Fr.setCell (Fr.refl (fun g_1 => (Value.slice (some ⟨g, off, none⟩) b.length cap).ownBlock = some g_1) w) (p := ⟨g, off + i, none⟩) (.inl rfl) _⟩
  · rw [hrc, List.length_set]
    exact h.own.kept fun g' hg' => hoth g' (fun e => hav (by rw [← e]; exact hg'))
  · intro s hs
    rcases hgetset s hs with rfl | ⟨j, hj, hjk⟩
    · dsimp only
      rw [List.length_set]
      exact hset
    · exact (h.bytes s (List.mem_of_getElem? hj)).kept fun g' hg' => hoth g' (fun e => hbl j s hj hjk (by rw [← e]; exact hg'))
  · intro s hs
    rcases hgetset s hs with rfl | ⟨j, hj, hjk⟩
    · have := h.small _ hmem
      dsimp only at this ⊢
      rw [List.length_set]
      exact this
    · exact h.small s (List.mem_of_getElem? hj)
  · refine List.pairwise_iff_getElem.2 fun a c ha hc hac g' hg' => ?_
    rw [List.length_set] at ha hc
    have e : ∀ n (hn : n < rs.length), ((rs.set k (to, Value.slice (some ⟨g, off, none⟩) b.length cap, b.set i x))[n]'(by simpa using hn)).2.1 = (rs[n]).2.1 := fun n hn => by
      rw [List.getElem_set]
      by_cases hkn : k = n
      · subst hkn
        rw [if_pos rfl]
        have := (List.getElem?_eq_some_iff.1 hk).2
        rw [this]
      · rw [if_neg hkn]
    rw [e a ha] at hg'
    rw [e c hc]
    exact List.pairwise_iff_getElem.1 h.apart a c ha hc hac g' hg'
set_option maxHeartbeats 1000000 in
theorem NetAt.spoil_ok (h : NetAt w base nb av rs) {k : Nat} {r : R3} (hk : rs[k]? = some r) {i : Nat} {x : UInt8} (hi : r.2.2[i]? = some x) (y : UInt8) : Calls Try.prog 13 #[.pointer (some ⟨nb, 0, none⟩), .int .i64 k, .int .i64 i, .int .u8 (y.toNat : Int)] w fun e w' => e = .returned (.int .i64 0) ∧ Spoilt w w' base nb av rs k r i (x ^^^ y) := by
  obtain ⟨to, bv, b⟩ := r
  dsimp only at hi
  have hkl := (List.getElem?_eq_some_iff.1 hk).1
  have hil := (List.getElem?_eq_some_iff.1 hi).1
  have hd := decide_eq_true (show 0 ≤ (k : Int) ∧ (k : Int) < (rs.length : Int) by omega)
  have H := Lib.hid (h.in_any (k : Int))
  obtain ⟨g, off, cap, cur, hav, _, hg, _, _, _, hcur⟩ := h.own.form (by omega)
  have hown := h.bytes _ (List.mem_of_getElem? hk)
  obtain ⟨g2, off2, cap2, cur2, hbv, _, hg2, _, _, _, hcur2⟩ := hown.form (by show 0 < b.length; omega)
  have hbv' : bv = .slice (some ⟨g2, off2, none⟩) b.length cap2 := hbv
  subst hbv'
  subst hav
  have HS := Lib.hid (h.spoilt hk i (x ^^^ y))
  obtain ⟨x0, x1⟩ := rc_at hk
  have n0 := h.ncell
  have n1 : w.cell? ⟨g, off + k * 2 + 1, none⟩ = some (.slice (some ⟨g2, off2, none⟩) b.length cap2) := by rw [cell_of_row _ _ _ _ _ _ hg]; exact own_cells hcur x1
  have n2 : w.cell? ⟨g2, off2 + i, none⟩ = some (.int .u8 (x.toNat : Int)) := by rw [cell_of_row _ _ _ _ _ _ hg2]; exact own_cells hcur2 (bc_at hi)
  have n3 : w.frozen? ⟨g2, off2 + i, none⟩ = false := by unfold World.frozen?; rw [hg2]; rfl
  have hk0 : (0 : Int) ≤ (k : Int) := by omega
  have hk1 : (k : Int) < (rs.length : Int) := by omega
  have hi0 : (0 : Int) ≤ (i : Int) := by omega
  have hi1 : (i : Int) < (b.length : Int) := by omega
  have hx := xor_u8 x y
  clear h hg hcur x0 x1 hbv hk hown hg2 hcur2 hi
  go_enter Try.func13, Try.ntmps13
  go_wp2_with fail
  refine H.out.mono ?_
  rintro e w' ⟨he, rfl⟩
  rw [hd] at he
  subst he
  go_wp2_with fail
  go_ret
  exact ⟨rfl, HS.out⟩
#print axioms NetAt.spoil_ok
end
end Go.Proofs.Ytpgcoopkileclaa.NetA
