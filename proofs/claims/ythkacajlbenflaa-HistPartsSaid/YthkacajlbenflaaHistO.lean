/- HistOne: the walk, behind the head. -/
import Derived.Test.YthkacajlbenflaaHistA
set_option linter.unusedVariables false
set_option linter.unusedSimpArgs false
set_option linter.unusedSectionVars false
namespace Go.Proofs.Ythkacajlbenflaa.HistA
open Go.RowKit Go.WideShapes Go.Deep Go.Proofs.Ythkacajlbenflaa.Mem Go.Proofs.Ythkacajlbenflaa.Open Go.Proofs.Ythkacajlbenflaa.KeyM Go.Proofs.Ythkacajlbenflaa.KeyN Go.Proofs.Ythkacajlbenflaa.Kv
attribute [local irreducible] withL withoutL
def bld (qs : List P2) : List P2 := qs.foldl (fun m p => withL m p.1 p.2) []
theorem bld_snoc (qs : List P2) (p : P2) : bld (qs ++ [p]) = withL (bld qs) p.1 p.2 := by simp [bld]
theorem bld_facts : ∀ n (qs : List P2), qs.length = n → Rise (bld qs) ∧ (bld qs).length ≤ n := by
  intro n
  induction n with
  | zero => intro qs hl; obtain rfl := List.eq_nil_of_length_eq_zero hl; exact ⟨rise_nil, Nat.le_refl _⟩
  | succ n ih =>
    intro qs hl
    obtain ⟨l', q, rfl⟩ : ∃ l' q, qs = l' ++ [q] := ⟨qs.dropLast, qs.getLast (by intro e; simp [e] at hl), (List.dropLast_concat_getLast _).symm⟩
    obtain ⟨h1, h2⟩ := ih l' (by simpa using hl)
    rw [bld_snoc]
    refine ⟨rise_with h1 _ _, ?_⟩
    rw [length_with h1]; split <;> omega
/-- A block of cells, read as a slice of elements of k cells. -/
theorem rd_block {w : World} {g n k : Nat} {cs : Array Value} {e : TypeId} (h : w.heap[g]? = some (.cells cs e (0, 0))) (hn : cs.size = n * k) (hm : n ≤ maxLen) : Rd w w.heap.size k (.slice (some ⟨g, 0, none⟩) n n) n cs.toList :=
  ⟨by simp [hn], _, _, rfl, Nat.le_refl _, hm, fun _ => ⟨g, 0, rfl, (Array.getElem?_eq_some_iff.1 h).1, fun j u hu => by rw [Nat.zero_add, cell_of_row _ _ _ _ _ _ h]; simpa using hu⟩⟩
theorem with_out {ps : List P2} (h : Rise ps) (k v : S) : withoutL (withL ps k v) k = withoutL ps k := by
  have h1 := rise_with h k v
  refine rise_ext (rise_without h1 k) (rise_without h k) fun x => ?_
  rw [getL_without h1, getL_without h, getL_with h]
  by_cases e : k = x
  · rw [if_pos e, if_pos e]
  · rw [if_neg e, if_neg e, if_neg e]
def osA (k v : S) : List OpR := [⟨3, k, v, false⟩, ⟨2, k, v, true⟩, ⟨4, k, ⟨#[]⟩, false⟩, ⟨2, k, ⟨#[]⟩, false⟩]
def osB (k : S) : List OpR := [⟨4, k, ⟨#[]⟩, false⟩, ⟨2, k, ⟨#[]⟩, true⟩]
theorem without_here {ps : List P2} (h : Rise ps) (k : S) : here (withoutL ps k) k = false ∧ getS (withoutL ps k) k = ⟨#[]⟩ := by
  have e : getL (withoutL ps k) k = none := by rw [getL_without h, if_pos rfl]
  exact ⟨by rw [← getL_isSome, e]; rfl, by unfold getS; rw [e]; rfl⟩
theorem playA {ps : List P2} (h : Rise ps) (k v : S) : playL ps (osA k v) = (withoutL ps k, true) := by
  have h1 := rise_with h k v
  have e : getL (withL ps k v) k = some v := by rw [getL_with h, if_pos rfl]
  have e1 : here (withL ps k v) k = true := by rw [← getL_isSome, e]; rfl
  have e2 : getS (withL ps k v) k = v := by unfold getS; rw [e]; rfl
  obtain ⟨e3, e4⟩ := without_here h1 k
  have e5 := with_out h k v
  simp [playL, osA, play1, e1, e2, e3, e4, e5]
  rw [e5] at e3 e4
  exact ⟨e4, e3⟩
theorem playB {ps : List P2} (h : Rise ps) (k : S) : (playL ps (osB k)).2 = false := by
  obtain ⟨e3, e4⟩ := without_here h k
  simp [playL, osB, play1, e3, e4]
set_option maxHeartbeats 2000000 in
set_option maxRecDepth 100000 in
theorem one_any (hd : ∀ w : World, Calls Try.prog 8 #[] w fun e w' => e = .returned (.bool true) ∧ Below w.heap.size w w')
    {v0 : Value} {qs : List P2} (w : World) (h : Rd w w.heap.size 2 v0 qs.length (pc qs)) (k v : S) :
    Calls Try.prog 6 #[v0, .string k, .string v] w fun e w' => e = .returned (.bool true) ∧ Below w.heap.size w w' := by
  have HQ : Hid (∀ W, Below w.heap.size w W → Rd W W.heap.size 2 v0 qs.length (pc qs)) := fun W hb => h.up hb
  obtain ⟨_, A, c, rfl, hc1, hc2, _⟩ := h
  obtain ⟨n, hn⟩ : ∃ n, n = qs.length := ⟨_, rfl⟩
  rw [← hn] at HQ hc1 ⊢
  have HN := Lib.hid hn
  clear hn
  have HD := Lib.hid hd
  clear hd
  by_cases g1 : 20 < n
  · have g1' : (20 : Int) < (n : Int) := by omega
    go_enter Try.func6, Try.ntmps6
    go_wp2_with fail
    refine (HD.out w).mono ?_
    rintro e w0 ⟨rfl, hb0⟩
    have HB0 := Lib.hid hb0
    clear hb0
    go_wp2_with fail
    go_ret
    exact ⟨rfl, HB0.out⟩
  · by_cases g2 : 100 < k.size
    · have g1' : ¬ ((20 : Int) < (n : Int)) := by omega
      have g2' : (100 : Int) < (k.size : Int) := by omega
      go_enter Try.func6, Try.ntmps6
      go_wp2_with fail
      refine (HD.out w).mono ?_
      rintro e w0 ⟨rfl, hb0⟩
      have HB0 := Lib.hid hb0
      clear hb0
      go_wp2_with fail
      go_ret
      exact ⟨rfl, HB0.out⟩
    · have g1' : ¬ ((20 : Int) < (n : Int)) := by omega
      have g2' : ¬ ((100 : Int) < (k.size : Int)) := by omega
      go_enter Try.func6, Try.ntmps6
      go_wp2_with fail
      refine (HD.out w).mono ?_
      rintro e w0 ⟨rfl, hb0⟩
      have HB0 := Lib.hid hb0
      clear hb0
      go_wp2_with fail
      go_loopw [7, 29] (fun m i wr => ∃ j : Nat, j ≤ n ∧ i = .int .i64 j ∧ IsMap wr m (bld (qs.take j)) ∧ Below w.heap.size w wr) (fun _ i _ => n - (intOf i).toNat)
      case atStart =>
        refine ⟨0, Nat.zero_le _, rfl, ⟨?_, rise_nil, by simp [bld]⟩, HB0.out.alloc HB0.out.size _⟩
        exact ⟨rfl, _, _, rfl, Nat.le_refl _, Nat.zero_le _, fun h => absurd h (Nat.lt_irrefl 0)⟩
      case round =>
        obtain ⟨j, hj, rfl, him, hbl⟩ := hrel
        by_cases hlt : j < n
        · obtain ⟨p, hp⟩ : ∃ p, qs[j]? = some p := ⟨qs[j]'(by rw [← HN.out]; omega), List.getElem?_eq_getElem _⟩
          obtain ⟨g, off, cz, e, hg, _, _, hx⟩ := (HQ.out wr hbl).cells (show 0 < n by omega)
          injection e with e1 e2 e3
          clear e2 e3
          cases e1
          have k1 : wr.cell? ⟨g, off + j * 2, none⟩ = some (.string p.1) := hx _ _ (pc_key hp)
          have k2 : wr.cell? ⟨g, off + j * 2 + 1, none⟩ = some (.string p.2) := by rw [Nat.add_assoc]; exact hx _ _ (pc_val hp)
          obtain ⟨hr, hlen⟩ := bld_facts _ (qs.take j) rfl
          have htl : (qs.take j).length = j := by rw [List.length_take, ← HN.out]; omega
          rw [htl] at hlen
          have hnext : bld (qs.take (j + 1)) = withL (bld (qs.take j)) p.1 p.2 := by rw [List.take_add_one, hp]; show bld (qs.take j ++ [p]) = _; rw [bld_snoc]
          have HNX := Lib.hid hnext
          have HIM := Lib.hid him
          have HBL := Lib.hid hbl
          have HRR := Lib.hid hr
          have i0 : (0 : Int) ≤ (j : Int) := by omega
          have i1 : (j : Int) < (n : Int) := by omega
          clear hx hp htl hnext him hbl hr
          by_cases h40 : 100 < p.1.size
          · have h40' : (100 : Int) < (p.1.size : Int) := by omega
            go_wp2_with fail
            go_ret
            exact ⟨rfl, HBL.out.alloc HBL.out.size _⟩
          · have h40' : ¬ ((100 : Int) < (p.1.size : Int)) := by omega
            go_wp2_with fail
            refine (with_any _ (HIM.out.up ((Below.refl _ _).alloc (Nat.le_refl _) _)) p.1 p.2).mono ?_
            rintro e w2 ⟨v2, rfl, hm2⟩
            have HB2 : Hid (Below w.heap.size w w2) := (HBL.out.alloc HBL.out.size _).trans (hm2.2.mono (by have := HBL.out.size; simp; omega))
            have HI2 := Lib.hid (hm2.is (rise_with HRR.out _ _) (by rw [length_with HRR.out]; split <;> omega))
            clear hm2
            go_wp2_with fail
            go_roundw
            case rel => exact ⟨j + 1, by omega, by go_num, by rw [HNX.out]; exact HI2.out, HB2.out⟩
            case measure => simp [intOf]; omega
        · obtain rfl : j = n := by omega
          have htk : qs.take j = qs := by rw [HN.out]; exact List.take_length
          rw [htk] at him
          obtain ⟨hr, hlen⟩ := bld_facts _ qs rfl
          obtain ⟨ps, hps⟩ : ∃ ps, ps = bld qs := ⟨_, rfl⟩
          rw [← hps] at him hr hlen
          have hl20 : ps.length ≤ 20 := by have := HN.out; omega
          have HIM := Lib.hid him
          have HBL := Lib.hid hbl
          have HRR := Lib.hid hr
          have HLN : Hid (ps.length ≤ 20) := hl20
          clear him hbl hr hlen htk hps hl20 hlt
          go_wp2_with fail
          obtain ⟨X1, hX⟩ : ∃ X, X = (wr.alloc (.cells #[.int .i64 3, .string k, .string v, .bool false, .int .i64 2, .string k, .string v, .bool true, .int .i64 4, .string k, .string ⟨#[]⟩, .bool false, .int .i64 2, .string k, .string ⟨#[]⟩, .bool false] 54)).alloc (.cells #[.int .u64 0, .int .i64 0, .int .i64 0, .int .i64 0, .bool false, .bool false, .slice (some ⟨wr.heap.size, 0, none⟩) 4 4] 39) := ⟨_, rfl⟩
          rw [← hX]
          have hb1 : Below wr.heap.size wr X1 := by rw [hX]; exact ((Below.refl _ _).alloc (Nat.le_refl _) _).alloc (by simp) _
          have hr1 : X1.heap[wr.heap.size]? = some (.cells #[.int .i64 3, .string k, .string v, .bool false, .int .i64 2, .string k, .string v, .bool true, .int .i64 4, .string k, .string ⟨#[]⟩, .bool false, .int .i64 2, .string k, .string ⟨#[]⟩, .bool false] 54 (0, 0)) := by rw [hX, Below.heap_alloc _ _ _ (by simp)]; exact heap_alloc_new _ _
          clear hX
          have hpl := play_any X1 (HIM.out.up hb1) (os := osA k v) (rd_block (k := 4) hr1 rfl (by simp only [osA, osB, List.length_cons, List.length_nil]; unfold maxLen; omega)) (by have := HLN.out; simp only [osA, osB, List.length_cons, List.length_nil]; omega) 0 0 0 0 false false
          rw [playA HRR.out] at hpl
          have HB1 := Lib.hid hb1
          clear hb1 hr1
          refine hpl.mono ?_
          rintro e w2 ⟨v2, rfl, hi2, hb2⟩
          have HI2 := Lib.hid hi2
          have HL2 : Hid (Below wr.heap.size wr w2) := HB1.out.trans (hb2.mono HB1.out.size)
          clear hpl hi2 hb2
          go_wp2_with fail
          obtain ⟨X2, hX⟩ : ∃ X, X = (w2.alloc (.cells #[.int .i64 4, .string k, .string ⟨#[]⟩, .bool false, .int .i64 2, .string k, .string ⟨#[]⟩, .bool true] 54)).alloc (.cells #[.int .u64 0, .int .i64 0, .int .i64 0, .int .i64 0, .bool false, .bool false, .slice (some ⟨w2.heap.size, 0, none⟩) 2 2] 39) := ⟨_, rfl⟩
          rw [← hX]
          have hb2 : Below w2.heap.size w2 X2 := by rw [hX]; exact ((Below.refl _ _).alloc (Nat.le_refl _) _).alloc (by simp) _
          have hr2 : X2.heap[w2.heap.size]? = some (.cells #[.int .i64 4, .string k, .string ⟨#[]⟩, .bool false, .int .i64 2, .string k, .string ⟨#[]⟩, .bool true] 54 (0, 0)) := by rw [hX, Below.heap_alloc _ _ _ (by simp)]; exact heap_alloc_new _ _
          clear hX
          have hpl := play_any X2 ((HIM.out.up HL2.out).up hb2) (os := osB k) (rd_block (k := 4) hr2 rfl (by simp only [osA, osB, List.length_cons, List.length_nil]; unfold maxLen; omega)) (by have := HLN.out; simp only [osA, osB, List.length_cons, List.length_nil]; omega) 0 0 0 0 false false
          have hpb := playB HRR.out k
          have HB3 := Lib.hid hb2
          clear hb2 hr2
          refine hpl.mono ?_
          rintro e w4 ⟨v4, rfl, _, hb4⟩
          rw [hpb]
          have HL4 : Hid (Below w2.heap.size w2 w4) := HB3.out.trans (hb4.mono HB3.out.size)
          clear hpl hpb hb4
          go_wp2_with fail
          refine (without_any w4 ((HIM.out.up HL2.out).up HL4.out) k).mono ?_
          rintro e w5 ⟨v5, rfl, hm5⟩
          have HL5 := Lib.hid hm5.2
          have HI5 := Lib.hid (hm5.is (rise_without HRR.out k) (by have := HLN.out; rw [length_without HRR.out]; split <;> omega))
          clear hm5
          go_wp2_with fail
          refine (same_rd w5 ((HI2.out.up HL4.out).up HL5.out).rd HI5.out.rd).mono ?_
          rintro e w6 ⟨he, hb6⟩
          have he' : e = .returned (.bool true) := he.trans (by simp)
          clear he
          subst he'
          have HL6 := Lib.hid hb6
          clear hb6
          go_wp2_with fail
          go_ret
          exact ⟨rfl, (((HBL.out.trans (HL2.out.mono HBL.out.size)).trans (HL4.out.mono (Nat.le_trans HBL.out.size HL2.out.size))).trans (HL5.out.mono (Nat.le_trans HBL.out.size (Nat.le_trans HL2.out.size HL4.out.size)))).trans (HL6.out.mono (Nat.le_trans HBL.out.size (Nat.le_trans HL2.out.size (Nat.le_trans HL4.out.size HL5.out.size))))⟩
#print axioms one_any
end Go.Proofs.Ythkacajlbenflaa.HistA
