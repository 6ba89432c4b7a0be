/- Play: a transaction's ops done to a map. -/
import Derived.Test.YthkacajlbenflaaKeyN
import Derived.Test.YthkacajlbenflaaOpen
import Derived.Test.YthkacajlbenflaaHeld3
set_option linter.unusedVariables false
set_option linter.unusedSimpArgs false
set_option linter.unusedSectionVars false
namespace Go.Proofs.Ythkacajlbenflaa.HistA
open Go.RowKit Go.WideShapes Go.Deep Go.Proofs.Ythkacajlbenflaa.Mem Go.Proofs.Ythkacajlbenflaa.Open Go.Proofs.Ythkacajlbenflaa.KeyM Go.Proofs.Ythkacajlbenflaa.KeyN Go.Proofs.Ythkacajlbenflaa.Kv
attribute [local irreducible] withL withoutL
theorem bl_lt (a b : S) : Op.bytesLess a.toList b.toList = lt a b := by rw [ByteArray.toList_eq, ByteArray.toList_eq]; rfl
theorem str_beq (a b : S) : (a.toList == b.toList) = decide (a = b) := by
  rw [ByteArray.toList_eq, ByteArray.toList_eq]
  by_cases h : a = b
  · subst h; simp
  · rw [decide_eq_false h, beq_eq_false_iff_ne]
    exact fun e => h (S_ext e)
/-- An op: its kind, key, value, whether there was one. -/
structure OpR where
  kind : Int
  key : S
  val : S
  has : Bool
def oc1 (o : OpR) : List Value := [.int .i64 o.kind, .string o.key, .string o.val, .bool o.has]
def oc (os : List OpR) : List Value := os.flatMap oc1
theorem oc_len : ∀ os : List OpR, (oc os).length = os.length * 4
  | [] => rfl
  | o :: os => by have := oc_len os; simp only [oc, oc1, List.flatMap_cons, List.length_append, List.length_cons, List.length_nil] at *; omega
theorem oc_at : ∀ {os : List OpR} {i : Nat} {o : OpR}, os[i]? = some o → (oc os)[i * 4]? = some (.int .i64 o.kind) ∧ (oc os)[i * 4 + 1]? = some (.string o.key) ∧ (oc os)[i * 4 + 2]? = some (.string o.val) ∧ (oc os)[i * 4 + 3]? = some (.bool o.has)
  | [], i, r, h => by simp at h
  | p :: os, 0, r, h => by
    have h' : p = r := by simpa using h
    subst h'
    exact ⟨rfl, rfl, rfl, rfl⟩
  | p :: os, i + 1, r, h => by
    have h' := oc_at (os := os) (i := i) (o := r) (by simpa using h)
    have e : oc (p :: os) = oc1 p ++ oc os := rfl
    have hl : (oc1 p).length = 4 := rfl
    refine ⟨?_, ?_, ?_, ?_⟩ <;> rw [e, List.getElem?_append_right (by rw [hl]; omega), hl]
    · rw [show (i + 1) * 4 - 4 = i * 4 by omega]; exact h'.1
    · rw [show (i + 1) * 4 + 1 - 4 = i * 4 + 1 by omega]; exact h'.2.1
    · rw [show (i + 1) * 4 + 2 - 4 = i * 4 + 2 by omega]; exact h'.2.2.1
    · rw [show (i + 1) * 4 + 3 - 4 = i * 4 + 3 by omega]; exact h'.2.2.2
/-- One op done. -/
def play1 (m : List P2 × Bool) (o : OpR) : List P2 × Bool :=
  if o.kind = 2 then (m.1, m.2 && decide (getS m.1 o.key = o.val) && decide (here m.1 o.key = o.has))
  else if o.kind = 3 then (withL m.1 o.key o.val, m.2)
  else if o.kind = 4 then (withoutL m.1 o.key, m.2) else m
def playL (ps : List P2) (os : List OpR) : List P2 × Bool := os.foldl play1 (ps, true)
theorem playL_snoc (ps : List P2) (os : List OpR) (o : OpR) : playL ps (os ++ [o]) = play1 (playL ps os) o := by simp [playL]
theorem play1_rise {m : List P2 × Bool} (h : Rise m.1) (o : OpR) : Rise (play1 m o).1 := by
  unfold play1
  split
  · exact h
  · split
    · exact rise_with h _ _
    · split
      · exact rise_without h _
      · exact h
theorem play1_len {m : List P2 × Bool} (h : Rise m.1) (o : OpR) : (play1 m o).1.length ≤ m.1.length + 1 := by
  unfold play1
  split
  · simp
  · split
    · show (withL m.1 o.key o.val).length ≤ _
      rw [length_with h]; split <;> omega
    · split
      · show (withoutL m.1 o.key).length ≤ _
        rw [length_without h]; split <;> omega
      · omega
theorem playL_facts {ps : List P2} (h : Rise ps) : ∀ n (os : List OpR), os.length = n → Rise (playL ps os).1 ∧ (playL ps os).1.length ≤ ps.length + n := by
  intro n
  induction n with
  | zero => intro os hl; obtain rfl := List.eq_nil_of_length_eq_zero hl; exact ⟨h, Nat.le_refl _⟩
  | succ n ih =>
    intro os hl
    obtain ⟨os', o, rfl⟩ : ∃ l' q, os = l' ++ [q] := ⟨os.dropLast, os.getLast (by intro e; simp [e] at hl), (List.dropLast_concat_getLast _).symm⟩
    obtain ⟨h1, h2⟩ := ih os' (by simpa using hl)
    rw [playL_snoc]
    exact ⟨play1_rise h1 o, by have := play1_len h1 o; omega⟩
theorem row4_facts {w : World} {g : Nat} {a b c d : Value} {t : TypeId} (hr : w.heap[g]? = some (.cells #[a, b, c, d] t (0, 0))) : w.cell? ⟨g, 0, none⟩ = some a ∧ w.cell? ⟨g, 1, none⟩ = some b ∧ w.cell? ⟨g, 2, none⟩ = some c ∧ w.cell? ⟨g, 3, none⟩ = some d :=
  ⟨by rw [cell_of_row _ _ _ _ _ _ hr]; rfl, by rw [cell_of_row _ _ _ _ _ _ hr]; rfl, by rw [cell_of_row _ _ _ _ _ _ hr]; rfl, by rw [cell_of_row _ _ _ _ _ _ hr]; rfl⟩
/-- A transaction as a value: its Tid, Begin, End, Asked, Lost, Ops. -/
def tv (num nd bg en : Int) (as_ lo : Bool) (ov : Value) : Value := .agg #[.int .u64 num, .int .i64 nd, .int .i64 bg, .int .i64 en, .bool as_, .bool lo, ov]
set_option maxHeartbeats 2000000 in
set_option maxRecDepth 100000 in
theorem play_any {v : Value} {ps : List P2} (w : World) (hm : IsMap w v ps) {A : Option Addr} {c : Nat} {os : List OpR} (ho : Rd w w.heap.size 4 (.slice A os.length c) os.length (oc os)) (hl : ps.length + os.length ≤ 1099511627776) (num nd bg en : Int) (as_ lo : Bool) :
    Calls Try.prog 15 #[v, tv num nd bg en as_ lo (.slice A os.length c)] w fun e w' => ∃ v', e = .returned (.tuple #[v', .bool (playL ps os).2]) ∧ IsMap w' v' (playL ps os).1 ∧ Below w.heap.size w w' := by
  have HO : Hid (∀ W, Below w.heap.size w W → Rd W W.heap.size 4 (.slice A os.length c) os.length (oc os)) := fun W hb => ho.up hb
  have hln := ho.len_le
  have HM := Lib.hid hm
  have hrise := hm.rise
  have HRISE := Lib.hid hrise
  clear hm ho hrise
  obtain ⟨n, hn⟩ : ∃ n, n = os.length := ⟨_, rfl⟩
  rw [← hn] at HO hln hl ⊢
  have HN := Lib.hid hn
  clear hn
  unfold maxLen at hln
  unfold tv
  go_enter Try.func15, Try.ntmps15
  go_wp2_with fail
  go_loopw [0, 6, 14] (fun m ok i wr => ∃ (j : Nat) (b : Bool), j ≤ n ∧ i = .int .i64 j ∧ ok = .bool b ∧ b = (playL ps (os.take j)).2 ∧ IsMap wr m (playL ps (os.take j)).1 ∧ Below w.heap.size w wr) (fun _ _ i _ => n - (intOf i).toNat)
  case atStart => exact ⟨0, true, Nat.zero_le _, rfl, rfl, rfl, HM.out.up ((Below.refl _ _).alloc (Nat.le_refl _) _), (Below.refl _ _).alloc (Nat.le_refl _) _⟩
  case round =>
    obtain ⟨j, b, hj, rfl, rfl, hb, him, hbl⟩ := hrel
    by_cases hlt : j < n
    · obtain ⟨o, hoj⟩ : ∃ o, os[j]? = some o := ⟨os[j]'(by rw [← HN.out]; omega), List.getElem?_eq_getElem _⟩
      obtain ⟨g, off, cz, e, hg, _, _, hx⟩ := (HO.out wr hbl).cells (show 0 < n by omega)
      injection e with e1 e2 e3
      clear e2 e3
      cases e1
      obtain ⟨o1, o2, o3, o4⟩ := oc_at hoj
      have c1 : wr.cell? ⟨g, off + j * 4, none⟩ = some (.int .i64 o.kind) := hx _ _ o1
      have c2 : wr.cell? ⟨g, off + j * 4 + 1, none⟩ = some (.string o.key) := by rw [Nat.add_assoc]; exact hx _ _ o2
      have c3 : wr.cell? ⟨g, off + j * 4 + 2, none⟩ = some (.string o.val) := by rw [Nat.add_assoc]; exact hx _ _ o3
      have c4 : wr.cell? ⟨g, off + j * 4 + 3, none⟩ = some (.bool o.has) := by rw [Nat.add_assoc]; exact hx _ _ o4
      obtain ⟨m, hm⟩ : ∃ m, m = playL ps (os.take j) := ⟨_, rfl⟩
      obtain ⟨hr, hlen⟩ := playL_facts HRISE.out _ (os.take j) rfl
      have htl : (os.take j).length = j := by rw [List.length_take, ← HN.out]; omega
      rw [htl] at hlen
      rw [← hm] at hb him hr hlen
      have hnext : playL ps (os.take (j + 1)) = play1 m o := by rw [List.take_add_one, hoj]; show playL ps (os.take j ++ [o]) = _; rw [playL_snoc, ← hm]
      have HNX := Lib.hid hnext
      have HIM := Lib.hid him
      have HBL := Lib.hid hbl
      have HB := Lib.hid hb
      have HRR := Lib.hid hr
      have i0 : (0 : Int) ≤ (j : Int) := by omega
      have i1 : (j : Int) < (n : Int) := by omega
      clear o1 o2 o3 o4 hx hoj hm htl hnext him hbl hb hr
      by_cases k2 : o.kind = 2
      · have b2 : (o.kind == 2) = true := by simp [k2]
        have HK := Lib.hid k2
        clear k2
        go_wp2_with fail
        refine (get_any _ (HIM.out.up ((Below.refl _ _).alloc (Nat.le_refl _) _)) o.key).mono ?_
        rintro e w2 ⟨rfl, hb2⟩
        have HB2 : Hid (Below w.heap.size w w2) := (HBL.out.alloc HBL.out.size _).trans (hb2.mono (by have := HBL.out.size; simp; omega))
        have HI2 := Lib.hid ((HIM.out.up ((Below.refl _ _).alloc (Nat.le_refl _) _)).up hb2)
        obtain ⟨f0, f1, f2, f3⟩ := row4_facts ((hb2.block wr.heap.size (by simp)).trans (heap_alloc_new wr _))
        clear hb2
        obtain ⟨gs, hgs⟩ : ∃ gs, gs = getS m.1 o.key := ⟨_, rfl⟩
        obtain ⟨gh, hgh⟩ : ∃ gh, gh = here m.1 o.key := ⟨_, rfl⟩
        rw [← hgs, ← hgh]
        have HGS := Lib.hid hgs
        have HGH := Lib.hid hgh
        clear hgs hgh
        cases b with
        | false =>
          go_wp2_with fail
          go_roundw
          case rel => exact ⟨j + 1, false, by omega, by go_num, rfl, by rw [HNX.out]; unfold play1; rw [if_pos HK.out]; simp [← HB.out], by rw [HNX.out]; unfold play1; rw [if_pos HK.out]; exact HI2.out, HB2.out⟩
          case measure => simp [intOf]; omega
        | true =>
          by_cases e1 : gs = o.val
          · have d1 : (gs.toList == o.val.toList) = true := by rw [str_beq, decide_eq_true e1]
            have E1 := Lib.hid e1
            clear e1
            by_cases e2 : gh = o.has
            · have d2 : (gh == o.has) = true := by simp [e2]
              have E2 := Lib.hid e2
              clear e2
              go_wp2_with fail
              go_roundw
              case rel => exact ⟨j + 1, true, by omega, by go_num, rfl, by rw [HNX.out]; unfold play1; rw [if_pos HK.out]; simp [← HB.out, ← HGS.out, ← HGH.out, E1.out, E2.out], by rw [HNX.out]; unfold play1; rw [if_pos HK.out]; exact HI2.out, HB2.out⟩
              case measure => simp [intOf]; omega
            · have d2 : (gh == o.has) = false := by simp [e2]
              have E2 := Lib.hid e2
              clear e2
              go_wp2_with fail
              go_roundw
              case rel => exact ⟨j + 1, false, by omega, by go_num, rfl, by rw [HNX.out]; unfold play1; rw [if_pos HK.out]; simp [← HGH.out, E2.out], by rw [HNX.out]; unfold play1; rw [if_pos HK.out]; exact HI2.out, HB2.out⟩
              case measure => simp [intOf]; omega
          · have d1 : (gs.toList == o.val.toList) = false := by rw [str_beq, decide_eq_false e1]
            have E1 := Lib.hid e1
            clear e1
            go_wp2_with fail
            go_roundw
            case rel => exact ⟨j + 1, false, by omega, by go_num, rfl, by rw [HNX.out]; unfold play1; rw [if_pos HK.out]; simp [← HGS.out, E1.out], by rw [HNX.out]; unfold play1; rw [if_pos HK.out]; exact HI2.out, HB2.out⟩
            case measure => simp [intOf]; omega
      · have b2 : (o.kind == 2) = false := by simp [k2]
        by_cases k3 : o.kind = 3
        · have b3 : (o.kind == 3) = true := by simp [k3]
          have HK := Lib.hid k3
          have HK2 := Lib.hid k2
          clear k3 k2
          go_wp2_with fail
          refine (with_any _ (HIM.out.up ((Below.refl _ _).alloc (Nat.le_refl _) _)) o.key o.val).mono ?_
          rintro e w2 ⟨v2, rfl, hm2⟩
          have HB2 : Hid (Below w.heap.size w w2) := (HBL.out.alloc HBL.out.size _).trans (hm2.2.mono (by have := HBL.out.size; simp; omega))
          have HI2 := Lib.hid (hm2.is (rise_with HRR.out _ _) (by rw [length_with HRR.out]; split <;> omega))
          clear hm2
          go_wp2_with fail
          go_roundw
          case rel => exact ⟨j + 1, b, by omega, by go_num, rfl, by rw [HNX.out]; unfold play1; rw [if_neg HK2.out, if_pos HK.out]; exact HB.out, by rw [HNX.out]; unfold play1; rw [if_neg HK2.out, if_pos HK.out]; exact HI2.out, HB2.out⟩
          case measure => simp [intOf]; omega
        · have b3 : (o.kind == 3) = false := by simp [k3]
          by_cases k4 : o.kind = 4
          · have b4 : (o.kind == 4) = true := by simp [k4]
            have HK := Lib.hid k4
            have HK2 := Lib.hid k2
            have HK3 := Lib.hid k3
            clear k4 k3 k2
            go_wp2_with fail
            refine (without_any _ (HIM.out.up ((Below.refl _ _).alloc (Nat.le_refl _) _)) o.key).mono ?_
            rintro e w2 ⟨v2, rfl, hm2⟩
            have HB2 : Hid (Below w.heap.size w w2) := (HBL.out.alloc HBL.out.size _).trans (hm2.2.mono (by have := HBL.out.size; simp; omega))
            have HI2 := Lib.hid (hm2.is (rise_without HRR.out _) (by rw [length_without HRR.out]; split <;> omega))
            clear hm2
            go_wp2_with fail
            go_roundw
            case rel => exact ⟨j + 1, b, by omega, by go_num, rfl, by rw [HNX.out]; unfold play1; rw [if_neg HK2.out, if_neg HK3.out, if_pos HK.out]; exact HB.out, by rw [HNX.out]; unfold play1; rw [if_neg HK2.out, if_neg HK3.out, if_pos HK.out]; exact HI2.out, HB2.out⟩
            case measure => simp [intOf]; omega
          · have b4 : (o.kind == 4) = false := by simp [k4]
            have HK4 := Lib.hid k4
            have HK2 := Lib.hid k2
            have HK3 := Lib.hid k3
            clear k4 k3 k2
            go_wp2_with fail
            go_roundw
            case rel => exact ⟨j + 1, b, by omega, by go_num, rfl, by rw [HNX.out]; unfold play1; rw [if_neg HK2.out, if_neg HK3.out, if_neg HK4.out]; exact HB.out, by rw [HNX.out]; unfold play1; rw [if_neg HK2.out, if_neg HK3.out, if_neg HK4.out]; exact HIM.out.up ((Below.refl _ _).alloc (Nat.le_refl _) _), HBL.out.alloc HBL.out.size _⟩
            case measure => simp [intOf]; omega
    · obtain rfl : j = n := by omega
      have htk : os.take j = os := by rw [HN.out]; exact List.take_length
      rw [htk] at hb him
      have HIM := Lib.hid him
      have HBL := Lib.hid hbl
      have HB := Lib.hid hb
      clear him hbl hb htk
      go_wp2_with fail
      go_ret2
      exact ⟨_, by rw [HB.out]; rfl, HIM.out, HBL.out⟩
#print axioms play_any
end Go.Proofs.Ythkacajlbenflaa.HistA
