/- Fold: transactions in an order done to a map; Go's own map beside the program's. -/
import Derived.Test.YthkacajlbenflaaHistT
import Derived.Test.YthkacajlbenflaaMapS
set_option linter.unusedVariables false
set_option linter.unusedSimpArgs false
set_option linter.unusedSectionVars false
namespace Go.Proofs.Ythkacajlbenflaa.HistA
open Go.RowKit Go.WideShapes Go.Deep Go.Proofs.Ythkacajlbenflaa.Mem Go.Proofs.Ythkacajlbenflaa.Open Go.Proofs.Ythkacajlbenflaa.KeyM Go.Proofs.Ythkacajlbenflaa.KeyN Go.Proofs.Ythkacajlbenflaa.Kv Go.Proofs.Ythkacajlbenflaa.Maps
attribute [local irreducible] withL withoutL
theorem id_cells {w : World} {A : Option Addr} {n c : Nat} {ps : List (Int × Int)} (h : Rd w w.heap.size 2 (.slice A n c) n (idc ps)) {j : Nat} {p : Int × Int} (hp : ps[j]? = some p) (hn : 0 < n) : ∃ g off, A = some ⟨g, off, none⟩ ∧
    w.cell? ⟨g, off + j * 2, none⟩ = some (.int .u64 p.1) ∧ w.cell? ⟨g, off + j * 2 + 1, none⟩ = some (.int .i64 p.2) := by
  obtain ⟨g, off, cz, e, hg, _, _, hx⟩ := h.cells hn
  injection e with e1 e2 e3
  refine ⟨g, off, e1, ?_, ?_⟩
  · exact hx _ _ (idc_row hp 0 _ rfl)
  · rw [Nat.add_assoc]; exact hx _ _ (idc_row hp 1 _ rfl)
theorem first_some {ts : List TxV} {p : Int × Int} {i : Nat} (h : first ts p = some i) : ∃ t, ts[i]? = some t ∧ sameT t p = true := by
  unfold first at h
  rw [List.findIdx?_eq_some_iff_getElem] at h
  obtain ⟨hi, h1, _⟩ := h
  exact ⟨ts[i], List.getElem?_eq_getElem hi, h1⟩
def fold1 (ts : List TxV) (s : List P2 × Bool) (p : Int × Int) : List P2 × Bool :=
  match first ts p with
  | none => (s.1, false)
  | some i => match ts[i]? with
    | some t => ((playL s.1 t.os).1, s.2 && (playL s.1 t.os).2)
    | none => s
def foldO (ts : List TxV) (ps : List (Int × Int)) : List P2 × Bool := ps.foldl (fold1 ts) ([], true)
theorem fold1_facts {ts : List TxV} {m : Nat} (hs : Small ts m) {s : List P2 × Bool} (h : Rise s.1) (p : Int × Int) : Rise (fold1 ts s p).1 ∧ (fold1 ts s p).1.length ≤ s.1.length + 20 := by
  unfold fold1
  cases hf : first ts p with
  | none => exact ⟨h, by simp⟩
  | some i =>
    obtain ⟨t, ht, _⟩ := first_some hf
    simp only [ht]
    obtain ⟨h1, h2⟩ := playL_facts h _ t.os rfl
    have := (hs.2.2 t (List.mem_of_getElem? ht)).1
    exact ⟨h1, by omega⟩
theorem foldO_snoc (ts : List TxV) (ps : List (Int × Int)) (p : Int × Int) : foldO ts (ps ++ [p]) = fold1 ts (foldO ts ps) p := by simp [foldO]
theorem foldO_facts {ts : List TxV} {m : Nat} (hs : Small ts m) : ∀ n (ps : List (Int × Int)), ps.length = n → Rise (foldO ts ps).1 ∧ (foldO ts ps).1.length ≤ 20 * n := by
  intro n
  induction n with
  | zero => intro ps hl; obtain rfl := List.eq_nil_of_length_eq_zero hl; exact ⟨rise_nil, by simp [foldO]⟩
  | succ n ih =>
    intro ps hl
    obtain ⟨l', q, rfl⟩ : ∃ l' q, ps = l' ++ [q] := ⟨ps.dropLast, ps.getLast (by intro e; simp [e] at hl), (List.dropLast_concat_getLast _).symm⟩
    obtain ⟨h1, h2⟩ := ih l' (by simpa using hl)
    rw [foldO_snoc]
    obtain ⟨h3, h4⟩ := fold1_facts hs h1 q
    exact ⟨h3, by omega⟩
set_option maxHeartbeats 2000000 in
set_option maxRecDepth 100000 in
theorem fold_any {ts : List TxV} {ps : List (Int × Int)} (w : World) {A B : Option Addr} {c d : Nat} (h : Rd w w.heap.size 7 (.slice A ts.length c) ts.length (tc ts)) (hok : ∀ t ∈ ts, TxOk w t)
    (ho : Rd w w.heap.size 2 (.slice B ps.length d) ps.length (idc ps)) (hs : Small ts ps.length) :
    Calls Try.prog 19 #[.slice A ts.length c, .slice B ps.length d] w fun e w' => ∃ v', e = .returned (.tuple #[v', .bool (foldO ts ps).2]) ∧ IsMap w' v' (foldO ts ps).1 ∧ Below w.heap.size w w' := by
  have HO : Hid (∀ W, Below w.heap.size w W → Rd W W.heap.size 2 (.slice B ps.length d) ps.length (idc ps)) := fun W hb => ho.up hb
  have HRA : Hid (∀ W, Below w.heap.size w W → Rd W W.heap.size 7 (.slice A ts.length c) ts.length (tc ts)) := fun W hb => h.up hb
  have HF : Hid (∀ W, Below w.heap.size w W → ∀ p : Int × Int, Calls Try.prog 24 #[.slice A ts.length c, .agg #[.int .u64 p.1, .int .i64 p.2]] W fun e w' => e = .returned (.int .i64 (firstZ ts p)) ∧ Below W.heap.size W w') := fun W hb p => find_txn W (h.up hb) p
  have HT : Hid (∀ W, Below w.heap.size w W → ∀ t ∈ ts, TxOk W t) := fun W hb t ht => (hok t ht).up hb
  have HS := Lib.hid hs
  have hln := h.len_le
  have hlm := ho.len_le
  have hm20 := hs.2.1
  clear h hok ho hs
  obtain ⟨n, hn⟩ : ∃ n, n = ts.length := ⟨_, rfl⟩
  obtain ⟨m, hm⟩ : ∃ m, m = ps.length := ⟨_, rfl⟩
  rw [← hm] at HO hlm HS hm20 ⊢
  rw [← hn] at HRA HF hln ⊢
  have HN := Lib.hid hn
  have HM := Lib.hid hm
  clear hn hm
  unfold maxLen at hln hlm
  go_enter Try.func19, Try.ntmps19
  go_wp2_with fail
  go_loopw [6, 7, 15] (fun mv ok i wr => ∃ (j : Nat) (b : Bool), j ≤ m ∧ i = .int .i64 j ∧ ok = .bool b ∧ b = (foldO ts (ps.take j)).2 ∧ IsMap wr mv (foldO ts (ps.take j)).1 ∧ Below w.heap.size w wr) (fun _ _ i _ => m - (intOf i).toNat)
  case atStart => exact ⟨0, true, Nat.zero_le _, rfl, rfl, rfl, ⟨Rd.nil_ _ _ _, rise_nil, by simp [foldO]⟩, Below.refl _ _⟩
  case round =>
    obtain ⟨j, b, hj, rfl, rfl, hb, him, hbl⟩ := hrel
    by_cases hlt : j < m
    · obtain ⟨p, hp⟩ : ∃ p, ps[j]? = some p := ⟨ps[j]'(by rw [← HM.out]; omega), List.getElem?_eq_getElem _⟩
      obtain ⟨g, off, rfl, c0, c1⟩ := id_cells (HO.out wr hbl) hp (by omega)
      obtain ⟨s, hs⟩ : ∃ s, s = foldO ts (ps.take j) := ⟨_, rfl⟩
      obtain ⟨hr, hlen⟩ := foldO_facts HS.out _ (ps.take j) rfl
      have htl : (ps.take j).length = j := by rw [List.length_take, ← HM.out]; omega
      rw [htl] at hlen
      rw [← hs] at hb him hr hlen
      have hnext : foldO ts (ps.take (j + 1)) = fold1 ts s p := by rw [List.take_add_one, hp]; show foldO ts (ps.take j ++ [p]) = _; rw [foldO_snoc, ← hs]
      have HNX := Lib.hid hnext
      have HLEN : Hid (s.1.length ≤ 400) := Lib.hid (by omega)
      have HRR := Lib.hid hr
      have HB := Lib.hid hb
      obtain ⟨X, hX⟩ : ∃ X, X = wr.alloc (.cells #[.int .u64 p.1, .int .i64 p.2] 30) := ⟨_, rfl⟩
      have hbx : Below wr.heap.size wr X := by rw [hX]; exact (Below.refl _ _).alloc (Nat.le_refl _) _
      have HXR : Hid (X.heap[wr.heap.size]? = some (.cells #[.int .u64 p.1, .int .i64 p.2] 30 (0, 0))) := Lib.hid (by rw [hX]; exact heap_alloc_new wr _)
      have HXB : Hid (Below w.heap.size w X) := hbl.trans (hbx.mono hbl.size)
      have HIM := Lib.hid (him.up hbx)
      have HXE := Lib.hid hX
      have i0 : (0 : Int) ≤ (j : Int) := by omega
      have i1 : (j : Int) < (m : Int) := by omega
      clear hX hbx him hbl hnext hs hb hr hlen htl hp
      go_upto_region 6 with fail
      rw [← HXE.out]
      clear HXE c0 c1
      obtain ⟨d0, d1⟩ := row2c HXR.out
      go_wp2_with fail
      refine (HF.out X HXB.out p).mono ?_
      rintro e w1 ⟨rfl, hb1⟩
      have HB1 : Hid (Below w.heap.size w w1) := HXB.out.trans (hb1.mono HXB.out.size)
      have HI1 := Lib.hid (HIM.out.up hb1)
      clear hb1 d0 d1 HIM
      cases hf : first ts p with
      | none =>
        have e : firstZ ts p = -1 := by unfold firstZ; rw [hf]
        rw [e]
        have HFN := Lib.hid hf
        clear hf e
        go_wp2_with fail
        go_roundw
        case rel => exact ⟨j + 1, false, by omega, by go_num, rfl, by rw [HNX.out]; unfold fold1; rw [HFN.out], by rw [HNX.out]; unfold fold1; rw [HFN.out]; exact HI1.out, HB1.out⟩
        case measure => simp [intOf]; omega
      | some k =>
        have e : firstZ ts p = (k : Int) := by unfold firstZ; rw [hf]
        obtain ⟨t, ht, _⟩ := first_some hf
        have hk : k < n := by rw [HN.out]; exact (List.getElem?_eq_some_iff.1 ht).1
        obtain ⟨g2, off2, rfl, e0, e1, e2, e3, e4, e5, e6⟩ := txn_cells (HRA.out w1 HB1.out) ht (by omega)
        have hfx : fold1 ts s p = ((playL s.1 t.os).1, s.2 && (playL s.1 t.os).2) := by unfold fold1; rw [hf]; simp only [ht]
        have hpl := play_any w1 HI1.out (HT.out w1 HB1.out t (List.mem_of_getElem? ht)).1 (by have := (HS.out.2.2 t (List.mem_of_getElem? ht)).1; have := HLEN.out; omega) t.num t.nd t.bg t.en t.as_ t.lo
        have HPL := Lib.hid hpl
        have HFX := Lib.hid hfx
        rw [e]
        have k0 : (0 : Int) ≤ (k : Int) := by omega
        have k1 : (k : Int) < (n : Int) := by omega
        have k2 : ¬ ((k : Int) < 0) := by omega
        unfold tv at HPL
        clear hf e ht hpl hfx
        go_wp2_with fail
        refine HPL.out.mono ?_
        rintro e w2 ⟨v2, rfl, hi2, hb2⟩
        have HI2 := Lib.hid hi2
        have HB2 : Hid (Below w.heap.size w w2) := HB1.out.trans (hb2.mono HB1.out.size)
        obtain ⟨r2, hr2⟩ : ∃ r, r = (playL s.1 t.os).2 := ⟨_, rfl⟩
        rw [← hr2]
        have HR2 := Lib.hid hr2
        clear hi2 hb2 hr2 e0 e1 e2 e3 e4 e5 e6 HPL
        cases b with
        | true =>
          go_wp2_with fail
          go_roundw
          case rel => exact ⟨j + 1, r2, by omega, by go_num, rfl, by rw [HNX.out, HFX.out, ← HB.out, ← HR2.out]; rfl, by rw [HNX.out, HFX.out]; exact HI2.out, HB2.out⟩
          case measure => simp [intOf]; omega
        | false =>
          go_wp2_with fail
          go_roundw
          case rel => exact ⟨j + 1, false, by omega, by go_num, rfl, by rw [HNX.out, HFX.out, ← HB.out]; rfl, by rw [HNX.out, HFX.out]; exact HI2.out, HB2.out⟩
          case measure => simp [intOf]; omega
    · obtain rfl : j = m := by omega
      have htk : ps.take j = ps := by rw [HM.out]; exact List.take_length
      rw [htk] at hb him
      have HIM := Lib.hid him
      have HBL := Lib.hid hbl
      have HB := Lib.hid hb
      clear him hbl hb htk
      go_wp2_with fail
      go_ret2
      exact ⟨_, by rw [HB.out]; rfl, HIM.out, HBL.out⟩
/-! ### Go's own map beside the program's -/
abbrev AtS := MapAt (fun s : S => Value.string s) (fun s : S => Value.string s) (fun s => s.size ≤ maxLen)
theorem kmS : Km Try.prog 9 (fun s : S => Value.string s) (fun s => s.size ≤ maxLen) := km_string Try.underlying9
/-- The program's map and Go's own say the same. -/
structure Agree (ms : List (S × S)) (ps : List P2) : Prop where
  get : ∀ k, getM ms k = getL ps k
  len : ms.length = ps.length
theorem agree_nil : Agree [] [] := ⟨fun _ => rfl, rfl⟩
theorem Agree.with_ {ms : List (S × S)} {ps : List P2} (h : Agree ms ps) (hr : Rise ps) (k v : S) : Agree (setM ms k v) (withL ps k v) := by
  refine ⟨fun k' => ?_, ?_⟩
  · rw [getM_set, getL_with hr, h.get]
  · rw [Maps.length_set, Kv.length_with hr, h.get, getL_isSome, h.len]
theorem Agree.without_ {ms : List (S × S)} {ps : List P2} (h : Agree ms ps) (hn : Keys1 ms) (hr : Rise ps) (k : S) : Agree (delM ms k) (withoutL ps k) := by
  refine ⟨fun k' => ?_, ?_⟩
  · rw [getM_del, getL_without hr, h.get]
  · rw [Maps.length_del hn, Kv.length_without hr, h.get, getL_isSome, h.len]
theorem agree_look {ms : List (S × S)} {ps : List P2} (h : Agree ms ps) (k : S) : (getM ms k).elim (.string ⟨#[]⟩) (fun s : S => Value.string s) = .string (getS ps k) ∧ (getM ms k).isSome = here ps k := by
  refine ⟨?_, by rw [h.get, getL_isSome]⟩
  rw [h.get, getS]
  cases getL ps k <;> rfl
theorem run_look {w : World} {b : Nat} {ms : List (S × S)} {ps : List P2} (h : AtS w b ms) (ha : Agree ms ps) {k : S} (hk : k.size ≤ maxLen) :
    (Instr.lookup 60 (.map (some b)) (.string k) true).run Try.prog w = .ok (.tuple #[.string (getS ps k), .bool (here ps k)]) w := by
  have h1 := run_lookup (P := Try.prog) (t := 60) (e := 9) (z := .string ⟨#[]⟩) kmS Try.underlying60 (by kernel_rfl) h (x := k) hk true
  rw [h1, (agree_look ha k).1, (agree_look ha k).2]; rfl
theorem run_lenm {w : World} {b : Nat} {ms : List (S × S)} {ps : List P2} (h : AtS w b ms) (ha : Agree ms ps) (ty : TypeId) :
    (Builtin.len_ #[60] ty #[.map (some b)]).run Try.prog w = .ok (.int .i64 ps.length) w := by
  rw [Maps.run_len (P := Try.prog) Try.underlying60 h, ha.len]
theorem look_at {w : World} {b : Nat} {ms : List (S × S)} {ps : List P2} (h : AtS w b ms) (ha : Agree ms ps) (hr : Rise ps) {i : Nat} {p : P2} (hp : ps[i]? = some p) :
    (Instr.lookup 60 (.map (some b)) (.string p.1) true).run Try.prog w = .ok (.tuple #[.string p.2, .bool true]) w := by
  have h1 := rise_find hr hp
  have h2 := getM_mem ((ha.get p.1).trans h1)
  obtain ⟨_, _, _, _, hok, _⟩ := id h
  rw [run_look h ha (hok _ h2), getS, h1, ← getL_isSome, h1]
  rfl
theorem rise_at {ps : List P2} (hr : Rise ps) {i j : Nat} {p q : P2} (hi : ps[i]? = some p) (hj : ps[j]? = some q) (hij : i < j) : lt p.1 q.1 = true := by
  obtain ⟨h1, e1⟩ := List.getElem?_eq_some_iff.1 hi
  obtain ⟨h2, e2⟩ := List.getElem?_eq_some_iff.1 hj
  have := List.pairwise_iff_getElem.1 hr i j h1 h2 hij
  rw [e1, e2] at this
  exact this
theorem playl_from (m : List P2) : ∀ (os : List OpR) (n : List P2) (b c : Bool), os.foldl play1 (n, b && c) = ((os.foldl play1 (n, c)).1, b && (os.foldl play1 (n, c)).2)
  | [], _, _, _ => rfl
  | o :: os, n, b, c => by
    have e : play1 (n, b && c) o = ((play1 (n, c) o).1, b && (play1 (n, c) o).2) := by
      unfold play1
      split
      · simp [Bool.and_assoc]
      · split
        · rfl
        · split <;> rfl
    simp only [List.foldl_cons]
    rw [e, playl_from m os]
theorem playF (n : List P2) (b : Bool) (os : List OpR) : os.foldl play1 (n, b) = ((playL n os).1, b && (playL n os).2) := by
  have h := playl_from n os n b true
  rw [Bool.and_true] at h
  exact h
end Go.Proofs.Ythkacajlbenflaa.HistA
