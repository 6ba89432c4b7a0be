/- Timely: whether no transaction of the order has an End that is less than the Begin of one ahead of it. -/
import Derived.Test.YthkacajlbenflaaHistU
import Derived.Test.YthkacajlbenflaaTid
set_option linter.unusedVariables false
set_option linter.unusedSimpArgs false
set_option linter.unusedSectionVars false
namespace Go.Proofs.Ythkacajlbenflaa.HistA
open Go.RowKit Go.WideShapes Go.Deep Go.Proofs.Ythkacajlbenflaa.Mem Go.Proofs.Ythkacajlbenflaa.Open Go.Proofs.Ythkacajlbenflaa.KeyM Go.Proofs.Ythkacajlbenflaa.KeyN Go.Proofs.Ythkacajlbenflaa.Kv Go.Proofs.Ythkacajlbenflaa.Maps
/-- The first transaction of a name. -/
def look (ts : List TxV) (p : Int × Int) : Option TxV := (first ts p).bind fun i => ts[i]?
theorem look_none {ts : List TxV} {p : Int × Int} (h : first ts p = none) : look ts p = none := by unfold look; rw [h]; rfl
theorem look_some {ts : List TxV} {p : Int × Int} {i : Nat} {t : TxV} (h : first ts p = some i) (ht : ts[i]? = some t) : look ts p = some t := by unfold look; rw [h]; exact ht
theorem look_mem {ts : List TxV} {p : Int × Int} {t : TxV} (h : look ts p = some t) : t ∈ ts := by
  unfold look at h
  cases hf : first ts p with
  | none => rw [hf] at h; cases h
  | some i => rw [hf] at h; exact List.mem_of_getElem? h
def TimP (ts : List TxV) (ps : List (Int × Int)) (j : Nat) : Prop := ∀ (i k : Nat) (p q : Int × Int) (x y : TxV), i < j → k < i → ps[i]? = some p → ps[k]? = some q → look ts p = some x → look ts q = some y → ¬ (0 < x.en ∧ x.en < y.bg)
theorem TimP.next {ts : List TxV} {ps : List (Int × Int)} {j : Nat} (h : TimP ts ps j) (hn : ∀ (k : Nat) (p q : Int × Int) (x y : TxV), k < j → ps[j]? = some p → ps[k]? = some q → look ts p = some x → look ts q = some y → ¬ (0 < x.en ∧ x.en < y.bg)) : TimP ts ps (j + 1) :=
  fun i k p q x y hi hk hp hq hx hy => by
    by_cases e : i = j
    · subst e; exact hn k p q x y hk hp hq hx hy
    · exact h i k p q x y (by omega) hk hp hq hx hy
/-- A bool that tells whether Q holds. -/
def BRes (w : World) (Q : Prop) (e : Ending) (w' : World) : Prop := ∃ b, e = .returned (.bool b) ∧ (b = true ↔ Q) ∧ Below w.heap.size w w'
structure Lat (ts : List TxV) (ps : List (Int × Int)) (j : Nat) (L : Int) : Prop where
  pos : 0 ≤ L
  all : ∀ (k : Nat) (q : Int × Int) (y : TxV), k < j → ps[k]? = some q → look ts q = some y → y.bg ≤ L
  one : 0 < L → ∃ (k : Nat) (q : Int × Int) (y : TxV), k < j ∧ ps[k]? = some q ∧ look ts q = some y ∧ y.bg = L
theorem lat_zero (ts : List TxV) (ps : List (Int × Int)) : Lat ts ps 0 0 := ⟨Int.le_refl _, fun k q y h => absurd h (by omega), fun h => absurd h (by omega)⟩
theorem Lat.skip {ts : List TxV} {ps : List (Int × Int)} {j : Nat} {L : Int} (h : Lat ts ps j L) {p : Int × Int} (hp : ps[j]? = some p) (hn : look ts p = none) : Lat ts ps (j + 1) L :=
  ⟨h.pos, fun k q y hk hq hy => by
    by_cases e : k = j
    · subst e; rw [hp] at hq; injection hq with hq; subst hq; rw [hn] at hy; cases hy
    · exact h.all k q y (by omega) hq hy, fun hL => by
    obtain ⟨k, q, y, h1, h2⟩ := h.one hL
    exact ⟨k, q, y, by omega, h2⟩⟩
theorem Lat.more {ts : List TxV} {ps : List (Int × Int)} {j : Nat} {L : Int} (h : Lat ts ps j L) {p : Int × Int} {x : TxV} (hp : ps[j]? = some p) (hx : look ts p = some x) : Lat ts ps (j + 1) (max L x.bg) :=
  ⟨by have := h.pos; omega, fun k q y hk hq hy => by
    by_cases e : k = j
    · subst e; rw [hp] at hq; injection hq with hq; subst hq; rw [hx] at hy; injection hy with hy; subst hy; omega
    · have := h.all k q y (by omega) hq hy; omega, fun hL => by
    by_cases e : L ≤ x.bg
    · exact ⟨j, p, x, by omega, hp, hx, by omega⟩
    · obtain ⟨k, q, y, h1, h2, h3, h4⟩ := h.one (by omega)
      exact ⟨k, q, y, by omega, h2, h3, by omega⟩⟩
set_option maxHeartbeats 2000000 in
set_option maxRecDepth 100000 in
theorem timely_any {ts : List TxV} {ps : List (Int × Int)} (w : World) {A B : Option Addr} {c d : Nat} (h : Rd w w.heap.size 7 (.slice A ts.length c) ts.length (tc ts))
    (ho : Rd w w.heap.size 2 (.slice B ps.length d) ps.length (idc ps)) :
    Calls Try.prog 12 #[.slice A ts.length c, .slice B ps.length d] w fun e w' => BRes w (TimP ts ps ps.length) e w' := by
  have HO : Hid (∀ W, Below w.heap.size w W → Rd W W.heap.size 2 (.slice B ps.length d) ps.length (idc ps)) := fun W hb => ho.up hb
  have HRA : Hid (∀ W, Below w.heap.size w W → Rd W W.heap.size 7 (.slice A ts.length c) ts.length (tc ts)) := fun W hb => h.up hb
  have HF : Hid (∀ W, Below w.heap.size w W → ∀ p : Int × Int, Calls Try.prog 24 #[.slice A ts.length c, .agg #[.int .u64 p.1, .int .i64 p.2]] W fun e w' => e = .returned (.int .i64 (firstZ ts p)) ∧ Below W.heap.size W w') := fun W hb p => find_txn W (h.up hb) p
  have hln := h.len_le
  have hlm := ho.len_le
  clear h ho
  obtain ⟨n, hn⟩ : ∃ n, n = ts.length := ⟨_, rfl⟩
  obtain ⟨m, hm⟩ : ∃ m, m = ps.length := ⟨_, rfl⟩
  rw [← hm] at HO hlm ⊢
  rw [← hn] at HRA HF hln ⊢
  have HN := Lib.hid hn
  have HM := Lib.hid hm
  clear hn hm
  unfold maxLen at hln hlm
  go_enter Try.func12, Try.ntmps12
  go_wp2_with fail
  go_loopw [5, 11] (fun l i wr => ∃ (j : Nat) (L : Int), j ≤ m ∧ i = .int .i64 j ∧ l = .int .i64 L ∧ Lat ts ps j L ∧ TimP ts ps j ∧ Below w.heap.size w wr) (fun _ i _ => m - (intOf i).toNat)
  case atStart => exact ⟨0, 0, Nat.zero_le _, rfl, rfl, lat_zero _ _, fun i k p q x y hi => absurd hi (by omega), Below.refl _ _⟩
  case round =>
    obtain ⟨j, L, hj, rfl, rfl, hlat, htim, hbl⟩ := hrel
    have HLAT := Lib.hid hlat
    have HTIM := Lib.hid htim
    clear hlat htim
    by_cases hlt : j < m
    · obtain ⟨p, hp⟩ : ∃ p, ps[j]? = some p := ⟨ps[j]'(by rw [← HM.out]; omega), List.getElem?_eq_getElem _⟩
      obtain ⟨g, off, rfl, c0, c1⟩ := id_cells (HO.out wr hbl) hp (by omega)
      obtain ⟨X, hX⟩ : ∃ X, X = wr.alloc (.cells #[.int .u64 p.1, .int .i64 p.2] 30) := ⟨_, rfl⟩
      have hbx : Below wr.heap.size wr X := by rw [hX]; exact (Below.refl _ _).alloc (Nat.le_refl _) _
      have HXR : Hid (X.heap[wr.heap.size]? = some (.cells #[.int .u64 p.1, .int .i64 p.2] 30 (0, 0))) := Lib.hid (by rw [hX]; exact heap_alloc_new wr _)
      have HXB : Hid (Below w.heap.size w X) := hbl.trans (hbx.mono hbl.size)
      have HXE := Lib.hid hX
      have HP := Lib.hid hp
      have i0 : (0 : Int) ≤ (j : Int) := by omega
      have i1 : (j : Int) < (m : Int) := by omega
      clear hX hbx hbl hp
      go_upto_region 5 with fail
      rw [← HXE.out]
      clear HXE c0 c1
      obtain ⟨d0, d1⟩ := row2c HXR.out
      go_wp2_with fail
      refine (HF.out X HXB.out p).mono ?_
      rintro e w1 ⟨rfl, hb1⟩
      have HB1 : Hid (Below w.heap.size w w1) := HXB.out.trans (hb1.mono HXB.out.size)
      clear hb1 d0 d1
      cases hf : first ts p with
      | none =>
        have e : firstZ ts p = -1 := by unfold firstZ; rw [hf]
        rw [e]
        have HFN := Lib.hid (look_none hf)
        clear hf e
        go_wp2_with fail
        go_roundw
        case rel => exact ⟨j + 1, L, by omega, by go_num, rfl, HLAT.out.skip HP.out HFN.out, HTIM.out.next fun k p' q x y hk hp' hq hx hy => by
          have e : p' = p := by have := HP.out.symm.trans hp'; injection this with this; exact this.symm
          subst e
          exact absurd (HFN.out.symm.trans hx) (by simp), HB1.out⟩
        case measure => simp [intOf]; omega
      | some k =>
        have e : firstZ ts p = (k : Int) := by unfold firstZ; rw [hf]
        obtain ⟨t, ht, _⟩ := first_some hf
        have hk : k < n := by rw [HN.out]; exact (List.getElem?_eq_some_iff.1 ht).1
        obtain ⟨g2, off2, rfl, e0, e1, e2, e3, e4, e5, e6⟩ := txn_cells (HRA.out w1 HB1.out) ht (by omega)
        have HLK := Lib.hid (look_some hf ht)
        rw [e]
        have k0 : (0 : Int) ≤ (k : Int) := by omega
        have k1 : (k : Int) < (n : Int) := by omega
        have k2 : ¬ ((k : Int) < 0) := by omega
        have hsame : ∀ p', ps[j]? = some p' → p' = p := fun p' hp' => by have := HP.out.symm.trans hp'; injection this with this; exact this.symm
        have HSAME := Lib.hid hsame
        clear hf e ht hsame e0 e1 e4 e5 e6
        by_cases h1 : 0 < t.en
        · by_cases h2 : t.en < L
          · go_wp2_with fail
            go_ret
            refine ⟨false, rfl, ⟨fun h => absurd h (by simp), fun h => ?_⟩, HB1.out⟩
            obtain ⟨k', q, y, a1, a2, a3, a4⟩ := HLAT.out.one (by omega)
            exact absurd ⟨h1, by omega⟩ (h j k' p q t y hlt a1 HP.out a2 HLK.out a3)
          · go_wp2_with fail
            go_roundw
            case rel => exact ⟨j + 1, max L t.bg, by omega, by go_num, by congr 1; split <;> omega, HLAT.out.more HP.out HLK.out, HTIM.out.next fun k p' q x y hk hp' hq hx hy => by
              obtain rfl := HSAME.out p' hp'
              have e : x = t := by have := HLK.out.symm.trans hx; injection this with this; exact this.symm
              subst e
              have := HLAT.out.all k q y hk hq hy
              omega, HB1.out⟩
            case measure => simp [intOf]; omega
        · go_wp2_with fail
          go_roundw
          case rel => exact ⟨j + 1, max L t.bg, by omega, by go_num, by congr 1; split <;> omega, HLAT.out.more HP.out HLK.out, HTIM.out.next fun k p' q x y hk hp' hq hx hy => by
            obtain rfl := HSAME.out p' hp'
            have e : x = t := by have := HLK.out.symm.trans hx; injection this with this; exact this.symm
            subst e
            omega, HB1.out⟩
          case measure => simp [intOf]; omega
    · obtain rfl : j = m := by omega
      have HBL := Lib.hid hbl
      clear hbl
      have i1 : ¬ ((j : Int) < (j : Int)) := by omega
      go_wp2_with fail
      go_ret
      exact ⟨true, rfl, ⟨fun _ => HTIM.out, fun _ => rfl⟩, HBL.out⟩
/-! ### Whole -/
def badT (ms : List ((Int × Int) × Bool)) (t : TxV) : Bool := decide (0 < t.en) && decide (0 < t.os.length) && !((getM ms (t.num, t.nd)).getD false)
abbrev SeenAt := MapAt Tid.encT Value.bool Tid.IdOk
theorem run_seen {w : World} {b : Nat} {ms : List ((Int × Int) × Bool)} (h : SeenAt w b ms) {p : Int × Int} (hp : Tid.IdOk p) :
    (Instr.lookup 24 (.map (some b)) (.agg #[.int .u64 p.1, .int .i64 p.2]) false).run Try.prog w = .ok (.bool ((getM ms p).getD false)) w := by
  have h1 := run_lookup (P := Try.prog) (t := 24) (e := 4) (z := .bool false) Tid.km_tid Try.underlying24 (by kernel_rfl) h (x := p) hp false
  have h2 : Tid.encT p = .agg #[.int .u64 p.1, .int .i64 p.2] := rfl
  rw [h2] at h1
  rw [h1]
  cases getM ms p <;> rfl
set_option maxHeartbeats 2000000 in
set_option maxRecDepth 100000 in
theorem whole1_any (w : World) (t : TxV) (ht : Tid.IdOk (t.num, t.nd)) {bx bm : Nat} {ms : List ((Int × Int) × Bool)} (hx : w.heap[bx]? = some (.cells #[.map (some bm)] 24 (0, 0))) (hm : SeenAt w bm ms) :
    Calls Try.prog 26 #[.agg #[.int .u64 t.num, .int .i64 t.nd, .int .i64 t.bg, .int .i64 t.en, .bool t.as_, .bool t.lo, .slice t.A t.os.length t.c], .pointer (some ⟨bx, 0, none⟩)] w fun e w' => e = .returned (.bool (badT ms t)) ∧ Below w.heap.size w w' := by
  have HX := Lib.hid hx
  have HM := Lib.hid hm
  have HT := Lib.hid ht
  clear hx hm ht
  obtain ⟨b, hb⟩ : ∃ b, b = badT ms t := ⟨_, rfl⟩
  rw [← hb]
  unfold badT at hb
  obtain ⟨r, hr⟩ : ∃ r, r = (getM ms (t.num, t.nd)).getD false := ⟨_, rfl⟩
  rw [← hr] at hb
  have HB := Lib.hid hb
  have HR := Lib.hid hr
  clear hb hr
  go_enter Try.func26, Try.ntmps26
  go_upto_region 1 with fail
  obtain ⟨X, hX⟩ : ∃ X, X = w.alloc (.cells #[.int .u64 t.num, .int .i64 t.nd, .int .i64 t.bg, .int .i64 t.en, .bool t.as_, .bool t.lo, .slice t.A t.os.length t.c] 39) := ⟨_, rfl⟩
  rw [← hX]
  have hxb : Below w.heap.size w X := by rw [hX]; exact (Below.refl _ _).alloc (Nat.le_refl _) _
  have HXB := Lib.hid hxb
  obtain ⟨d0, d1, d2, d3, d4, d5, d6⟩ := row7_facts (show X.heap[w.heap.size]? = _ by rw [hX]; exact heap_alloc_new w _)
  have x0 : X.cell? ⟨bx, 0, none⟩ = some (.map (some bm)) := row_at (blk_below HX.out hxb) rfl
  have hlook := run_seen (HM.out.below hxb) HT.out
  rw [← HR.out] at hlook
  simp only at hlook
  clear hX hxb d2 d4 d5
  by_cases h1 : 0 < t.en
  · have b1 : (0 < (t.os.length : Int)) ↔ 0 < t.os.length := by omega
    by_cases h2 : 0 < t.os.length
    · have h2' : (0 : Int) < (t.os.length : Int) := by omega
      have H2 := Lib.hid h2
      clear h2 b1
      go_wp2_with fail
      go_ret
      exact ⟨by rw [HB.out]; simp [h1, H2.out], HXB.out⟩
    · have h2' : ¬ (0 : Int) < (t.os.length : Int) := by omega
      have H2 := Lib.hid h2
      clear h2 b1
      go_wp2_with fail
      go_ret
      exact ⟨by rw [HB.out]; simp [h1, H2.out], HXB.out⟩
  · have hd := decide_eq_false h1
    rw [hd] at HB
    have H1 := Lib.hid hd
    clear hd
    go_wp2_with fail
    go_ret
    exact ⟨by rw [HB.out]; rfl, HXB.out⟩
#print axioms whole1_any
end Go.Proofs.Ythkacajlbenflaa.HistA
