/- Wants in memory; who is elder; find, and the library's IndexFunc and ContainsFunc at the table's three closures. -/
import Derived.Test.YtcceankldiafpaaSlW
import Derived.Test.YtcceankldiafpaaOpen
import Derived.Test.YtcceankldiafpaaRes
import Derived.Deep.Cut
import Derived.Deep.CutRange
import Derived.Deep.RegionHeld3
set_option linter.unusedVariables false
set_option linter.unusedSimpArgs false
set_option linter.unusedSectionVars false
namespace Go.Proofs.Ytcceankldiafpaa.Lock
open Go.RowKit Go.WideShapes Go.Deep Go.Proofs.Ytcceankldiafpaa.Mem Go.Proofs.Ytcceankldiafpaa.Open
structure Wt where
  num : Int
  nd : Int
  md : Int
def Wt.tid (t : Wt) : Int × Int := (t.num, t.nd)
def Wt.cs (t : Wt) : List Value := [.int .u64 t.num, .int .i64 t.nd, .int .i64 t.md]
def wantV (t : Wt) : Value := .agg #[.int .u64 t.num, .int .i64 t.nd, .int .i64 t.md]
def tidV (p : Int × Int) : Value := .agg #[.int .u64 p.1, .int .i64 p.2]
def wc (ws : List Wt) : List Value := ws.flatMap Wt.cs
theorem wc_len : ∀ ws : List Wt, (wc ws).length = ws.length * 3
  | [] => rfl
  | t :: ws => by
    show (t.cs ++ wc ws).length = _
    rw [List.length_append, wc_len ws]
    show 3 + ws.length * 3 = (ws.length + 1) * 3
    omega
theorem wc_append (a b : List Wt) : wc (a ++ b) = wc a ++ wc b := by simp [wc]
theorem wc_one (ws : List Wt) : One (wc ws) := by
  intro u hu
  simp only [wc, List.mem_flatMap] at hu
  obtain ⟨t, _, hu⟩ := hu
  simp only [Wt.cs, List.mem_cons, List.not_mem_nil, or_false] at hu
  rcases hu with rfl | rfl | rfl <;> rfl
theorem wc_take : ∀ (ws : List Wt) (i : Nat), (wc ws).take (i * 3) = wc (ws.take i)
  | [], i => by simp [wc]
  | t :: ws, 0 => by simp [wc]
  | t :: ws, i + 1 => by
    show (t.cs ++ wc ws).take _ = t.cs ++ wc (ws.take i)
    rw [show (i + 1) * 3 = t.cs.length + i * 3 by show _ = 3 + i * 3; omega, List.take_length_add_append, wc_take ws i]
theorem wc_drop : ∀ (ws : List Wt) (i : Nat), (wc ws).drop (i * 3) = wc (ws.drop i)
  | [], i => by simp [wc]
  | t :: ws, 0 => by simp [wc]
  | t :: ws, i + 1 => by
    show (t.cs ++ wc ws).drop _ = wc (ws.drop i)
    rw [show (i + 1) * 3 = t.cs.length + i * 3 by show _ = 3 + i * 3; omega, List.drop_length_add_append, wc_drop ws i]
theorem wc_at : ∀ {ws : List Wt} {i : Nat} {t : Wt}, ws[i]? = some t → ∀ (j : Nat) (u : Value), t.cs[j]? = some u → (wc ws)[i * 3 + j]? = some u
  | [], i, r, h => by simp at h
  | p :: rs, 0, r, h => by
    have h' : p = r := by simpa using h
    subst h'
    intro j u hu
    have hl : j < p.cs.length := (List.getElem?_eq_some_iff.1 hu).1
    show (p.cs ++ wc rs)[0 * 3 + j]? = _
    rw [Nat.zero_mul, Nat.zero_add, List.getElem?_append_left hl]
    exact hu
  | p :: rs, i + 1, r, h => by
    have h' : rs[i]? = some r := by simpa using h
    intro j u hu
    show (p.cs ++ wc rs)[(i + 1) * 3 + j]? = _
    have hl : p.cs.length = 3 := rfl
    rw [List.getElem?_append_right (by omega), hl, show (i + 1) * 3 + j - 3 = i * 3 + j by omega]
    exact wc_at h' _ _ hu
theorem want_cells {w : World} {B : Nat} {A : Option Addr} {n c : Nat} {ws : List Wt} (h : Rd w B 3 (.slice A n c) n (wc ws)) {j : Nat} {t : Wt} (ht : ws[j]? = some t) (hn : 0 < n) : ∃ g off, A = some ⟨g, off, none⟩ ∧ g < B ∧
    w.cell? ⟨g, off + j * 3, none⟩ = some (.int .u64 t.num) ∧ w.cell? ⟨g, off + j * 3 + 1, none⟩ = some (.int .i64 t.nd) ∧ w.cell? ⟨g, off + j * 3 + 2, none⟩ = some (.int .i64 t.md) := by
  obtain ⟨g, off, cz, e, hg, _, _, hx⟩ := h.cells hn
  injection e with e1 e2 e3
  refine ⟨g, off, e1, hg, ?_, ?_, ?_⟩
  · exact hx _ _ (wc_at ht 0 _ rfl)
  · rw [Nat.add_assoc]; exact hx _ _ (wc_at ht 1 _ rfl)
  · rw [Nat.add_assoc]; exact hx _ _ (wc_at ht 2 _ rfl)
theorem blk_below {w w' : World} {g : Nat} {o : Obj} (h : w.heap[g]? = some o) (hb : Below w.heap.size w w') : w'.heap[g]? = some o := (hb.block _ (Array.getElem?_eq_some_iff.1 h).1).trans h
theorem row1c {w : World} {g : Nat} {a : Value} {t : TypeId} (hr : w.heap[g]? = some (.cells #[a] t (0, 0))) : w.cell? ⟨g, 0, none⟩ = some a := by rw [cell_of_row _ _ _ _ _ _ hr]; rfl
theorem row2c {w : World} {g : Nat} {a b : Value} {t : TypeId} (hr : w.heap[g]? = some (.cells #[a, b] t (0, 0))) : w.cell? ⟨g, 0, none⟩ = some a ∧ w.cell? ⟨g, 1, none⟩ = some b :=
  ⟨by rw [cell_of_row _ _ _ _ _ _ hr]; rfl, by rw [cell_of_row _ _ _ _ _ _ hr]; rfl⟩
theorem row3c {w : World} {g : Nat} {a b c : Value} {t : TypeId} (hr : w.heap[g]? = some (.cells #[a, b, c] t (0, 0))) : w.cell? ⟨g, 0, none⟩ = some a ∧ w.cell? ⟨g, 1, none⟩ = some b ∧ w.cell? ⟨g, 2, none⟩ = some c :=
  ⟨by rw [cell_of_row _ _ _ _ _ _ hr]; rfl, by rw [cell_of_row _ _ _ _ _ _ hr]; rfl, by rw [cell_of_row _ _ _ _ _ _ hr]; rfl⟩
def elder (p q : Int × Int) : Bool := decide (p.1 < q.1 ∨ p.1 = q.1 ∧ p.2 < q.2)
def against (a b : Int) : Bool := decide (a = 2 ∨ b = 2)
def sameT (t : Wt) (p : Int × Int) : Bool := decide (t.num = p.1 ∧ t.nd = p.2)
def firstZ (pr : Wt → Bool) (ws : List Wt) : Int := match ws.findIdx? pr with | some i => i | none => -1
set_option maxHeartbeats 1000000 in
set_option maxRecDepth 100000 in
theorem against_any (w : World) (a b : Int) : Calls Try.prog 28 #[.int .i64 a, .int .i64 b] w fun e w' => e = .returned (.bool (against a b)) ∧ w' = w := by
  obtain ⟨r, hr⟩ : ∃ r, r = against a b := ⟨_, rfl⟩
  rw [← hr]
  have HR := Lib.hid hr
  clear hr
  go_enter Try.func28, Try.ntmps28
  by_cases ha : a = 2
  · have b1 : (a == 2) = true := by simp [ha]
    have HA := Lib.hid ha
    clear ha
    go_wp2_with fail
    go_ret
    exact ⟨by rw [HR.out]; unfold against; simp [HA.out], rfl⟩
  · have b1 : (a == 2) = false := by simp [ha]
    have HA := Lib.hid ha
    clear ha
    by_cases hb : b = 2
    · have b2 : (b == 2) = true := by simp [hb]
      have HB := Lib.hid hb
      clear hb
      go_wp2_with fail
      go_ret
      exact ⟨by rw [HR.out]; unfold against; simp [HB.out], rfl⟩
    · have b2 : (b == 2) = false := by simp [hb]
      have HB := Lib.hid hb
      clear hb
      go_wp2_with fail
      go_ret
      exact ⟨by rw [HR.out]; unfold against; simp [HA.out, HB.out], rfl⟩
set_option maxHeartbeats 1000000 in
set_option maxRecDepth 100000 in
theorem elder_any (w : World) (p q : Int × Int) : Calls Try.prog 29 #[tidV p, tidV q] w fun e w' => e = .returned (.bool (elder p q)) ∧ Below w.heap.size w w' := by
  obtain ⟨r, hr⟩ : ∃ r, r = elder p q := ⟨_, rfl⟩
  rw [← hr]
  have HR := Lib.hid hr
  clear hr
  obtain ⟨a, c⟩ := p
  obtain ⟨b, d⟩ := q
  unfold tidV
  dsimp only
  go_enter Try.func29, Try.ntmps29
  by_cases h1 : a < b
  · go_wp2_with fail
    go_ret
    exact ⟨by rw [HR.out]; unfold elder; simp [h1], ((Below.refl _ _).alloc (Nat.le_refl _) _).alloc (by simp) _⟩
  · by_cases h2 : a = b
    · have b2 : (a == b) = true := by simp [h2]
      have h1' : ¬ b < a := by omega
      have H2 := Lib.hid h2
      have H1 := Lib.hid h1
      clear h2
      by_cases h3 : c < d
      · go_wp2_with fail
        go_ret
        exact ⟨by rw [HR.out]; unfold elder; simp [H2.out, h3], ((Below.refl _ _).alloc (Nat.le_refl _) _).alloc (by simp) _⟩
      · go_wp2_with fail
        go_ret
        exact ⟨by rw [HR.out]; unfold elder; simp [H2.out, h3], ((Below.refl _ _).alloc (Nat.le_refl _) _).alloc (by simp) _⟩
    · have b2 : (a == b) = false := by simp [h2]
      have H2 := Lib.hid h2
      clear h2
      go_wp2_with fail
      go_ret
      exact ⟨by rw [HR.out]; unfold elder; simp [H2.out, h1], ((Below.refl _ _).alloc (Nat.le_refl _) _).alloc (by simp) _⟩
set_option maxHeartbeats 2000000 in
set_option maxRecDepth 100000 in
theorem find1_any (w : World) (t : Wt) (p : Int × Int) {g : Nat} (hg : w.heap[g]? = some (.cells #[.int .u64 p.1, .int .i64 p.2] 24 (0, 0))) :
    Calls Try.prog 44 #[.agg #[.int .u64 t.num, .int .i64 t.nd, .int .i64 t.md], .pointer (some ⟨g, 0, none⟩)] w fun e w' => e = .returned (.bool (sameT t p)) ∧ Below w.heap.size w w' := by
  have HG := Lib.hid hg
  clear hg
  obtain ⟨b, hb⟩ : ∃ b, b = sameT t p := ⟨_, rfl⟩
  rw [← hb]
  have HB := Lib.hid hb
  clear hb
  go_enter Try.func44, Try.ntmps44
  go_upto_region 1 with fail
  obtain ⟨X, hX⟩ : ∃ X, X = w.alloc (.cells #[.int .u64 t.num, .int .i64 t.nd, .int .i64 t.md] 47) := ⟨_, rfl⟩
  rw [← hX]
  have HXB : Hid (Below w.heap.size w X) := Lib.hid (by rw [hX]; exact (Below.refl _ _).alloc (Nat.le_refl _) _)
  obtain ⟨d0, d1, d2⟩ := row3c (show X.heap[w.heap.size]? = _ by rw [hX]; exact heap_alloc_new w _)
  obtain ⟨p0, p1⟩ := row2c (blk_below HG.out HXB.out)
  clear hX d2
  by_cases h1 : t.num = p.1
  · have b1 : (t.num == p.1) = true := by simp [h1]
    have H1 := Lib.hid h1
    clear h1
    by_cases h2 : t.nd = p.2
    · have b2 : (t.nd == p.2) = true := by simp [h2]
      have H2 := Lib.hid h2
      clear h2
      go_wp2_with fail
      go_ret
      exact ⟨by rw [HB.out]; unfold sameT; simp [H1.out, H2.out], HXB.out⟩
    · have b2 : (t.nd == p.2) = false := by simp [h2]
      go_wp2_with fail
      go_ret
      exact ⟨by rw [HB.out]; unfold sameT; simp [h2], HXB.out⟩
  · have b1 : (t.num == p.1) = false := by simp [h1]
    go_wp2_with fail
    go_ret
    exact ⟨by rw [HB.out]; unfold sameT; simp [h1], HXB.out⟩
/-- Ask's first closure: who waits behind, and is not elder. -/
def youngB (m : Int) (p : Int × Int) (t : Wt) : Bool := against t.md m && !elder t.tid p
set_option maxHeartbeats 2000000 in
set_option maxRecDepth 100000 in
theorem ask1_any (w : World) (t : Wt) (m : Int) (p : Int × Int) {gm g : Nat} (hm : w.heap[gm]? = some (.cells #[.int .i64 m] 31 (0, 0))) (hg : w.heap[g]? = some (.cells #[.int .u64 p.1, .int .i64 p.2] 24 (0, 0))) :
    Calls Try.prog 27 #[.agg #[.int .u64 t.num, .int .i64 t.nd, .int .i64 t.md], .pointer (some ⟨gm, 0, none⟩), .pointer (some ⟨g, 0, none⟩)] w fun e w' => e = .returned (.bool (youngB m p t)) ∧ Below w.heap.size w w' := by
  have HG := Lib.hid hg
  have HM := Lib.hid hm
  clear hg hm
  obtain ⟨b, hb⟩ : ∃ b, b = youngB m p t := ⟨_, rfl⟩
  rw [← hb]
  have HB := Lib.hid hb
  clear hb
  go_enter Try.func27, Try.ntmps27
  go_upto_region 1 with fail
  obtain ⟨X, hX⟩ : ∃ X, X = w.alloc (.cells #[.int .u64 t.num, .int .i64 t.nd, .int .i64 t.md] 47) := ⟨_, rfl⟩
  rw [← hX]
  have HXB : Hid (Below w.heap.size w X) := Lib.hid (by rw [hX]; exact (Below.refl _ _).alloc (Nat.le_refl _) _)
  obtain ⟨d0, d1, d2⟩ := row3c (show X.heap[w.heap.size]? = _ by rw [hX]; exact heap_alloc_new w _)
  obtain ⟨p0, p1⟩ := row2c (blk_below HG.out HXB.out)
  have m0 := row1c (blk_below HM.out HXB.out)
  clear hX
  have HA := Lib.hid (against_any X t.md m)
  have HE := Lib.hid (elder_any X t.tid p)
  obtain ⟨ra, hra⟩ : ∃ r, r = against t.md m := ⟨_, rfl⟩
  obtain ⟨re, hre⟩ : ∃ r, r = elder t.tid p := ⟨_, rfl⟩
  rw [← hra] at HA
  rw [← hre] at HE
  have HBB : Hid (b = (ra && !re)) := Lib.hid (by rw [HB.out, hra, hre]; rfl)
  clear hra hre HB
  cases ra with
  | true =>
    go_wp2_with (first | (go_at_call 28; refine HA.out.mono ?_; rintro e w1 ⟨rfl, rfl⟩) | (go_at_call 29; refine HE.out.mono ?_; rintro e w1 ⟨rfl, hb1⟩; have HB1 := Lib.hid hb1; clear hb1))
    go_ret
    exact ⟨by rw [HBB.out]; simp, HXB.out.trans (HB1.out.mono HXB.out.size)⟩
  | false =>
    go_wp2_with (first | (go_at_call 28; refine HA.out.mono ?_; rintro e w1 ⟨rfl, rfl⟩) | (go_at_call 29; refine HE.out.mono ?_; rintro e w1 ⟨rfl, hb1⟩; have HB1 := Lib.hid hb1; clear hb1))
    go_ret
    exact ⟨by rw [HBB.out]; simp, HXB.out⟩
/-- Ask's second closure: who is not younger. -/
def notYoung (p : Int × Int) (t : Wt) : Bool := !elder p t.tid
set_option maxHeartbeats 2000000 in
set_option maxRecDepth 100000 in
theorem ask2_any (w : World) (t : Wt) (p : Int × Int) {g : Nat} (hg : w.heap[g]? = some (.cells #[.int .u64 p.1, .int .i64 p.2] 24 (0, 0))) :
    Calls Try.prog 32 #[.agg #[.int .u64 t.num, .int .i64 t.nd, .int .i64 t.md], .pointer (some ⟨g, 0, none⟩)] w fun e w' => e = .returned (.bool (notYoung p t)) ∧ Below w.heap.size w w' := by
  have HG := Lib.hid hg
  clear hg
  obtain ⟨b, hb⟩ : ∃ b, b = notYoung p t := ⟨_, rfl⟩
  rw [← hb]
  have HB := Lib.hid hb
  clear hb
  go_enter Try.func32, Try.ntmps32
  go_upto_region 1 with fail
  obtain ⟨X, hX⟩ : ∃ X, X = w.alloc (.cells #[.int .u64 t.num, .int .i64 t.nd, .int .i64 t.md] 47) := ⟨_, rfl⟩
  rw [← hX]
  have HXB : Hid (Below w.heap.size w X) := Lib.hid (by rw [hX]; exact (Below.refl _ _).alloc (Nat.le_refl _) _)
  obtain ⟨d0, d1, d2⟩ := row3c (show X.heap[w.heap.size]? = _ by rw [hX]; exact heap_alloc_new w _)
  obtain ⟨p0, p1⟩ := row2c (blk_below HG.out HXB.out)
  clear hX
  have HE := Lib.hid (elder_any X p t.tid)
  obtain ⟨re, hre⟩ : ∃ r, r = elder p t.tid := ⟨_, rfl⟩
  rw [← hre] at HE
  have HBB : Hid (b = !re) := Lib.hid (by rw [HB.out, hre]; rfl)
  clear hre HB
  go_wp2_with (go_at_call 29; refine HE.out.mono ?_; rintro e w1 ⟨rfl, hb1⟩; have HB1 := Lib.hid hb1; clear hb1)
  go_ret
  exact ⟨by rw [HBB.out]; rfl, HXB.out.trans (HB1.out.mono HXB.out.size)⟩
theorem first_at {pr : Wt → Bool} {ws : List Wt} {j : Nat} {t : Wt} (ht : ws[j]? = some t) (hs : pr t = true) (hb : ∀ (i : Nat) (u : Wt), i < j → ws[i]? = some u → pr u = false) : ws.findIdx? pr = some j := by
  rw [List.findIdx?_eq_some_iff_getElem]
  obtain ⟨hj, e⟩ := List.getElem?_eq_some_iff.1 ht
  exact ⟨hj, by rw [e]; exact hs, fun i hi => by simp [hb i _ hi (List.getElem?_eq_getElem (by omega))]⟩
theorem first_none {pr : Wt → Bool} {ws : List Wt} (hb : ∀ (i : Nat) (u : Wt), ws[i]? = some u → pr u = false) : ws.findIdx? pr = none := by
  rw [List.findIdx?_eq_none_iff]
  intro t ht
  obtain ⟨i, hi⟩ := List.mem_iff_getElem?.1 ht
  exact hb i t hi
set_option maxHeartbeats 2000000 in
set_option maxRecDepth 100000 in
theorem index_f {ws : List Wt} (w : World) {A : Option Addr} {c : Nat} (h : Rd w w.heap.size 3 (.slice A ws.length c) ws.length (wc ws)) (pr : Wt → Bool) {p1 : Nat}
    (hcl : ∀ W, Below w.heap.size w W → ∀ t : Wt, Calls Try.prog 44 #[.agg #[.int .u64 t.num, .int .i64 t.nd, .int .i64 t.md], .pointer (some ⟨p1, 0, none⟩)] W fun e w' => e = .returned (.bool (pr t)) ∧ Below W.heap.size W w') :
    Calls Try.prog 43 #[.slice A ws.length c, .func (.func 44) #[] #[.pointer (some ⟨p1, 0, none⟩)]] w fun e w' => e = .returned (.int .i64 (firstZ pr ws)) ∧ Below w.heap.size w w' := by
  have HO : Hid (∀ W, Below w.heap.size w W → Rd W W.heap.size 3 (.slice A ws.length c) ws.length (wc ws)) := fun W hb => h.up hb
  have HCL := Lib.hid hcl
  have hln := h.len_le
  clear h hcl
  obtain ⟨n, hn⟩ : ∃ n, n = ws.length := ⟨_, rfl⟩
  rw [← hn] at HO hln ⊢
  have HN := Lib.hid hn
  clear hn
  unfold maxLen at hln
  obtain ⟨r, hr⟩ : ∃ r, r = firstZ pr ws := ⟨_, rfl⟩
  rw [← hr]
  have HR := Lib.hid hr
  clear hr
  go_enter Try.func43, Try.ntmps43
  go_wp2_with fail
  go_loopw [8] (fun i wr => ∃ j : Nat, j ≤ n ∧ i = .int .i64 j ∧ (∀ i u, i < j → ws[i]? = some u → pr u = false) ∧ Below w.heap.size w wr) (fun i _ => n - (intOf i).toNat)
  case atStart => exact ⟨0, Nat.zero_le _, rfl, fun i u h => absurd h (by omega), Below.refl _ _⟩
  case round =>
    obtain ⟨j, hj, rfl, hall, hbl⟩ := hrel
    have HBL := Lib.hid hbl
    have HALL := Lib.hid hall
    clear hall
    by_cases hlt : j < n
    · obtain ⟨t, ht⟩ : ∃ t, ws[j]? = some t := ⟨ws[j]'(by rw [← HN.out]; omega), List.getElem?_eq_getElem _⟩
      obtain ⟨g, off, rfl, _, c0, c1, c2⟩ := want_cells (HO.out wr hbl) ht (by omega)
      have HTE := Lib.hid ht
      have HC := Lib.hid (HCL.out wr hbl t)
      have i0 : (0 : Int) ≤ (j : Int) := by omega
      have i1 : (j : Int) < (n : Int) := by omega
      clear hbl ht
      obtain ⟨b, hb⟩ : ∃ b, b = pr t := ⟨_, rfl⟩
      rw [← hb] at HC
      have HB := Lib.hid hb
      clear hb
      cases b with
      | true =>
        go_wp2_with (go_at_call 44; refine HC.out.mono ?_; rintro e w1 ⟨rfl, hb1⟩; have HB1 := Lib.hid hb1; clear hb1)
        go_ret
        refine ⟨?_, HBL.out.trans (HB1.out.mono HBL.out.size)⟩
        have e : r = (j : Int) := by rw [HR.out]; unfold firstZ; rw [first_at HTE.out HB.out.symm HALL.out]
        rw [e]; rfl
      | false =>
        go_wp2_with (go_at_call 44; refine HC.out.mono ?_; rintro e w1 ⟨rfl, hb1⟩; have HB1 := Lib.hid hb1; clear hb1)
        go_roundw
        case rel => exact ⟨j + 1, by omega, by go_num, fun i u hi hu => by
          by_cases e : i = j
          · subst e
            have : some t = some u := HTE.out.symm.trans hu
            injection this with this
            rw [← this]; exact HB.out.symm
          · exact HALL.out i u (by omega) hu, HBL.out.trans (HB1.out.mono HBL.out.size)⟩
        case measure => simp [intOf]; omega
    · have i1 : ¬ ((j : Int) < (n : Int)) := by omega
      go_wp2_with fail
      go_ret
      refine ⟨?_, HBL.out⟩
      have e : r = -1 := by
        rw [HR.out]; unfold firstZ
        rw [first_none fun i u hu => HALL.out i u (by have := (List.getElem?_eq_some_iff.1 hu).1; rw [← HN.out] at this; omega) hu]
      rw [e]; rfl
set_option maxHeartbeats 2000000 in
set_option maxRecDepth 100000 in
theorem index_a {ws : List Wt} (w : World) {A : Option Addr} {c : Nat} (h : Rd w w.heap.size 3 (.slice A ws.length c) ws.length (wc ws)) (pr : Wt → Bool) {p1 p2 : Nat}
    (hcl : ∀ W, Below w.heap.size w W → ∀ t : Wt, Calls Try.prog 27 #[.agg #[.int .u64 t.num, .int .i64 t.nd, .int .i64 t.md], .pointer (some ⟨p1, 0, none⟩), .pointer (some ⟨p2, 0, none⟩)] W fun e w' => e = .returned (.bool (pr t)) ∧ Below W.heap.size W w') :
    Calls Try.prog 43 #[.slice A ws.length c, .func (.func 27) #[] #[.pointer (some ⟨p1, 0, none⟩), .pointer (some ⟨p2, 0, none⟩)]] w fun e w' => e = .returned (.int .i64 (firstZ pr ws)) ∧ Below w.heap.size w w' := by
  have HO : Hid (∀ W, Below w.heap.size w W → Rd W W.heap.size 3 (.slice A ws.length c) ws.length (wc ws)) := fun W hb => h.up hb
  have HCL := Lib.hid hcl
  have hln := h.len_le
  clear h hcl
  obtain ⟨n, hn⟩ : ∃ n, n = ws.length := ⟨_, rfl⟩
  rw [← hn] at HO hln ⊢
  have HN := Lib.hid hn
  clear hn
  unfold maxLen at hln
  obtain ⟨r, hr⟩ : ∃ r, r = firstZ pr ws := ⟨_, rfl⟩
  rw [← hr]
  have HR := Lib.hid hr
  clear hr
  go_enter Try.func43, Try.ntmps43
  go_wp2_with fail
  go_loopw [8] (fun i wr => ∃ j : Nat, j ≤ n ∧ i = .int .i64 j ∧ (∀ i u, i < j → ws[i]? = some u → pr u = false) ∧ Below w.heap.size w wr) (fun i _ => n - (intOf i).toNat)
  case atStart => exact ⟨0, Nat.zero_le _, rfl, fun i u h => absurd h (by omega), Below.refl _ _⟩
  case round =>
    obtain ⟨j, hj, rfl, hall, hbl⟩ := hrel
    have HBL := Lib.hid hbl
    have HALL := Lib.hid hall
    clear hall
    by_cases hlt : j < n
    · obtain ⟨t, ht⟩ : ∃ t, ws[j]? = some t := ⟨ws[j]'(by rw [← HN.out]; omega), List.getElem?_eq_getElem _⟩
      obtain ⟨g, off, rfl, _, c0, c1, c2⟩ := want_cells (HO.out wr hbl) ht (by omega)
      have HTE := Lib.hid ht
      have HC := Lib.hid (HCL.out wr hbl t)
      have i0 : (0 : Int) ≤ (j : Int) := by omega
      have i1 : (j : Int) < (n : Int) := by omega
      clear hbl ht
      obtain ⟨b, hb⟩ : ∃ b, b = pr t := ⟨_, rfl⟩
      rw [← hb] at HC
      have HB := Lib.hid hb
      clear hb
      cases b with
      | true =>
        go_wp2_with (go_at_call 27; refine HC.out.mono ?_; rintro e w1 ⟨rfl, hb1⟩; have HB1 := Lib.hid hb1; clear hb1)
        go_ret
        refine ⟨?_, HBL.out.trans (HB1.out.mono HBL.out.size)⟩
        have e : r = (j : Int) := by rw [HR.out]; unfold firstZ; rw [first_at HTE.out HB.out.symm HALL.out]
        rw [e]; rfl
      | false =>
        go_wp2_with (go_at_call 27; refine HC.out.mono ?_; rintro e w1 ⟨rfl, hb1⟩; have HB1 := Lib.hid hb1; clear hb1)
        go_roundw
        case rel => exact ⟨j + 1, by omega, by go_num, fun i u hi hu => by
          by_cases e : i = j
          · subst e
            have : some t = some u := HTE.out.symm.trans hu
            injection this with this
            rw [← this]; exact HB.out.symm
          · exact HALL.out i u (by omega) hu, HBL.out.trans (HB1.out.mono HBL.out.size)⟩
        case measure => simp [intOf]; omega
    · have i1 : ¬ ((j : Int) < (n : Int)) := by omega
      go_wp2_with fail
      go_ret
      refine ⟨?_, HBL.out⟩
      have e : r = -1 := by
        rw [HR.out]; unfold firstZ
        rw [first_none fun i u hu => HALL.out i u (by have := (List.getElem?_eq_some_iff.1 hu).1; rw [← HN.out] at this; omega) hu]
      rw [e]; rfl
set_option maxHeartbeats 2000000 in
set_option maxRecDepth 100000 in
theorem index_b {ws : List Wt} (w : World) {A : Option Addr} {c : Nat} (h : Rd w w.heap.size 3 (.slice A ws.length c) ws.length (wc ws)) (pr : Wt → Bool) {p1 : Nat}
    (hcl : ∀ W, Below w.heap.size w W → ∀ t : Wt, Calls Try.prog 32 #[.agg #[.int .u64 t.num, .int .i64 t.nd, .int .i64 t.md], .pointer (some ⟨p1, 0, none⟩)] W fun e w' => e = .returned (.bool (pr t)) ∧ Below W.heap.size W w') :
    Calls Try.prog 43 #[.slice A ws.length c, .func (.func 32) #[] #[.pointer (some ⟨p1, 0, none⟩)]] w fun e w' => e = .returned (.int .i64 (firstZ pr ws)) ∧ Below w.heap.size w w' := by
  have HO : Hid (∀ W, Below w.heap.size w W → Rd W W.heap.size 3 (.slice A ws.length c) ws.length (wc ws)) := fun W hb => h.up hb
  have HCL := Lib.hid hcl
  have hln := h.len_le
  clear h hcl
  obtain ⟨n, hn⟩ : ∃ n, n = ws.length := ⟨_, rfl⟩
  rw [← hn] at HO hln ⊢
  have HN := Lib.hid hn
  clear hn
  unfold maxLen at hln
  obtain ⟨r, hr⟩ : ∃ r, r = firstZ pr ws := ⟨_, rfl⟩
  rw [← hr]
  have HR := Lib.hid hr
  clear hr
  go_enter Try.func43, Try.ntmps43
  go_wp2_with fail
  go_loopw [8] (fun i wr => ∃ j : Nat, j ≤ n ∧ i = .int .i64 j ∧ (∀ i u, i < j → ws[i]? = some u → pr u = false) ∧ Below w.heap.size w wr) (fun i _ => n - (intOf i).toNat)
  case atStart => exact ⟨0, Nat.zero_le _, rfl, fun i u h => absurd h (by omega), Below.refl _ _⟩
  case round =>
    obtain ⟨j, hj, rfl, hall, hbl⟩ := hrel
    have HBL := Lib.hid hbl
    have HALL := Lib.hid hall
    clear hall
    by_cases hlt : j < n
    · obtain ⟨t, ht⟩ : ∃ t, ws[j]? = some t := ⟨ws[j]'(by rw [← HN.out]; omega), List.getElem?_eq_getElem _⟩
      obtain ⟨g, off, rfl, _, c0, c1, c2⟩ := want_cells (HO.out wr hbl) ht (by omega)
      have HTE := Lib.hid ht
      have HC := Lib.hid (HCL.out wr hbl t)
      have i0 : (0 : Int) ≤ (j : Int) := by omega
      have i1 : (j : Int) < (n : Int) := by omega
      clear hbl ht
      obtain ⟨b, hb⟩ : ∃ b, b = pr t := ⟨_, rfl⟩
      rw [← hb] at HC
      have HB := Lib.hid hb
      clear hb
      cases b with
      | true =>
        go_wp2_with (go_at_call 32; refine HC.out.mono ?_; rintro e w1 ⟨rfl, hb1⟩; have HB1 := Lib.hid hb1; clear hb1)
        go_ret
        refine ⟨?_, HBL.out.trans (HB1.out.mono HBL.out.size)⟩
        have e : r = (j : Int) := by rw [HR.out]; unfold firstZ; rw [first_at HTE.out HB.out.symm HALL.out]
        rw [e]; rfl
      | false =>
        go_wp2_with (go_at_call 32; refine HC.out.mono ?_; rintro e w1 ⟨rfl, hb1⟩; have HB1 := Lib.hid hb1; clear hb1)
        go_roundw
        case rel => exact ⟨j + 1, by omega, by go_num, fun i u hi hu => by
          by_cases e : i = j
          · subst e
            have : some t = some u := HTE.out.symm.trans hu
            injection this with this
            rw [← this]; exact HB.out.symm
          · exact HALL.out i u (by omega) hu, HBL.out.trans (HB1.out.mono HBL.out.size)⟩
        case measure => simp [intOf]; omega
    · have i1 : ¬ ((j : Int) < (n : Int)) := by omega
      go_wp2_with fail
      go_ret
      refine ⟨?_, HBL.out⟩
      have e : r = -1 := by
        rw [HR.out]; unfold firstZ
        rw [first_none fun i u hu => HALL.out i u (by have := (List.getElem?_eq_some_iff.1 hu).1; rw [← HN.out] at this; omega) hu]
      rw [e]; rfl
theorem any_first (pr : Wt → Bool) (ws : List Wt) : ws.any pr = decide (0 ≤ firstZ pr ws) := by
  unfold firstZ
  cases h : ws.findIdx? pr with
  | none =>
    rw [List.findIdx?_eq_none_iff] at h
    simp only [show ¬ (0 : Int) ≤ -1 by omega, decide_false]
    rw [List.any_eq_false]
    intro x hx
    simp [h x hx]
  | some i =>
    obtain ⟨hi, e, _⟩ := List.findIdx?_eq_some_iff_getElem.1 h
    simp only [show (0 : Int) ≤ (i : Int) by omega, decide_true]
    rw [List.any_eq_true]
    exact ⟨_, List.getElem_mem hi, e⟩
set_option maxHeartbeats 2000000 in
set_option maxRecDepth 100000 in
theorem contains_a {ws : List Wt} (w : World) {A : Option Addr} {c : Nat} (h : Rd w w.heap.size 3 (.slice A ws.length c) ws.length (wc ws)) (pr : Wt → Bool) {p1 p2 : Nat}
    (hcl : ∀ W, Below w.heap.size w W → ∀ t : Wt, Calls Try.prog 27 #[.agg #[.int .u64 t.num, .int .i64 t.nd, .int .i64 t.md], .pointer (some ⟨p1, 0, none⟩), .pointer (some ⟨p2, 0, none⟩)] W fun e w' => e = .returned (.bool (pr t)) ∧ Below W.heap.size W w') :
    Calls Try.prog 26 #[.slice A ws.length c, .func (.func 27) #[] #[.pointer (some ⟨p1, 0, none⟩), .pointer (some ⟨p2, 0, none⟩)]] w fun e w' => e = .returned (.bool (ws.any pr)) ∧ Below w.heap.size w w' := by
  have HC := Lib.hid (index_a w h pr hcl)
  clear h hcl
  obtain ⟨r, hr⟩ : ∃ r, r = firstZ pr ws := ⟨_, rfl⟩
  obtain ⟨b, hb⟩ : ∃ b, b = ws.any pr := ⟨_, rfl⟩
  obtain ⟨n, hn⟩ : ∃ n, n = ws.length := ⟨_, rfl⟩
  have hrb : b = decide (0 ≤ r) := by
    rw [hr, hb, any_first]
  rw [← hr, ← hn] at HC
  rw [← hb, ← hn]
  have HRB := Lib.hid hrb
  clear hr hb hn hrb
  go_enter Try.func26, Try.ntmps26
  go_wp2_with (go_at_call 43; refine HC.out.mono ?_; rintro e w1 ⟨rfl, hb1⟩; have HB1 := Lib.hid hb1; clear hb1)
  go_ret
  exact ⟨by rw [HRB.out]; rfl, HB1.out⟩
set_option maxHeartbeats 2000000 in
set_option maxRecDepth 100000 in
theorem contains_b {ws : List Wt} (w : World) {A : Option Addr} {c : Nat} (h : Rd w w.heap.size 3 (.slice A ws.length c) ws.length (wc ws)) (pr : Wt → Bool) {p1 : Nat}
    (hcl : ∀ W, Below w.heap.size w W → ∀ t : Wt, Calls Try.prog 32 #[.agg #[.int .u64 t.num, .int .i64 t.nd, .int .i64 t.md], .pointer (some ⟨p1, 0, none⟩)] W fun e w' => e = .returned (.bool (pr t)) ∧ Below W.heap.size W w') :
    Calls Try.prog 26 #[.slice A ws.length c, .func (.func 32) #[] #[.pointer (some ⟨p1, 0, none⟩)]] w fun e w' => e = .returned (.bool (ws.any pr)) ∧ Below w.heap.size w w' := by
  have HC := Lib.hid (index_b w h pr hcl)
  clear h hcl
  obtain ⟨r, hr⟩ : ∃ r, r = firstZ pr ws := ⟨_, rfl⟩
  obtain ⟨b, hb⟩ : ∃ b, b = ws.any pr := ⟨_, rfl⟩
  obtain ⟨n, hn⟩ : ∃ n, n = ws.length := ⟨_, rfl⟩
  have hrb : b = decide (0 ≤ r) := by
    rw [hr, hb, any_first]
  rw [← hr, ← hn] at HC
  rw [← hb, ← hn]
  have HRB := Lib.hid hrb
  clear hr hb hn hrb
  go_enter Try.func26, Try.ntmps26
  go_wp2_with (go_at_call 43; refine HC.out.mono ?_; rintro e w1 ⟨rfl, hb1⟩; have HB1 := Lib.hid hb1; clear hb1)
  go_ret
  exact ⟨by rw [HRB.out]; rfl, HB1.out⟩
set_option maxHeartbeats 2000000 in
set_option maxRecDepth 100000 in
theorem find_any {ws : List Wt} (w : World) {A : Option Addr} {c : Nat} (h : Rd w w.heap.size 3 (.slice A ws.length c) ws.length (wc ws)) (p : Int × Int) :
    Calls Try.prog 24 #[.slice A ws.length c, .agg #[.int .u64 p.1, .int .i64 p.2]] w fun e w' => e = .returned (.int .i64 (firstZ (fun t => sameT t p) ws)) ∧ Below w.heap.size w w' := by
  have HB : Hid (Below w.heap.size w (w.alloc (.cells #[.int .u64 p.1, .int .i64 p.2] 24))) := Lib.hid ((Below.refl _ _).alloc (Nat.le_refl _) _)
  have HC := Lib.hid (index_f _ (h.up HB.out) (fun t => sameT t p) (p1 := w.heap.size) (fun W hb t => find1_any W t p (blk_below (heap_alloc_new w _) hb)))
  clear h
  obtain ⟨r, hr⟩ : ∃ r, r = firstZ (fun t => sameT t p) ws := ⟨_, rfl⟩
  obtain ⟨n, hn⟩ : ∃ n, n = ws.length := ⟨_, rfl⟩
  rw [← hr, ← hn] at HC ⊢
  clear hr hn
  go_enter Try.func24, Try.ntmps24
  go_wp2_with (go_at_call 43; refine HC.out.mono ?_; rintro e w1 ⟨rfl, hb1⟩; have HB1 := Lib.hid hb1; clear hb1)
  go_ret
  exact ⟨rfl, HB.out.trans (HB1.out.mono HB.out.size)⟩
#print axioms find_any
end Go.Proofs.Ytcceankldiafpaa.Lock
