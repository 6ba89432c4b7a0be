/- Small: whether there are few transactions of few ops. -/
import Derived.Test.YthkacajlbenflaaHistP
set_option linter.unusedVariables false
set_option linter.unusedSimpArgs false
set_option linter.unusedSectionVars false
namespace Go.Proofs.Ythkacajlbenflaa.HistA
open Go.RowKit Go.WideShapes Go.Deep Go.Proofs.Ythkacajlbenflaa.Mem Go.Proofs.Ythkacajlbenflaa.Open Go.Proofs.Ythkacajlbenflaa.KeyM Go.Proofs.Ythkacajlbenflaa.KeyN Go.Proofs.Ythkacajlbenflaa.Kv
theorem flat_row {α : Type} {k : Nat} {f : α → List Value} (hk : ∀ x, (f x).length = k) : ∀ {xs : List α} {i : Nat} {x : α}, xs[i]? = some x → ∀ j u, (f x)[j]? = some u → (xs.flatMap f)[i * k + j]? = some u
  | [], i, e, h => by simp at h
  | p :: es, 0, e, h => fun j u hu => by
    have h' : p = e := by simpa using h
    subst h'
    have hj : j < (f p).length := (List.getElem?_eq_some_iff.1 hu).1
    show (f p ++ es.flatMap f)[0 * k + j]? = _
    rw [Nat.zero_mul, Nat.zero_add, List.getElem?_append_left hj]
    exact hu
  | p :: es, i + 1, e, h => fun j u hu => by
    have h' := flat_row hk (xs := es) (i := i) (x := e) (by simpa using h) j u hu
    have e1 : (i + 1) * k + j = k + (i * k + j) := by rw [Nat.add_mul]; omega
    show (f p ++ es.flatMap f)[_]? = _
    rw [List.getElem?_append_right (by rw [hk]; omega), hk, e1, Nat.add_sub_cancel_left]
    exact h'
theorem tc_row {ts : List TxV} {i : Nat} {t : TxV} (h : ts[i]? = some t) (j : Nat) (u : Value) (hu : (tc1 t)[j]? = some u) : (tc ts)[i * 7 + j]? = some u := flat_row (k := 7) (f := tc1) (fun _ => rfl) h j u hu
theorem oc_row {os : List OpR} {i : Nat} {o : OpR} (h : os[i]? = some o) (j : Nat) (u : Value) (hu : (oc1 o)[j]? = some u) : (oc os)[i * 4 + j]? = some u := flat_row (k := 4) (f := oc1) (fun _ => rfl) h j u hu
theorem idc_row {ps : List (Int × Int)} {i : Nat} {p : Int × Int} (h : ps[i]? = some p) (j : Nat) (u : Value) (hu : (idc1 p)[j]? = some u) : (idc ps)[i * 2 + j]? = some u := flat_row (k := 2) (f := idc1) (fun _ => rfl) h j u hu
theorem TxOk.up {w w' : World} {t : TxV} (h : TxOk w t) (hb : Below w.heap.size w w') : TxOk w' t := ⟨h.1.up hb, h.2⟩
/-- The seven cells of a transaction in its slice. -/
theorem txn_cells {w : World} {A : Option Addr} {n c : Nat} {ts : List TxV} (h : Rd w w.heap.size 7 (.slice A n c) n (tc ts)) {j : Nat} {t : TxV} (ht : ts[j]? = some t) (hn : 0 < n) : ∃ g off, A = some ⟨g, off, none⟩ ∧
    w.cell? ⟨g, off + j * 7, none⟩ = some (.int .u64 t.num) ∧ w.cell? ⟨g, off + j * 7 + 1, none⟩ = some (.int .i64 t.nd) ∧ w.cell? ⟨g, off + j * 7 + 2, none⟩ = some (.int .i64 t.bg) ∧ w.cell? ⟨g, off + j * 7 + 3, none⟩ = some (.int .i64 t.en) ∧ w.cell? ⟨g, off + j * 7 + 4, none⟩ = some (.bool t.as_) ∧ w.cell? ⟨g, off + j * 7 + 5, none⟩ = some (.bool t.lo) ∧ w.cell? ⟨g, off + j * 7 + 6, none⟩ = some (.slice t.A t.os.length t.c) := by
  obtain ⟨g, off, cz, e, hg, _, _, hx⟩ := h.cells hn
  injection e with e1 e2 e3
  refine ⟨g, off, e1, ?_, ?_, ?_, ?_, ?_, ?_, ?_⟩
  · exact hx _ _ (tc_row ht 0 _ rfl)
  · rw [Nat.add_assoc]; exact hx _ _ (tc_row ht 1 _ rfl)
  · rw [Nat.add_assoc]; exact hx _ _ (tc_row ht 2 _ rfl)
  · rw [Nat.add_assoc]; exact hx _ _ (tc_row ht 3 _ rfl)
  · rw [Nat.add_assoc]; exact hx _ _ (tc_row ht 4 _ rfl)
  · rw [Nat.add_assoc]; exact hx _ _ (tc_row ht 5 _ rfl)
  · rw [Nat.add_assoc]; exact hx _ _ (tc_row ht 6 _ rfl)
theorem op_cells {w : World} {A : Option Addr} {n c : Nat} {os : List OpR} (h : Rd w w.heap.size 4 (.slice A n c) n (oc os)) {j : Nat} {o : OpR} (ho : os[j]? = some o) (hn : 0 < n) : ∃ g off, A = some ⟨g, off, none⟩ ∧
    w.cell? ⟨g, off + j * 4, none⟩ = some (.int .i64 o.kind) ∧ w.cell? ⟨g, off + j * 4 + 1, none⟩ = some (.string o.key) ∧ w.cell? ⟨g, off + j * 4 + 2, none⟩ = some (.string o.val) ∧ w.cell? ⟨g, off + j * 4 + 3, none⟩ = some (.bool o.has) := by
  obtain ⟨g, off, cz, e, hg, _, _, hx⟩ := h.cells hn
  injection e with e1 e2 e3
  refine ⟨g, off, e1, ?_, ?_, ?_, ?_⟩
  · exact hx _ _ (oc_row ho 0 _ rfl)
  · rw [Nat.add_assoc]; exact hx _ _ (oc_row ho 1 _ rfl)
  · rw [Nat.add_assoc]; exact hx _ _ (oc_row ho 2 _ rfl)
  · rw [Nat.add_assoc]; exact hx _ _ (oc_row ho 3 _ rfl)
def Few (t : TxV) : Prop := t.os.length ≤ 20 ∧ ∀ o ∈ t.os, o.key.size ≤ 100 ∧ o.val.size ≤ 100
def Small (ts : List TxV) (m : Nat) : Prop := ts.length ≤ 20 ∧ m ≤ 20 ∧ ∀ t ∈ ts, Few t
def SRes (ts : List TxV) (m : Nat) (w : World) (e : Ending) (w' : World) : Prop := ∃ b, e = .returned (.bool b) ∧ (b = true → Small ts m) ∧ Below w.heap.size w w'
set_option maxHeartbeats 2000000 in
set_option maxRecDepth 100000 in
theorem small_any {ts : List TxV} (w : World) {A B : Option Addr} {c m d : Nat} (h : Rd w w.heap.size 7 (.slice A ts.length c) ts.length (tc ts)) (hok : ∀ t ∈ ts, TxOk w t) :
    Calls Try.prog 10 #[.slice A ts.length c, .slice B m d] w fun e w' => SRes ts m w e w' := by
  have HO : Hid (∀ W, Below w.heap.size w W → Rd W W.heap.size 7 (.slice A ts.length c) ts.length (tc ts)) := fun W hb => h.up hb
  have HT : Hid (∀ W, Below w.heap.size w W → ∀ t ∈ ts, TxOk W t) := fun W hb t ht => (hok t ht).up hb
  have hln := h.len_le
  clear h hok
  obtain ⟨n, hn⟩ : ∃ n, n = ts.length := ⟨_, rfl⟩
  rw [← hn] at HO hln ⊢
  have HN := Lib.hid hn
  clear hn
  unfold maxLen at hln
  by_cases g1 : 20 < n
  · have g1' : (20 : Int) < (n : Int) := by omega
    go_enter Try.func10, Try.ntmps10
    go_wp2_with fail
    go_ret
    exact ⟨false, rfl, fun h => (by cases h), Below.refl _ _⟩
  · have g1' : ¬ (20 : Int) < (n : Int) := by omega
    by_cases g2 : 20 < m
    · have g2' : (20 : Int) < (m : Int) := by omega
      go_enter Try.func10, Try.ntmps10
      go_wp2_with fail
      go_ret
      exact ⟨false, rfl, fun h => (by cases h), Below.refl _ _⟩
    · have g2' : ¬ (20 : Int) < (m : Int) := by omega
      go_enter Try.func10, Try.ntmps10
      go_wp2_with fail
      go_loopw [19] (fun i wr => ∃ j : Nat, j ≤ n ∧ i = .int .i64 j ∧ (∀ t ∈ ts.take j, Few t) ∧ Below w.heap.size w wr) (fun i _ => n - (intOf i).toNat)
      case atStart => exact ⟨0, Nat.zero_le _, rfl, fun t ht => by simp at ht, Below.refl _ _⟩
      case round =>
        obtain ⟨j, hj, rfl, hall, hbl⟩ := hrel
        have HBL := Lib.hid hbl
        have HALL := Lib.hid hall
        clear hall
        by_cases hlt : j < n
        · obtain ⟨t, ht⟩ : ∃ t, ts[j]? = some t := ⟨ts[j]'(by rw [← HN.out]; omega), List.getElem?_eq_getElem _⟩
          obtain ⟨g, off, rfl, c0, c1, c2, c3, c4, c5, c6⟩ := txn_cells (HO.out wr hbl) ht (by omega)
          have HTO := Lib.hid (HT.out wr hbl t (List.mem_of_getElem? ht))
          have HTE := Lib.hid ht
          have hol := HTO.out.1.len_le
          unfold maxLen at hol
          obtain ⟨tn, htn⟩ : ∃ tn, tn = t.os.length := ⟨_, rfl⟩
          rw [← htn] at c6 hol
          have HTN := Lib.hid htn
          clear htn
          obtain ⟨X, hX⟩ : ∃ X, X = wr.alloc (.cells #[.int .u64 t.num, .int .i64 t.nd, .int .i64 t.bg, .int .i64 t.en, .bool t.as_, .bool t.lo, .slice t.A tn t.c] 39) := ⟨_, rfl⟩
          have HXR : Hid (X.heap[wr.heap.size]? = some (.cells #[.int .u64 t.num, .int .i64 t.nd, .int .i64 t.bg, .int .i64 t.en, .bool t.as_, .bool t.lo, .slice t.A tn t.c] 39 (0, 0))) := Lib.hid (by rw [hX]; exact heap_alloc_new wr _)
          have HXB : Hid (Below w.heap.size w X) := Lib.hid (by rw [hX]; exact HBL.out.alloc HBL.out.size _)
          have HXT : Hid (TxOk X t) := Lib.hid (HTO.out.up (by rw [hX]; exact (Below.refl _ _).alloc (Nat.le_refl _) _))
          have HXE := Lib.hid hX
          have i0 : (0 : Int) ≤ (j : Int) := by omega
          have i1 : (j : Int) < (n : Int) := by omega
          clear hX ht hbl
          go_upto_region 6 with fail
          rw [← HXE.out]
          clear c0 c1 c2 c3 c4 c5 c6 HXE
          obtain ⟨d0, d1, d2, d3, d4, d5, d6⟩ := row7_facts HXR.out
          clear d0 d1 d2 d3 d4 d5
          by_cases g3 : 20 < tn
          · have g3' : (20 : Int) < (tn : Int) := by omega
            go_wp2_with fail
            go_ret
            exact ⟨false, rfl, fun h => (by cases h), HXB.out⟩
          · have g3' : ¬ (20 : Int) < (tn : Int) := by omega
            go_wp2_with fail
            go_loopw [30] (fun i wq => ∃ q : Nat, q ≤ tn ∧ i = .int .i64 q ∧ (∀ o ∈ t.os.take q, o.key.size ≤ 100 ∧ o.val.size ≤ 100) ∧ Below X.heap.size X wq) (fun i _ => tn - (intOf i).toNat)
            case atStart => exact ⟨0, Nat.zero_le _, rfl, fun o ho => by simp at ho, Below.refl _ _⟩
            case round =>
              obtain ⟨q, hq, rfl, hpre, hbq⟩ := hrel
              have HPRE := Lib.hid hpre
              clear hpre
              have HBQ := Lib.hid hbq
              by_cases hqt : q < tn
              · obtain ⟨o, ho⟩ : ∃ o, t.os[q]? = some o := ⟨t.os[q]'(by rw [← HTN.out]; omega), List.getElem?_eq_getElem _⟩
                have hrdo := (HXT.out.1.up hbq)
                unfold TxV.ov at hrdo
                rw [← HTN.out] at hrdo
                obtain ⟨go, oo, hA, p0, p1, p2, p3⟩ := op_cells hrdo ho (by omega)
                have q0 : (0 : Int) ≤ (q : Int) := by omega
                have q1 : (q : Int) < (tn : Int) := by omega
                have HOE := Lib.hid ho
                clear hrdo ho hbq
                rw [hA]
                clear hA
                by_cases g4 : 100 < o.key.size
                · have g4' : (100 : Int) < (o.key.size : Int) := by omega
                  go_wp2_with fail
                  go_ret
                  exact ⟨false, rfl, fun h => (by cases h), HXB.out.trans ((HBQ.out.alloc HBQ.out.size _).mono HXB.out.size)⟩
                · have g4' : ¬ (100 : Int) < (o.key.size : Int) := by omega
                  by_cases g5 : 100 < o.val.size
                  · have g5' : (100 : Int) < (o.val.size : Int) := by omega
                    go_wp2_with fail
                    go_ret
                    exact ⟨false, rfl, fun h => (by cases h), HXB.out.trans ((HBQ.out.alloc HBQ.out.size _).mono HXB.out.size)⟩
                  · have g5' : ¬ (100 : Int) < (o.val.size : Int) := by omega
                    go_wp2_with fail
                    go_roundw
                    case rel => exact ⟨q + 1, by omega, by go_num, fun x hx => by
                      rw [List.take_add_one, HOE.out] at hx
                      rcases List.mem_append.1 hx with hx | hx
                      · exact HPRE.out x hx
                      · have e : x = o := by simpa using hx
                        rw [e]; exact ⟨by omega, by omega⟩, HBQ.out.alloc HBQ.out.size _⟩
                    case measure => simp [intOf]; omega
              · have q1 : ¬ ((q : Int) < (tn : Int)) := by omega
                go_wp2_with fail
                go_roundw
                case rel => exact ⟨j + 1, by omega, by go_num, fun x hx => by
                  rw [List.take_add_one, HTE.out] at hx
                  rcases List.mem_append.1 hx with hx | hx
                  · exact HALL.out x hx
                  · have e : x = t := by simpa using hx
                    rw [e]; exact ⟨by rw [← HTN.out]; omega, fun o ho => HPRE.out o (by rw [List.take_of_length_le (by rw [← HTN.out]; omega)]; exact ho)⟩, HXB.out.trans (HBQ.out.mono HXB.out.size)⟩
                case measure => simp [intOf]; omega
        · have i1 : ¬ ((j : Int) < (n : Int)) := by omega
          have hjn : j = n := by omega
          go_wp2_with fail
          go_ret
          exact ⟨true, rfl, fun _ => ⟨by rw [← HN.out]; omega, by omega, fun t ht => HALL.out t (by rw [List.take_of_length_le (by rw [← HN.out]; omega)]; exact ht)⟩, HBL.out⟩
end Go.Proofs.Ythkacajlbenflaa.HistA
