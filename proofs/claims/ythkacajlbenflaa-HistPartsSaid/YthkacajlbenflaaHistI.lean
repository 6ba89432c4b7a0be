/- Events in a row; pair; Of over what a maker has made of the events so far. -/
import Derived.Test.YthkacajlbenflaaHistB
import Derived.Test.YthkacajlbenflaaOpen
set_option linter.unusedVariables false
set_option linter.unusedSimpArgs false
set_option linter.unusedSectionVars false
namespace Go.Proofs.Ythkacajlbenflaa.HistA
open Go.RowKit Go.WideShapes Go.Deep Go.Proofs.Ythkacajlbenflaa.Mem Go.Proofs.Ythkacajlbenflaa.Maps Go.Proofs.Ythkacajlbenflaa.Kv Go.Proofs.Ythkacajlbenflaa.Open
structure EvV where
  step : Int
  node : Int
  cs : Int
  cr : Int
  ck : Int
  ckey : S
  cval : S
  as_ : Int
  ar : Int
  ac : Int
  aval : S
  ahas : Bool
  anum : Int
  and_ : Int
  said : Bool
  up : Bool
def ev1 (e : EvV) : List Value := [.int .i64 e.step, .int .i64 e.node, .int .i64 e.cs, .int .i64 e.cr, .int .i64 e.ck, .string e.ckey, .string e.cval, .int .i64 e.as_, .int .i64 e.ar, .int .i64 e.ac, .string e.aval, .bool e.ahas, .int .u64 e.anum, .int .i64 e.and_, .bool e.said, .bool e.up]
def evc (es : List EvV) : List Value := es.flatMap ev1
theorem evc_len : ∀ es : List EvV, (evc es).length = es.length * 16
  | [] => rfl
  | e :: es => by have := evc_len es; simp only [evc, ev1, List.flatMap_cons, List.length_append, List.length_cons, List.length_nil] at *; omega
theorem evc_append (a b : List EvV) : evc (a ++ b) = evc a ++ evc b := by simp [evc]
theorem evc_one (es : List EvV) : One (evc es) := fun u hu => by
  obtain ⟨e, _, he⟩ := List.mem_flatMap.1 hu
  simp only [ev1, List.mem_cons, List.not_mem_nil, or_false] at he
  rcases he with rfl | rfl | rfl | rfl | rfl | rfl | rfl | rfl | rfl | rfl | rfl | rfl | rfl | rfl | rfl | rfl <;> rfl
theorem evc_row : ∀ {es : List EvV} {i : Nat} {e : EvV}, es[i]? = some e → ∀ j u, (ev1 e)[j]? = some u → (evc es)[i * 16 + j]? = some u
  | [], i, e, h => by simp at h
  | p :: es, 0, e, h => fun j u hu => by
    have h' : p = e := by simpa using h
    subst h'
    have hj : j < (ev1 p).length := (List.getElem?_eq_some_iff.1 hu).1
    show (ev1 p ++ evc es)[0 * 16 + j]? = _
    rw [Nat.zero_mul, Nat.zero_add, List.getElem?_append_left hj]
    exact hu
  | p :: es, i + 1, e, h => fun j u hu => by
    have h' := evc_row (es := es) (i := i) (e := e) (by simpa using h) j u hu
    have hl : (ev1 p).length = 16 := rfl
    show (ev1 p ++ evc es)[_]? = _
    rw [List.getElem?_append_right (by rw [hl]; omega), hl, show (i + 1) * 16 + j - 16 = i * 16 + j by omega]
    exact h'

/-- What is so of the maker behind j events is so of it whatever is made elsewhere. -/
def Steps (es : List EvV) (B gm : Nat) (I : Nat → World → Prop) : Prop := ∀ j e, es[j]? = some e → ∀ W, B ≤ W.heap.size → I j W → (e.up = true → Calls Try.prog 21 #[.pointer (some ⟨gm, 0, none⟩), .int .i64 e.node] W fun x W' => x = .returned (.tuple #[]) ∧ I (j + 1) W' ∧ Below B W W') ∧ (e.up = false → e.said = true → Calls Try.prog 22 #[.pointer (some ⟨gm, 0, none⟩), .agg #[.int .i64 e.node, .int .i64 e.as_], .int .i64 e.step, .agg #[.int .i64 e.as_, .int .i64 e.ar, .int .i64 e.ac, .string e.aval, .bool e.ahas, .int .u64 e.anum, .int .i64 e.and_]] W fun x W' => x = .returned (.tuple #[]) ∧ I (j + 1) W' ∧ Below B W W') ∧ (e.up = false → e.said = false → Calls Try.prog 23 #[.pointer (some ⟨gm, 0, none⟩), .agg #[.int .i64 e.node, .int .i64 e.cs], .agg #[.int .i64 e.cs, .int .i64 e.cr, .int .i64 e.ck, .string e.ckey, .string e.cval]] W fun x W' => x = .returned (.tuple #[]) ∧ I (j + 1) W' ∧ Below B W W')

theorem row16_facts {w : World} {g : Nat} {a0 a1 a2 a3 a4 a5 a6 a7 a8 a9 a10 a11 a12 a13 a14 a15 : Value} {t : TypeId} (hr : w.heap[g]? = some (.cells #[a0, a1, a2, a3, a4, a5, a6, a7, a8, a9, a10, a11, a12, a13, a14, a15] t (0, 0))) :
    w.cell? ⟨g, 0, none⟩ = some a0 ∧ w.cell? ⟨g, 1, none⟩ = some a1 ∧ w.cell? ⟨g, 2, none⟩ = some a2 ∧ w.cell? ⟨g, 3, none⟩ = some a3 ∧ w.cell? ⟨g, 4, none⟩ = some a4 ∧ w.cell? ⟨g, 5, none⟩ = some a5 ∧ w.cell? ⟨g, 6, none⟩ = some a6 ∧ w.cell? ⟨g, 7, none⟩ = some a7 ∧ w.cell? ⟨g, 8, none⟩ = some a8 ∧ w.cell? ⟨g, 9, none⟩ = some a9 ∧ w.cell? ⟨g, 10, none⟩ = some a10 ∧ w.cell? ⟨g, 11, none⟩ = some a11 ∧ w.cell? ⟨g, 12, none⟩ = some a12 ∧ w.cell? ⟨g, 13, none⟩ = some a13 ∧ w.cell? ⟨g, 14, none⟩ = some a14 ∧ w.cell? ⟨g, 15, none⟩ = some a15 :=
  ⟨row_at hr rfl, row_at hr rfl, row_at hr rfl, row_at hr rfl, row_at hr rfl, row_at hr rfl, row_at hr rfl, row_at hr rfl, row_at hr rfl, row_at hr rfl, row_at hr rfl, row_at hr rfl, row_at hr rfl, row_at hr rfl, row_at hr rfl, row_at hr rfl⟩

set_option maxHeartbeats 4000000 in
set_option maxRecDepth 100000 in
theorem of_any {es : List EvV} (w : World) {A : Option Addr} {c : Nat} (h : Rd w w.heap.size 16 (.slice A es.length c) es.length (evc es)) (I : Nat → World → Prop)
    (hI : ∀ j W W', I j W → w.heap.size + 3 ≤ W.heap.size → Below W.heap.size W W' → I j W')
    (h0 : ∀ W, W.heap[w.heap.size]? = some (.map #[] 0) → W.heap[w.heap.size + 1]? = some (.map #[] 0) → W.heap[w.heap.size + 2]? = some (.cells #[.slice none 0 0, .map (some w.heap.size), .map (some (w.heap.size + 1))] 67 (0, 0)) → I 0 W)
    (hs : Steps es w.heap.size (w.heap.size + 2) I) {Res : Value → World → Prop}
    (hr : ∀ W, I es.length W → ∃ v, W.heap[w.heap.size + 2]? = some (.cells #[v, .map (some w.heap.size), .map (some (w.heap.size + 1))] 67 (0, 0)) ∧ Res v W) :
    Calls Try.prog 9 #[.slice A es.length c] w fun x w' => ∃ v, x = .returned v ∧ Res v w' ∧ Below w.heap.size w w' := by
  have HO : Hid (∀ W, Below w.heap.size w W → Rd W W.heap.size 16 (.slice A es.length c) es.length (evc es)) := fun W hb => h.up hb
  have hln := h.len_le
  clear h
  obtain ⟨n, hn⟩ : ∃ n, n = es.length := ⟨_, rfl⟩
  rw [← hn] at HO hln ⊢
  have HN := Lib.hid hn
  have HKI := Lib.hid hI
  have H0 := Lib.hid h0
  have HSTEP := Lib.hid hs
  have HR := Lib.hid hr
  clear hn hI h0 hs hr
  unfold maxLen at hln
  have hmm := @run_makeMap Try.prog
  go_enter Try.func9, Try.ntmps9
  go_wp2_with fail
  clear hmm
  go_loopw [12] (fun i wr => ∃ j : Nat, j ≤ n ∧ i = .int .i64 j ∧ I j wr ∧ w.heap.size + 3 ≤ wr.heap.size ∧ Below w.heap.size w wr) (fun i _ => n - (intOf i).toNat)
  case atStart =>
    refine ⟨0, Nat.zero_le _, rfl, H0.out _ ?_ ?_ ?_, by simp, (((Below.refl _ _).alloc (Nat.le_refl _) _).alloc (by simp) _).alloc (by simp; omega) _⟩
    · rw [Below.heap_alloc _ _ _ (by simp; omega), Below.heap_alloc _ _ _ (by simp)]
      exact heap_alloc_new w _
    · rw [Below.heap_alloc _ _ _ (by simp)]
      have h9 := heap_alloc_new (w.alloc (.map #[] 0)) (.map #[] 0)
      rw [World.size_alloc] at h9
      exact h9
    · have h9 := heap_alloc_new ((w.alloc (.map #[] 0)).alloc (.map #[] 0)) (.cells #[.slice none 0 0, .map (some w.heap.size), .map (some (w.heap.size + 1))] 67)
      rw [World.size_alloc, World.size_alloc] at h9
      exact h9
  case round =>
    obtain ⟨j, hj, rfl, hi, hsz, hbl⟩ := hrel
    by_cases hlt : j < n
    · obtain ⟨e, he⟩ : ∃ e, es[j]? = some e := ⟨es[j]'(by rw [← HN.out]; omega), List.getElem?_eq_getElem _⟩
      obtain ⟨g, off, cz, e9, hg, _, _, hx⟩ := (HO.out wr hbl).cells (show 0 < n by omega)
      injection e9 with e1 e2 e3
      clear e2 e3
      cases e1
      have c0 : wr.cell? ⟨g, off + j * 16, none⟩ = some (.int .i64 e.step) := by have h9 := hx _ _ (evc_row he 0 _ rfl); simpa only [Nat.add_assoc, Nat.add_zero] using h9
      have c1 : wr.cell? ⟨g, off + j * 16 + 1, none⟩ = some (.int .i64 e.node) := by have h9 := hx _ _ (evc_row he 1 _ rfl); simpa only [Nat.add_assoc, Nat.add_zero] using h9
      have c2 : wr.cell? ⟨g, off + j * 16 + 2, none⟩ = some (.int .i64 e.cs) := by have h9 := hx _ _ (evc_row he 2 _ rfl); simpa only [Nat.add_assoc, Nat.add_zero] using h9
      have c3 : wr.cell? ⟨g, off + j * 16 + 3, none⟩ = some (.int .i64 e.cr) := by have h9 := hx _ _ (evc_row he 3 _ rfl); simpa only [Nat.add_assoc, Nat.add_zero] using h9
      have c4 : wr.cell? ⟨g, off + j * 16 + 4, none⟩ = some (.int .i64 e.ck) := by have h9 := hx _ _ (evc_row he 4 _ rfl); simpa only [Nat.add_assoc, Nat.add_zero] using h9
      have c5 : wr.cell? ⟨g, off + j * 16 + 5, none⟩ = some (.string e.ckey) := by have h9 := hx _ _ (evc_row he 5 _ rfl); simpa only [Nat.add_assoc, Nat.add_zero] using h9
      have c6 : wr.cell? ⟨g, off + j * 16 + 6, none⟩ = some (.string e.cval) := by have h9 := hx _ _ (evc_row he 6 _ rfl); simpa only [Nat.add_assoc, Nat.add_zero] using h9
      have c7 : wr.cell? ⟨g, off + j * 16 + 7, none⟩ = some (.int .i64 e.as_) := by have h9 := hx _ _ (evc_row he 7 _ rfl); simpa only [Nat.add_assoc, Nat.add_zero] using h9
      have c8 : wr.cell? ⟨g, off + j * 16 + 8, none⟩ = some (.int .i64 e.ar) := by have h9 := hx _ _ (evc_row he 8 _ rfl); simpa only [Nat.add_assoc, Nat.add_zero] using h9
      have c9 : wr.cell? ⟨g, off + j * 16 + 9, none⟩ = some (.int .i64 e.ac) := by have h9 := hx _ _ (evc_row he 9 _ rfl); simpa only [Nat.add_assoc, Nat.add_zero] using h9
      have c10 : wr.cell? ⟨g, off + j * 16 + 10, none⟩ = some (.string e.aval) := by have h9 := hx _ _ (evc_row he 10 _ rfl); simpa only [Nat.add_assoc, Nat.add_zero] using h9
      have c11 : wr.cell? ⟨g, off + j * 16 + 11, none⟩ = some (.bool e.ahas) := by have h9 := hx _ _ (evc_row he 11 _ rfl); simpa only [Nat.add_assoc, Nat.add_zero] using h9
      have c12 : wr.cell? ⟨g, off + j * 16 + 12, none⟩ = some (.int .u64 e.anum) := by have h9 := hx _ _ (evc_row he 12 _ rfl); simpa only [Nat.add_assoc, Nat.add_zero] using h9
      have c13 : wr.cell? ⟨g, off + j * 16 + 13, none⟩ = some (.int .i64 e.and_) := by have h9 := hx _ _ (evc_row he 13 _ rfl); simpa only [Nat.add_assoc, Nat.add_zero] using h9
      have c14 : wr.cell? ⟨g, off + j * 16 + 14, none⟩ = some (.bool e.said) := by have h9 := hx _ _ (evc_row he 14 _ rfl); simpa only [Nat.add_assoc, Nat.add_zero] using h9
      have c15 : wr.cell? ⟨g, off + j * 16 + 15, none⟩ = some (.bool e.up) := by have h9 := hx _ _ (evc_row he 15 _ rfl); simpa only [Nat.add_assoc, Nat.add_zero] using h9
      obtain ⟨W1, hW1⟩ : ∃ W1, W1 = wr.alloc (.cells #[.int .i64 e.step, .int .i64 e.node, .int .i64 e.cs, .int .i64 e.cr, .int .i64 e.ck, .string e.ckey, .string e.cval, .int .i64 e.as_, .int .i64 e.ar, .int .i64 e.ac, .string e.aval, .bool e.ahas, .int .u64 e.anum, .int .i64 e.and_, .bool e.said, .bool e.up] 34) := ⟨_, rfl⟩
      have hb1 : Below wr.heap.size wr W1 := by rw [hW1]; exact (Below.refl _ _).alloc (Nat.le_refl _) _
      have hI1 := HKI.out j wr W1 hi hsz hb1
      have hst := HSTEP.out j e he W1 (by have := hb1.size; omega) hI1
      have HC := Lib.hid hst
      have HW1 : Hid (Below w.heap.size w W1) := below_then hbl (by omega) hb1
      have HZ1 : Hid (w.heap.size + 3 ≤ W1.heap.size) := Lib.hid (by have := hb1.size; omega)
      have HG1 : Hid (W1.heap[wr.heap.size]? = some (.cells #[.int .i64 e.step, .int .i64 e.node, .int .i64 e.cs, .int .i64 e.cr, .int .i64 e.ck, .string e.ckey, .string e.cval, .int .i64 e.as_, .int .i64 e.ar, .int .i64 e.ac, .string e.aval, .bool e.ahas, .int .u64 e.anum, .int .i64 e.and_, .bool e.said, .bool e.up] 34 (0, 0))) := Lib.hid (by rw [hW1]; exact heap_alloc_new wr _)
      have HEQ := Lib.hid hW1
      have i0 : (0 : Int) ≤ (j : Int) := by omega
      have i1 : (j : Int) < (n : Int) := by omega
      clear hW1 hb1 hI1 hst hx hi he
      go_upto_region 6 with fail
      rw [← HEQ.out]
      clear c0 c1 c2 c3 c4 c5 c6 c7 c8 c9 c10 c11 c12 c13 c14 c15 HEQ
      cases hup : e.up with
      | true =>
        have HC9 := Lib.hid (HC.out.1 hup)
        obtain ⟨d0, d1, d2, d3, d4, d5, d6, d7, d8, d9, d10, d11, d12, d13, d14, d15⟩ := row16_facts HG1.out
        go_wp2_with fail
        refine HC9.out.mono ?_
        rintro x w2 ⟨rfl, hI2, hb2⟩
        have HI2 := Lib.hid hI2
        have HB2 : Hid (Below w.heap.size w w2) := HW1.out.trans hb2
        have HZ2 : Hid (w.heap.size + 3 ≤ w2.heap.size) := Lib.hid (by have := hb2.size; have := HZ1.out; omega)
        clear hI2 hb2 HC9 HC d0 d1 d2 d3 d4 d5 d6 d7 d8 d9 d10 d11 d12 d13 d14 d15
        go_wp2_with fail
        go_roundw
        case rel => exact ⟨j + 1, by omega, by go_num, HI2.out, HZ2.out, HB2.out⟩
        case measure => simp [intOf]; omega
      | false =>
        cases hsd : e.said with
        | true =>
          have HC9 := Lib.hid (HC.out.2.1 hup hsd)
          obtain ⟨d0, d1, d2, d3, d4, d5, d6, d7, d8, d9, d10, d11, d12, d13, d14, d15⟩ := row16_facts HG1.out
          go_wp2_with fail
          refine HC9.out.mono ?_
          rintro x w2 ⟨rfl, hI2, hb2⟩
          have HI2 := Lib.hid hI2
          have HB2 : Hid (Below w.heap.size w w2) := HW1.out.trans hb2
          have HZ2 : Hid (w.heap.size + 3 ≤ w2.heap.size) := Lib.hid (by have := hb2.size; have := HZ1.out; omega)
          clear hI2 hb2 HC9 HC d0 d1 d2 d3 d4 d5 d6 d7 d8 d9 d10 d11 d12 d13 d14 d15
          go_wp2_with fail
          go_roundw
          case rel => exact ⟨j + 1, by omega, by go_num, HI2.out, HZ2.out, HB2.out⟩
          case measure => simp [intOf]; omega
        | false =>
          have HC9 := Lib.hid (HC.out.2.2 hup hsd)
          obtain ⟨d0, d1, d2, d3, d4, d5, d6, d7, d8, d9, d10, d11, d12, d13, d14, d15⟩ := row16_facts HG1.out
          go_wp2_with fail
          refine HC9.out.mono ?_
          rintro x w2 ⟨rfl, hI2, hb2⟩
          have HI2 := Lib.hid hI2
          have HB2 : Hid (Below w.heap.size w w2) := HW1.out.trans hb2
          have HZ2 : Hid (w.heap.size + 3 ≤ w2.heap.size) := Lib.hid (by have := hb2.size; have := HZ1.out; omega)
          clear hI2 hb2 HC9 HC d0 d1 d2 d3 d4 d5 d6 d7 d8 d9 d10 d11 d12 d13 d14 d15
          go_wp2_with fail
          go_roundw
          case rel => exact ⟨j + 1, by omega, by go_num, HI2.out, HZ2.out, HB2.out⟩
          case measure => simp [intOf]; omega
    · have i1 : ¬ ((j : Int) < (n : Int)) := by omega
      have hjn : j = es.length := by rw [← HN.out]; omega
      subst hjn
      obtain ⟨v, hv, hres⟩ := HR.out wr hi
      have HRES := Lib.hid hres
      have HBL := Lib.hid hbl
      obtain ⟨f0, f1, f2, f3⟩ := row3_facts hv
      clear hres hbl hi hv
      go_wp2_with fail
      go_ret
      exact ⟨v, rfl, HRES.out, HBL.out⟩
end Go.Proofs.Ythkacajlbenflaa.HistA
