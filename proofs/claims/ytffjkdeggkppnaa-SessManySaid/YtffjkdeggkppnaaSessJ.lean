/- Sess: the document's example; what is called elsewhere leaves a session; the laws' arguments, opened. -/
import Derived.Test.YtffjkdeggkppnaaSessI
set_option linter.unusedVariables false
set_option linter.unusedSimpArgs false
set_option linter.unusedSectionVars false
namespace Go.Proofs.Ytffjkdeggkppnaa.Sess
open Go.RowKit Go.WideShapes Go.Deep Go.Proofs.Ytffjkdeggkppnaa.Mem Go.Proofs.Ytffjkdeggkppnaa.Open Go.Proofs.Ytffjkdeggkppnaa.Maps Go.Proofs.Ytffjkdeggkppnaa.Tid Go.Proofs.Ytffjkdeggkppnaa.KeyA
theorem okI (n : Int) (h1 : -9223372036854775808 ≤ n) (h2 : n ≤ 9223372036854775807) : OkI n := by
  unfold OkI
  simp [Lit.wf, IntKind.min, IntKind.max, IntKind.signed, IntKind.bits]
  omega
set_option maxHeartbeats 1000000 in
set_option maxRecDepth 100000 in
theorem head_any (w : World) : Calls Try.prog 7 #[] w fun e w' => e = .returned (.bool true) ∧ Below w.heap.size w w' := by
  go_enter Try.func7, Try.ntmps7
  go_wp2_with fail
  refine (new_any w).mono ?_
  rintro e w1 ⟨rfl, hT, hb⟩
  have hc := take_none_req hT ⟨1, 2, 1, ⟨#[]⟩, ⟨#[]⟩⟩ (okI 1 (by decide) (by decide)) (by decide) rfl (by decide)
  unfold ansV tidV badA calV at hc
  dsimp only at hc
  have HC := Lib.hid hc
  have HB := Lib.hid hb
  clear hc hT hb
  go_wp2_with fail
  refine HC.out.mono ?_
  rintro e w2 ⟨rfl, hb2⟩
  have HB2 : Hid (Below w.heap.size w w2) := HB.out.trans (hb2.mono HB.out.size)
  clear hb2 HC
  go_wp2_with fail
  go_ret
  refine ⟨?_, (HB2.out.alloc HB2.out.size _).alloc (by have := HB2.out.size; simp; omega) _⟩
  rfl
#print axioms head_any
section
variable {B gt ba bo : Nat} {w : World} {ss : List (Int × (Nat × One))} {of : List ((Int × Int) × Int)}
theorem getM_other {κ ν : Type} [DecidableEq κ] {ms : List (κ × ν)} {x y : κ} {v : ν} (h : y ≠ x) : getM (setM ms x v) y = getM ms y := by rw [getM_set, if_neg fun e => h e.symm]
theorem take_far (h : Tab w B gt ba bo ss of) (c : Cal) (hn : OkI c.sess) (hk : c.key.size ≤ 9223372036854775807) (hv : c.val.size ≤ 9223372036854775807) :
    Calls Try.prog 9 #[.pointer (some ⟨gt, 0, none⟩), calV c] w fun e w' => (∃ r, e = .returned r) ∧ ∃ ss', Tab w' B gt ba bo ss' of ∧ Kp B w w' ∧ ∀ m, m ≠ c.sess → getM ss' m = getM ss m := by
  have quiet : ∀ {r : Value} {e : Ending} {w' : World}, e = .returned r ∧ Below w.heap.size w w' → (∃ r, e = .returned r) ∧ ∃ ss', Tab w' B gt ba bo ss' of ∧ Kp B w w' ∧ ∀ m, m ≠ c.sess → getM ss' m = getM ss m := fun ⟨he, hb⟩ =>
    ⟨⟨_, he⟩, ss, h.below hb, Kp.of_below hb h.size, fun _ _ => rfl⟩
  by_cases h0 : 0 ≤ c.sess
  · cases hq : getM ss c.sess with
    | none =>
      by_cases hr : c.req = 1
      · by_cases hl : 100 ≤ ss.length
        · exact (take_none_full h c hn h0 hq hr hl).mono fun e w' x => quiet x
        · by_cases hz : checkZ zeroO.op c = 0
          · exact (take_new_ok h c hn h0 hq hr (by omega) hk hv rfl hz).mono fun e w' ⟨he, g, _, ht, hkp⟩ => ⟨⟨_, he⟩, _, ht, hkp, fun m hm => getM_other hm⟩
          · exact (take_new_err h c hn h0 hq hr (by omega) hk hv rfl hz).mono fun e w' ⟨he, g, _, ht, hkp⟩ => ⟨⟨_, he⟩, _, ht, hkp, fun m hm => getM_other hm⟩
      · exact (take_none_req h c hn h0 hq hr).mono fun e w' x => quiet x
    | some q =>
      obtain ⟨g, o⟩ := q
      by_cases hr : c.req = o.req
      · cases hb : o.busy with
        | true => exact (take_waits h c hn h0 hq hr hb).mono fun e w' x => quiet x
        | false => exact (take_last h c hn h0 hq hr hb).mono fun e w' x => quiet x
      · cases hb : o.busy with
        | true => exact (take_busy h c hn h0 hq hr hb).mono fun e w' x => quiet x
        | false =>
          by_cases hp : c.req = IntKind.i64.wrap (o.req + 1)
          · by_cases hz : checkZ o.op c = 0
            · exact (take_next_ok h c hn h0 hq hr hb hp hk hv rfl hz).mono fun e w' ⟨he, ht, hkp⟩ => ⟨⟨_, he⟩, _, ht, hkp, fun m hm => getM_other hm⟩
            · exact (take_next_err h c hn h0 hq hr hb hp hk hv rfl hz).mono fun e w' ⟨he, ht, hkp⟩ => ⟨⟨_, he⟩, _, ht, hkp, fun m hm => getM_other hm⟩
          · exact (take_past h c hn h0 hq hr hb hp).mono fun e w' x => quiet x
  · exact (take_neg c (by omega)).mono fun e w' x => quiet x
theorem open_far (h : Tab w B gt ba bo ss of) {n : Int} (hn : OkI n) (t : Int × Int) (ht : IdOk t) :
    Calls Try.prog 10 #[.pointer (some ⟨gt, 0, none⟩), .int .i64 n, .agg #[.int .u64 t.1, .int .i64 t.2]] w fun e w' => (∃ r, e = .returned r) ∧ ∃ ss' of', Tab w' B gt ba bo ss' of' ∧ Kp B w w' ∧ (∀ m, m ≠ n → getM ss' m = getM ss m) ∧ ∀ t' m, getM of' t' = some m → getM of t' = some m ∨ (t' = t ∧ m = n) := by
  have quiet : ∀ {r : Value} {e : Ending} {w' : World}, e = .returned r ∧ Below w.heap.size w w' → (∃ r, e = .returned r) ∧ ∃ ss' of', Tab w' B gt ba bo ss' of' ∧ Kp B w w' ∧ (∀ m, m ≠ n → getM ss' m = getM ss m) ∧ ∀ t' m, getM of' t' = some m → getM of t' = some m ∨ (t' = t ∧ m = n) := fun ⟨he, hb⟩ =>
    ⟨⟨_, he⟩, ss, of, h.below hb, Kp.of_below hb h.size, fun _ _ => rfl, fun _ _ h => .inl h⟩
  cases hq : getM ss n with
  | none => exact (open_none h hn t hq).mono fun e w' x => quiet x
  | some q =>
    obtain ⟨g, o⟩ := q
    cases hb : o.busy with
    | false => exact (open_idle h hn t hq hb).mono fun e w' x => quiet x
    | true =>
      cases ho : o.op with
      | true => exact (open_had h hn t hq hb ho).mono fun e w' x => quiet x
      | false => exact (open_ok h hn t ht hq hb ho).mono fun e w' ⟨he, h1, h2⟩ => ⟨⟨_, he⟩, _, _, h1, h2, fun m hm => getM_other hm, fun t' m hm => by
          rw [getM_set] at hm
          split at hm
          · injection hm with hm
            exact .inr ⟨by simp_all, hm.symm⟩
          · exact .inl hm⟩
theorem fail_far (h : Tab w B gt ba bo ss of) {n : Int} (hn : OkI n) (z : Int) :
    Calls Try.prog 11 #[.pointer (some ⟨gt, 0, none⟩), .int .i64 n, .int .i64 z] w fun e w' => (∃ r, e = .returned r) ∧ ∃ ss', Tab w' B gt ba bo ss' of ∧ Kp B w w' ∧ ∀ m, m ≠ n → getM ss' m = getM ss m := by
  have quiet : ∀ {r : Value} {e : Ending} {w' : World}, e = .returned r ∧ Below w.heap.size w w' → (∃ r, e = .returned r) ∧ ∃ ss', Tab w' B gt ba bo ss' of ∧ Kp B w w' ∧ ∀ m, m ≠ n → getM ss' m = getM ss m := fun ⟨he, hb⟩ =>
    ⟨⟨_, he⟩, ss, h.below hb, Kp.of_below hb h.size, fun _ _ => rfl⟩
  cases hq : getM ss n with
  | none => exact (fail_none h hn z hq).mono fun e w' x => quiet x
  | some q =>
    obtain ⟨g, o⟩ := q
    cases hb : o.busy with
    | false => exact (fail_idle h hn z hq hb).mono fun e w' x => quiet x
    | true => exact (fail_ok h hn z hq hb).mono fun e w' ⟨he, h1, h2⟩ => ⟨⟨_, he⟩, _, h1, h2, fun m hm => getM_other hm⟩
theorem told_far (h : Tab w B gt ba bo ss of) (t : Int × Int) (ht : IdOk t) (z : Int) (v : S) (hs ov : Bool) :
    Calls Try.prog 12 #[.pointer (some ⟨gt, 0, none⟩), .agg #[.int .u64 t.1, .int .i64 t.2], .int .i64 z, .string v, .bool hs, .bool ov] w fun e w' => (∃ r, e = .returned r) ∧ ∃ ss' of', Tab w' B gt ba bo ss' of' ∧ Kp B w w' ∧ (∀ m, getM of t ≠ some m → getM ss' m = getM ss m) ∧ ∀ t' m, getM of' t' = some m → getM of t' = some m := by
  have quiet : ∀ {r : Value} {e : Ending} {w' : World}, e = .returned r ∧ Below w.heap.size w w' → (∃ r, e = .returned r) ∧ ∃ ss' of', Tab w' B gt ba bo ss' of' ∧ Kp B w w' ∧ (∀ m, getM of t ≠ some m → getM ss' m = getM ss m) ∧ ∀ t' m, getM of' t' = some m → getM of t' = some m := fun ⟨he, hb⟩ =>
    ⟨⟨_, he⟩, ss, of, h.below hb, Kp.of_below hb h.size, fun _ _ => rfl, fun _ _ h => h⟩
  cases hq : getM of t with
  | none => exact (told_none h t ht z v hs ov hq).mono fun e w' x => by have := quiet x; rwa [hq] at this
  | some n =>
    obtain ⟨⟨g, o⟩, hg⟩ := h.into t n hq
    cases hb : o.busy with
    | false => exact (told_idle h t ht z v hs ov hq hg hb).mono fun e w' x => by have := quiet x; rwa [hq] at this
    | true =>
      have hne : ∀ m, some n ≠ some m → m ≠ n := fun m hm e => hm (by rw [e])
      cases hov : ov with
      | false => exact (told_ok h t ht z v hs false hq hg hb rfl).mono fun e w' ⟨he, h1, h2⟩ => ⟨⟨_, he⟩, _, _, h1, h2, fun m hm => getM_other (hne m hm), fun _ _ h => h⟩
      | true => exact (told_over h t ht z v hs true hq hg hb rfl).mono fun e w' ⟨he, h1, h2⟩ => ⟨⟨_, he⟩, _, _, h1, h2, fun m hm => getM_other (hne m hm), fun t' m hm => by
          rw [getM_del] at hm
          split at hm
          · cases hm
          · exact hm⟩
end
/-! ### The laws' arguments -/
section
variable {H : Type} {enc : TypeId × Value → H} {w : World} {base : Nat} {spare : Nat → Bool} {held : Bool}
structure OpS where
  k : Int
  c : Cal
  n : Int
  t : Int × Int
  code : Int
  v : S
  hs : Bool
  ov : Bool
def opC1 (o : OpS) : List Value := [.int .i64 o.k, .int .i64 o.c.sess, .int .i64 o.c.req, .int .i64 o.c.kind, .string o.c.key, .string o.c.val, .int .i64 o.n, .int .u64 o.t.1, .int .i64 o.t.2, .int .i64 o.code, .string o.v, .bool o.hs, .bool o.ov]
def opC (os : List OpS) : List Value := os.flatMap opC1
def OpOk (o : OpS) : Prop := OkI o.c.sess ∧ OkI o.n ∧ IdOk o.t
theorem cell_eq {c : Value} {d : Value} (h : [c] = [d]) : c = d := by injection h
theorem tid_of {cs : List Value} (h : Reads1 enc Try.prog w base spare held 25 cs) : ∃ p : Int × Int, cs = [.int .u64 p.1, .int .i64 p.2] ∧ IdOk p := by
  obtain ⟨hl, hf⟩ := reads_struct Try.underlying25 h
  have hl2 : cs.length = 2 := hl
  match cs, hl2 with
  | [c0, c1], _ =>
    obtain ⟨k, e0, w0⟩ := reads_int Try.underlying23 (hf 0 _ rfl)
    obtain ⟨v, e1, w1⟩ := reads_int Try.underlying3 (hf 1 _ rfl)
    exact ⟨(k, v), by rw [cell_eq (show [c0] = [Value.int .u64 k] from e0), cell_eq (show [c1] = [Value.int .i64 v] from e1)], w0, w1⟩
theorem tid_val {v : Value} {r : Reach} {b : Nat} (ok : Value.okWide Try.prog w r b 25 v) (h : Reads1 enc Try.prog w base spare held 25 v.cells.toList) : ∃ t : Int × Int, v = .agg #[.int .u64 t.1, .int .i64 t.2] ∧ IdOk t := by
  obtain ⟨cs, rfl, _⟩ := okWide_struct Try.underlying25 ok
  obtain ⟨t, h1, h2⟩ := tid_of h
  exact ⟨t, by rw [← Array.toArray_toList (xs := cs), show cs.toList = _ from h1], h2⟩
theorem cal_of {cs : List Value} (h : Reads1 enc Try.prog w base spare held 30 cs) : ∃ c : Cal, cs = [.int .i64 c.sess, .int .i64 c.req, .int .i64 c.kind, .string c.key, .string c.val] ∧ OkI c.sess ∧ OkI c.req ∧ c.key.size ≤ 140737488351232 ∧ c.val.size ≤ 140737488351232 := by
  obtain ⟨hl, hf⟩ := reads_struct Try.underlying30 h
  have hl2 : cs.length = 5 := hl
  match cs, hl2 with
  | [c0, c1, c2, c3, c4], _ =>
    obtain ⟨a, e0, w0⟩ := reads_int Try.underlying3 (hf 0 _ rfl)
    obtain ⟨b, e1, w1⟩ := reads_int Try.underlying3 (hf 1 _ rfl)
    obtain ⟨c, e2, w2⟩ := reads_int Try.underlying3 (hf 2 _ rfl)
    obtain ⟨d, e3, w3⟩ := reads_string Try.underlying9 (hf 3 _ rfl)
    obtain ⟨e, e4, w4⟩ := reads_string Try.underlying9 (hf 4 _ rfl)
    exact ⟨⟨a, b, c, d, e⟩, by rw [cell_eq (show [c0] = [Value.int .i64 a] from e0), cell_eq (show [c1] = [Value.int .i64 b] from e1), cell_eq (show [c2] = [Value.int .i64 c] from e2), cell_eq (show [c3] = [Value.string d] from e3), cell_eq (show [c4] = [Value.string e] from e4)], w0, w1, w3, w4⟩
theorem op_of {cs : List Value} (h : Reads1 enc Try.prog w base spare held 40 cs) : ∃ o : OpS, cs = opC1 o ∧ OpOk o := by
  obtain ⟨hl, hf⟩ := reads_struct Try.underlying40 h
  have hl2 : cs.length = 13 := hl
  match cs, hl2 with
  | [c0, c1, c2, c3, c4, c5, c6, c7, c8, c9, c10, c11, c12], _ =>
    obtain ⟨k, e0, _⟩ := reads_int Try.underlying3 (hf 0 _ rfl)
    obtain ⟨c, ec, wc, _⟩ := cal_of (hf 1 _ rfl)
    have ec' : [c1, c2, c3, c4, c5] = _ := ec
    obtain ⟨n, e6, w6⟩ := reads_int Try.underlying3 (hf 2 _ rfl)
    obtain ⟨t, et, wt⟩ := tid_of (hf 3 _ rfl)
    have et' : [c7, c8] = _ := et
    obtain ⟨z, e9, _⟩ := reads_int Try.underlying3 (hf 4 _ rfl)
    obtain ⟨v, e10, _⟩ := reads_string Try.underlying9 (hf 5 _ rfl)
    obtain ⟨hs, e11⟩ := reads_bool Try.underlying4 (hf 6 _ rfl)
    obtain ⟨ov, e12⟩ := reads_bool Try.underlying4 (hf 7 _ rfl)
    injection ec' with a1 ec'
    injection ec' with a2 ec'
    injection ec' with a3 ec'
    injection ec' with a4 ec'
    injection ec' with a5 _
    injection et' with b1 et'
    injection et' with b2 _
    exact ⟨⟨k, c, n, t, z, v, hs, ov⟩, by rw [cell_eq (show [c0] = [Value.int .i64 k] from e0), a1, a2, a3, a4, a5, cell_eq (show [c6] = [Value.int .i64 n] from e6), b1, b2, cell_eq (show [c9] = [Value.int .i64 z] from e9), cell_eq (show [c10] = [Value.string v] from e10), cell_eq (show [c11] = [Value.bool hs] from e11), cell_eq (show [c12] = [Value.bool ov] from e12)]; rfl, wc, w6, wt⟩
theorem ops_of {css : List (List Value)} (h : ∀ c ∈ css, c.length = 13 ∧ Reads1 enc Try.prog w base spare held 40 c) : ∃ os : List OpS, css.flatten = opC os ∧ css.length = os.length ∧ ∀ o ∈ os, OpOk o := by
  induction css with
  | nil => exact ⟨[], rfl, rfl, fun _ h => by cases h⟩
  | cons c css ih =>
    obtain ⟨ps, e1, e2, e3⟩ := ih (fun c hc => h c (List.mem_cons_of_mem _ hc))
    obtain ⟨p, rfl, hp⟩ := op_of (h c (List.mem_cons_self ..)).2
    exact ⟨p :: ps, by rw [List.flatten_cons, e1]; rfl, by simp [e2], fun x hx => (List.mem_cons.1 hx).elim (fun e => e ▸ hp) (e3 x)⟩
theorem ops_val {v : Value} {r : Reach} {b : Nat} (ok : Value.okWide Try.prog w r b 22 v) (h : Reads1 enc Try.prog w base spare held 22 v.cells.toList) : ∃ os : List OpS, Rd w w.heap.size 13 v os.length (opC os) ∧ ∀ o ∈ os, OpOk o := by
  obtain ⟨a, l, c, rfl⟩ := okWide_slice Try.underlying22 ok
  obtain ⟨v, n, css, e, rfl, hr, hc, _⟩ := reads_slice Try.underlying22 (k := 13) rfl (by omega) h
  have e' := cell_eq (show [Value.slice a l c] = [v] from e)
  subst e'
  obtain ⟨qs, e1, e2, e3⟩ := ops_of hc
  rw [e1, e2] at hr
  exact ⟨qs, hr, e3⟩
end
theorem flat_row {α : Type} {k : Nat} {f : α → List Value} (hk : ∀ x, (f x).length = k) : ∀ {xs : List α} {i : Nat} {x : α}, xs[i]? = some x → ∀ j u, (f x)[j]? = some u → (xs.flatMap f)[i * k + j]? = some u
  | [], i, e, h => by simp at h
  | p :: es, 0, e, h => fun j u hu => by
    have h' : p = e := by simpa using h
    subst h'
    have hj : j < (f p).length := (List.getElem?_eq_some_iff.1 hu).1
    show (f p ++ es.flatMap f)[0 * k + j]? = _
    rw [Nat.zero_mul, Nat.zero_add, List.getElem?_append_left hj]
    exact hu
  | p :: es, i + 1, e, h => fun j u hu => by
    have h' := flat_row hk (xs := es) (i := i) (x := e) (by simpa using h) j u hu
    have e1 : (i + 1) * k + j = k + (i * k + j) := by rw [Nat.add_mul]; omega
    show (f p ++ es.flatMap f)[_]? = _
    rw [List.getElem?_append_right (by rw [hk]; omega), hk, e1, Nat.add_sub_cancel_left]
    exact h'
end Go.Proofs.Ytffjkdeggkppnaa.Sess
