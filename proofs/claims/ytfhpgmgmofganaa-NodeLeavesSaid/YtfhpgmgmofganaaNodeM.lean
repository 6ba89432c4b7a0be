/- The law's leaf: the walk (UNDER WAY). -/
import Derived.Test.YtfhpgmgmofganaaNodeN
import Derived.Test.YtfhpgmgmofganaaHeld
set_option linter.unusedVariables false
set_option linter.unusedSimpArgs false
set_option linter.unusedSectionVars false
namespace Go.Proofs.Ytfhpgmgmofganaa.NodeA
open Go.RowKit Go.WideShapes Go.Deep Go.Proofs.Ytfhpgmgmofganaa.Mem Go.Proofs.Ytfhpgmgmofganaa.Open Go.Proofs.Ytfhpgmgmofganaa.Kv
theorem leafK_mem : ∀ (keys : List S) {k : S}, k ∈ leafK keys → k ∈ keys := by
  intro keys
  have h : ∀ n (l : List S), l.length = n → ∀ k, k ∈ leafK l → k ∈ l := by
    intro n
    induction n with
    | zero => intro l hl k hk; obtain rfl := List.eq_nil_of_length_eq_zero hl; exact hk
    | succ n ih =>
      intro l hl k hk
      obtain ⟨l', q, rfl⟩ : ∃ l' q, l = l' ++ [q] := ⟨l.dropLast, l.getLast (by intro e; simp [e] at hl), (List.dropLast_concat_getLast _).symm⟩
      rw [leafK_snoc] at hk
      have ih' := ih l' (by simpa using hl)
      unfold insK at hk
      split at hk
      · exact List.mem_append_left _ (ih' k hk)
      · rcases List.mem_append.1 hk with h1 | h1
        · exact List.mem_append_left _ (ih' k (List.mem_of_mem_take h1))
        · rcases List.mem_cons.1 h1 with h1 | h1
          · rw [h1]; simp
          · exact List.mem_append_left _ (ih' k (List.mem_of_mem_drop h1))
  intro k hk
  exact h _ keys rfl k hk
def vk (k : S) : S := ⟨#[118]⟩ ++ k
/-- The law's leaf. -/
def leafP (keys : List S) : Pg := ⟨1, leafK keys, (leafK keys).map vk, []⟩
set_option maxHeartbeats 1000000 in
set_option maxRecDepth 100000 in
theorem leaf_any {v : Value} {keys : List S} (w : World) (h : Rd w w.heap.size 1 v keys.length (sc keys)) (hn : keys.length ≤ 20) (hsz : ∀ k ∈ keys, k.size < 9223372036854775807) :
    Calls Try.prog 9 #[v] w fun e w' => ∃ kv vv, e = .returned (pv 1 kv vv (.slice none 0 0)) ∧ PgO w' w.heap.size kv vv (.slice none 0 0) (leafP keys) ∧ Below w.heap.size w w' := by
  obtain ⟨hl, A, c, rfl, hc1, hc2, ha⟩ := h
  have HA := Lib.hid ha
  have HSZ : Hid (∀ k ∈ leafK keys, k.size < 9223372036854775807) := fun k hk => hsz k (leafK_mem keys hk)
  clear hsz
  clear ha hl
  obtain ⟨n, hnn⟩ : ∃ n, n = keys.length := ⟨_, rfl⟩
  have HN := Lib.hid hnn
  rw [← hnn] at hn hc1 ⊢
  clear hnn
  go_enter Try.func9, Try.ntmps9
  go_wp2_with fail
  go_loopw [12] (fun i wr => ∃ (j : Nat) (kv : Value), j ≤ n ∧ i = .int .i64 j ∧ Own wr (w.heap.size + 2) 9 1 kv (leafK (keys.take j)).length (sc (leafK (keys.take j))) ∧ wr.heap[w.heap.size]? = some (.cells #[.int .i64 0, .slice none 0 0, .slice none 0 0, .slice none 0 0, .int .i64 0, .int .i64 0, .int .i64 0, .int .i64 0] 26 (0, 0)) ∧ wr.heap[w.heap.size + 1]? = some (.cells #[.int .i64 1, kv, .slice none 0 0, .slice none 0 0, .int .i64 0, .int .i64 0, .int .i64 0, .int .i64 0] 26 (0, 0)) ∧ Below w.heap.size w wr ∧ (kv = .slice none 0 0 ∨ 0 < (leafK (keys.take j)).length)) (fun i _ => n - (intOf i).toNat)
  case atStart =>
    refine ⟨0, .slice none 0 0, by omega, rfl, Own.nil_ _ _ _ _, ?_, ?_, ((Below.refl _ _).alloc (Nat.le_refl _) _).alloc (by simp) _, .inl rfl⟩
    · rw [Below.heap_alloc _ _ _ (by simp)]; exact heap_alloc_new w _
    · have := heap_alloc_new (w.alloc (.cells #[.int .i64 0, .slice none 0 0, .slice none 0 0, .slice none 0 0, .int .i64 0, .int .i64 0, .int .i64 0, .int .i64 0] 26)) (.cells #[.int .i64 1, .slice none 0 0, .slice none 0 0, .slice none 0 0, .int .i64 0, .int .i64 0, .int .i64 0, .int .i64 0] 26)
      simpa using this
  case round =>
    obtain ⟨j, kv, hj, rfl, hown, hr0, hr1, hbl, hne⟩ := hrel
    by_cases hlt : j < n
    · obtain ⟨g, off, rfl, hg, hx⟩ := HA.out (by rw [← HN.out]; omega)
      obtain ⟨k, hk⟩ : ∃ k, keys[j]? = some k := ⟨keys[j]'(by rw [← HN.out]; omega), List.getElem?_eq_getElem _⟩
      have k0 : wr.cell? ⟨g, off + j, none⟩ = some (.string k) := (hbl.cell (p := ⟨g, off + j, none⟩) hg).trans (hx _ _ (sc_at hk))
      obtain ⟨f0, f1, f2, f3, f4, f5, f6, f7, f8⟩ := row8_facts hr1
      obtain ⟨Ak, ck, rfl, hck⟩ := hown.slice_
      obtain ⟨hri, hle⟩ := leafK_rise _ (keys.take j) rfl
      obtain ⟨ks, hks⟩ : ∃ ks, ks = leafK (keys.take j) := ⟨_, rfl⟩
      rw [← hks] at hown hr1 f1 hri hle hck hne
      have h20 : ks.length ≤ 20 := by have h1 := List.length_take (i := j) (l := keys); omega
      have HOWN := Lib.hid hown
      have HR0 := Lib.hid hr0
      have HR1 := Lib.hid hr1
      have HBL := Lib.hid hbl
      have HKS := Lib.hid hks
      have HRI := Lib.hid hri
      have HK := Lib.hid hk
      have HNE := Lib.hid hne
      clear hne
      clear hown hr0 hr1 hbl hks hri hk hx
      go_wp2_with fail
      have hpl := pos_le (kp ks) k
      rw [kp_len] at hpl
      go_loopw [6] (fun a wr2 => ∃ i : Nat, i ≤ pos (kp ks) k ∧ a = .int .i64 i ∧ wr2 = wr) (fun a _ => ks.length - (intOf a).toNat)
      case atStart => exact ⟨0, Nat.zero_le _, rfl, rfl⟩
      case round =>
        obtain ⟨i, hi, rfl, rfl⟩ := hrel
        have hI : i < ks.length → ∃ gk ofk q, Ak = some ⟨gk, ofk, none⟩ ∧ ks[i]? = some q ∧ wr.cell? ⟨gk, ofk + i, none⟩ = some (.string q) := fun hil => by
          obtain ⟨gk, ofk, cz, e, _, _, _, hxx⟩ := HOWN.out.rd.cells (by omega)
          injection e with e1 _ _
          exact ⟨gk, ofk, ks[i], e1, List.getElem?_eq_getElem hil, hxx i _ (sc_at (List.getElem?_eq_getElem hil))⟩
        by_cases hip : i < pos (kp ks) k
        · obtain ⟨gk, ofk, q, rfl, hq, hc⟩ := hI (by omega)
          have d0 : Op.bytesLess q.toList k.toList = true := by
            rw [ByteArray.toList_eq, ByteArray.toList_eq]; exact (pos_split HRI.out k i _ (kp_at hq)).2 hip
          have i0 : (0 : Int) ≤ (i : Int) := by omega
          have i1 : (i : Int) < (ks.length : Int) := by omega
          clear hI hq
          go_wp2_with fail
          go_roundw
          case rel => exact ⟨i + 1, by omega, by go_num, by first | rfl | trivial⟩
          case measure => simp [intOf]; omega
        · obtain rfl : i = pos (kp ks) k := by omega
          obtain ⟨m, hm⟩ : ∃ m, m = pos (kp ks) k := ⟨_, rfl⟩
          rw [← hm] at hI hpl ⊢
          have HM := Lib.hid hm
          clear hip hi
          by_cases hml : m < ks.length
          · obtain ⟨gk, ofk, q, rfl, hq, hc⟩ := hI hml
            have d0 : Op.bytesLess q.toList k.toList = false := by
              rw [ByteArray.toList_eq, ByteArray.toList_eq]
              cases hb : Op.bytesLess q.data.toList k.data.toList with
              | false => rfl
              | true => exact absurd ((pos_split HRI.out k m _ (kp_at hq)).1 hb) (by rw [hm]; omega)
            have i0 : (0 : Int) ≤ (m : Int) := by omega
            have i1 : (m : Int) < (ks.length : Int) := by omega
            have HQ := Lib.hid hq
            clear hI hq hm
            by_cases hqk : q = k
            · subst hqk
              have hnew : leafK (keys.take (j + 1)) = ks := by
                have hh : here (kp ks) q = true := (here_at HRI.out q).2 ⟨_, by rw [← HM.out]; exact kp_at HQ.out, rfl⟩
                rw [List.take_add_one, HK.out]
                show leafK (keys.take j ++ [q]) = _
                rw [leafK_snoc, ← HKS.out, insK, if_pos hh]
              have HNEW := Lib.hid hnew
              clear hnew
              go_wp2_with fail
              go_roundw
              case rel => exact ⟨j + 1, _, by omega, by go_num, by rw [HNEW.out]; exact HOWN.out, HR0.out, HR1.out, HBL.out, .inr (by rw [HNEW.out]; omega)⟩
              case measure => simp [intOf]; omega
            · have d1 : (q.toList == k.toList) = false := by rw [str_beq, decide_eq_false hqk]
              go_wp2_with fail
              have hcm : ¬ (ck = m) := by omega
              have hmc : m ≤ ck := by omega
              have hml2 : m ≤ ks.length := by omega
              have HSJ : Hid (∀ W, Below wr.heap.size wr W → W.heap[w.heap.size + 1]? = some (.cells #[.int .i64 1, .slice (some ⟨gk, ofk, none⟩) ks.length ck, .slice none 0 0, .slice none 0 0, .int .i64 0, .int .i64 0, .int .i64 0, .int .i64 0] 26 (0, 0))) := fun W hb => (hb.block _ (by have := (Array.getElem?_eq_some_iff.1 HR1.out).1; exact this)).trans HR1.out
              have HJ0 : Hid (Below wr.heap.size wr wr.drew) := (Below.refl _ wr).drew
              have HCL : Hid (∀ W, Below wr.heap.size wr W → ∀ jj u, (sc ks)[jj]? = some u → W.cell? ⟨gk, ofk + jj, none⟩ = some u) := fun W hb jj u hu => by
                obtain ⟨gk', ofk', cz, e, hlt', _, _, hxx⟩ := HOWN.out.rd.cells (by omega)
                injection e with e1 _ _
                injection e1 with e1
                injection e1 with e1 e2
                subst e1 e2
                exact (hb.cell (p := ⟨gk, ofk + jj, none⟩) hlt').trans (hxx jj u hu)
              refine Held.ways_start (fun W => W.heap[w.heap.size + 1]? = some (.cells #[.int .i64 1, .slice (some ⟨gk, ofk, none⟩) ks.length ck, .slice none 0 0, .slice none 0 0, .int .i64 0, .int .i64 0, .int .i64 0, .int .i64 0] 26 (0, 0))) (fun k => decide (k < 14)) (by kernel_rfl) ?_
              have HS : wr.drew.heap[w.heap.size + 1]? = some (.cells #[.int .i64 1, .slice (some ⟨gk, ofk, none⟩) ks.length ck, .slice none 0 0, .slice none 0 0, .int .i64 0, .int .i64 0, .int .i64 0, .int .i64 0] 26 (0, 0)) := HR1.out
              clear f0 f1 f2 f3 f4 f5 f6 f7 f8
              refine Held.Ways.take (i := 1) (oi := ?o28) ?v28 ?hi28 ?hs28 ?hf28 ?hlw28 ?hr28 ?hQ28 HS ?hy28 ?rest28
              case hi28 => exact rfl
              case hs28 => kernel_rfl
              case hf28 => kernel_rfl
              case hlw28 => kernel_rfl
              case hr28 => kernel_rfl
              case hQ28 => exact fun _ _ _ h => h
              case hy28 =>
                refine .inl ⟨by rfl, fun W hW => ?_⟩
                obtain ⟨f0, f1, f2, f3, f4, f5, f6, f7, f8⟩ := row8_facts hW
                go_simp
                try with_reducible rfl
              try simp only [Act.put, List.setIfInBounds_toArray, List.set_cons_zero, List.set_cons_succ]
              refine Held.Ways.take (i := 2) (oi := ?o29) ?v29 ?hi29 ?hs29 ?hf29 ?hlw29 ?hr29 ?hQ29 HS ?hy29 ?rest29
              case hi29 => exact rfl
              case hs29 => kernel_rfl
              case hf29 => kernel_rfl
              case hlw29 => kernel_rfl
              case hr29 => kernel_rfl
              case hQ29 => exact fun _ _ _ h => h
              case hy29 =>
                refine .inl ⟨by rfl, fun W hW => ?_⟩
                obtain ⟨f0, f1, f2, f3, f4, f5, f6, f7, f8⟩ := row8_facts hW
                go_simp
                try with_reducible rfl
              try simp only [Act.put, List.setIfInBounds_toArray, List.set_cons_zero, List.set_cons_succ]
              refine Held.Ways.take (i := 3) (oi := ?o30) ?v30 ?hi30 ?hs30 ?hf30 ?hlw30 ?hr30 ?hQ30 HS ?hy30 ?rest30
              case hi30 => exact rfl
              case hs30 => kernel_rfl
              case hf30 => kernel_rfl
              case hlw30 => kernel_rfl
              case hr30 => kernel_rfl
              case hQ30 => exact fun _ _ _ h => h
              case hy30 =>
                refine .inl ⟨by rfl, fun W hW => ?_⟩
                obtain ⟨f0, f1, f2, f3, f4, f5, f6, f7, f8⟩ := row8_facts hW
                go_simp
                try with_reducible rfl
              try simp only [Act.put, List.setIfInBounds_toArray, List.set_cons_zero, List.set_cons_succ]
              refine Held.Ways.take (i := 4) (oi := ?o31) ?v31 ?hi31 ?hs31 ?hf31 ?hlw31 ?hr31 ?hQ31 HS ?hy31 ?rest31
              case hi31 => exact rfl
              case hs31 => kernel_rfl
              case hf31 => kernel_rfl
              case hlw31 => kernel_rfl
              case hr31 => kernel_rfl
              case hQ31 => exact fun _ _ _ h => h
              case hy31 =>
                refine .inl ⟨by rfl, fun W hW => ?_⟩
                obtain ⟨f0, f1, f2, f3, f4, f5, f6, f7, f8⟩ := row8_facts hW
                go_simp
                try with_reducible rfl
              try simp only [Act.put, List.setIfInBounds_toArray, List.set_cons_zero, List.set_cons_succ]
              refine Held.Ways.take (i := 6) (oi := ?o32) ?v32 ?hi32 ?hs32 ?hf32 ?hlw32 ?hr32 ?hQ32 HS ?hy32 ?rest32
              case hi32 => exact rfl
              case hs32 => kernel_rfl
              case hf32 => kernel_rfl
              case hlw32 => kernel_rfl
              case hr32 => kernel_rfl
              case hQ32 => exact fun _ _ _ h => h
              case hy32 =>
                refine .inl ⟨by rfl, fun W hW => ?_⟩
                obtain ⟨f0, f1, f2, f3, f4, f5, f6, f7, f8⟩ := row8_facts hW
                go_simp
                try with_reducible rfl
              try simp only [Act.put, List.setIfInBounds_toArray, List.set_cons_zero, List.set_cons_succ]
              refine Held.Ways.take (i := 9) (oi := ?o33) ?v33 ?hi33 ?hs33 ?hf33 ?hlw33 ?hr33 ?hQ33 HS ?hy33 ?rest33
              case hi33 => exact rfl
              case hs33 => kernel_rfl
              case hf33 => kernel_rfl
              case hlw33 => kernel_rfl
              case hr33 => kernel_rfl
              case hQ33 => exact fun _ _ _ h => h
              case hy33 =>
                refine .inl ⟨by rfl, fun W hW => ?_⟩
                obtain ⟨f0, f1, f2, f3, f4, f5, f6, f7, f8⟩ := row8_facts hW
                go_simp
                try with_reducible rfl
              try simp only [Act.put, List.setIfInBounds_toArray, List.set_cons_zero, List.set_cons_succ]
              refine Held.Ways.take (i := 10) (oi := ?o34) ?v34 ?hi34 ?hs34 ?hf34 ?hlw34 ?hr34 ?hQ34 HS ?hy34 ?rest34
              case hi34 => exact rfl
              case hs34 => kernel_rfl
              case hf34 => kernel_rfl
              case hlw34 => kernel_rfl
              case hr34 => kernel_rfl
              case hQ34 => exact fun _ _ _ h => h
              case hy34 =>
                refine .inl ⟨by rfl, fun W hW => ?_⟩
                obtain ⟨f0, f1, f2, f3, f4, f5, f6, f7, f8⟩ := row8_facts hW
                go_simp
                try with_reducible rfl
              try simp only [Act.put, List.setIfInBounds_toArray, List.set_cons_zero, List.set_cons_succ]
              refine Held.Ways.take (i := 11) (oi := ?o35) ?v35 ?hi35 ?hs35 ?hf35 ?hlw35 ?hr35 ?hQ35 HS ?hy35 ?rest35
              case hi35 => exact rfl
              case hs35 => kernel_rfl
              case hf35 => kernel_rfl
              case hlw35 => kernel_rfl
              case hr35 => kernel_rfl
              case hQ35 => exact fun _ _ _ h => h
              case hy35 =>
                refine .inl ⟨by rfl, fun W hW => ?_⟩
                obtain ⟨f0, f1, f2, f3, f4, f5, f6, f7, f8⟩ := row8_facts hW
                go_simp
                try with_reducible rfl
              try simp only [Act.put, List.setIfInBounds_toArray, List.set_cons_zero, List.set_cons_succ]
              refine Held.Ways.take (i := 12) (oi := ?o36) ?v36 ?hi36 ?hs36 ?hf36 ?hlw36 ?hr36 ?hQ36 HS ?hy36 ?rest36
              case hi36 => exact rfl
              case hs36 => kernel_rfl
              case hf36 => kernel_rfl
              case hlw36 => kernel_rfl
              case hr36 => kernel_rfl
              case hQ36 => exact fun _ _ _ h => h
              case hy36 =>
                refine .inl ⟨by rfl, fun W hW => ?_⟩
                obtain ⟨f0, f1, f2, f3, f4, f5, f6, f7, f8⟩ := row8_facts hW
                go_simp
                try with_reducible rfl
              try simp only [Act.put, List.setIfInBounds_toArray, List.set_cons_zero, List.set_cons_succ]
              refine Held.Ways.two (i := 0) (j := 7) (by rfl) (by rfl) (by kernel_rfl) (fun K hK => ?_) (fun K hK => ?_)
              · have HJa : Hid (Below wr.heap.size wr (wr.alloc (.cells #[] 9)).drew) := ((Below.refl _ wr).alloc (Nat.le_refl _) _).drew
                go_simp
                refine hK.out _ _ (fun _ => HSJ.out _ HJa.out) ?_
                clear hK K
                try simp only [Act.put, List.setIfInBounds_toArray, List.set_cons_zero, List.set_cons_succ]
                refine Held.Ways.two (i := 5) (j := 7) (by rfl) (by rfl) (by kernel_rfl) (fun K hK => ?_) (fun K hK => ?_)
                · refine step_append rfl _ _ 22 22 rfl (by simp [Act.eval, Act.put]) (by simp [Act.eval, Act.put]) (app_any (wr := wr) (W := (wr.alloc (.cells #[] 9)).drew) (n := 0) (xs := []) (A := (some ⟨gk, ofk, none⟩)) (m := m) (c := ck) (ys := ks.take m) (own_empty (W := wr) (Nat.le_refl _)) HJa.out (by simp; omega) (fun _ => ⟨gk, ofk, rfl, fun jj u hu => HCL.out _ HJa.out jj u (take_at hu)⟩) (by omega) _) ?_
                  rintro v5 W5 ⟨⟨A5, c5, rfl⟩, ho5, hj5, hf5⟩
                  have HO5 := Lib.hid ho5
                  have HJ5 := Lib.hid hj5
                  have HF5 := Lib.hid hf5
                  clear ho5 hj5 hf5
                  refine hK.out _ _ (fun _ => HSJ.out _ HJ5.out) ?_
                  clear hK K
                  try simp only [Act.put, List.setIfInBounds_toArray, List.set_cons_zero, List.set_cons_succ]
                  refine Held.Ways.one (i := 7) (by rfl) (by kernel_rfl) (fun K hK => ?_)
                  have HJ7 : Hid (Below wr.heap.size wr (W5.alloc (.cells #[.string k] 9))) := HJ5.out.alloc HJ5.out.size _
                  go_simp
                  refine hK.out _ _ (fun _ => HSJ.out _ HJ7.out) ?_
                  clear hK K
                  try simp only [Act.put, List.setIfInBounds_toArray, List.set_cons_zero, List.set_cons_succ]
                  refine Held.Ways.one (i := 8) (by rfl) (by kernel_rfl) (fun K hK => ?_)
                  refine step_append rfl _ _ 22 22 rfl (by simp [Act.eval, Act.put]) (by simp [Act.eval, Act.put]) (app_any (wr := wr) (W := (W5.alloc (.cells #[.string k] 9))) (n := 0 + m) (xs := [] ++ ks.take m) (A := some ⟨W5.heap.size, 0, none⟩) (m := 1) (c := 1) (ys := [k]) (HO5.out.alloc _) HJ7.out rfl (fun _ => ⟨_, 0, rfl, fun jj u hu => by rw [Nat.zero_add, cell_of_row _ _ _ _ _ _ (heap_alloc_new W5 _)]; simpa [sc] using hu⟩) (by omega) _) ?_
                  rintro v8 W8 ⟨⟨A8, c8, rfl⟩, ho8, hj8, hf8⟩
                  have HO8 := Lib.hid ho8
                  have HJ8 := Lib.hid hj8
                  have HF8 := Lib.hid hf8
                  clear ho8 hj8 hf8
                  refine hK.out _ _ (fun _ => HSJ.out _ HJ8.out) ?_
                  clear hK K
                  try simp only [Act.put, List.setIfInBounds_toArray, List.set_cons_zero, List.set_cons_succ]
                  refine Held.Ways.one (i := 13) (by rfl) (by kernel_rfl) (fun K hK => ?_)
                  refine step_append rfl _ _ 22 22 rfl (by simp [Act.eval, Act.put]) (by simp [Act.eval, Act.put]) (app_any (wr := wr) (W := W8) (n := 0 + m + 1) (xs := [] ++ ks.take m ++ [k]) (A := (some ⟨gk, ofk + m, none⟩)) (m := (ks.length - m)) (c := (ck - m)) (ys := ks.drop m) (HO8.out) HJ8.out (by simp) (fun _ => ⟨gk, ofk + m, rfl, fun jj u hu => by rw [Nat.add_assoc]; exact HCL.out _ HJ8.out _ u (drop_at hu)⟩) (by omega) _) ?_
                  rintro v13 W13 ⟨⟨A13, c13, rfl⟩, ho13, hj13, hf13⟩
                  have HO13 := Lib.hid ho13
                  have HJ13 := Lib.hid hj13
                  have HF13 := Lib.hid hf13
                  clear ho13 hj13 hf13
                  refine hK.out _ _ (fun _ => HSJ.out _ HJ13.out) ?_
                  clear hK K
                  try simp only [Act.put, List.setIfInBounds_toArray, List.set_cons_zero, List.set_cons_succ]
                  refine Held.Ways.one (i := 14) (by rfl) (by kernel_rfl) (fun K hK => ?_)
                  go_simp
                  refine hK.out _ _ (fun h => absurd h (by decide)) ?_
                  clear hK K
                  try simp only [Act.put, List.setIfInBounds_toArray, List.set_cons_zero, List.set_cons_succ]
                  obtain ⟨f0, f1, f2, f3, f4, f5, f6, f7, f8⟩ := row8_facts (HSJ.out _ HJ13.out)
                  refine Held.Ways.one (i := 15) (by rfl) (by kernel_rfl) (fun K hK => ?_)
                  go_simp
                  refine hK.out _ _ (fun h => absurd h (by decide)) ?_
                  clear hK K
                  try simp only [Act.put, List.setIfInBounds_toArray, List.set_cons_zero, List.set_cons_succ]
                  refine Held.Ways.done (by kernel_rfl) ?_ _
                  have hnew : leafK (keys.take (j + 1)) = [] ++ ks.take m ++ [k] ++ ks.drop m := by
                    have hnh : ¬ here (kp ks) k = true := fun hh => by
                      obtain ⟨p', hp', hk'⟩ := (here_at HRI.out k).1 hh
                      rw [← HM.out, kp_at HQ.out] at hp'
                      injection hp' with hp'
                      rw [← hp'] at hk'
                      exact hqk hk'
                    rw [List.take_add_one, HK.out]
                    show leafK (keys.take j ++ [k]) = _
                    rw [leafK_snoc, ← HKS.out, insK, if_neg hnh, ← HM.out]
                    simp
                  have hlen : ([] ++ ks.take m ++ [k] ++ ks.drop m).length = 0 + m + 1 + (ks.length - m) := by simp; omega
                  have HNEW := Lib.hid hnew
                  have HLEEN := Lib.hid hlen
                  have HRW : Hid (∀ u, (W13.setCell ⟨w.heap.size + 1, 1, none⟩ u).heap[w.heap.size + 1]? = some (.cells #[.int .i64 1, u, .slice none 0 0, .slice none 0 0, .int .i64 0, .int .i64 0, .int .i64 0, .int .i64 0] 26 (0, 0))) := fun u => by
                    have := heap_setCell_same W13 (w.heap.size + 1) 1 _ _ u (HSJ.out _ HJ13.out)
                    simpa using this
                  have hwb : w.heap.size + 1 < wr.heap.size := (Array.getElem?_eq_some_iff.1 HR1.out).1
                  have HB13 : Hid (Below w.heap.size w W13) := HBL.out.trans (HJ13.out.mono HBL.out.size)
                  have HOW : Hid (∀ u, Own (W13.setCell ⟨w.heap.size + 1, 1, none⟩ u) (w.heap.size + 2) 9 1 (.slice A13 (0 + m + 1 + (ks.length - m)) c13) (0 + m + 1 + (ks.length - m)) (sc ([] ++ ks.take m ++ [k] ++ ks.drop m))) := fun u =>
                    (HO13.out.base_ (base' := w.heap.size + 2) (fun g hg => by have := (HO13.out.lt g hg).1; have := HBL.out.size; omega)).kept fun g hg => Below.heap_setCell _ _ _ _ (by have := (HO13.out.lt g hg).1; show g ≠ w.heap.size + 1; omega)
                  clear hnew hlen
                  go_wp2_with fail
                  go_roundw
                  case rel =>
                    refine ⟨j + 1, _, by omega, by go_num, ?_, ?_, HRW.out _, below_set HB13.out (Nat.le_succ _) _, .inr (by rw [HNEW.out, HLEEN.out]; omega)⟩
                    · rw [HNEW.out, HLEEN.out]
                      have := HOW.out (.slice A13 (0 + m + 1 + (ks.length - m)) c13)
                      simpa only [Nat.zero_add] using this
                    · rw [Below.heap_setCell _ _ _ _ (by show w.heap.size ≠ w.heap.size + 1; omega), HJ13.out.block _ (by omega)]; exact HR0.out
                  case measure => simp [intOf]; omega
                · have HJ7 : Hid (Below wr.heap.size wr ((wr.alloc (.cells #[] 9)).alloc (.cells #[.string k] 9)).drew) := (((Below.refl _ wr).alloc (Nat.le_refl _) _).alloc (by simp) _).drew
                  go_simp
                  refine hK.out _ _ (fun _ => HSJ.out _ HJ7.out) ?_
                  clear hK K
                  try simp only [Act.put, List.setIfInBounds_toArray, List.set_cons_zero, List.set_cons_succ]
                  refine Held.Ways.one (i := 5) (by rfl) (by kernel_rfl) (fun K hK => ?_)
                  refine step_append rfl _ _ 22 22 rfl (by simp [Act.eval, Act.put]) (by simp [Act.eval, Act.put]) (app_any (wr := wr) (W := ((wr.alloc (.cells #[] 9)).alloc (.cells #[.string k] 9)).drew) (n := 0) (xs := []) (A := (some ⟨gk, ofk, none⟩)) (m := m) (c := ck) (ys := ks.take m) ((own_empty (W := wr) (Nat.le_refl _)).alloc _) HJ7.out (by simp; omega) (fun _ => ⟨gk, ofk, rfl, fun jj u hu => HCL.out _ HJ7.out jj u (take_at hu)⟩) (by omega) _) ?_
                  rintro v5 W5 ⟨⟨A5, c5, rfl⟩, ho5, hj5, hf5⟩
                  have HO5 := Lib.hid ho5
                  have HJ5 := Lib.hid hj5
                  have HF5 := Lib.hid hf5
                  clear ho5 hj5 hf5
                  refine hK.out _ _ (fun _ => HSJ.out _ HJ5.out) ?_
                  clear hK K
                  try simp only [Act.put, List.setIfInBounds_toArray, List.set_cons_zero, List.set_cons_succ]
                  refine Held.Ways.one (i := 8) (by rfl) (by kernel_rfl) (fun K hK => ?_)
                  refine step_append rfl _ _ 22 22 rfl (by simp [Act.eval, Act.put]) (by simp [Act.eval, Act.put]) (app_any (wr := wr) (W := W5) (n := 0 + m) (xs := [] ++ ks.take m) (A := some ⟨wr.heap.size + 1, 0, none⟩) (m := 1) (c := 1) (ys := [k]) (HO5.out) HJ5.out rfl (fun _ => ⟨_, 0, rfl, fun jj u hu => (HF5.out.cell (p := ⟨wr.heap.size + 1, 0 + jj, none⟩) (by have h9 := heap_alloc_new (wr.alloc (.cells #[] 9)) (.cells #[.string k] 9); simp only [World.size_alloc] at h9; rw [Nat.zero_add]; exact (cell_of_row _ _ _ _ _ _ h9).trans (by simpa [sc] using hu)) (fun e => by simp [Value.ownBlock] at e))⟩) (by omega) _) ?_
                  rintro v8 W8 ⟨⟨A8, c8, rfl⟩, ho8, hj8, hf8⟩
                  have HO8 := Lib.hid ho8
                  have HJ8 := Lib.hid hj8
                  have HF8 := Lib.hid hf8
                  clear ho8 hj8 hf8
                  refine hK.out _ _ (fun _ => HSJ.out _ HJ8.out) ?_
                  clear hK K
                  try simp only [Act.put, List.setIfInBounds_toArray, List.set_cons_zero, List.set_cons_succ]
                  refine Held.Ways.one (i := 13) (by rfl) (by kernel_rfl) (fun K hK => ?_)
                  refine step_append rfl _ _ 22 22 rfl (by simp [Act.eval, Act.put]) (by simp [Act.eval, Act.put]) (app_any (wr := wr) (W := W8) (n := 0 + m + 1) (xs := [] ++ ks.take m ++ [k]) (A := (some ⟨gk, ofk + m, none⟩)) (m := (ks.length - m)) (c := (ck - m)) (ys := ks.drop m) (HO8.out) HJ8.out (by simp) (fun _ => ⟨gk, ofk + m, rfl, fun jj u hu => by rw [Nat.add_assoc]; exact HCL.out _ HJ8.out _ u (drop_at hu)⟩) (by omega) _) ?_
                  rintro v13 W13 ⟨⟨A13, c13, rfl⟩, ho13, hj13, hf13⟩
                  have HO13 := Lib.hid ho13
                  have HJ13 := Lib.hid hj13
                  have HF13 := Lib.hid hf13
                  clear ho13 hj13 hf13
                  refine hK.out _ _ (fun _ => HSJ.out _ HJ13.out) ?_
                  clear hK K
                  try simp only [Act.put, List.setIfInBounds_toArray, List.set_cons_zero, List.set_cons_succ]
                  refine Held.Ways.one (i := 14) (by rfl) (by kernel_rfl) (fun K hK => ?_)
                  go_simp
                  refine hK.out _ _ (fun h => absurd h (by decide)) ?_
                  clear hK K
                  try simp only [Act.put, List.setIfInBounds_toArray, List.set_cons_zero, List.set_cons_succ]
                  obtain ⟨f0, f1, f2, f3, f4, f5, f6, f7, f8⟩ := row8_facts (HSJ.out _ HJ13.out)
                  refine Held.Ways.one (i := 15) (by rfl) (by kernel_rfl) (fun K hK => ?_)
                  go_simp
                  refine hK.out _ _ (fun h => absurd h (by decide)) ?_
                  clear hK K
                  try simp only [Act.put, List.setIfInBounds_toArray, List.set_cons_zero, List.set_cons_succ]
                  refine Held.Ways.done (by kernel_rfl) ?_ _
                  have hnew : leafK (keys.take (j + 1)) = [] ++ ks.take m ++ [k] ++ ks.drop m := by
                    have hnh : ¬ here (kp ks) k = true := fun hh => by
                      obtain ⟨p', hp', hk'⟩ := (here_at HRI.out k).1 hh
                      rw [← HM.out, kp_at HQ.out] at hp'
                      injection hp' with hp'
                      rw [← hp'] at hk'
                      exact hqk hk'
                    rw [List.take_add_one, HK.out]
                    show leafK (keys.take j ++ [k]) = _
                    rw [leafK_snoc, ← HKS.out, insK, if_neg hnh, ← HM.out]
                    simp
                  have hlen : ([] ++ ks.take m ++ [k] ++ ks.drop m).length = 0 + m + 1 + (ks.length - m) := by simp; omega
                  have HNEW := Lib.hid hnew
                  have HLEEN := Lib.hid hlen
                  have HRW : Hid (∀ u, (W13.setCell ⟨w.heap.size + 1, 1, none⟩ u).heap[w.heap.size + 1]? = some (.cells #[.int .i64 1, u, .slice none 0 0, .slice none 0 0, .int .i64 0, .int .i64 0, .int .i64 0, .int .i64 0] 26 (0, 0))) := fun u => by
                    have := heap_setCell_same W13 (w.heap.size + 1) 1 _ _ u (HSJ.out _ HJ13.out)
                    simpa using this
                  have hwb : w.heap.size + 1 < wr.heap.size := (Array.getElem?_eq_some_iff.1 HR1.out).1
                  have HB13 : Hid (Below w.heap.size w W13) := HBL.out.trans (HJ13.out.mono HBL.out.size)
                  have HOW : Hid (∀ u, Own (W13.setCell ⟨w.heap.size + 1, 1, none⟩ u) (w.heap.size + 2) 9 1 (.slice A13 (0 + m + 1 + (ks.length - m)) c13) (0 + m + 1 + (ks.length - m)) (sc ([] ++ ks.take m ++ [k] ++ ks.drop m))) := fun u =>
                    (HO13.out.base_ (base' := w.heap.size + 2) (fun g hg => by have := (HO13.out.lt g hg).1; have := HBL.out.size; omega)).kept fun g hg => Below.heap_setCell _ _ _ _ (by have := (HO13.out.lt g hg).1; show g ≠ w.heap.size + 1; omega)
                  clear hnew hlen
                  go_wp2_with fail
                  go_roundw
                  case rel =>
                    refine ⟨j + 1, _, by omega, by go_num, ?_, ?_, HRW.out _, below_set HB13.out (Nat.le_succ _) _, .inr (by rw [HNEW.out, HLEEN.out]; omega)⟩
                    · rw [HNEW.out, HLEEN.out]
                      have := HOW.out (.slice A13 (0 + m + 1 + (ks.length - m)) c13)
                      simpa only [Nat.zero_add] using this
                    · rw [Below.heap_setCell _ _ _ _ (by show w.heap.size ≠ w.heap.size + 1; omega), HJ13.out.block _ (by omega)]; exact HR0.out
                  case measure => simp [intOf]; omega
              · have HJb : Hid (Below wr.heap.size wr (wr.alloc (.cells #[.string k] 9)).drew) := ((Below.refl _ wr).alloc (Nat.le_refl _) _).drew
                go_simp
                refine hK.out _ _ (fun _ => HSJ.out _ HJb.out) ?_
                clear hK K
                try simp only [Act.put, List.setIfInBounds_toArray, List.set_cons_zero, List.set_cons_succ]
                refine Held.Ways.one (i := 0) (by rfl) (by kernel_rfl) (fun K hK => ?_)
                have HJ7 : Hid (Below wr.heap.size wr ((wr.alloc (.cells #[.string k] 9)).alloc (.cells #[] 9)).drew) := (((Below.refl _ wr).alloc (Nat.le_refl _) _).alloc (by simp) _).drew
                go_simp
                refine hK.out _ _ (fun _ => HSJ.out _ HJ7.out) ?_
                clear hK K
                try simp only [Act.put, List.setIfInBounds_toArray, List.set_cons_zero, List.set_cons_succ]
                refine Held.Ways.one (i := 5) (by rfl) (by kernel_rfl) (fun K hK => ?_)
                refine step_append rfl _ _ 22 22 rfl (by simp [Act.eval, Act.put]) (by simp [Act.eval, Act.put]) (app_any (wr := wr) (W := ((wr.alloc (.cells #[.string k] 9)).alloc (.cells #[] 9)).drew) (v := .slice (some ⟨wr.heap.size + 1, 0, none⟩) 0 0) (n := 0) (xs := []) (A := (some ⟨gk, ofk, none⟩)) (m := m) (c := ck) (ys := ks.take m) (by have h9 := own_empty (W := wr.alloc (.cells #[.string k] 9)) (base := wr.heap.size) (by simp); simp only [World.size_alloc] at h9; exact h9) HJ7.out (by simp; omega) (fun _ => ⟨gk, ofk, rfl, fun jj u hu => HCL.out _ HJ7.out jj u (take_at hu)⟩) (by omega) _) ?_
                rintro v5 W5 ⟨⟨A5, c5, rfl⟩, ho5, hj5, hf5⟩
                have HO5 := Lib.hid ho5
                have HJ5 := Lib.hid hj5
                have HF5 := Lib.hid hf5
                clear ho5 hj5 hf5
                refine hK.out _ _ (fun _ => HSJ.out _ HJ5.out) ?_
                clear hK K
                try simp only [Act.put, List.setIfInBounds_toArray, List.set_cons_zero, List.set_cons_succ]
                refine Held.Ways.one (i := 8) (by rfl) (by kernel_rfl) (fun K hK => ?_)
                refine step_append rfl _ _ 22 22 rfl (by simp [Act.eval, Act.put]) (by simp [Act.eval, Act.put]) (app_any (wr := wr) (W := W5) (n := 0 + m) (xs := [] ++ ks.take m) (A := some ⟨wr.heap.size, 0, none⟩) (m := 1) (c := 1) (ys := [k]) (HO5.out) HJ5.out rfl (fun _ => ⟨_, 0, rfl, fun jj u hu => (HF5.out.cell (p := ⟨wr.heap.size, 0 + jj, none⟩) (by have h9 := (Below.heap_alloc (wr.alloc (.cells #[.string k] 9)) (.cells #[] 9) wr.heap.size (by simp)).trans (heap_alloc_new wr _); rw [Nat.zero_add]; exact (cell_of_row _ _ _ _ _ _ h9).trans (by simpa [sc] using hu)) (fun e => by simp [Value.ownBlock] at e))⟩) (by omega) _) ?_
                rintro v8 W8 ⟨⟨A8, c8, rfl⟩, ho8, hj8, hf8⟩
                have HO8 := Lib.hid ho8
                have HJ8 := Lib.hid hj8
                have HF8 := Lib.hid hf8
                clear ho8 hj8 hf8
                refine hK.out _ _ (fun _ => HSJ.out _ HJ8.out) ?_
                clear hK K
                try simp only [Act.put, List.setIfInBounds_toArray, List.set_cons_zero, List.set_cons_succ]
                refine Held.Ways.one (i := 13) (by rfl) (by kernel_rfl) (fun K hK => ?_)
                refine step_append rfl _ _ 22 22 rfl (by simp [Act.eval, Act.put]) (by simp [Act.eval, Act.put]) (app_any (wr := wr) (W := W8) (n := 0 + m + 1) (xs := [] ++ ks.take m ++ [k]) (A := (some ⟨gk, ofk + m, none⟩)) (m := (ks.length - m)) (c := (ck - m)) (ys := ks.drop m) (HO8.out) HJ8.out (by simp) (fun _ => ⟨gk, ofk + m, rfl, fun jj u hu => by rw [Nat.add_assoc]; exact HCL.out _ HJ8.out _ u (drop_at hu)⟩) (by omega) _) ?_
                rintro v13 W13 ⟨⟨A13, c13, rfl⟩, ho13, hj13, hf13⟩
                have HO13 := Lib.hid ho13
                have HJ13 := Lib.hid hj13
                have HF13 := Lib.hid hf13
                clear ho13 hj13 hf13
                refine hK.out _ _ (fun _ => HSJ.out _ HJ13.out) ?_
                clear hK K
                try simp only [Act.put, List.setIfInBounds_toArray, List.set_cons_zero, List.set_cons_succ]
                refine Held.Ways.one (i := 14) (by rfl) (by kernel_rfl) (fun K hK => ?_)
                go_simp
                refine hK.out _ _ (fun h => absurd h (by decide)) ?_
                clear hK K
                try simp only [Act.put, List.setIfInBounds_toArray, List.set_cons_zero, List.set_cons_succ]
                obtain ⟨f0, f1, f2, f3, f4, f5, f6, f7, f8⟩ := row8_facts (HSJ.out _ HJ13.out)
                refine Held.Ways.one (i := 15) (by rfl) (by kernel_rfl) (fun K hK => ?_)
                go_simp
                refine hK.out _ _ (fun h => absurd h (by decide)) ?_
                clear hK K
                try simp only [Act.put, List.setIfInBounds_toArray, List.set_cons_zero, List.set_cons_succ]
                refine Held.Ways.done (by kernel_rfl) ?_ _
                have hnew : leafK (keys.take (j + 1)) = [] ++ ks.take m ++ [k] ++ ks.drop m := by
                  have hnh : ¬ here (kp ks) k = true := fun hh => by
                    obtain ⟨p', hp', hk'⟩ := (here_at HRI.out k).1 hh
                    rw [← HM.out, kp_at HQ.out] at hp'
                    injection hp' with hp'
                    rw [← hp'] at hk'
                    exact hqk hk'
                  rw [List.take_add_one, HK.out]
                  show leafK (keys.take j ++ [k]) = _
                  rw [leafK_snoc, ← HKS.out, insK, if_neg hnh, ← HM.out]
                  simp
                have hlen : ([] ++ ks.take m ++ [k] ++ ks.drop m).length = 0 + m + 1 + (ks.length - m) := by simp; omega
                have HNEW := Lib.hid hnew
                have HLEEN := Lib.hid hlen
                have HRW : Hid (∀ u, (W13.setCell ⟨w.heap.size + 1, 1, none⟩ u).heap[w.heap.size + 1]? = some (.cells #[.int .i64 1, u, .slice none 0 0, .slice none 0 0, .int .i64 0, .int .i64 0, .int .i64 0, .int .i64 0] 26 (0, 0))) := fun u => by
                  have := heap_setCell_same W13 (w.heap.size + 1) 1 _ _ u (HSJ.out _ HJ13.out)
                  simpa using this
                have hwb : w.heap.size + 1 < wr.heap.size := (Array.getElem?_eq_some_iff.1 HR1.out).1
                have HB13 : Hid (Below w.heap.size w W13) := HBL.out.trans (HJ13.out.mono HBL.out.size)
                have HOW : Hid (∀ u, Own (W13.setCell ⟨w.heap.size + 1, 1, none⟩ u) (w.heap.size + 2) 9 1 (.slice A13 (0 + m + 1 + (ks.length - m)) c13) (0 + m + 1 + (ks.length - m)) (sc ([] ++ ks.take m ++ [k] ++ ks.drop m))) := fun u =>
                  (HO13.out.base_ (base' := w.heap.size + 2) (fun g hg => by have := (HO13.out.lt g hg).1; have := HBL.out.size; omega)).kept fun g hg => Below.heap_setCell _ _ _ _ (by have := (HO13.out.lt g hg).1; show g ≠ w.heap.size + 1; omega)
                clear hnew hlen
                go_wp2_with fail
                go_roundw
                case rel =>
                  refine ⟨j + 1, _, by omega, by go_num, ?_, ?_, HRW.out _, below_set HB13.out (Nat.le_succ _) _, .inr (by rw [HNEW.out, HLEEN.out]; omega)⟩
                  · rw [HNEW.out, HLEEN.out]
                    have := HOW.out (.slice A13 (0 + m + 1 + (ks.length - m)) c13)
                    simpa only [Nat.zero_add] using this
                  · rw [Below.heap_setCell _ _ _ _ (by show w.heap.size ≠ w.heap.size + 1; omega), HJ13.out.block _ (by omega)]; exact HR0.out
                case measure => simp [intOf]; omega

          · obtain hne | hne := HNE.out
            · injection hne with hne1 hne2 hne3
              subst hne1
              subst hne3
              obtain rfl : m = 0 := by omega
              have HNE2 := Lib.hid hne2
              have HR1' : wr.heap[w.heap.size + 1]? = some (.cells #[.int .i64 1, .slice none 0 0, .slice none 0 0, .slice none 0 0, .int .i64 0, .int .i64 0, .int .i64 0, .int .i64 0] 26 (0, 0)) := by
                have h9 := HR1.out
                rw [hne2] at h9
                exact h9
              clear HR1
              have HR1 := Lib.hid HR1'
              rw [hne2] at f1
              clear hI hne2 hml hm HR1'
              obtain ⟨m, hm9⟩ : ∃ m : Nat, m = 0 := ⟨_, rfl⟩
              have HM9 := Lib.hid hm9
              have HM' : Hid (m = pos (kp ks) k) := by rw [hm9]; exact HM
              clear HM
              have HM := HM'
              clear HM' hm9
              go_wp2_with fail
              have HSJ : Hid (∀ W, Below wr.heap.size wr W → W.heap[w.heap.size + 1]? = some (.cells #[.int .i64 1, .slice none 0 0, .slice none 0 0, .slice none 0 0, .int .i64 0, .int .i64 0, .int .i64 0, .int .i64 0] 26 (0, 0))) := fun W hb => (hb.block _ (by have := (Array.getElem?_eq_some_iff.1 HR1.out).1; exact this)).trans HR1.out
              have HJ0 : Hid (Below wr.heap.size wr wr.drew) := (Below.refl _ wr).drew
              refine Held.ways_start (fun W => W.heap[w.heap.size + 1]? = some (.cells #[.int .i64 1, .slice none 0 0, .slice none 0 0, .slice none 0 0, .int .i64 0, .int .i64 0, .int .i64 0, .int .i64 0] 26 (0, 0))) (fun k => decide (k < 14)) (by kernel_rfl) ?_
              have HS : wr.drew.heap[w.heap.size + 1]? = some (.cells #[.int .i64 1, .slice none 0 0, .slice none 0 0, .slice none 0 0, .int .i64 0, .int .i64 0, .int .i64 0, .int .i64 0] 26 (0, 0)) := HR1.out
              clear f0 f1 f2 f3 f4 f5 f6 f7 f8
              refine Held.Ways.take (i := 1) (oi := ?o1) ?v1 ?hi1 ?hs1 ?hf1 ?hlw1 ?hr1 ?hQ1 HS ?hy1 ?rest1
              case hi1 => exact rfl
              case hs1 => kernel_rfl
              case hf1 => kernel_rfl
              case hlw1 => kernel_rfl
              case hr1 => kernel_rfl
              case hQ1 => exact fun _ _ _ h => h
              case hy1 =>
                refine .inl ⟨by rfl, fun W hW => ?_⟩
                obtain ⟨f0, f1, f2, f3, f4, f5, f6, f7, f8⟩ := row8_facts hW
                go_simp
                try with_reducible rfl
              try simp only [Act.put, List.setIfInBounds_toArray, List.set_cons_zero, List.set_cons_succ]
              refine Held.Ways.take (i := 2) (oi := ?o2) ?v2 ?hi2 ?hs2 ?hf2 ?hlw2 ?hr2 ?hQ2 HS ?hy2 ?rest2
              case hi2 => exact rfl
              case hs2 => kernel_rfl
              case hf2 => kernel_rfl
              case hlw2 => kernel_rfl
              case hr2 => kernel_rfl
              case hQ2 => exact fun _ _ _ h => h
              case hy2 =>
                refine .inl ⟨by rfl, fun W hW => ?_⟩
                obtain ⟨f0, f1, f2, f3, f4, f5, f6, f7, f8⟩ := row8_facts hW
                go_simp
                try with_reducible rfl
              try simp only [Act.put, List.setIfInBounds_toArray, List.set_cons_zero, List.set_cons_succ]
              refine Held.Ways.take (i := 3) (oi := ?o3) ?v3 ?hi3 ?hs3 ?hf3 ?hlw3 ?hr3 ?hQ3 HS ?hy3 ?rest3
              case hi3 => exact rfl
              case hs3 => kernel_rfl
              case hf3 => kernel_rfl
              case hlw3 => kernel_rfl
              case hr3 => kernel_rfl
              case hQ3 => exact fun _ _ _ h => h
              case hy3 =>
                refine .inl ⟨by rfl, fun W hW => ?_⟩
                obtain ⟨f0, f1, f2, f3, f4, f5, f6, f7, f8⟩ := row8_facts hW
                go_simp
                try with_reducible rfl
              try simp only [Act.put, List.setIfInBounds_toArray, List.set_cons_zero, List.set_cons_succ]
              refine Held.Ways.take (i := 4) (oi := ?o4) ?v4 ?hi4 ?hs4 ?hf4 ?hlw4 ?hr4 ?hQ4 HS ?hy4 ?rest4
              case hi4 => exact rfl
              case hs4 => kernel_rfl
              case hf4 => kernel_rfl
              case hlw4 => kernel_rfl
              case hr4 => kernel_rfl
              case hQ4 => exact fun _ _ _ h => h
              case hy4 =>
                refine .inl ⟨by rfl, fun W hW => ?_⟩
                obtain ⟨f0, f1, f2, f3, f4, f5, f6, f7, f8⟩ := row8_facts hW
                go_simp
                try with_reducible rfl
              try simp only [Act.put, List.setIfInBounds_toArray, List.set_cons_zero, List.set_cons_succ]
              refine Held.Ways.take (i := 6) (oi := ?o5) ?v5 ?hi5 ?hs5 ?hf5 ?hlw5 ?hr5 ?hQ5 HS ?hy5 ?rest5
              case hi5 => exact rfl
              case hs5 => kernel_rfl
              case hf5 => kernel_rfl
              case hlw5 => kernel_rfl
              case hr5 => kernel_rfl
              case hQ5 => exact fun _ _ _ h => h
              case hy5 =>
                refine .inl ⟨by rfl, fun W hW => ?_⟩
                obtain ⟨f0, f1, f2, f3, f4, f5, f6, f7, f8⟩ := row8_facts hW
                go_simp
                try with_reducible rfl
              try simp only [Act.put, List.setIfInBounds_toArray, List.set_cons_zero, List.set_cons_succ]
              refine Held.Ways.take (i := 9) (oi := ?o6) ?v6 ?hi6 ?hs6 ?hf6 ?hlw6 ?hr6 ?hQ6 HS ?hy6 ?rest6
              case hi6 => exact rfl
              case hs6 => kernel_rfl
              case hf6 => kernel_rfl
              case hlw6 => kernel_rfl
              case hr6 => kernel_rfl
              case hQ6 => exact fun _ _ _ h => h
              case hy6 =>
                refine .inl ⟨by rfl, fun W hW => ?_⟩
                obtain ⟨f0, f1, f2, f3, f4, f5, f6, f7, f8⟩ := row8_facts hW
                go_simp
                try with_reducible rfl
              try simp only [Act.put, List.setIfInBounds_toArray, List.set_cons_zero, List.set_cons_succ]
              refine Held.Ways.take (i := 10) (oi := ?o7) ?v7 ?hi7 ?hs7 ?hf7 ?hlw7 ?hr7 ?hQ7 HS ?hy7 ?rest7
              case hi7 => exact rfl
              case hs7 => kernel_rfl
              case hf7 => kernel_rfl
              case hlw7 => kernel_rfl
              case hr7 => kernel_rfl
              case hQ7 => exact fun _ _ _ h => h
              case hy7 =>
                refine .inl ⟨by rfl, fun W hW => ?_⟩
                obtain ⟨f0, f1, f2, f3, f4, f5, f6, f7, f8⟩ := row8_facts hW
                go_simp
                try with_reducible rfl
              try simp only [Act.put, List.setIfInBounds_toArray, List.set_cons_zero, List.set_cons_succ]
              refine Held.Ways.take (i := 11) (oi := ?o8) ?v8 ?hi8 ?hs8 ?hf8 ?hlw8 ?hr8 ?hQ8 HS ?hy8 ?rest8
              case hi8 => exact rfl
              case hs8 => kernel_rfl
              case hf8 => kernel_rfl
              case hlw8 => kernel_rfl
              case hr8 => kernel_rfl
              case hQ8 => exact fun _ _ _ h => h
              case hy8 =>
                refine .inl ⟨by rfl, fun W hW => ?_⟩
                obtain ⟨f0, f1, f2, f3, f4, f5, f6, f7, f8⟩ := row8_facts hW
                go_simp
                try with_reducible rfl
              try simp only [Act.put, List.setIfInBounds_toArray, List.set_cons_zero, List.set_cons_succ]
              refine Held.Ways.take (i := 12) (oi := ?o9) ?v9 ?hi9 ?hs9 ?hf9 ?hlw9 ?hr9 ?hQ9 HS ?hy9 ?rest9
              case hi9 => exact rfl
              case hs9 => kernel_rfl
              case hf9 => kernel_rfl
              case hlw9 => kernel_rfl
              case hr9 => kernel_rfl
              case hQ9 => exact fun _ _ _ h => h
              case hy9 =>
                refine .inl ⟨by rfl, fun W hW => ?_⟩
                obtain ⟨f0, f1, f2, f3, f4, f5, f6, f7, f8⟩ := row8_facts hW
                go_simp
                try with_reducible rfl
              try simp only [Act.put, List.setIfInBounds_toArray, List.set_cons_zero, List.set_cons_succ]
              refine Held.Ways.two (i := 0) (j := 7) (by rfl) (by rfl) (by kernel_rfl) (fun K hK => ?_) (fun K hK => ?_)
              · have HJa : Hid (Below wr.heap.size wr (wr.alloc (.cells #[] 9)).drew) := ((Below.refl _ wr).alloc (Nat.le_refl _) _).drew
                go_simp
                refine hK.out _ _ (fun _ => HSJ.out _ HJa.out) ?_
                clear hK K
                try simp only [Act.put, List.setIfInBounds_toArray, List.set_cons_zero, List.set_cons_succ]
                refine Held.Ways.two (i := 5) (j := 7) (by rfl) (by rfl) (by kernel_rfl) (fun K hK => ?_) (fun K hK => ?_)
                · refine step_append rfl _ _ 22 22 rfl (by simp [Act.eval, Act.put]) (by simp [Act.eval, Act.put]) (app_any (wr := wr) (W := (wr.alloc (.cells #[] 9)).drew) (n := 0) (xs := []) (A := none) (m := 0) (c := 0) (ys := ks.take m) (own_empty (W := wr) (Nat.le_refl _)) HJa.out (by have h8 := HNE2.out; have h9 := HM9.out; simp; omega) (fun h => absurd h (by omega)) (by omega) _) ?_
                  rintro v5 W5 ⟨⟨A5, c5, rfl⟩, ho5, hj5, hf5⟩
                  have HO5 := Lib.hid ho5
                  have HJ5 := Lib.hid hj5
                  have HF5 := Lib.hid hf5
                  clear ho5 hj5 hf5
                  refine hK.out _ _ (fun _ => HSJ.out _ HJ5.out) ?_
                  clear hK K
                  try simp only [Act.put, List.setIfInBounds_toArray, List.set_cons_zero, List.set_cons_succ]
                  refine Held.Ways.one (i := 7) (by rfl) (by kernel_rfl) (fun K hK => ?_)
                  have HJ7 : Hid (Below wr.heap.size wr (W5.alloc (.cells #[.string k] 9))) := HJ5.out.alloc HJ5.out.size _
                  go_simp
                  refine hK.out _ _ (fun _ => HSJ.out _ HJ7.out) ?_
                  clear hK K
                  try simp only [Act.put, List.setIfInBounds_toArray, List.set_cons_zero, List.set_cons_succ]
                  refine Held.Ways.one (i := 8) (by rfl) (by kernel_rfl) (fun K hK => ?_)
                  refine step_append rfl _ _ 22 22 rfl (by simp [Act.eval, Act.put]) (by simp [Act.eval, Act.put]) (app_any (wr := wr) (W := (W5.alloc (.cells #[.string k] 9))) (n := 0 + 0) (xs := [] ++ ks.take m) (A := some ⟨W5.heap.size, 0, none⟩) (m := 1) (c := 1) (ys := [k]) (HO5.out.alloc _) HJ7.out rfl (fun _ => ⟨_, 0, rfl, fun jj u hu => by rw [Nat.zero_add, cell_of_row _ _ _ _ _ _ (heap_alloc_new W5 _)]; simpa [sc] using hu⟩) (by omega) _) ?_
                  rintro v8 W8 ⟨⟨A8, c8, rfl⟩, ho8, hj8, hf8⟩
                  have HO8 := Lib.hid ho8
                  have HJ8 := Lib.hid hj8
                  have HF8 := Lib.hid hf8
                  clear ho8 hj8 hf8
                  refine hK.out _ _ (fun _ => HSJ.out _ HJ8.out) ?_
                  clear hK K
                  try simp only [Act.put, List.setIfInBounds_toArray, List.set_cons_zero, List.set_cons_succ]
                  refine Held.Ways.one (i := 13) (by rfl) (by kernel_rfl) (fun K hK => ?_)
                  refine step_append rfl _ _ 22 22 rfl (by simp [Act.eval, Act.put]) (by simp [Act.eval, Act.put]) (app_any (wr := wr) (W := W8) (n := 0 + 0 + 1) (xs := [] ++ ks.take m ++ [k]) (A := none) (m := 0) (c := 0) (ys := ks.drop m) (HO8.out) HJ8.out (by have h8 := HNE2.out; have h9 := HM9.out; simp; omega) (fun h => absurd h (by omega)) (by omega) _) ?_
                  rintro v13 W13 ⟨⟨A13, c13, rfl⟩, ho13, hj13, hf13⟩
                  have HO13 := Lib.hid ho13
                  have HJ13 := Lib.hid hj13
                  have HF13 := Lib.hid hf13
                  clear ho13 hj13 hf13
                  refine hK.out _ _ (fun _ => HSJ.out _ HJ13.out) ?_
                  clear hK K
                  try simp only [Act.put, List.setIfInBounds_toArray, List.set_cons_zero, List.set_cons_succ]
                  refine Held.Ways.one (i := 14) (by rfl) (by kernel_rfl) (fun K hK => ?_)
                  go_simp
                  refine hK.out _ _ (fun h => absurd h (by decide)) ?_
                  clear hK K
                  try simp only [Act.put, List.setIfInBounds_toArray, List.set_cons_zero, List.set_cons_succ]
                  obtain ⟨f0, f1, f2, f3, f4, f5, f6, f7, f8⟩ := row8_facts (HSJ.out _ HJ13.out)
                  refine Held.Ways.one (i := 15) (by rfl) (by kernel_rfl) (fun K hK => ?_)
                  go_simp
                  refine hK.out _ _ (fun h => absurd h (by decide)) ?_
                  clear hK K
                  try simp only [Act.put, List.setIfInBounds_toArray, List.set_cons_zero, List.set_cons_succ]
                  refine Held.Ways.done (by kernel_rfl) ?_ _
                  have hnew : leafK (keys.take (j + 1)) = [] ++ ks.take m ++ [k] ++ ks.drop m := by
                    have hnh : ¬ here (kp ks) k = true := fun hh => by
                      obtain ⟨p', hp', _⟩ := (here_at HRI.out k).1 hh
                      have h9 := (List.getElem?_eq_some_iff.1 hp').1
                      rw [kp_len, ← HM.out] at h9
                      omega
                    rw [List.take_add_one, HK.out]
                    show leafK (keys.take j ++ [k]) = _
                    rw [leafK_snoc, ← HKS.out, insK, if_neg hnh, ← HM.out]
                    simp
                  have hlen : ([] ++ ks.take m ++ [k] ++ ks.drop m).length = 0 + 0 + 1 + 0 := by have h8 := HNE2.out; have h9 := HM9.out; simp; omega
                  have HNEW := Lib.hid hnew
                  have HLEEN := Lib.hid hlen
                  have HRW : Hid (∀ u, (W13.setCell ⟨w.heap.size + 1, 1, none⟩ u).heap[w.heap.size + 1]? = some (.cells #[.int .i64 1, u, .slice none 0 0, .slice none 0 0, .int .i64 0, .int .i64 0, .int .i64 0, .int .i64 0] 26 (0, 0))) := fun u => by
                    have := heap_setCell_same W13 (w.heap.size + 1) 1 _ _ u (HSJ.out _ HJ13.out)
                    simpa using this
                  have hwb : w.heap.size + 1 < wr.heap.size := (Array.getElem?_eq_some_iff.1 HR1.out).1
                  have HB13 : Hid (Below w.heap.size w W13) := HBL.out.trans (HJ13.out.mono HBL.out.size)
                  have HOW : Hid (∀ u, Own (W13.setCell ⟨w.heap.size + 1, 1, none⟩ u) (w.heap.size + 2) 9 1 (.slice A13 (0 + 0 + 1 + 0) c13) (0 + 0 + 1 + 0) (sc ([] ++ ks.take m ++ [k] ++ ks.drop m))) := fun u =>
                    (HO13.out.base_ (base' := w.heap.size + 2) (fun g hg => by have := (HO13.out.lt g hg).1; have := HBL.out.size; omega)).kept fun g hg => Below.heap_setCell _ _ _ _ (by have := (HO13.out.lt g hg).1; show g ≠ w.heap.size + 1; omega)
                  clear hnew hlen
                  go_wp2_with fail
                  go_roundw
                  case rel =>
                    refine ⟨j + 1, _, by omega, by go_num, ?_, ?_, HRW.out _, below_set HB13.out (Nat.le_succ _) _, .inr (by rw [HNEW.out, HLEEN.out]; omega)⟩
                    · rw [HNEW.out, HLEEN.out]
                      have := HOW.out (.slice A13 (0 + 0 + 1 + 0) c13)
                      simpa only [Nat.zero_add] using this
                    · rw [Below.heap_setCell _ _ _ _ (by show w.heap.size ≠ w.heap.size + 1; omega), HJ13.out.block _ (by omega)]; exact HR0.out
                  case measure => simp [intOf]; omega
                · have HJ7 : Hid (Below wr.heap.size wr ((wr.alloc (.cells #[] 9)).alloc (.cells #[.string k] 9)).drew) := (((Below.refl _ wr).alloc (Nat.le_refl _) _).alloc (by simp) _).drew
                  go_simp
                  refine hK.out _ _ (fun _ => HSJ.out _ HJ7.out) ?_
                  clear hK K
                  try simp only [Act.put, List.setIfInBounds_toArray, List.set_cons_zero, List.set_cons_succ]
                  refine Held.Ways.one (i := 5) (by rfl) (by kernel_rfl) (fun K hK => ?_)
                  refine step_append rfl _ _ 22 22 rfl (by simp [Act.eval, Act.put]) (by simp [Act.eval, Act.put]) (app_any (wr := wr) (W := ((wr.alloc (.cells #[] 9)).alloc (.cells #[.string k] 9)).drew) (n := 0) (xs := []) (A := none) (m := 0) (c := 0) (ys := ks.take m) ((own_empty (W := wr) (Nat.le_refl _)).alloc _) HJ7.out (by have h8 := HNE2.out; have h9 := HM9.out; simp; omega) (fun h => absurd h (by omega)) (by omega) _) ?_
                  rintro v5 W5 ⟨⟨A5, c5, rfl⟩, ho5, hj5, hf5⟩
                  have HO5 := Lib.hid ho5
                  have HJ5 := Lib.hid hj5
                  have HF5 := Lib.hid hf5
                  clear ho5 hj5 hf5
                  refine hK.out _ _ (fun _ => HSJ.out _ HJ5.out) ?_
                  clear hK K
                  try simp only [Act.put, List.setIfInBounds_toArray, List.set_cons_zero, List.set_cons_succ]
                  refine Held.Ways.one (i := 8) (by rfl) (by kernel_rfl) (fun K hK => ?_)
                  refine step_append rfl _ _ 22 22 rfl (by simp [Act.eval, Act.put]) (by simp [Act.eval, Act.put]) (app_any (wr := wr) (W := W5) (n := 0 + 0) (xs := [] ++ ks.take m) (A := some ⟨wr.heap.size + 1, 0, none⟩) (m := 1) (c := 1) (ys := [k]) (HO5.out) HJ5.out rfl (fun _ => ⟨_, 0, rfl, fun jj u hu => (HF5.out.cell (p := ⟨wr.heap.size + 1, 0 + jj, none⟩) (by have h9 := heap_alloc_new (wr.alloc (.cells #[] 9)) (.cells #[.string k] 9); simp only [World.size_alloc] at h9; rw [Nat.zero_add]; exact (cell_of_row _ _ _ _ _ _ h9).trans (by simpa [sc] using hu)) (fun e => by simp [Value.ownBlock] at e))⟩) (by omega) _) ?_
                  rintro v8 W8 ⟨⟨A8, c8, rfl⟩, ho8, hj8, hf8⟩
                  have HO8 := Lib.hid ho8
                  have HJ8 := Lib.hid hj8
                  have HF8 := Lib.hid hf8
                  clear ho8 hj8 hf8
                  refine hK.out _ _ (fun _ => HSJ.out _ HJ8.out) ?_
                  clear hK K
                  try simp only [Act.put, List.setIfInBounds_toArray, List.set_cons_zero, List.set_cons_succ]
                  refine Held.Ways.one (i := 13) (by rfl) (by kernel_rfl) (fun K hK => ?_)
                  refine step_append rfl _ _ 22 22 rfl (by simp [Act.eval, Act.put]) (by simp [Act.eval, Act.put]) (app_any (wr := wr) (W := W8) (n := 0 + 0 + 1) (xs := [] ++ ks.take m ++ [k]) (A := none) (m := 0) (c := 0) (ys := ks.drop m) (HO8.out) HJ8.out (by have h8 := HNE2.out; have h9 := HM9.out; simp; omega) (fun h => absurd h (by omega)) (by omega) _) ?_
                  rintro v13 W13 ⟨⟨A13, c13, rfl⟩, ho13, hj13, hf13⟩
                  have HO13 := Lib.hid ho13
                  have HJ13 := Lib.hid hj13
                  have HF13 := Lib.hid hf13
                  clear ho13 hj13 hf13
                  refine hK.out _ _ (fun _ => HSJ.out _ HJ13.out) ?_
                  clear hK K
                  try simp only [Act.put, List.setIfInBounds_toArray, List.set_cons_zero, List.set_cons_succ]
                  refine Held.Ways.one (i := 14) (by rfl) (by kernel_rfl) (fun K hK => ?_)
                  go_simp
                  refine hK.out _ _ (fun h => absurd h (by decide)) ?_
                  clear hK K
                  try simp only [Act.put, List.setIfInBounds_toArray, List.set_cons_zero, List.set_cons_succ]
                  obtain ⟨f0, f1, f2, f3, f4, f5, f6, f7, f8⟩ := row8_facts (HSJ.out _ HJ13.out)
                  refine Held.Ways.one (i := 15) (by rfl) (by kernel_rfl) (fun K hK => ?_)
                  go_simp
                  refine hK.out _ _ (fun h => absurd h (by decide)) ?_
                  clear hK K
                  try simp only [Act.put, List.setIfInBounds_toArray, List.set_cons_zero, List.set_cons_succ]
                  refine Held.Ways.done (by kernel_rfl) ?_ _
                  have hnew : leafK (keys.take (j + 1)) = [] ++ ks.take m ++ [k] ++ ks.drop m := by
                    have hnh : ¬ here (kp ks) k = true := fun hh => by
                      obtain ⟨p', hp', _⟩ := (here_at HRI.out k).1 hh
                      have h9 := (List.getElem?_eq_some_iff.1 hp').1
                      rw [kp_len, ← HM.out] at h9
                      omega
                    rw [List.take_add_one, HK.out]
                    show leafK (keys.take j ++ [k]) = _
                    rw [leafK_snoc, ← HKS.out, insK, if_neg hnh, ← HM.out]
                    simp
                  have hlen : ([] ++ ks.take m ++ [k] ++ ks.drop m).length = 0 + 0 + 1 + 0 := by have h8 := HNE2.out; have h9 := HM9.out; simp; omega
                  have HNEW := Lib.hid hnew
                  have HLEEN := Lib.hid hlen
                  have HRW : Hid (∀ u, (W13.setCell ⟨w.heap.size + 1, 1, none⟩ u).heap[w.heap.size + 1]? = some (.cells #[.int .i64 1, u, .slice none 0 0, .slice none 0 0, .int .i64 0, .int .i64 0, .int .i64 0, .int .i64 0] 26 (0, 0))) := fun u => by
                    have := heap_setCell_same W13 (w.heap.size + 1) 1 _ _ u (HSJ.out _ HJ13.out)
                    simpa using this
                  have hwb : w.heap.size + 1 < wr.heap.size := (Array.getElem?_eq_some_iff.1 HR1.out).1
                  have HB13 : Hid (Below w.heap.size w W13) := HBL.out.trans (HJ13.out.mono HBL.out.size)
                  have HOW : Hid (∀ u, Own (W13.setCell ⟨w.heap.size + 1, 1, none⟩ u) (w.heap.size + 2) 9 1 (.slice A13 (0 + 0 + 1 + 0) c13) (0 + 0 + 1 + 0) (sc ([] ++ ks.take m ++ [k] ++ ks.drop m))) := fun u =>
                    (HO13.out.base_ (base' := w.heap.size + 2) (fun g hg => by have := (HO13.out.lt g hg).1; have := HBL.out.size; omega)).kept fun g hg => Below.heap_setCell _ _ _ _ (by have := (HO13.out.lt g hg).1; show g ≠ w.heap.size + 1; omega)
                  clear hnew hlen
                  go_wp2_with fail
                  go_roundw
                  case rel =>
                    refine ⟨j + 1, _, by omega, by go_num, ?_, ?_, HRW.out _, below_set HB13.out (Nat.le_succ _) _, .inr (by rw [HNEW.out, HLEEN.out]; omega)⟩
                    · rw [HNEW.out, HLEEN.out]
                      have := HOW.out (.slice A13 (0 + 0 + 1 + 0) c13)
                      simpa only [Nat.zero_add] using this
                    · rw [Below.heap_setCell _ _ _ _ (by show w.heap.size ≠ w.heap.size + 1; omega), HJ13.out.block _ (by omega)]; exact HR0.out
                  case measure => simp [intOf]; omega
              · have HJb : Hid (Below wr.heap.size wr (wr.alloc (.cells #[.string k] 9)).drew) := ((Below.refl _ wr).alloc (Nat.le_refl _) _).drew
                go_simp
                refine hK.out _ _ (fun _ => HSJ.out _ HJb.out) ?_
                clear hK K
                try simp only [Act.put, List.setIfInBounds_toArray, List.set_cons_zero, List.set_cons_succ]
                refine Held.Ways.one (i := 0) (by rfl) (by kernel_rfl) (fun K hK => ?_)
                have HJ7 : Hid (Below wr.heap.size wr ((wr.alloc (.cells #[.string k] 9)).alloc (.cells #[] 9)).drew) := (((Below.refl _ wr).alloc (Nat.le_refl _) _).alloc (by simp) _).drew
                go_simp
                refine hK.out _ _ (fun _ => HSJ.out _ HJ7.out) ?_
                clear hK K
                try simp only [Act.put, List.setIfInBounds_toArray, List.set_cons_zero, List.set_cons_succ]
                refine Held.Ways.one (i := 5) (by rfl) (by kernel_rfl) (fun K hK => ?_)
                refine step_append rfl _ _ 22 22 rfl (by simp [Act.eval, Act.put]) (by simp [Act.eval, Act.put]) (app_any (wr := wr) (W := ((wr.alloc (.cells #[.string k] 9)).alloc (.cells #[] 9)).drew) (v := .slice (some ⟨wr.heap.size + 1, 0, none⟩) 0 0) (n := 0) (xs := []) (A := none) (m := 0) (c := 0) (ys := ks.take m) (by have h9 := own_empty (W := wr.alloc (.cells #[.string k] 9)) (base := wr.heap.size) (by simp); simp only [World.size_alloc] at h9; exact h9) HJ7.out (by have h8 := HNE2.out; have h9 := HM9.out; simp; omega) (fun h => absurd h (by omega)) (by omega) _) ?_
                rintro v5 W5 ⟨⟨A5, c5, rfl⟩, ho5, hj5, hf5⟩
                have HO5 := Lib.hid ho5
                have HJ5 := Lib.hid hj5
                have HF5 := Lib.hid hf5
                clear ho5 hj5 hf5
                refine hK.out _ _ (fun _ => HSJ.out _ HJ5.out) ?_
                clear hK K
                try simp only [Act.put, List.setIfInBounds_toArray, List.set_cons_zero, List.set_cons_succ]
                refine Held.Ways.one (i := 8) (by rfl) (by kernel_rfl) (fun K hK => ?_)
                refine step_append rfl _ _ 22 22 rfl (by simp [Act.eval, Act.put]) (by simp [Act.eval, Act.put]) (app_any (wr := wr) (W := W5) (n := 0 + 0) (xs := [] ++ ks.take m) (A := some ⟨wr.heap.size, 0, none⟩) (m := 1) (c := 1) (ys := [k]) (HO5.out) HJ5.out rfl (fun _ => ⟨_, 0, rfl, fun jj u hu => (HF5.out.cell (p := ⟨wr.heap.size, 0 + jj, none⟩) (by have h9 := (Below.heap_alloc (wr.alloc (.cells #[.string k] 9)) (.cells #[] 9) wr.heap.size (by simp)).trans (heap_alloc_new wr _); rw [Nat.zero_add]; exact (cell_of_row _ _ _ _ _ _ h9).trans (by simpa [sc] using hu)) (fun e => by simp [Value.ownBlock] at e))⟩) (by omega) _) ?_
                rintro v8 W8 ⟨⟨A8, c8, rfl⟩, ho8, hj8, hf8⟩
                have HO8 := Lib.hid ho8
                have HJ8 := Lib.hid hj8
                have HF8 := Lib.hid hf8
                clear ho8 hj8 hf8
                refine hK.out _ _ (fun _ => HSJ.out _ HJ8.out) ?_
                clear hK K
                try simp only [Act.put, List.setIfInBounds_toArray, List.set_cons_zero, List.set_cons_succ]
                refine Held.Ways.one (i := 13) (by rfl) (by kernel_rfl) (fun K hK => ?_)
                refine step_append rfl _ _ 22 22 rfl (by simp [Act.eval, Act.put]) (by simp [Act.eval, Act.put]) (app_any (wr := wr) (W := W8) (n := 0 + 0 + 1) (xs := [] ++ ks.take m ++ [k]) (A := none) (m := 0) (c := 0) (ys := ks.drop m) (HO8.out) HJ8.out (by have h8 := HNE2.out; have h9 := HM9.out; simp; omega) (fun h => absurd h (by omega)) (by omega) _) ?_
                rintro v13 W13 ⟨⟨A13, c13, rfl⟩, ho13, hj13, hf13⟩
                have HO13 := Lib.hid ho13
                have HJ13 := Lib.hid hj13
                have HF13 := Lib.hid hf13
                clear ho13 hj13 hf13
                refine hK.out _ _ (fun _ => HSJ.out _ HJ13.out) ?_
                clear hK K
                try simp only [Act.put, List.setIfInBounds_toArray, List.set_cons_zero, List.set_cons_succ]
                refine Held.Ways.one (i := 14) (by rfl) (by kernel_rfl) (fun K hK => ?_)
                go_simp
                refine hK.out _ _ (fun h => absurd h (by decide)) ?_
                clear hK K
                try simp only [Act.put, List.setIfInBounds_toArray, List.set_cons_zero, List.set_cons_succ]
                obtain ⟨f0, f1, f2, f3, f4, f5, f6, f7, f8⟩ := row8_facts (HSJ.out _ HJ13.out)
                refine Held.Ways.one (i := 15) (by rfl) (by kernel_rfl) (fun K hK => ?_)
                go_simp
                refine hK.out _ _ (fun h => absurd h (by decide)) ?_
                clear hK K
                try simp only [Act.put, List.setIfInBounds_toArray, List.set_cons_zero, List.set_cons_succ]
                refine Held.Ways.done (by kernel_rfl) ?_ _
                have hnew : leafK (keys.take (j + 1)) = [] ++ ks.take m ++ [k] ++ ks.drop m := by
                  have hnh : ¬ here (kp ks) k = true := fun hh => by
                    obtain ⟨p', hp', _⟩ := (here_at HRI.out k).1 hh
                    have h9 := (List.getElem?_eq_some_iff.1 hp').1
                    rw [kp_len, ← HM.out] at h9
                    omega
                  rw [List.take_add_one, HK.out]
                  show leafK (keys.take j ++ [k]) = _
                  rw [leafK_snoc, ← HKS.out, insK, if_neg hnh, ← HM.out]
                  simp
                have hlen : ([] ++ ks.take m ++ [k] ++ ks.drop m).length = 0 + 0 + 1 + 0 := by have h8 := HNE2.out; have h9 := HM9.out; simp; omega
                have HNEW := Lib.hid hnew
                have HLEEN := Lib.hid hlen
                have HRW : Hid (∀ u, (W13.setCell ⟨w.heap.size + 1, 1, none⟩ u).heap[w.heap.size + 1]? = some (.cells #[.int .i64 1, u, .slice none 0 0, .slice none 0 0, .int .i64 0, .int .i64 0, .int .i64 0, .int .i64 0] 26 (0, 0))) := fun u => by
                  have := heap_setCell_same W13 (w.heap.size + 1) 1 _ _ u (HSJ.out _ HJ13.out)
                  simpa using this
                have hwb : w.heap.size + 1 < wr.heap.size := (Array.getElem?_eq_some_iff.1 HR1.out).1
                have HB13 : Hid (Below w.heap.size w W13) := HBL.out.trans (HJ13.out.mono HBL.out.size)
                have HOW : Hid (∀ u, Own (W13.setCell ⟨w.heap.size + 1, 1, none⟩ u) (w.heap.size + 2) 9 1 (.slice A13 (0 + 0 + 1 + 0) c13) (0 + 0 + 1 + 0) (sc ([] ++ ks.take m ++ [k] ++ ks.drop m))) := fun u =>
                  (HO13.out.base_ (base' := w.heap.size + 2) (fun g hg => by have := (HO13.out.lt g hg).1; have := HBL.out.size; omega)).kept fun g hg => Below.heap_setCell _ _ _ _ (by have := (HO13.out.lt g hg).1; show g ≠ w.heap.size + 1; omega)
                clear hnew hlen
                go_wp2_with fail
                go_roundw
                case rel =>
                  refine ⟨j + 1, _, by omega, by go_num, ?_, ?_, HRW.out _, below_set HB13.out (Nat.le_succ _) _, .inr (by rw [HNEW.out, HLEEN.out]; omega)⟩
                  · rw [HNEW.out, HLEEN.out]
                    have := HOW.out (.slice A13 (0 + 0 + 1 + 0) c13)
                    simpa only [Nat.zero_add] using this
                  · rw [Below.heap_setCell _ _ _ _ (by show w.heap.size ≠ w.heap.size + 1; omega), HJ13.out.block _ (by omega)]; exact HR0.out
                case measure => simp [intOf]; omega

            · obtain ⟨gk, ofk, _, e, _, _, _, _⟩ := HOWN.out.rd.cells hne
              injection e with e1 e2 e3
              clear e2 e3
              subst e1
              have d2 : ¬ ((m : Int) < (ks.length : Int)) := by omega
              clear hI hm hml
              have hmc : m ≤ ck := by omega
              have hml2 : m ≤ ks.length := by omega
              have i0 : (0 : Int) ≤ (m : Int) := by omega
              by_cases hcm : ck = m
              · obtain rfl : m = ck := hcm.symm
                have HML : Hid (m = ks.length) := Lib.hid (by omega)
                go_wp2_with fail
                have HSJ : Hid (∀ W, Below wr.heap.size wr W → W.heap[w.heap.size + 1]? = some (.cells #[.int .i64 1, .slice (some ⟨gk, ofk, none⟩) ks.length m, .slice none 0 0, .slice none 0 0, .int .i64 0, .int .i64 0, .int .i64 0, .int .i64 0] 26 (0, 0))) := fun W hb => (hb.block _ (by have := (Array.getElem?_eq_some_iff.1 HR1.out).1; exact this)).trans HR1.out
                have HJ0 : Hid (Below wr.heap.size wr wr.drew) := (Below.refl _ wr).drew
                have HCL : Hid (∀ W, Below wr.heap.size wr W → ∀ jj u, (sc ks)[jj]? = some u → W.cell? ⟨gk, ofk + jj, none⟩ = some u) := fun W hb jj u hu => by
                  obtain ⟨gk', ofk', cz, e, hlt', _, _, hxx⟩ := HOWN.out.rd.cells (by omega)
                  injection e with e1 _ _
                  injection e1 with e1
                  injection e1 with e1 e2
                  subst e1 e2
                  exact (hb.cell (p := ⟨gk, ofk + jj, none⟩) hlt').trans (hxx jj u hu)
                refine Held.ways_start (fun W => W.heap[w.heap.size + 1]? = some (.cells #[.int .i64 1, .slice (some ⟨gk, ofk, none⟩) ks.length m, .slice none 0 0, .slice none 0 0, .int .i64 0, .int .i64 0, .int .i64 0, .int .i64 0] 26 (0, 0))) (fun k => decide (k < 14)) (by kernel_rfl) ?_
                have HS : wr.drew.heap[w.heap.size + 1]? = some (.cells #[.int .i64 1, .slice (some ⟨gk, ofk, none⟩) ks.length m, .slice none 0 0, .slice none 0 0, .int .i64 0, .int .i64 0, .int .i64 0, .int .i64 0] 26 (0, 0)) := HR1.out
                clear f0 f1 f2 f3 f4 f5 f6 f7 f8
                refine Held.Ways.take (i := 1) (oi := ?o10) ?v10 ?hi10 ?hs10 ?hf10 ?hlw10 ?hr10 ?hQ10 HS ?hy10 ?rest10
                case hi10 => exact rfl
                case hs10 => kernel_rfl
                case hf10 => kernel_rfl
                case hlw10 => kernel_rfl
                case hr10 => kernel_rfl
                case hQ10 => exact fun _ _ _ h => h
                case hy10 =>
                  refine .inl ⟨by rfl, fun W hW => ?_⟩
                  obtain ⟨f0, f1, f2, f3, f4, f5, f6, f7, f8⟩ := row8_facts hW
                  go_simp
                  try with_reducible rfl
                try simp only [Act.put, List.setIfInBounds_toArray, List.set_cons_zero, List.set_cons_succ]
                refine Held.Ways.take (i := 2) (oi := ?o11) ?v11 ?hi11 ?hs11 ?hf11 ?hlw11 ?hr11 ?hQ11 HS ?hy11 ?rest11
                case hi11 => exact rfl
                case hs11 => kernel_rfl
                case hf11 => kernel_rfl
                case hlw11 => kernel_rfl
                case hr11 => kernel_rfl
                case hQ11 => exact fun _ _ _ h => h
                case hy11 =>
                  refine .inl ⟨by rfl, fun W hW => ?_⟩
                  obtain ⟨f0, f1, f2, f3, f4, f5, f6, f7, f8⟩ := row8_facts hW
                  go_simp
                  try with_reducible rfl
                try simp only [Act.put, List.setIfInBounds_toArray, List.set_cons_zero, List.set_cons_succ]
                refine Held.Ways.take (i := 3) (oi := ?o12) ?v12 ?hi12 ?hs12 ?hf12 ?hlw12 ?hr12 ?hQ12 HS ?hy12 ?rest12
                case hi12 => exact rfl
                case hs12 => kernel_rfl
                case hf12 => kernel_rfl
                case hlw12 => kernel_rfl
                case hr12 => kernel_rfl
                case hQ12 => exact fun _ _ _ h => h
                case hy12 =>
                  refine .inl ⟨by rfl, fun W hW => ?_⟩
                  obtain ⟨f0, f1, f2, f3, f4, f5, f6, f7, f8⟩ := row8_facts hW
                  go_simp
                  try with_reducible rfl
                try simp only [Act.put, List.setIfInBounds_toArray, List.set_cons_zero, List.set_cons_succ]
                refine Held.Ways.take (i := 4) (oi := ?o13) ?v13 ?hi13 ?hs13 ?hf13 ?hlw13 ?hr13 ?hQ13 HS ?hy13 ?rest13
                case hi13 => exact rfl
                case hs13 => kernel_rfl
                case hf13 => kernel_rfl
                case hlw13 => kernel_rfl
                case hr13 => kernel_rfl
                case hQ13 => exact fun _ _ _ h => h
                case hy13 =>
                  refine .inl ⟨by rfl, fun W hW => ?_⟩
                  obtain ⟨f0, f1, f2, f3, f4, f5, f6, f7, f8⟩ := row8_facts hW
                  go_simp
                  try with_reducible rfl
                try simp only [Act.put, List.setIfInBounds_toArray, List.set_cons_zero, List.set_cons_succ]
                refine Held.Ways.take (i := 6) (oi := ?o14) ?v14 ?hi14 ?hs14 ?hf14 ?hlw14 ?hr14 ?hQ14 HS ?hy14 ?rest14
                case hi14 => exact rfl
                case hs14 => kernel_rfl
                case hf14 => kernel_rfl
                case hlw14 => kernel_rfl
                case hr14 => kernel_rfl
                case hQ14 => exact fun _ _ _ h => h
                case hy14 =>
                  refine .inl ⟨by rfl, fun W hW => ?_⟩
                  obtain ⟨f0, f1, f2, f3, f4, f5, f6, f7, f8⟩ := row8_facts hW
                  go_simp
                  try with_reducible rfl
                try simp only [Act.put, List.setIfInBounds_toArray, List.set_cons_zero, List.set_cons_succ]
                refine Held.Ways.take (i := 9) (oi := ?o15) ?v15 ?hi15 ?hs15 ?hf15 ?hlw15 ?hr15 ?hQ15 HS ?hy15 ?rest15
                case hi15 => exact rfl
                case hs15 => kernel_rfl
                case hf15 => kernel_rfl
                case hlw15 => kernel_rfl
                case hr15 => kernel_rfl
                case hQ15 => exact fun _ _ _ h => h
                case hy15 =>
                  refine .inl ⟨by rfl, fun W hW => ?_⟩
                  obtain ⟨f0, f1, f2, f3, f4, f5, f6, f7, f8⟩ := row8_facts hW
                  go_simp
                  try with_reducible rfl
                try simp only [Act.put, List.setIfInBounds_toArray, List.set_cons_zero, List.set_cons_succ]
                refine Held.Ways.take (i := 10) (oi := ?o16) ?v16 ?hi16 ?hs16 ?hf16 ?hlw16 ?hr16 ?hQ16 HS ?hy16 ?rest16
                case hi16 => exact rfl
                case hs16 => kernel_rfl
                case hf16 => kernel_rfl
                case hlw16 => kernel_rfl
                case hr16 => kernel_rfl
                case hQ16 => exact fun _ _ _ h => h
                case hy16 =>
                  refine .inl ⟨by rfl, fun W hW => ?_⟩
                  obtain ⟨f0, f1, f2, f3, f4, f5, f6, f7, f8⟩ := row8_facts hW
                  go_simp
                  try with_reducible rfl
                try simp only [Act.put, List.setIfInBounds_toArray, List.set_cons_zero, List.set_cons_succ]
                refine Held.Ways.take (i := 11) (oi := ?o17) ?v17 ?hi17 ?hs17 ?hf17 ?hlw17 ?hr17 ?hQ17 HS ?hy17 ?rest17
                case hi17 => exact rfl
                case hs17 => kernel_rfl
                case hf17 => kernel_rfl
                case hlw17 => kernel_rfl
                case hr17 => kernel_rfl
                case hQ17 => exact fun _ _ _ h => h
                case hy17 =>
                  refine .inl ⟨by rfl, fun W hW => ?_⟩
                  obtain ⟨f0, f1, f2, f3, f4, f5, f6, f7, f8⟩ := row8_facts hW
                  go_simp
                  try with_reducible rfl
                try simp only [Act.put, List.setIfInBounds_toArray, List.set_cons_zero, List.set_cons_succ]
                refine Held.Ways.take (i := 12) (oi := ?o18) ?v18 ?hi18 ?hs18 ?hf18 ?hlw18 ?hr18 ?hQ18 HS ?hy18 ?rest18
                case hi18 => exact rfl
                case hs18 => kernel_rfl
                case hf18 => kernel_rfl
                case hlw18 => kernel_rfl
                case hr18 => kernel_rfl
                case hQ18 => exact fun _ _ _ h => h
                case hy18 =>
                  refine .inl ⟨by rfl, fun W hW => ?_⟩
                  obtain ⟨f0, f1, f2, f3, f4, f5, f6, f7, f8⟩ := row8_facts hW
                  go_simp
                  try with_reducible rfl
                try simp only [Act.put, List.setIfInBounds_toArray, List.set_cons_zero, List.set_cons_succ]
                refine Held.Ways.two (i := 0) (j := 7) (by rfl) (by rfl) (by kernel_rfl) (fun K hK => ?_) (fun K hK => ?_)
                · have HJa : Hid (Below wr.heap.size wr (wr.alloc (.cells #[] 9)).drew) := ((Below.refl _ wr).alloc (Nat.le_refl _) _).drew
                  go_simp
                  refine hK.out _ _ (fun _ => HSJ.out _ HJa.out) ?_
                  clear hK K
                  try simp only [Act.put, List.setIfInBounds_toArray, List.set_cons_zero, List.set_cons_succ]
                  refine Held.Ways.two (i := 5) (j := 7) (by rfl) (by rfl) (by kernel_rfl) (fun K hK => ?_) (fun K hK => ?_)
                  · refine step_append rfl _ _ 22 22 rfl (by simp [Act.eval, Act.put]) (by simp [Act.eval, Act.put]) (app_any (wr := wr) (W := (wr.alloc (.cells #[] 9)).drew) (n := 0) (xs := []) (A := (some ⟨gk, ofk, none⟩)) (m := m) (c := m) (ys := ks.take m) (own_empty (W := wr) (Nat.le_refl _)) HJa.out (by simp; omega) (fun _ => ⟨gk, ofk, rfl, fun jj u hu => HCL.out _ HJa.out jj u (take_at hu)⟩) (by omega) _) ?_
                    rintro v5 W5 ⟨⟨A5, c5, rfl⟩, ho5, hj5, hf5⟩
                    have HO5 := Lib.hid ho5
                    have HJ5 := Lib.hid hj5
                    have HF5 := Lib.hid hf5
                    clear ho5 hj5 hf5
                    refine hK.out _ _ (fun _ => HSJ.out _ HJ5.out) ?_
                    clear hK K
                    try simp only [Act.put, List.setIfInBounds_toArray, List.set_cons_zero, List.set_cons_succ]
                    refine Held.Ways.one (i := 7) (by rfl) (by kernel_rfl) (fun K hK => ?_)
                    have HJ7 : Hid (Below wr.heap.size wr (W5.alloc (.cells #[.string k] 9))) := HJ5.out.alloc HJ5.out.size _
                    go_simp
                    refine hK.out _ _ (fun _ => HSJ.out _ HJ7.out) ?_
                    clear hK K
                    try simp only [Act.put, List.setIfInBounds_toArray, List.set_cons_zero, List.set_cons_succ]
                    refine Held.Ways.one (i := 8) (by rfl) (by kernel_rfl) (fun K hK => ?_)
                    refine step_append rfl _ _ 22 22 rfl (by simp [Act.eval, Act.put]) (by simp [Act.eval, Act.put]) (app_any (wr := wr) (W := (W5.alloc (.cells #[.string k] 9))) (n := 0 + m) (xs := [] ++ ks.take m) (A := some ⟨W5.heap.size, 0, none⟩) (m := 1) (c := 1) (ys := [k]) (HO5.out.alloc _) HJ7.out rfl (fun _ => ⟨_, 0, rfl, fun jj u hu => by rw [Nat.zero_add, cell_of_row _ _ _ _ _ _ (heap_alloc_new W5 _)]; simpa [sc] using hu⟩) (by omega) _) ?_
                    rintro v8 W8 ⟨⟨A8, c8, rfl⟩, ho8, hj8, hf8⟩
                    have HO8 := Lib.hid ho8
                    have HJ8 := Lib.hid hj8
                    have HF8 := Lib.hid hf8
                    clear ho8 hj8 hf8
                    refine hK.out _ _ (fun _ => HSJ.out _ HJ8.out) ?_
                    clear hK K
                    try simp only [Act.put, List.setIfInBounds_toArray, List.set_cons_zero, List.set_cons_succ]
                    refine Held.Ways.one (i := 13) (by rfl) (by kernel_rfl) (fun K hK => ?_)
                    refine step_append rfl _ _ 22 22 rfl (by simp [Act.eval, Act.put]) (by simp [Act.eval, Act.put]) (app_any (wr := wr) (W := W8) (n := 0 + m + 1) (xs := [] ++ ks.take m ++ [k]) (A := (some ⟨gk, ofk, none⟩)) (m := 0) (c := 0) (ys := ks.drop m) (HO8.out) HJ8.out (by have h8 := HML.out; simp; omega) (fun h => absurd h (by omega)) (by omega) _) ?_
                    rintro v13 W13 ⟨⟨A13, c13, rfl⟩, ho13, hj13, hf13⟩
                    have HO13 := Lib.hid ho13
                    have HJ13 := Lib.hid hj13
                    have HF13 := Lib.hid hf13
                    clear ho13 hj13 hf13
                    refine hK.out _ _ (fun _ => HSJ.out _ HJ13.out) ?_
                    clear hK K
                    try simp only [Act.put, List.setIfInBounds_toArray, List.set_cons_zero, List.set_cons_succ]
                    refine Held.Ways.one (i := 14) (by rfl) (by kernel_rfl) (fun K hK => ?_)
                    go_simp
                    refine hK.out _ _ (fun h => absurd h (by decide)) ?_
                    clear hK K
                    try simp only [Act.put, List.setIfInBounds_toArray, List.set_cons_zero, List.set_cons_succ]
                    obtain ⟨f0, f1, f2, f3, f4, f5, f6, f7, f8⟩ := row8_facts (HSJ.out _ HJ13.out)
                    refine Held.Ways.one (i := 15) (by rfl) (by kernel_rfl) (fun K hK => ?_)
                    go_simp
                    refine hK.out _ _ (fun h => absurd h (by decide)) ?_
                    clear hK K
                    try simp only [Act.put, List.setIfInBounds_toArray, List.set_cons_zero, List.set_cons_succ]
                    refine Held.Ways.done (by kernel_rfl) ?_ _
                    have hnew : leafK (keys.take (j + 1)) = [] ++ ks.take m ++ [k] ++ ks.drop m := by
                      have hnh : ¬ here (kp ks) k = true := fun hh => by
                        obtain ⟨p', hp', _⟩ := (here_at HRI.out k).1 hh
                        have h9 := (List.getElem?_eq_some_iff.1 hp').1
                        rw [kp_len, ← HM.out] at h9
                        omega
                      rw [List.take_add_one, HK.out]
                      show leafK (keys.take j ++ [k]) = _
                      rw [leafK_snoc, ← HKS.out, insK, if_neg hnh, ← HM.out]
                      simp
                    have hlen : ([] ++ ks.take m ++ [k] ++ ks.drop m).length = 0 + m + 1 + 0 := by have h8 := HML.out; simp; omega
                    have HNEW := Lib.hid hnew
                    have HLEEN := Lib.hid hlen
                    have HRW : Hid (∀ u, (W13.setCell ⟨w.heap.size + 1, 1, none⟩ u).heap[w.heap.size + 1]? = some (.cells #[.int .i64 1, u, .slice none 0 0, .slice none 0 0, .int .i64 0, .int .i64 0, .int .i64 0, .int .i64 0] 26 (0, 0))) := fun u => by
                      have := heap_setCell_same W13 (w.heap.size + 1) 1 _ _ u (HSJ.out _ HJ13.out)
                      simpa using this
                    have hwb : w.heap.size + 1 < wr.heap.size := (Array.getElem?_eq_some_iff.1 HR1.out).1
                    have HB13 : Hid (Below w.heap.size w W13) := HBL.out.trans (HJ13.out.mono HBL.out.size)
                    have HOW : Hid (∀ u, Own (W13.setCell ⟨w.heap.size + 1, 1, none⟩ u) (w.heap.size + 2) 9 1 (.slice A13 (0 + m + 1 + 0) c13) (0 + m + 1 + 0) (sc ([] ++ ks.take m ++ [k] ++ ks.drop m))) := fun u =>
                      (HO13.out.base_ (base' := w.heap.size + 2) (fun g hg => by have := (HO13.out.lt g hg).1; have := HBL.out.size; omega)).kept fun g hg => Below.heap_setCell _ _ _ _ (by have := (HO13.out.lt g hg).1; show g ≠ w.heap.size + 1; omega)
                    clear hnew hlen
                    go_wp2_with fail
                    go_roundw
                    case rel =>
                      refine ⟨j + 1, _, by omega, by go_num, ?_, ?_, HRW.out _, below_set HB13.out (Nat.le_succ _) _, .inr (by rw [HNEW.out, HLEEN.out]; omega)⟩
                      · rw [HNEW.out, HLEEN.out]
                        have := HOW.out (.slice A13 (0 + m + 1 + 0) c13)
                        simpa only [Nat.zero_add] using this
                      · rw [Below.heap_setCell _ _ _ _ (by show w.heap.size ≠ w.heap.size + 1; omega), HJ13.out.block _ (by omega)]; exact HR0.out
                    case measure => simp [intOf]; omega
                  · have HJ7 : Hid (Below wr.heap.size wr ((wr.alloc (.cells #[] 9)).alloc (.cells #[.string k] 9)).drew) := (((Below.refl _ wr).alloc (Nat.le_refl _) _).alloc (by simp) _).drew
                    go_simp
                    refine hK.out _ _ (fun _ => HSJ.out _ HJ7.out) ?_
                    clear hK K
                    try simp only [Act.put, List.setIfInBounds_toArray, List.set_cons_zero, List.set_cons_succ]
                    refine Held.Ways.one (i := 5) (by rfl) (by kernel_rfl) (fun K hK => ?_)
                    refine step_append rfl _ _ 22 22 rfl (by simp [Act.eval, Act.put]) (by simp [Act.eval, Act.put]) (app_any (wr := wr) (W := ((wr.alloc (.cells #[] 9)).alloc (.cells #[.string k] 9)).drew) (n := 0) (xs := []) (A := (some ⟨gk, ofk, none⟩)) (m := m) (c := m) (ys := ks.take m) ((own_empty (W := wr) (Nat.le_refl _)).alloc _) HJ7.out (by simp; omega) (fun _ => ⟨gk, ofk, rfl, fun jj u hu => HCL.out _ HJ7.out jj u (take_at hu)⟩) (by omega) _) ?_
                    rintro v5 W5 ⟨⟨A5, c5, rfl⟩, ho5, hj5, hf5⟩
                    have HO5 := Lib.hid ho5
                    have HJ5 := Lib.hid hj5
                    have HF5 := Lib.hid hf5
                    clear ho5 hj5 hf5
                    refine hK.out _ _ (fun _ => HSJ.out _ HJ5.out) ?_
                    clear hK K
                    try simp only [Act.put, List.setIfInBounds_toArray, List.set_cons_zero, List.set_cons_succ]
                    refine Held.Ways.one (i := 8) (by rfl) (by kernel_rfl) (fun K hK => ?_)
                    refine step_append rfl _ _ 22 22 rfl (by simp [Act.eval, Act.put]) (by simp [Act.eval, Act.put]) (app_any (wr := wr) (W := W5) (n := 0 + m) (xs := [] ++ ks.take m) (A := some ⟨wr.heap.size + 1, 0, none⟩) (m := 1) (c := 1) (ys := [k]) (HO5.out) HJ5.out rfl (fun _ => ⟨_, 0, rfl, fun jj u hu => (HF5.out.cell (p := ⟨wr.heap.size + 1, 0 + jj, none⟩) (by have h9 := heap_alloc_new (wr.alloc (.cells #[] 9)) (.cells #[.string k] 9); simp only [World.size_alloc] at h9; rw [Nat.zero_add]; exact (cell_of_row _ _ _ _ _ _ h9).trans (by simpa [sc] using hu)) (fun e => by simp [Value.ownBlock] at e))⟩) (by omega) _) ?_
                    rintro v8 W8 ⟨⟨A8, c8, rfl⟩, ho8, hj8, hf8⟩
                    have HO8 := Lib.hid ho8
                    have HJ8 := Lib.hid hj8
                    have HF8 := Lib.hid hf8
                    clear ho8 hj8 hf8
                    refine hK.out _ _ (fun _ => HSJ.out _ HJ8.out) ?_
                    clear hK K
                    try simp only [Act.put, List.setIfInBounds_toArray, List.set_cons_zero, List.set_cons_succ]
                    refine Held.Ways.one (i := 13) (by rfl) (by kernel_rfl) (fun K hK => ?_)
                    refine step_append rfl _ _ 22 22 rfl (by simp [Act.eval, Act.put]) (by simp [Act.eval, Act.put]) (app_any (wr := wr) (W := W8) (n := 0 + m + 1) (xs := [] ++ ks.take m ++ [k]) (A := (some ⟨gk, ofk, none⟩)) (m := 0) (c := 0) (ys := ks.drop m) (HO8.out) HJ8.out (by have h8 := HML.out; simp; omega) (fun h => absurd h (by omega)) (by omega) _) ?_
                    rintro v13 W13 ⟨⟨A13, c13, rfl⟩, ho13, hj13, hf13⟩
                    have HO13 := Lib.hid ho13
                    have HJ13 := Lib.hid hj13
                    have HF13 := Lib.hid hf13
                    clear ho13 hj13 hf13
                    refine hK.out _ _ (fun _ => HSJ.out _ HJ13.out) ?_
                    clear hK K
                    try simp only [Act.put, List.setIfInBounds_toArray, List.set_cons_zero, List.set_cons_succ]
                    refine Held.Ways.one (i := 14) (by rfl) (by kernel_rfl) (fun K hK => ?_)
                    go_simp
                    refine hK.out _ _ (fun h => absurd h (by decide)) ?_
                    clear hK K
                    try simp only [Act.put, List.setIfInBounds_toArray, List.set_cons_zero, List.set_cons_succ]
                    obtain ⟨f0, f1, f2, f3, f4, f5, f6, f7, f8⟩ := row8_facts (HSJ.out _ HJ13.out)
                    refine Held.Ways.one (i := 15) (by rfl) (by kernel_rfl) (fun K hK => ?_)
                    go_simp
                    refine hK.out _ _ (fun h => absurd h (by decide)) ?_
                    clear hK K
                    try simp only [Act.put, List.setIfInBounds_toArray, List.set_cons_zero, List.set_cons_succ]
                    refine Held.Ways.done (by kernel_rfl) ?_ _
                    have hnew : leafK (keys.take (j + 1)) = [] ++ ks.take m ++ [k] ++ ks.drop m := by
                      have hnh : ¬ here (kp ks) k = true := fun hh => by
                        obtain ⟨p', hp', _⟩ := (here_at HRI.out k).1 hh
                        have h9 := (List.getElem?_eq_some_iff.1 hp').1
                        rw [kp_len, ← HM.out] at h9
                        omega
                      rw [List.take_add_one, HK.out]
                      show leafK (keys.take j ++ [k]) = _
                      rw [leafK_snoc, ← HKS.out, insK, if_neg hnh, ← HM.out]
                      simp
                    have hlen : ([] ++ ks.take m ++ [k] ++ ks.drop m).length = 0 + m + 1 + 0 := by have h8 := HML.out; simp; omega
                    have HNEW := Lib.hid hnew
                    have HLEEN := Lib.hid hlen
                    have HRW : Hid (∀ u, (W13.setCell ⟨w.heap.size + 1, 1, none⟩ u).heap[w.heap.size + 1]? = some (.cells #[.int .i64 1, u, .slice none 0 0, .slice none 0 0, .int .i64 0, .int .i64 0, .int .i64 0, .int .i64 0] 26 (0, 0))) := fun u => by
                      have := heap_setCell_same W13 (w.heap.size + 1) 1 _ _ u (HSJ.out _ HJ13.out)
                      simpa using this
                    have hwb : w.heap.size + 1 < wr.heap.size := (Array.getElem?_eq_some_iff.1 HR1.out).1
                    have HB13 : Hid (Below w.heap.size w W13) := HBL.out.trans (HJ13.out.mono HBL.out.size)
                    have HOW : Hid (∀ u, Own (W13.setCell ⟨w.heap.size + 1, 1, none⟩ u) (w.heap.size + 2) 9 1 (.slice A13 (0 + m + 1 + 0) c13) (0 + m + 1 + 0) (sc ([] ++ ks.take m ++ [k] ++ ks.drop m))) := fun u =>
                      (HO13.out.base_ (base' := w.heap.size + 2) (fun g hg => by have := (HO13.out.lt g hg).1; have := HBL.out.size; omega)).kept fun g hg => Below.heap_setCell _ _ _ _ (by have := (HO13.out.lt g hg).1; show g ≠ w.heap.size + 1; omega)
                    clear hnew hlen
                    go_wp2_with fail
                    go_roundw
                    case rel =>
                      refine ⟨j + 1, _, by omega, by go_num, ?_, ?_, HRW.out _, below_set HB13.out (Nat.le_succ _) _, .inr (by rw [HNEW.out, HLEEN.out]; omega)⟩
                      · rw [HNEW.out, HLEEN.out]
                        have := HOW.out (.slice A13 (0 + m + 1 + 0) c13)
                        simpa only [Nat.zero_add] using this
                      · rw [Below.heap_setCell _ _ _ _ (by show w.heap.size ≠ w.heap.size + 1; omega), HJ13.out.block _ (by omega)]; exact HR0.out
                    case measure => simp [intOf]; omega
                · have HJb : Hid (Below wr.heap.size wr (wr.alloc (.cells #[.string k] 9)).drew) := ((Below.refl _ wr).alloc (Nat.le_refl _) _).drew
                  go_simp
                  refine hK.out _ _ (fun _ => HSJ.out _ HJb.out) ?_
                  clear hK K
                  try simp only [Act.put, List.setIfInBounds_toArray, List.set_cons_zero, List.set_cons_succ]
                  refine Held.Ways.one (i := 0) (by rfl) (by kernel_rfl) (fun K hK => ?_)
                  have HJ7 : Hid (Below wr.heap.size wr ((wr.alloc (.cells #[.string k] 9)).alloc (.cells #[] 9)).drew) := (((Below.refl _ wr).alloc (Nat.le_refl _) _).alloc (by simp) _).drew
                  go_simp
                  refine hK.out _ _ (fun _ => HSJ.out _ HJ7.out) ?_
                  clear hK K
                  try simp only [Act.put, List.setIfInBounds_toArray, List.set_cons_zero, List.set_cons_succ]
                  refine Held.Ways.one (i := 5) (by rfl) (by kernel_rfl) (fun K hK => ?_)
                  refine step_append rfl _ _ 22 22 rfl (by simp [Act.eval, Act.put]) (by simp [Act.eval, Act.put]) (app_any (wr := wr) (W := ((wr.alloc (.cells #[.string k] 9)).alloc (.cells #[] 9)).drew) (v := .slice (some ⟨wr.heap.size + 1, 0, none⟩) 0 0) (n := 0) (xs := []) (A := (some ⟨gk, ofk, none⟩)) (m := m) (c := m) (ys := ks.take m) (by have h9 := own_empty (W := wr.alloc (.cells #[.string k] 9)) (base := wr.heap.size) (by simp); simp only [World.size_alloc] at h9; exact h9) HJ7.out (by simp; omega) (fun _ => ⟨gk, ofk, rfl, fun jj u hu => HCL.out _ HJ7.out jj u (take_at hu)⟩) (by omega) _) ?_
                  rintro v5 W5 ⟨⟨A5, c5, rfl⟩, ho5, hj5, hf5⟩
                  have HO5 := Lib.hid ho5
                  have HJ5 := Lib.hid hj5
                  have HF5 := Lib.hid hf5
                  clear ho5 hj5 hf5
                  refine hK.out _ _ (fun _ => HSJ.out _ HJ5.out) ?_
                  clear hK K
                  try simp only [Act.put, List.setIfInBounds_toArray, List.set_cons_zero, List.set_cons_succ]
                  refine Held.Ways.one (i := 8) (by rfl) (by kernel_rfl) (fun K hK => ?_)
                  refine step_append rfl _ _ 22 22 rfl (by simp [Act.eval, Act.put]) (by simp [Act.eval, Act.put]) (app_any (wr := wr) (W := W5) (n := 0 + m) (xs := [] ++ ks.take m) (A := some ⟨wr.heap.size, 0, none⟩) (m := 1) (c := 1) (ys := [k]) (HO5.out) HJ5.out rfl (fun _ => ⟨_, 0, rfl, fun jj u hu => (HF5.out.cell (p := ⟨wr.heap.size, 0 + jj, none⟩) (by have h9 := (Below.heap_alloc (wr.alloc (.cells #[.string k] 9)) (.cells #[] 9) wr.heap.size (by simp)).trans (heap_alloc_new wr _); rw [Nat.zero_add]; exact (cell_of_row _ _ _ _ _ _ h9).trans (by simpa [sc] using hu)) (fun e => by simp [Value.ownBlock] at e))⟩) (by omega) _) ?_
                  rintro v8 W8 ⟨⟨A8, c8, rfl⟩, ho8, hj8, hf8⟩
                  have HO8 := Lib.hid ho8
                  have HJ8 := Lib.hid hj8
                  have HF8 := Lib.hid hf8
                  clear ho8 hj8 hf8
                  refine hK.out _ _ (fun _ => HSJ.out _ HJ8.out) ?_
                  clear hK K
                  try simp only [Act.put, List.setIfInBounds_toArray, List.set_cons_zero, List.set_cons_succ]
                  refine Held.Ways.one (i := 13) (by rfl) (by kernel_rfl) (fun K hK => ?_)
                  refine step_append rfl _ _ 22 22 rfl (by simp [Act.eval, Act.put]) (by simp [Act.eval, Act.put]) (app_any (wr := wr) (W := W8) (n := 0 + m + 1) (xs := [] ++ ks.take m ++ [k]) (A := (some ⟨gk, ofk, none⟩)) (m := 0) (c := 0) (ys := ks.drop m) (HO8.out) HJ8.out (by have h8 := HML.out; simp; omega) (fun h => absurd h (by omega)) (by omega) _) ?_
                  rintro v13 W13 ⟨⟨A13, c13, rfl⟩, ho13, hj13, hf13⟩
                  have HO13 := Lib.hid ho13
                  have HJ13 := Lib.hid hj13
                  have HF13 := Lib.hid hf13
                  clear ho13 hj13 hf13
                  refine hK.out _ _ (fun _ => HSJ.out _ HJ13.out) ?_
                  clear hK K
                  try simp only [Act.put, List.setIfInBounds_toArray, List.set_cons_zero, List.set_cons_succ]
                  refine Held.Ways.one (i := 14) (by rfl) (by kernel_rfl) (fun K hK => ?_)
                  go_simp
                  refine hK.out _ _ (fun h => absurd h (by decide)) ?_
                  clear hK K
                  try simp only [Act.put, List.setIfInBounds_toArray, List.set_cons_zero, List.set_cons_succ]
                  obtain ⟨f0, f1, f2, f3, f4, f5, f6, f7, f8⟩ := row8_facts (HSJ.out _ HJ13.out)
                  refine Held.Ways.one (i := 15) (by rfl) (by kernel_rfl) (fun K hK => ?_)
                  go_simp
                  refine hK.out _ _ (fun h => absurd h (by decide)) ?_
                  clear hK K
                  try simp only [Act.put, List.setIfInBounds_toArray, List.set_cons_zero, List.set_cons_succ]
                  refine Held.Ways.done (by kernel_rfl) ?_ _
                  have hnew : leafK (keys.take (j + 1)) = [] ++ ks.take m ++ [k] ++ ks.drop m := by
                    have hnh : ¬ here (kp ks) k = true := fun hh => by
                      obtain ⟨p', hp', _⟩ := (here_at HRI.out k).1 hh
                      have h9 := (List.getElem?_eq_some_iff.1 hp').1
                      rw [kp_len, ← HM.out] at h9
                      omega
                    rw [List.take_add_one, HK.out]
                    show leafK (keys.take j ++ [k]) = _
                    rw [leafK_snoc, ← HKS.out, insK, if_neg hnh, ← HM.out]
                    simp
                  have hlen : ([] ++ ks.take m ++ [k] ++ ks.drop m).length = 0 + m + 1 + 0 := by have h8 := HML.out; simp; omega
                  have HNEW := Lib.hid hnew
                  have HLEEN := Lib.hid hlen
                  have HRW : Hid (∀ u, (W13.setCell ⟨w.heap.size + 1, 1, none⟩ u).heap[w.heap.size + 1]? = some (.cells #[.int .i64 1, u, .slice none 0 0, .slice none 0 0, .int .i64 0, .int .i64 0, .int .i64 0, .int .i64 0] 26 (0, 0))) := fun u => by
                    have := heap_setCell_same W13 (w.heap.size + 1) 1 _ _ u (HSJ.out _ HJ13.out)
                    simpa using this
                  have hwb : w.heap.size + 1 < wr.heap.size := (Array.getElem?_eq_some_iff.1 HR1.out).1
                  have HB13 : Hid (Below w.heap.size w W13) := HBL.out.trans (HJ13.out.mono HBL.out.size)
                  have HOW : Hid (∀ u, Own (W13.setCell ⟨w.heap.size + 1, 1, none⟩ u) (w.heap.size + 2) 9 1 (.slice A13 (0 + m + 1 + 0) c13) (0 + m + 1 + 0) (sc ([] ++ ks.take m ++ [k] ++ ks.drop m))) := fun u =>
                    (HO13.out.base_ (base' := w.heap.size + 2) (fun g hg => by have := (HO13.out.lt g hg).1; have := HBL.out.size; omega)).kept fun g hg => Below.heap_setCell _ _ _ _ (by have := (HO13.out.lt g hg).1; show g ≠ w.heap.size + 1; omega)
                  clear hnew hlen
                  go_wp2_with fail
                  go_roundw
                  case rel =>
                    refine ⟨j + 1, _, by omega, by go_num, ?_, ?_, HRW.out _, below_set HB13.out (Nat.le_succ _) _, .inr (by rw [HNEW.out, HLEEN.out]; omega)⟩
                    · rw [HNEW.out, HLEEN.out]
                      have := HOW.out (.slice A13 (0 + m + 1 + 0) c13)
                      simpa only [Nat.zero_add] using this
                    · rw [Below.heap_setCell _ _ _ _ (by show w.heap.size ≠ w.heap.size + 1; omega), HJ13.out.block _ (by omega)]; exact HR0.out
                  case measure => simp [intOf]; omega

              · have HML : Hid (m = ks.length) := Lib.hid (by omega)
                go_wp2_with fail
                have HSJ : Hid (∀ W, Below wr.heap.size wr W → W.heap[w.heap.size + 1]? = some (.cells #[.int .i64 1, .slice (some ⟨gk, ofk, none⟩) ks.length ck, .slice none 0 0, .slice none 0 0, .int .i64 0, .int .i64 0, .int .i64 0, .int .i64 0] 26 (0, 0))) := fun W hb => (hb.block _ (by have := (Array.getElem?_eq_some_iff.1 HR1.out).1; exact this)).trans HR1.out
                have HJ0 : Hid (Below wr.heap.size wr wr.drew) := (Below.refl _ wr).drew
                have HCL : Hid (∀ W, Below wr.heap.size wr W → ∀ jj u, (sc ks)[jj]? = some u → W.cell? ⟨gk, ofk + jj, none⟩ = some u) := fun W hb jj u hu => by
                  obtain ⟨gk', ofk', cz, e, hlt', _, _, hxx⟩ := HOWN.out.rd.cells (by omega)
                  injection e with e1 _ _
                  injection e1 with e1
                  injection e1 with e1 e2
                  subst e1 e2
                  exact (hb.cell (p := ⟨gk, ofk + jj, none⟩) hlt').trans (hxx jj u hu)
                refine Held.ways_start (fun W => W.heap[w.heap.size + 1]? = some (.cells #[.int .i64 1, .slice (some ⟨gk, ofk, none⟩) ks.length ck, .slice none 0 0, .slice none 0 0, .int .i64 0, .int .i64 0, .int .i64 0, .int .i64 0] 26 (0, 0))) (fun k => decide (k < 14)) (by kernel_rfl) ?_
                have HS : wr.drew.heap[w.heap.size + 1]? = some (.cells #[.int .i64 1, .slice (some ⟨gk, ofk, none⟩) ks.length ck, .slice none 0 0, .slice none 0 0, .int .i64 0, .int .i64 0, .int .i64 0, .int .i64 0] 26 (0, 0)) := HR1.out
                clear f0 f1 f2 f3 f4 f5 f6 f7 f8
                refine Held.Ways.take (i := 1) (oi := ?o19) ?v19 ?hi19 ?hs19 ?hf19 ?hlw19 ?hr19 ?hQ19 HS ?hy19 ?rest19
                case hi19 => exact rfl
                case hs19 => kernel_rfl
                case hf19 => kernel_rfl
                case hlw19 => kernel_rfl
                case hr19 => kernel_rfl
                case hQ19 => exact fun _ _ _ h => h
                case hy19 =>
                  refine .inl ⟨by rfl, fun W hW => ?_⟩
                  obtain ⟨f0, f1, f2, f3, f4, f5, f6, f7, f8⟩ := row8_facts hW
                  go_simp
                  try with_reducible rfl
                try simp only [Act.put, List.setIfInBounds_toArray, List.set_cons_zero, List.set_cons_succ]
                refine Held.Ways.take (i := 2) (oi := ?o20) ?v20 ?hi20 ?hs20 ?hf20 ?hlw20 ?hr20 ?hQ20 HS ?hy20 ?rest20
                case hi20 => exact rfl
                case hs20 => kernel_rfl
                case hf20 => kernel_rfl
                case hlw20 => kernel_rfl
                case hr20 => kernel_rfl
                case hQ20 => exact fun _ _ _ h => h
                case hy20 =>
                  refine .inl ⟨by rfl, fun W hW => ?_⟩
                  obtain ⟨f0, f1, f2, f3, f4, f5, f6, f7, f8⟩ := row8_facts hW
                  go_simp
                  try with_reducible rfl
                try simp only [Act.put, List.setIfInBounds_toArray, List.set_cons_zero, List.set_cons_succ]
                refine Held.Ways.take (i := 3) (oi := ?o21) ?v21 ?hi21 ?hs21 ?hf21 ?hlw21 ?hr21 ?hQ21 HS ?hy21 ?rest21
                case hi21 => exact rfl
                case hs21 => kernel_rfl
                case hf21 => kernel_rfl
                case hlw21 => kernel_rfl
                case hr21 => kernel_rfl
                case hQ21 => exact fun _ _ _ h => h
                case hy21 =>
                  refine .inl ⟨by rfl, fun W hW => ?_⟩
                  obtain ⟨f0, f1, f2, f3, f4, f5, f6, f7, f8⟩ := row8_facts hW
                  go_simp
                  try with_reducible rfl
                try simp only [Act.put, List.setIfInBounds_toArray, List.set_cons_zero, List.set_cons_succ]
                refine Held.Ways.take (i := 4) (oi := ?o22) ?v22 ?hi22 ?hs22 ?hf22 ?hlw22 ?hr22 ?hQ22 HS ?hy22 ?rest22
                case hi22 => exact rfl
                case hs22 => kernel_rfl
                case hf22 => kernel_rfl
                case hlw22 => kernel_rfl
                case hr22 => kernel_rfl
                case hQ22 => exact fun _ _ _ h => h
                case hy22 =>
                  refine .inl ⟨by rfl, fun W hW => ?_⟩
                  obtain ⟨f0, f1, f2, f3, f4, f5, f6, f7, f8⟩ := row8_facts hW
                  go_simp
                  try with_reducible rfl
                try simp only [Act.put, List.setIfInBounds_toArray, List.set_cons_zero, List.set_cons_succ]
                refine Held.Ways.take (i := 6) (oi := ?o23) ?v23 ?hi23 ?hs23 ?hf23 ?hlw23 ?hr23 ?hQ23 HS ?hy23 ?rest23
                case hi23 => exact rfl
                case hs23 => kernel_rfl
                case hf23 => kernel_rfl
                case hlw23 => kernel_rfl
                case hr23 => kernel_rfl
                case hQ23 => exact fun _ _ _ h => h
                case hy23 =>
                  refine .inl ⟨by rfl, fun W hW => ?_⟩
                  obtain ⟨f0, f1, f2, f3, f4, f5, f6, f7, f8⟩ := row8_facts hW
                  go_simp
                  try with_reducible rfl
                try simp only [Act.put, List.setIfInBounds_toArray, List.set_cons_zero, List.set_cons_succ]
                refine Held.Ways.take (i := 9) (oi := ?o24) ?v24 ?hi24 ?hs24 ?hf24 ?hlw24 ?hr24 ?hQ24 HS ?hy24 ?rest24
                case hi24 => exact rfl
                case hs24 => kernel_rfl
                case hf24 => kernel_rfl
                case hlw24 => kernel_rfl
                case hr24 => kernel_rfl
                case hQ24 => exact fun _ _ _ h => h
                case hy24 =>
                  refine .inl ⟨by rfl, fun W hW => ?_⟩
                  obtain ⟨f0, f1, f2, f3, f4, f5, f6, f7, f8⟩ := row8_facts hW
                  go_simp
                  try with_reducible rfl
                try simp only [Act.put, List.setIfInBounds_toArray, List.set_cons_zero, List.set_cons_succ]
                refine Held.Ways.take (i := 10) (oi := ?o25) ?v25 ?hi25 ?hs25 ?hf25 ?hlw25 ?hr25 ?hQ25 HS ?hy25 ?rest25
                case hi25 => exact rfl
                case hs25 => kernel_rfl
                case hf25 => kernel_rfl
                case hlw25 => kernel_rfl
                case hr25 => kernel_rfl
                case hQ25 => exact fun _ _ _ h => h
                case hy25 =>
                  refine .inl ⟨by rfl, fun W hW => ?_⟩
                  obtain ⟨f0, f1, f2, f3, f4, f5, f6, f7, f8⟩ := row8_facts hW
                  go_simp
                  try with_reducible rfl
                try simp only [Act.put, List.setIfInBounds_toArray, List.set_cons_zero, List.set_cons_succ]
                refine Held.Ways.take (i := 11) (oi := ?o26) ?v26 ?hi26 ?hs26 ?hf26 ?hlw26 ?hr26 ?hQ26 HS ?hy26 ?rest26
                case hi26 => exact rfl
                case hs26 => kernel_rfl
                case hf26 => kernel_rfl
                case hlw26 => kernel_rfl
                case hr26 => kernel_rfl
                case hQ26 => exact fun _ _ _ h => h
                case hy26 =>
                  refine .inl ⟨by rfl, fun W hW => ?_⟩
                  obtain ⟨f0, f1, f2, f3, f4, f5, f6, f7, f8⟩ := row8_facts hW
                  go_simp
                  try with_reducible rfl
                try simp only [Act.put, List.setIfInBounds_toArray, List.set_cons_zero, List.set_cons_succ]
                refine Held.Ways.take (i := 12) (oi := ?o27) ?v27 ?hi27 ?hs27 ?hf27 ?hlw27 ?hr27 ?hQ27 HS ?hy27 ?rest27
                case hi27 => exact rfl
                case hs27 => kernel_rfl
                case hf27 => kernel_rfl
                case hlw27 => kernel_rfl
                case hr27 => kernel_rfl
                case hQ27 => exact fun _ _ _ h => h
                case hy27 =>
                  refine .inl ⟨by rfl, fun W hW => ?_⟩
                  obtain ⟨f0, f1, f2, f3, f4, f5, f6, f7, f8⟩ := row8_facts hW
                  go_simp
                  try with_reducible rfl
                try simp only [Act.put, List.setIfInBounds_toArray, List.set_cons_zero, List.set_cons_succ]
                refine Held.Ways.two (i := 0) (j := 7) (by rfl) (by rfl) (by kernel_rfl) (fun K hK => ?_) (fun K hK => ?_)
                · have HJa : Hid (Below wr.heap.size wr (wr.alloc (.cells #[] 9)).drew) := ((Below.refl _ wr).alloc (Nat.le_refl _) _).drew
                  go_simp
                  refine hK.out _ _ (fun _ => HSJ.out _ HJa.out) ?_
                  clear hK K
                  try simp only [Act.put, List.setIfInBounds_toArray, List.set_cons_zero, List.set_cons_succ]
                  refine Held.Ways.two (i := 5) (j := 7) (by rfl) (by rfl) (by kernel_rfl) (fun K hK => ?_) (fun K hK => ?_)
                  · refine step_append rfl _ _ 22 22 rfl (by simp [Act.eval, Act.put]) (by simp [Act.eval, Act.put]) (app_any (wr := wr) (W := (wr.alloc (.cells #[] 9)).drew) (n := 0) (xs := []) (A := (some ⟨gk, ofk, none⟩)) (m := m) (c := ck) (ys := ks.take m) (own_empty (W := wr) (Nat.le_refl _)) HJa.out (by simp; omega) (fun _ => ⟨gk, ofk, rfl, fun jj u hu => HCL.out _ HJa.out jj u (take_at hu)⟩) (by omega) _) ?_
                    rintro v5 W5 ⟨⟨A5, c5, rfl⟩, ho5, hj5, hf5⟩
                    have HO5 := Lib.hid ho5
                    have HJ5 := Lib.hid hj5
                    have HF5 := Lib.hid hf5
                    clear ho5 hj5 hf5
                    refine hK.out _ _ (fun _ => HSJ.out _ HJ5.out) ?_
                    clear hK K
                    try simp only [Act.put, List.setIfInBounds_toArray, List.set_cons_zero, List.set_cons_succ]
                    refine Held.Ways.one (i := 7) (by rfl) (by kernel_rfl) (fun K hK => ?_)
                    have HJ7 : Hid (Below wr.heap.size wr (W5.alloc (.cells #[.string k] 9))) := HJ5.out.alloc HJ5.out.size _
                    go_simp
                    refine hK.out _ _ (fun _ => HSJ.out _ HJ7.out) ?_
                    clear hK K
                    try simp only [Act.put, List.setIfInBounds_toArray, List.set_cons_zero, List.set_cons_succ]
                    refine Held.Ways.one (i := 8) (by rfl) (by kernel_rfl) (fun K hK => ?_)
                    refine step_append rfl _ _ 22 22 rfl (by simp [Act.eval, Act.put]) (by simp [Act.eval, Act.put]) (app_any (wr := wr) (W := (W5.alloc (.cells #[.string k] 9))) (n := 0 + m) (xs := [] ++ ks.take m) (A := some ⟨W5.heap.size, 0, none⟩) (m := 1) (c := 1) (ys := [k]) (HO5.out.alloc _) HJ7.out rfl (fun _ => ⟨_, 0, rfl, fun jj u hu => by rw [Nat.zero_add, cell_of_row _ _ _ _ _ _ (heap_alloc_new W5 _)]; simpa [sc] using hu⟩) (by omega) _) ?_
                    rintro v8 W8 ⟨⟨A8, c8, rfl⟩, ho8, hj8, hf8⟩
                    have HO8 := Lib.hid ho8
                    have HJ8 := Lib.hid hj8
                    have HF8 := Lib.hid hf8
                    clear ho8 hj8 hf8
                    refine hK.out _ _ (fun _ => HSJ.out _ HJ8.out) ?_
                    clear hK K
                    try simp only [Act.put, List.setIfInBounds_toArray, List.set_cons_zero, List.set_cons_succ]
                    refine Held.Ways.one (i := 13) (by rfl) (by kernel_rfl) (fun K hK => ?_)
                    refine step_append rfl _ _ 22 22 rfl (by simp [Act.eval, Act.put]) (by simp [Act.eval, Act.put]) (app_any (wr := wr) (W := W8) (n := 0 + m + 1) (xs := [] ++ ks.take m ++ [k]) (A := (some ⟨gk, ofk + m, none⟩)) (m := (ks.length - m)) (c := (ck - m)) (ys := ks.drop m) (HO8.out) HJ8.out (by simp) (fun _ => ⟨gk, ofk + m, rfl, fun jj u hu => by rw [Nat.add_assoc]; exact HCL.out _ HJ8.out _ u (drop_at hu)⟩) (by omega) _) ?_
                    rintro v13 W13 ⟨⟨A13, c13, rfl⟩, ho13, hj13, hf13⟩
                    have HO13 := Lib.hid ho13
                    have HJ13 := Lib.hid hj13
                    have HF13 := Lib.hid hf13
                    clear ho13 hj13 hf13
                    refine hK.out _ _ (fun _ => HSJ.out _ HJ13.out) ?_
                    clear hK K
                    try simp only [Act.put, List.setIfInBounds_toArray, List.set_cons_zero, List.set_cons_succ]
                    refine Held.Ways.one (i := 14) (by rfl) (by kernel_rfl) (fun K hK => ?_)
                    go_simp
                    refine hK.out _ _ (fun h => absurd h (by decide)) ?_
                    clear hK K
                    try simp only [Act.put, List.setIfInBounds_toArray, List.set_cons_zero, List.set_cons_succ]
                    obtain ⟨f0, f1, f2, f3, f4, f5, f6, f7, f8⟩ := row8_facts (HSJ.out _ HJ13.out)
                    refine Held.Ways.one (i := 15) (by rfl) (by kernel_rfl) (fun K hK => ?_)
                    go_simp
                    refine hK.out _ _ (fun h => absurd h (by decide)) ?_
                    clear hK K
                    try simp only [Act.put, List.setIfInBounds_toArray, List.set_cons_zero, List.set_cons_succ]
                    refine Held.Ways.done (by kernel_rfl) ?_ _
                    have hnew : leafK (keys.take (j + 1)) = [] ++ ks.take m ++ [k] ++ ks.drop m := by
                      have hnh : ¬ here (kp ks) k = true := fun hh => by
                        obtain ⟨p', hp', _⟩ := (here_at HRI.out k).1 hh
                        have h9 := (List.getElem?_eq_some_iff.1 hp').1
                        rw [kp_len, ← HM.out] at h9
                        omega
                      rw [List.take_add_one, HK.out]
                      show leafK (keys.take j ++ [k]) = _
                      rw [leafK_snoc, ← HKS.out, insK, if_neg hnh, ← HM.out]
                      simp
                    have hlen : ([] ++ ks.take m ++ [k] ++ ks.drop m).length = 0 + m + 1 + (ks.length - m) := by simp; omega
                    have HNEW := Lib.hid hnew
                    have HLEEN := Lib.hid hlen
                    have HRW : Hid (∀ u, (W13.setCell ⟨w.heap.size + 1, 1, none⟩ u).heap[w.heap.size + 1]? = some (.cells #[.int .i64 1, u, .slice none 0 0, .slice none 0 0, .int .i64 0, .int .i64 0, .int .i64 0, .int .i64 0] 26 (0, 0))) := fun u => by
                      have := heap_setCell_same W13 (w.heap.size + 1) 1 _ _ u (HSJ.out _ HJ13.out)
                      simpa using this
                    have hwb : w.heap.size + 1 < wr.heap.size := (Array.getElem?_eq_some_iff.1 HR1.out).1
                    have HB13 : Hid (Below w.heap.size w W13) := HBL.out.trans (HJ13.out.mono HBL.out.size)
                    have HOW : Hid (∀ u, Own (W13.setCell ⟨w.heap.size + 1, 1, none⟩ u) (w.heap.size + 2) 9 1 (.slice A13 (0 + m + 1 + (ks.length - m)) c13) (0 + m + 1 + (ks.length - m)) (sc ([] ++ ks.take m ++ [k] ++ ks.drop m))) := fun u =>
                      (HO13.out.base_ (base' := w.heap.size + 2) (fun g hg => by have := (HO13.out.lt g hg).1; have := HBL.out.size; omega)).kept fun g hg => Below.heap_setCell _ _ _ _ (by have := (HO13.out.lt g hg).1; show g ≠ w.heap.size + 1; omega)
                    clear hnew hlen
                    go_wp2_with fail
                    go_roundw
                    case rel =>
                      refine ⟨j + 1, _, by omega, by go_num, ?_, ?_, HRW.out _, below_set HB13.out (Nat.le_succ _) _, .inr (by rw [HNEW.out, HLEEN.out]; omega)⟩
                      · rw [HNEW.out, HLEEN.out]
                        have := HOW.out (.slice A13 (0 + m + 1 + (ks.length - m)) c13)
                        simpa only [Nat.zero_add] using this
                      · rw [Below.heap_setCell _ _ _ _ (by show w.heap.size ≠ w.heap.size + 1; omega), HJ13.out.block _ (by omega)]; exact HR0.out
                    case measure => simp [intOf]; omega
                  · have HJ7 : Hid (Below wr.heap.size wr ((wr.alloc (.cells #[] 9)).alloc (.cells #[.string k] 9)).drew) := (((Below.refl _ wr).alloc (Nat.le_refl _) _).alloc (by simp) _).drew
                    go_simp
                    refine hK.out _ _ (fun _ => HSJ.out _ HJ7.out) ?_
                    clear hK K
                    try simp only [Act.put, List.setIfInBounds_toArray, List.set_cons_zero, List.set_cons_succ]
                    refine Held.Ways.one (i := 5) (by rfl) (by kernel_rfl) (fun K hK => ?_)
                    refine step_append rfl _ _ 22 22 rfl (by simp [Act.eval, Act.put]) (by simp [Act.eval, Act.put]) (app_any (wr := wr) (W := ((wr.alloc (.cells #[] 9)).alloc (.cells #[.string k] 9)).drew) (n := 0) (xs := []) (A := (some ⟨gk, ofk, none⟩)) (m := m) (c := ck) (ys := ks.take m) ((own_empty (W := wr) (Nat.le_refl _)).alloc _) HJ7.out (by simp; omega) (fun _ => ⟨gk, ofk, rfl, fun jj u hu => HCL.out _ HJ7.out jj u (take_at hu)⟩) (by omega) _) ?_
                    rintro v5 W5 ⟨⟨A5, c5, rfl⟩, ho5, hj5, hf5⟩
                    have HO5 := Lib.hid ho5
                    have HJ5 := Lib.hid hj5
                    have HF5 := Lib.hid hf5
                    clear ho5 hj5 hf5
                    refine hK.out _ _ (fun _ => HSJ.out _ HJ5.out) ?_
                    clear hK K
                    try simp only [Act.put, List.setIfInBounds_toArray, List.set_cons_zero, List.set_cons_succ]
                    refine Held.Ways.one (i := 8) (by rfl) (by kernel_rfl) (fun K hK => ?_)
                    refine step_append rfl _ _ 22 22 rfl (by simp [Act.eval, Act.put]) (by simp [Act.eval, Act.put]) (app_any (wr := wr) (W := W5) (n := 0 + m) (xs := [] ++ ks.take m) (A := some ⟨wr.heap.size + 1, 0, none⟩) (m := 1) (c := 1) (ys := [k]) (HO5.out) HJ5.out rfl (fun _ => ⟨_, 0, rfl, fun jj u hu => (HF5.out.cell (p := ⟨wr.heap.size + 1, 0 + jj, none⟩) (by have h9 := heap_alloc_new (wr.alloc (.cells #[] 9)) (.cells #[.string k] 9); simp only [World.size_alloc] at h9; rw [Nat.zero_add]; exact (cell_of_row _ _ _ _ _ _ h9).trans (by simpa [sc] using hu)) (fun e => by simp [Value.ownBlock] at e))⟩) (by omega) _) ?_
                    rintro v8 W8 ⟨⟨A8, c8, rfl⟩, ho8, hj8, hf8⟩
                    have HO8 := Lib.hid ho8
                    have HJ8 := Lib.hid hj8
                    have HF8 := Lib.hid hf8
                    clear ho8 hj8 hf8
                    refine hK.out _ _ (fun _ => HSJ.out _ HJ8.out) ?_
                    clear hK K
                    try simp only [Act.put, List.setIfInBounds_toArray, List.set_cons_zero, List.set_cons_succ]
                    refine Held.Ways.one (i := 13) (by rfl) (by kernel_rfl) (fun K hK => ?_)
                    refine step_append rfl _ _ 22 22 rfl (by simp [Act.eval, Act.put]) (by simp [Act.eval, Act.put]) (app_any (wr := wr) (W := W8) (n := 0 + m + 1) (xs := [] ++ ks.take m ++ [k]) (A := (some ⟨gk, ofk + m, none⟩)) (m := (ks.length - m)) (c := (ck - m)) (ys := ks.drop m) (HO8.out) HJ8.out (by simp) (fun _ => ⟨gk, ofk + m, rfl, fun jj u hu => by rw [Nat.add_assoc]; exact HCL.out _ HJ8.out _ u (drop_at hu)⟩) (by omega) _) ?_
                    rintro v13 W13 ⟨⟨A13, c13, rfl⟩, ho13, hj13, hf13⟩
                    have HO13 := Lib.hid ho13
                    have HJ13 := Lib.hid hj13
                    have HF13 := Lib.hid hf13
                    clear ho13 hj13 hf13
                    refine hK.out _ _ (fun _ => HSJ.out _ HJ13.out) ?_
                    clear hK K
                    try simp only [Act.put, List.setIfInBounds_toArray, List.set_cons_zero, List.set_cons_succ]
                    refine Held.Ways.one (i := 14) (by rfl) (by kernel_rfl) (fun K hK => ?_)
                    go_simp
                    refine hK.out _ _ (fun h => absurd h (by decide)) ?_
                    clear hK K
                    try simp only [Act.put, List.setIfInBounds_toArray, List.set_cons_zero, List.set_cons_succ]
                    obtain ⟨f0, f1, f2, f3, f4, f5, f6, f7, f8⟩ := row8_facts (HSJ.out _ HJ13.out)
                    refine Held.Ways.one (i := 15) (by rfl) (by kernel_rfl) (fun K hK => ?_)
                    go_simp
                    refine hK.out _ _ (fun h => absurd h (by decide)) ?_
                    clear hK K
                    try simp only [Act.put, List.setIfInBounds_toArray, List.set_cons_zero, List.set_cons_succ]
                    refine Held.Ways.done (by kernel_rfl) ?_ _
                    have hnew : leafK (keys.take (j + 1)) = [] ++ ks.take m ++ [k] ++ ks.drop m := by
                      have hnh : ¬ here (kp ks) k = true := fun hh => by
                        obtain ⟨p', hp', _⟩ := (here_at HRI.out k).1 hh
                        have h9 := (List.getElem?_eq_some_iff.1 hp').1
                        rw [kp_len, ← HM.out] at h9
                        omega
                      rw [List.take_add_one, HK.out]
                      show leafK (keys.take j ++ [k]) = _
                      rw [leafK_snoc, ← HKS.out, insK, if_neg hnh, ← HM.out]
                      simp
                    have hlen : ([] ++ ks.take m ++ [k] ++ ks.drop m).length = 0 + m + 1 + (ks.length - m) := by simp; omega
                    have HNEW := Lib.hid hnew
                    have HLEEN := Lib.hid hlen
                    have HRW : Hid (∀ u, (W13.setCell ⟨w.heap.size + 1, 1, none⟩ u).heap[w.heap.size + 1]? = some (.cells #[.int .i64 1, u, .slice none 0 0, .slice none 0 0, .int .i64 0, .int .i64 0, .int .i64 0, .int .i64 0] 26 (0, 0))) := fun u => by
                      have := heap_setCell_same W13 (w.heap.size + 1) 1 _ _ u (HSJ.out _ HJ13.out)
                      simpa using this
                    have hwb : w.heap.size + 1 < wr.heap.size := (Array.getElem?_eq_some_iff.1 HR1.out).1
                    have HB13 : Hid (Below w.heap.size w W13) := HBL.out.trans (HJ13.out.mono HBL.out.size)
                    have HOW : Hid (∀ u, Own (W13.setCell ⟨w.heap.size + 1, 1, none⟩ u) (w.heap.size + 2) 9 1 (.slice A13 (0 + m + 1 + (ks.length - m)) c13) (0 + m + 1 + (ks.length - m)) (sc ([] ++ ks.take m ++ [k] ++ ks.drop m))) := fun u =>
                      (HO13.out.base_ (base' := w.heap.size + 2) (fun g hg => by have := (HO13.out.lt g hg).1; have := HBL.out.size; omega)).kept fun g hg => Below.heap_setCell _ _ _ _ (by have := (HO13.out.lt g hg).1; show g ≠ w.heap.size + 1; omega)
                    clear hnew hlen
                    go_wp2_with fail
                    go_roundw
                    case rel =>
                      refine ⟨j + 1, _, by omega, by go_num, ?_, ?_, HRW.out _, below_set HB13.out (Nat.le_succ _) _, .inr (by rw [HNEW.out, HLEEN.out]; omega)⟩
                      · rw [HNEW.out, HLEEN.out]
                        have := HOW.out (.slice A13 (0 + m + 1 + (ks.length - m)) c13)
                        simpa only [Nat.zero_add] using this
                      · rw [Below.heap_setCell _ _ _ _ (by show w.heap.size ≠ w.heap.size + 1; omega), HJ13.out.block _ (by omega)]; exact HR0.out
                    case measure => simp [intOf]; omega
                · have HJb : Hid (Below wr.heap.size wr (wr.alloc (.cells #[.string k] 9)).drew) := ((Below.refl _ wr).alloc (Nat.le_refl _) _).drew
                  go_simp
                  refine hK.out _ _ (fun _ => HSJ.out _ HJb.out) ?_
                  clear hK K
                  try simp only [Act.put, List.setIfInBounds_toArray, List.set_cons_zero, List.set_cons_succ]
                  refine Held.Ways.one (i := 0) (by rfl) (by kernel_rfl) (fun K hK => ?_)
                  have HJ7 : Hid (Below wr.heap.size wr ((wr.alloc (.cells #[.string k] 9)).alloc (.cells #[] 9)).drew) := (((Below.refl _ wr).alloc (Nat.le_refl _) _).alloc (by simp) _).drew
                  go_simp
                  refine hK.out _ _ (fun _ => HSJ.out _ HJ7.out) ?_
                  clear hK K
                  try simp only [Act.put, List.setIfInBounds_toArray, List.set_cons_zero, List.set_cons_succ]
                  refine Held.Ways.one (i := 5) (by rfl) (by kernel_rfl) (fun K hK => ?_)
                  refine step_append rfl _ _ 22 22 rfl (by simp [Act.eval, Act.put]) (by simp [Act.eval, Act.put]) (app_any (wr := wr) (W := ((wr.alloc (.cells #[.string k] 9)).alloc (.cells #[] 9)).drew) (v := .slice (some ⟨wr.heap.size + 1, 0, none⟩) 0 0) (n := 0) (xs := []) (A := (some ⟨gk, ofk, none⟩)) (m := m) (c := ck) (ys := ks.take m) (by have h9 := own_empty (W := wr.alloc (.cells #[.string k] 9)) (base := wr.heap.size) (by simp); simp only [World.size_alloc] at h9; exact h9) HJ7.out (by simp; omega) (fun _ => ⟨gk, ofk, rfl, fun jj u hu => HCL.out _ HJ7.out jj u (take_at hu)⟩) (by omega) _) ?_
                  rintro v5 W5 ⟨⟨A5, c5, rfl⟩, ho5, hj5, hf5⟩
                  have HO5 := Lib.hid ho5
                  have HJ5 := Lib.hid hj5
                  have HF5 := Lib.hid hf5
                  clear ho5 hj5 hf5
                  refine hK.out _ _ (fun _ => HSJ.out _ HJ5.out) ?_
                  clear hK K
                  try simp only [Act.put, List.setIfInBounds_toArray, List.set_cons_zero, List.set_cons_succ]
                  refine Held.Ways.one (i := 8) (by rfl) (by kernel_rfl) (fun K hK => ?_)
                  refine step_append rfl _ _ 22 22 rfl (by simp [Act.eval, Act.put]) (by simp [Act.eval, Act.put]) (app_any (wr := wr) (W := W5) (n := 0 + m) (xs := [] ++ ks.take m) (A := some ⟨wr.heap.size, 0, none⟩) (m := 1) (c := 1) (ys := [k]) (HO5.out) HJ5.out rfl (fun _ => ⟨_, 0, rfl, fun jj u hu => (HF5.out.cell (p := ⟨wr.heap.size, 0 + jj, none⟩) (by have h9 := (Below.heap_alloc (wr.alloc (.cells #[.string k] 9)) (.cells #[] 9) wr.heap.size (by simp)).trans (heap_alloc_new wr _); rw [Nat.zero_add]; exact (cell_of_row _ _ _ _ _ _ h9).trans (by simpa [sc] using hu)) (fun e => by simp [Value.ownBlock] at e))⟩) (by omega) _) ?_
                  rintro v8 W8 ⟨⟨A8, c8, rfl⟩, ho8, hj8, hf8⟩
                  have HO8 := Lib.hid ho8
                  have HJ8 := Lib.hid hj8
                  have HF8 := Lib.hid hf8
                  clear ho8 hj8 hf8
                  refine hK.out _ _ (fun _ => HSJ.out _ HJ8.out) ?_
                  clear hK K
                  try simp only [Act.put, List.setIfInBounds_toArray, List.set_cons_zero, List.set_cons_succ]
                  refine Held.Ways.one (i := 13) (by rfl) (by kernel_rfl) (fun K hK => ?_)
                  refine step_append rfl _ _ 22 22 rfl (by simp [Act.eval, Act.put]) (by simp [Act.eval, Act.put]) (app_any (wr := wr) (W := W8) (n := 0 + m + 1) (xs := [] ++ ks.take m ++ [k]) (A := (some ⟨gk, ofk + m, none⟩)) (m := (ks.length - m)) (c := (ck - m)) (ys := ks.drop m) (HO8.out) HJ8.out (by simp) (fun _ => ⟨gk, ofk + m, rfl, fun jj u hu => by rw [Nat.add_assoc]; exact HCL.out _ HJ8.out _ u (drop_at hu)⟩) (by omega) _) ?_
                  rintro v13 W13 ⟨⟨A13, c13, rfl⟩, ho13, hj13, hf13⟩
                  have HO13 := Lib.hid ho13
                  have HJ13 := Lib.hid hj13
                  have HF13 := Lib.hid hf13
                  clear ho13 hj13 hf13
                  refine hK.out _ _ (fun _ => HSJ.out _ HJ13.out) ?_
                  clear hK K
                  try simp only [Act.put, List.setIfInBounds_toArray, List.set_cons_zero, List.set_cons_succ]
                  refine Held.Ways.one (i := 14) (by rfl) (by kernel_rfl) (fun K hK => ?_)
                  go_simp
                  refine hK.out _ _ (fun h => absurd h (by decide)) ?_
                  clear hK K
                  try simp only [Act.put, List.setIfInBounds_toArray, List.set_cons_zero, List.set_cons_succ]
                  obtain ⟨f0, f1, f2, f3, f4, f5, f6, f7, f8⟩ := row8_facts (HSJ.out _ HJ13.out)
                  refine Held.Ways.one (i := 15) (by rfl) (by kernel_rfl) (fun K hK => ?_)
                  go_simp
                  refine hK.out _ _ (fun h => absurd h (by decide)) ?_
                  clear hK K
                  try simp only [Act.put, List.setIfInBounds_toArray, List.set_cons_zero, List.set_cons_succ]
                  refine Held.Ways.done (by kernel_rfl) ?_ _
                  have hnew : leafK (keys.take (j + 1)) = [] ++ ks.take m ++ [k] ++ ks.drop m := by
                    have hnh : ¬ here (kp ks) k = true := fun hh => by
                      obtain ⟨p', hp', _⟩ := (here_at HRI.out k).1 hh
                      have h9 := (List.getElem?_eq_some_iff.1 hp').1
                      rw [kp_len, ← HM.out] at h9
                      omega
                    rw [List.take_add_one, HK.out]
                    show leafK (keys.take j ++ [k]) = _
                    rw [leafK_snoc, ← HKS.out, insK, if_neg hnh, ← HM.out]
                    simp
                  have hlen : ([] ++ ks.take m ++ [k] ++ ks.drop m).length = 0 + m + 1 + (ks.length - m) := by simp; omega
                  have HNEW := Lib.hid hnew
                  have HLEEN := Lib.hid hlen
                  have HRW : Hid (∀ u, (W13.setCell ⟨w.heap.size + 1, 1, none⟩ u).heap[w.heap.size + 1]? = some (.cells #[.int .i64 1, u, .slice none 0 0, .slice none 0 0, .int .i64 0, .int .i64 0, .int .i64 0, .int .i64 0] 26 (0, 0))) := fun u => by
                    have := heap_setCell_same W13 (w.heap.size + 1) 1 _ _ u (HSJ.out _ HJ13.out)
                    simpa using this
                  have hwb : w.heap.size + 1 < wr.heap.size := (Array.getElem?_eq_some_iff.1 HR1.out).1
                  have HB13 : Hid (Below w.heap.size w W13) := HBL.out.trans (HJ13.out.mono HBL.out.size)
                  have HOW : Hid (∀ u, Own (W13.setCell ⟨w.heap.size + 1, 1, none⟩ u) (w.heap.size + 2) 9 1 (.slice A13 (0 + m + 1 + (ks.length - m)) c13) (0 + m + 1 + (ks.length - m)) (sc ([] ++ ks.take m ++ [k] ++ ks.drop m))) := fun u =>
                    (HO13.out.base_ (base' := w.heap.size + 2) (fun g hg => by have := (HO13.out.lt g hg).1; have := HBL.out.size; omega)).kept fun g hg => Below.heap_setCell _ _ _ _ (by have := (HO13.out.lt g hg).1; show g ≠ w.heap.size + 1; omega)
                  clear hnew hlen
                  go_wp2_with fail
                  go_roundw
                  case rel =>
                    refine ⟨j + 1, _, by omega, by go_num, ?_, ?_, HRW.out _, below_set HB13.out (Nat.le_succ _) _, .inr (by rw [HNEW.out, HLEEN.out]; omega)⟩
                    · rw [HNEW.out, HLEEN.out]
                      have := HOW.out (.slice A13 (0 + m + 1 + (ks.length - m)) c13)
                      simpa only [Nat.zero_add] using this
                    · rw [Below.heap_setCell _ _ _ _ (by show w.heap.size ≠ w.heap.size + 1; omega), HJ13.out.block _ (by omega)]; exact HR0.out
                  case measure => simp [intOf]; omega


    · obtain rfl : j = n := by omega
      have ht : keys.take j = keys := by rw [HN.out]; exact List.take_length
      rw [ht] at hown
      obtain ⟨hri, hle⟩ := leafK_rise _ keys rfl
      obtain ⟨ks, hks⟩ : ∃ ks, ks = leafK keys := ⟨_, rfl⟩
      have HSZ1 : Hid (∀ k ∈ ks, k.size < 9223372036854775807) := by rw [hks]; exact HSZ
      have HKS := Lib.hid hks
      rw [← hks] at hown hle
      obtain ⟨Ak, ck, rfl, hck⟩ := hown.slice_
      have h20 : ks.length ≤ 20 := by have := HN.out; omega
      obtain ⟨f0, f1, f2, f3, f4, f5, f6, f7, f8⟩ := row8_facts hr1
      have HOWN := Lib.hid hown
      have HR0 := Lib.hid hr0
      have HR1 := Lib.hid hr1
      have HBL := Lib.hid hbl
      clear hown hr0 hr1 hbl hks hri hne ht hle
      go_wp2_with fail
      clear f0 f1 f2 f3 f4 f5 f6 f7 f8
      go_loopw [65] (fun a wr2 => ∃ (i : Nat) (vv : Value), i ≤ ks.length ∧ a = .int .i64 i ∧ Own wr2 (w.heap.size + 2) 9 1 (.slice Ak ks.length ck) ks.length (sc ks) ∧ Own wr2 (w.heap.size + 2) 9 1 vv i (sc ((ks.take i).map vk)) ∧ (∀ g, (Value.slice Ak ks.length ck).ownBlock = some g → vv.ownBlock ≠ some g) ∧ wr2.heap[w.heap.size]? = some (.cells #[.int .i64 0, .slice none 0 0, .slice none 0 0, .slice none 0 0, .int .i64 0, .int .i64 0, .int .i64 0, .int .i64 0] 26 (0, 0)) ∧ wr2.heap[w.heap.size + 1]? = some (.cells #[.int .i64 1, .slice Ak ks.length ck, vv, .slice none 0 0, .int .i64 0, .int .i64 0, .int .i64 0, .int .i64 0] 26 (0, 0)) ∧ Below w.heap.size w wr2) (fun a _ => ks.length - (intOf a).toNat)
      case atStart => exact ⟨0, .slice none 0 0, Nat.zero_le _, rfl, HOWN.out, Own.nil_ _ _ _ _, fun g _ h => by simp [Value.ownBlock] at h, HR0.out, HR1.out, HBL.out⟩
      case round =>
        obtain ⟨i, vv, hi, rfl, hok, hov, hap, hr0, hr1, hbl⟩ := hrel
        obtain ⟨Av, cv, rfl, hcv⟩ := hov.slice_
        obtain ⟨f0, f1, f2, f3, f4, f5, f6, f7, f8⟩ := row8_facts hr1
        have HOK := Lib.hid hok
        have HOV := Lib.hid hov
        have HAP := Lib.hid hap
        have HR0 := Lib.hid hr0
        have HR1 := Lib.hid hr1
        have HBL := Lib.hid hbl
        clear hok hov hap hr0 hr1 hbl
        by_cases hlt : i < ks.length
        · obtain ⟨gk, ofk, cz, e, hlt', _, _, hxx⟩ := HOK.out.rd.cells (by omega)
          injection e with e1 e2 e3
          clear e2 e3
          subst e1
          obtain ⟨k, hk⟩ : ∃ k, ks[i]? = some k := ⟨ks[i], List.getElem?_eq_getElem _⟩
          have hc := hxx i _ (sc_at hk)
          have hks := HSZ1.out k (List.mem_of_getElem? hk)
          have z1 : ¬ (9223372036854775807 < 1 + k.size) := by omega
          have i0 : (0 : Int) ≤ (i : Int) := by omega
          have i1 : (i : Int) < (ks.length : Int) := by omega
          have HK := Lib.hid hk
          clear hk hxx hks
          have hwb : w.heap.size + 1 < wr.heap.size := (Array.getElem?_eq_some_iff.1 HR1.out).1
          have hrun := app_gen (W := wr.alloc (.cells #[.string (⟨#[118]⟩ ++ k)] 9)) 22 22 Try.underlying22 SlS.ty (by decide) (HOV.out.alloc _) (by simp; omega) (A := some ⟨wr.heap.size, 0, none⟩) (m := 1) (c := 1) (ys := sc [⟨#[118]⟩ ++ k]) rfl (sc_one _) (fun _ => ⟨_, 0, rfl, fun jj u hu => by rw [Nat.zero_add, cell_of_row _ _ _ _ _ _ (heap_alloc_new wr _)]; simpa [sc] using hu⟩) (by omega)
          have HRUN := Lib.hid hrun
          have HW9 : Hid (∀ W, Fr (fun g => (Value.slice Av i cv).ownBlock = some g) (wr.alloc (.cells #[.string (⟨#[118]⟩ ++ k)] 9)) W → W.heap[w.heap.size + 1]? = some (.cells #[.int .i64 1, .slice (some ⟨gk, ofk, none⟩) ks.length ck, .slice Av i cv, .slice none 0 0, .int .i64 0, .int .i64 0, .int .i64 0, .int .i64 0] 26 (0, 0))) := fun W hf =>
            hf.blk ((Below.heap_alloc _ _ _ hwb).trans HR1.out) (fun e => by have := (HOV.out.lt _ e).1; omega)
          clear hrun
          go_wp2_with (at_builtin; refine wpL_append rfl _ _ 22 22 rfl rfl rfl HRUN.out ?_; rintro v1 W1 ⟨⟨A1, c1, rfl⟩, ho1, hf1, hb1⟩; have HO1 := Lib.hid ho1; have HF1 := Lib.hid hf1; have HB1 := Lib.hid hb1; clear ho1 hf1 hb1 f0 f1 f2 f3 f4 f5 f6 f7 f8; obtain ⟨f0, f1, f2, f3, f4, f5, f6, f7, f8⟩ := row8_facts (HW9.out _ HF1.out))
          go_roundw
          case rel =>
            have hne : ∀ g, (Value.slice A1 (i + 1) c1).ownBlock = some g → w.heap.size + 2 ≤ g := fun g hg => (HO1.out.lt g hg).1
            refine ⟨i + 1, _, by omega, by go_num, ?_, ?_, ?_, ?_, by have h9 := heap_setCell_same W1 (w.heap.size + 1) 2 _ _ (.slice A1 (i + 1) c1) (HW9.out _ HF1.out); simpa using h9, ?_⟩
            · refine ((HOK.out.alloc _).fr HF1.out (fun g hg e => HAP.out g hg e)).kept fun g hg => Below.heap_setCell _ _ _ _ (by have := (HOK.out.lt g hg).1; show g ≠ w.heap.size + 1; omega)
            · have hsc : sc (List.map vk (ks.take i)) ++ sc [⟨#[118]⟩ ++ k] = sc (List.map vk (ks.take (i + 1))) := by
                rw [List.take_add_one, HK.out]; simp [sc, vk]
              rw [← hsc]
              exact HO1.out.kept fun g hg => Below.heap_setCell _ _ _ _ (by have := hne g hg; show g ≠ w.heap.size + 1; omega)
            · intro g hg hg'
              rcases HB1.out with e | e
              · rw [e] at hg'; exact HAP.out g hg hg'
              · rw [e] at hg'
                injection hg' with hg'
                have := (HOK.out.lt g hg).2
                simp at hg'
                omega
            · rw [Below.heap_setCell _ _ _ _ (by show w.heap.size ≠ w.heap.size + 1; omega)]
              exact HF1.out.blk ((Below.heap_alloc _ _ _ (by omega)).trans HR0.out) (fun e => by have := (HOV.out.lt _ e).1; omega)
            · refine below_set ?_ (Nat.le_succ _) _
              refine (HBL.out.alloc HBL.out.size _).trans (HF1.out.below (by have := HBL.out.size; simp; omega) fun g _ hg => by have := (HOV.out.lt g hg).1; omega)
          case measure => simp [intOf]; omega
        · obtain rfl : i = ks.length := by omega
          obtain ⟨z0, z1, z2, z3, z4, z5, z6, z7, z8⟩ := row8_facts HR0.out
          go_wp2_with fail
          clear f0 f1 f2 f3 f4 f5 f6 f7 f8 z0 z1 z2 z3 z4 z5 z6 z7 z8
          refine bodyPost_ret (results_cell_row rfl _ _ w.heap.size 26 _ (0, 0) _ rfl (row8_set HR0.out _ _ _ _ _ _ _ _) Try.underlying26 rfl rfl) rfl ?_
          have hne : ∀ g u0 u1 u2 u3 u4 u5 u6 u7, w.heap.size + 2 ≤ g → ((((((((wr.setCell ⟨w.heap.size, 0, none⟩ u0).setCell ⟨w.heap.size, 1, none⟩ u1).setCell ⟨w.heap.size, 2, none⟩ u2).setCell ⟨w.heap.size, 3, none⟩ u3).setCell ⟨w.heap.size, 4, none⟩ u4).setCell ⟨w.heap.size, 5, none⟩ u5).setCell ⟨w.heap.size, 6, none⟩ u6).setCell ⟨w.heap.size, 7, none⟩ u7).heap[g]? = wr.heap[g]? := fun g u0 u1 u2 u3 u4 u5 u6 u7 hg => by
            have n1 : g ≠ w.heap.size := by omega
            refine Eq.trans (Below.heap_setCell _ _ _ _ n1) (Eq.trans (Below.heap_setCell _ _ _ _ n1) (Eq.trans (Below.heap_setCell _ _ _ _ n1) (Eq.trans (Below.heap_setCell _ _ _ _ n1) ?_)))
            exact Eq.trans (Below.heap_setCell _ _ _ _ n1) (Eq.trans (Below.heap_setCell _ _ _ _ n1) (Eq.trans (Below.heap_setCell _ _ _ _ n1) (Below.heap_setCell _ _ _ _ n1)))
          have htk : ks.take ks.length = ks := List.take_length
          refine ⟨_, _, rfl, ⟨?_, ?_, Own.nil_ _ _ _ _, ?_, HAP.out⟩, ?_⟩
          · show Own _ _ _ _ _ (leafK keys).length (sc (leafK keys))
            rw [← HKS.out]
            exact (HOK.out.base_ (base' := w.heap.size) fun g hg => by have := (HOK.out.lt g hg).1; omega).kept fun g hg => hne _ _ _ _ _ _ _ _ _ (HOK.out.lt g hg).1
          · show Own _ _ _ _ _ ((leafK keys).map vk).length (sc ((leafK keys).map vk))
            rw [← HKS.out, List.length_map]
            have h9 := HOV.out
            rw [htk] at h9
            exact (h9.base_ (base' := w.heap.size) fun g hg => by have := (HOV.out.lt g hg).1; omega).kept fun g hg => hne _ _ _ _ _ _ _ _ _ (HOV.out.lt g hg).1
          · show (leafK keys).length ≤ 100 ∧ ((leafK keys).map vk).length ≤ 100 ∧ _
            rw [← HKS.out, List.length_map]
            exact ⟨by omega, by omega, by simp [leafP]⟩
          · refine below_set (below_set (below_set (below_set ?_ (Nat.le_refl _) _) (Nat.le_refl _) _) (Nat.le_refl _) _) (Nat.le_refl _) _
            exact below_set (below_set (below_set (below_set HBL.out (Nat.le_refl _) _) (Nat.le_refl _) _) (Nat.le_refl _) _) (Nat.le_refl _) _
end Go.Proofs.Ytfhpgmgmofganaa.NodeA

