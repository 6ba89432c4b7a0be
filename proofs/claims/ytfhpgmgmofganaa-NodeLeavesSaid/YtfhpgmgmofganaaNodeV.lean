/- NodeParts: the walk. -/
import Derived.Test.YtfhpgmgmofganaaNodeU
import Derived.Test.YtfhpgmgmofganaaHeld3
set_option linter.unusedVariables false
set_option linter.unusedSimpArgs false
set_option linter.unusedSectionVars false
namespace Go.Proofs.Ytfhpgmgmofganaa.NodeA
open Go.RowKit Go.WideShapes Go.Deep Go.Proofs.Ytfhpgmgmofganaa.Mem Go.Proofs.Ytfhpgmgmofganaa.Open Go.Proofs.Ytfhpgmgmofganaa.Kv
theorem run_geq {a b : S} {x : Bool} (h : lt a b = x) (W : World) : Sem.run Try.prog (binOp .geq 9 (.string a) (.string b)) W = .ok (.bool (!x)) W := by
  have h1 := bl_lt a b
  have h2 := bl_lt b a
  have h3 := str_beq a b
  have h4 := str_beq b a
  cases x with
  | true =>
    have h5 := lt_asymm h
    have h6 : ¬ a = b := lt_ne h
    have h7 : ¬ b = a := fun e => h6 e.symm
    simp [binOp, Op.stringOp, h1, h2, h3, h4, h, h5, h6, h7]
  | false =>
    by_cases e : a = b
    · subst e
      simp [binOp, Op.stringOp, h1, h]
    · have h5 : lt b a = true := by
        rcases lt_total e with h8 | h8
        · rw [h] at h8; cases h8
        · exact h8
      have h7 : ¬ b = a := fun e' => e e'.symm
      simp [binOp, Op.stringOp, h1, h2, h3, h4, h, h5, e, h7]
/-- The leaf split. -/
theorem split_leaf {kv vv nv : Value} {ks : List S} {vs : List S} (W : World) (h : PgR W kv vv nv ⟨1, ks, vs, []⟩) (hv : vs = ks.map vk) (h2 : 2 ≤ ks.length) {m : Nat} (hm : m = ks.length / 2) {mid : S} (hmid : ks[m]? = some mid) :
    Calls Try.prog 12 #[pv 1 kv vv nv] W fun e w' => ∃ ka va na kb vb nb, e = .returned (.tuple #[pv 1 ka va na, .string mid, pv 1 kb vb nb]) ∧ PgR w' ka va na ⟨1, ks.take m, (ks.take m).map vk, []⟩ ∧ PgR w' kb vb nb ⟨1, ks.drop m, (ks.drop m).map vk, []⟩ ∧ Below W.heap.size W w' := by
  have e1 : midS ⟨1, ks, vs, []⟩ = mid := by
    unfold midS cutAt
    simp only [if_true]
    rw [← hm, List.getD_eq_getElem?_getD, hmid]; rfl
  have e2 : leftP ⟨1, ks, vs, []⟩ = ⟨1, ks.take m, (ks.take m).map vk, []⟩ := by
    unfold leftP cutAt
    simp only [if_true]
    rw [← hm, hv, List.map_take]
  have e3 : rightP ⟨1, ks, vs, []⟩ = ⟨1, ks.drop m, (ks.drop m).map vk, []⟩ := by
    unfold rightP cutAt
    simp only [if_true]
    rw [← hm, hv, List.map_drop]
  have h9 := split_any W h (.inl ⟨rfl, h2, by rw [hv]; simp⟩)
  rw [e1, e2, e3] at h9
  exact h9
/-- The inner page split. -/
theorem split_inner {kv vv nv : Value} {ks : List S} {kd : List Int} (W : World) (h : PgR W kv vv nv ⟨2, ks, [], kd⟩) (hl : kd.length = ks.length + 1) (h2 : 4 ≤ kd.length) {m q : Nat} (hm : m = kd.length / 2) (hq : m = q + 1) {mid : S} (hmid : ks[q]? = some mid) :
    Calls Try.prog 12 #[pv 2 kv vv nv] W fun e w' => ∃ ka va na kb vb nb, e = .returned (.tuple #[pv 2 ka va na, .string mid, pv 2 kb vb nb]) ∧ PgR w' ka va na ⟨2, ks.take q, [], kd.take m⟩ ∧ PgR w' kb vb nb ⟨2, ks.drop m, [], kd.drop m⟩ ∧ Below W.heap.size W w' := by
  have n21 : ¬ ((2 : Int) = 1) := by decide
  have e1 : midS ⟨2, ks, [], kd⟩ = mid := by
    unfold midS cutAt
    simp only [n21, if_false]
    rw [← hm, hq, Nat.add_sub_cancel, List.getD_eq_getElem?_getD, hmid]; rfl
  have e2 : leftP ⟨2, ks, [], kd⟩ = ⟨2, ks.take q, [], kd.take m⟩ := by
    unfold leftP cutAt
    simp only [n21, if_false]
    rw [← hm, hq, Nat.add_sub_cancel]
  have e3 : rightP ⟨2, ks, [], kd⟩ = ⟨2, ks.drop m, [], kd.drop m⟩ := by
    unfold rightP cutAt
    simp only [n21, if_false]
    rw [← hm]
  have h9 := split_any W h (.inr ⟨rfl, h2, hl⟩)
  rw [e1, e2, e3] at h9
  exact h9
/-- The law's leaf, its page's slices in the walk's words. -/
theorem leaf_row {v : Value} {keys : List S} (w : World) (h : Rd w w.heap.size 1 v keys.length (sc keys)) (hn : keys.length ≤ 20) (hsz : ∀ k ∈ keys, k.size < 9223372036854775807) {ks vs : List S} (hk : ks = leafK keys) (hv : vs = ks.map vk) :
    Calls Try.prog 9 #[v] w fun e w' => ∃ Ak ck Av cv, e = .returned (.agg #[.int .i64 1, .slice Ak ks.length ck, .slice Av vs.length cv, .slice none 0 0, .int .i64 0, .int .i64 0, .int .i64 0, .int .i64 0]) ∧ PgO w' w.heap.size (.slice Ak ks.length ck) (.slice Av vs.length cv) (.slice none 0 0) ⟨1, ks, vs, []⟩ ∧ Below w.heap.size w w' := by
  refine (leaf_any w h hn hsz).mono ?_
  rintro e w' ⟨kv, vv, rfl, ho, hb⟩
  have e1 : leafP keys = ⟨1, ks, vs, []⟩ := by unfold leafP; rw [hv, hk]
  rw [e1] at ho
  obtain ⟨Ak, ck, e2, _⟩ := ho.keys.slice_
  obtain ⟨Av, cv, e3, _⟩ := ho.vals.slice_
  dsimp only at e2 e3
  subst e2 e3
  exact ⟨_, _, _, _, rfl, ho, hb⟩
theorem inner_row {v : Value} {keys : List S} (w : World) (h : Rd w w.heap.size 1 v keys.length (sc keys)) (hn : keys.length ≤ 20) (hsz : ∀ k ∈ keys, k.size < 9223372036854775807) (x : Int) (hx : 0 ≤ x ∧ x ≤ 100) {ks : List S} {kd : List Int} (hk : ks = leafK keys) (hd : kd = kidsOf (ks.length + 1) x) :
    Calls Try.prog 10 #[v, .int .i64 x] w fun e w' => ∃ Ak ck An cn, e = .returned (.agg #[.int .i64 2, .slice Ak ks.length ck, .slice none 0 0, .slice An kd.length cn, .int .i64 0, .int .i64 0, .int .i64 0, .int .i64 0]) ∧ PgO w' w.heap.size (.slice Ak ks.length ck) (.slice none 0 0) (.slice An kd.length cn) ⟨2, ks, [], kd⟩ ∧ Below w.heap.size w w' := by
  refine (inner_any w h hn hsz x hx).mono ?_
  rintro e w' ⟨kv, nv, rfl, ho, hb⟩
  have e1 : innerP keys x = ⟨2, ks, [], kd⟩ := by unfold innerP; rw [hd, hk]
  rw [e1] at ho
  obtain ⟨Ak, ck, e2, _⟩ := ho.keys.slice_
  obtain ⟨An, cn, e3, _⟩ := ho.kids.slice_
  dsimp only at e2 e3
  subst e2 e3
  exact ⟨_, _, _, _, rfl, ho, hb⟩
theorem PgO.alloc {w : World} {base : Nat} {kv vv nv : Value} {p : Pg} (h : PgO w base kv vv nv p) (o : Obj) : PgO (w.alloc o) base kv vv nv p := ⟨h.keys.alloc o, h.vals.alloc o, h.kids.alloc o, h.lens, h.apart⟩
theorem kidsOf_at {n : Nat} {x : Int} {i : Nat} (h : i < n) : (kidsOf n x)[i]? = some (x + (i : Int)) := by
  unfold kidsOf
  rw [List.getElem?_map, List.getElem?_range h]; rfl
set_option maxHeartbeats 2000000 in
set_option maxRecDepth 100000 in
theorem parts_leaf {v : Value} {keys : List S} (w : World) (h : Rd w w.heap.size 1 v keys.length (sc keys)) (hn : keys.length ≤ 20) (hsz : ∀ k ∈ keys, k.size < 9223372036854775807) (k : S) :
    Calls Try.prog 4 #[v, .bool false, .string k] w fun e w' => e = .returned (.bool true) ∧ Below w.heap.size w w' := by
  have HR : Hid (∀ W, Below w.heap.size w W → Rd W W.heap.size 1 v keys.length (sc keys)) := fun W hb => h.up hb
  obtain ⟨_, A, c, rfl, _, _, _⟩ := h
  obtain ⟨hri, hle⟩ := leafK_rise _ keys rfl
  obtain ⟨ks, hks⟩ : ∃ ks, ks = leafK keys := ⟨_, rfl⟩
  obtain ⟨vs, hvs⟩ : ∃ vs, vs = ks.map vk := ⟨_, rfl⟩
  have hvl : vs.length = ks.length := by rw [hvs]; simp
  have HL : Hid (∀ W, Below w.heap.size w W → Calls Try.prog 9 #[.slice A keys.length c] W fun e w' => ∃ Ak ck Av cv, e = .returned (.agg #[.int .i64 1, .slice Ak ks.length ck, .slice Av vs.length cv, .slice none 0 0, .int .i64 0, .int .i64 0, .int .i64 0, .int .i64 0]) ∧ PgO w' W.heap.size (.slice Ak ks.length ck) (.slice Av vs.length cv) (.slice none 0 0) ⟨1, ks, vs, []⟩ ∧ Below W.heap.size W w') := fun W hb => leaf_row W (HR.out W hb) hn hsz hks hvs
  have hn2 : (keys.length : Int) ≤ 20 := by omega
  rw [← hks] at hri hle
  have HRI := Lib.hid hri
  have HVS := Lib.hid hvs
  have HVL := Lib.hid hvl
  clear hri hvs hvl hsz HR hks
  unfold pv at *
  go_enter Try.func4, Try.ntmps4
  go_wp2_with fail
  refine (head_any w).mono ?_
  rintro e w0 ⟨rfl, hb0⟩
  have HB0 := Lib.hid hb0
  clear hb0
  go_wp2_with fail
  refine (HL.out w0 HB0.out).mono ?_
  rintro e W1 ⟨Ak, ck, Av, cv, rfl, ho, hb1⟩
  have HO := Lib.hid ho
  have HW1 : Hid (Below w.heap.size w W1) := HB0.out.trans (hb1.mono HB0.out.size)
  clear ho hb1 HL
  by_cases h2 : ks.length < 2
  · have i2 : (ks.length : Int) < 2 := by omega
    go_wp2_with fail
    go_ret
    exact ⟨rfl, HW1.out.alloc HW1.out.size _⟩
  · have i2 : ¬ ((ks.length : Int) < 2) := by omega
    obtain ⟨m, hm⟩ : ∃ m, m = ks.length / 2 := ⟨_, rfl⟩
    obtain ⟨mid, hmid⟩ : ∃ mid, ks[m]? = some mid := ⟨ks[m]'(by omega), List.getElem?_eq_getElem _⟩
    obtain ⟨la, hla⟩ : ∃ la, la = ks.take m := ⟨_, rfl⟩
    obtain ⟨lb, hlb⟩ : ∃ lb, lb = ks.drop m := ⟨_, rfl⟩
    obtain ⟨va, hva⟩ : ∃ va, va = la.map vk := ⟨_, rfl⟩
    obtain ⟨vb, hvb⟩ : ∃ vb, vb = lb.map vk := ⟨_, rfl⟩
    have HMID := Lib.hid hmid
    have HLA := Lib.hid hla
    have HLB := Lib.hid hlb
    have HVA := Lib.hid hva
    have HVB := Lib.hid hvb
    have HSP : Hid (∀ W Ak ck Av cv, PgR W (.slice Ak ks.length ck) (.slice Av vs.length cv) (.slice none 0 0) ⟨1, ks, vs, []⟩ → Calls Try.prog 12 #[.agg #[.int .i64 1, .slice Ak ks.length ck, .slice Av vs.length cv, .slice none 0 0, .int .i64 0, .int .i64 0, .int .i64 0, .int .i64 0]] W fun e w' => ∃ Aka cka Ava cva Ana cna Akb ckb Avb cvb Anb cnb, e = .returned (.tuple #[.agg #[.int .i64 1, .slice Aka la.length cka, .slice Ava va.length cva, .slice Ana 0 cna, .int .i64 0, .int .i64 0, .int .i64 0, .int .i64 0], .string mid, .agg #[.int .i64 1, .slice Akb lb.length ckb, .slice Avb vb.length cvb, .slice Anb 0 cnb, .int .i64 0, .int .i64 0, .int .i64 0, .int .i64 0]]) ∧ PgR w' (.slice Aka la.length cka) (.slice Ava va.length cva) (.slice Ana 0 cna) ⟨1, la, va, []⟩ ∧ PgR w' (.slice Akb lb.length ckb) (.slice Avb vb.length cvb) (.slice Anb 0 cnb) ⟨1, lb, vb, []⟩ ∧ Below W.heap.size W w') := fun W Ak ck Av cv hp => (split_leaf W hp HVS.out (by omega) hm HMID.out).mono fun e w' he => by
      obtain ⟨ka, va', na, kb, vb', nb, e1, p1, p2, hb⟩ := he
      rw [← HLA.out, ← HVA.out] at p1
      rw [← HLB.out, ← HVB.out] at p2
      obtain ⟨Aka, cka, Ava, cva, Ana, cna, q1, q2, q3⟩ := p1.forms
      obtain ⟨Akb, ckb, Avb, cvb, Anb, cnb, q4, q5, q6⟩ := p2.forms
      subst q1 q2 q3 q4 q5 q6
      exact ⟨_, _, _, _, _, _, _, _, _, _, _, _, e1, p1, p2, hb⟩
    clear hm hmid hla hlb hva hvb
    go_wp2_with fail
    obtain ⟨X, hX⟩ : ∃ X, X = W1.alloc (.cells #[.int .i64 1, .slice Ak ks.length ck, .slice Av vs.length cv, .slice none 0 0, .int .i64 0, .int .i64 0, .int .i64 0, .int .i64 0] 26) := ⟨_, rfl⟩
    rw [← hX]
    have HX : Hid (X.heap[W1.heap.size]? = some (.cells #[.int .i64 1, .slice Ak ks.length ck, .slice Av vs.length cv, .slice none 0 0, .int .i64 0, .int .i64 0, .int .i64 0, .int .i64 0] 26 (0, 0))) := by rw [hX]; exact heap_alloc_new W1 _
    have HPG : Hid (∀ W, Below X.heap.size X W → PgR W (.slice Ak ks.length ck) (.slice Av vs.length cv) (.slice none 0 0) ⟨1, ks, vs, []⟩) := by
      have h9 := (HO.out.alloc (.cells #[.int .i64 1, .slice Ak ks.length ck, .slice Av vs.length cv, .slice none 0 0, .int .i64 0, .int .i64 0, .int .i64 0, .int .i64 0] 26)).rd
      rw [← hX] at h9
      exact Lib.hid fun W hb => h9.up hb
    have HXL : Hid (Below w.heap.size w X) := by rw [hX]; exact HW1.out.alloc HW1.out.size _
    clear hX HO
    obtain ⟨g5, hg5⟩ : ∃ g, g = W1.heap.size := ⟨_, rfl⟩
    rw [← hg5] at HX ⊢
    clear hg5
    refine (HSP.out X _ _ _ _ (HPG.out X (Below.refl _ _))).mono ?_
    rintro e W4 ⟨Aka, cka, Ava, cva, Ana, cna, Akb, ckb, Avb, cvb, Anb, cnb, rfl, ha, hb, hbl⟩
    have HA := Lib.hid ha
    have HBB := Lib.hid hb
    have HB4 := Lib.hid hbl
    clear ha hb hbl HSP
    have hg : g5 < X.heap.size := (Array.getElem?_eq_some_iff.1 HX.out).1
    have HGG := Lib.hid hg
    clear hg
    cases hk : lt k mid with
    | true =>
      have hge := run_geq hk
      simp only [Bool.not_true] at hge
      have hhere := here_left HRI.out HMID.out hk
      rw [← HLA.out] at hhere
      have HRA : Hid (Rise (kp la)) := by rw [HLA.out]; exact rise_take HRI.out _
      have HGS : Hid (∀ W, Below W4.heap.size W4 W → Calls Try.prog 18 #[.agg #[.int .i64 1, .slice Aka la.length cka, .slice Ava va.length cva, .slice Ana 0 cna, .int .i64 0, .int .i64 0, .int .i64 0, .int .i64 0], .string k] W fun e w' => e = .returned (.tuple #[.string (valS ⟨1, ks, vs, []⟩ k), .bool (gotS ⟨1, ks, vs, []⟩ k)]) ∧ Below W.heap.size W w') := fun W hb => (get_any W (HA.out.up hb) HRA.out (fun _ => by rw [HVA.out]; simp) k).mono fun e w' he => ⟨he.1.trans (by
        rw [HVA.out, HVS.out, valS_vk _ _ _ HRA.out, valS_vk _ _ _ HRI.out]
        unfold gotS
        show _ = _
        simp only
        rw [hhere]), he.2⟩
      clear hk hhere
      have hf : (((W4.alloc (.cells #[.int .i64 1, .slice Aka la.length cka, .slice Ava va.length cva, .slice Ana 0 cna, .int .i64 0, .int .i64 0, .int .i64 0, .int .i64 0] 26)).alloc (.cells #[.int .i64 1, .slice Akb lb.length ckb, .slice Avb vb.length cvb, .slice Anb 0 cnb, .int .i64 0, .int .i64 0, .int .i64 0, .int .i64 0] 26)).alloc (.cells #[.int .i64 1, .slice Aka la.length cka, .slice Ava va.length cva, .slice Ana 0 cna, .int .i64 0, .int .i64 0, .int .i64 0, .int .i64 0] 26)).heap[g5]? = X.heap[g5]? := (Below.heap_alloc _ _ _ (by have := HB4.out.size; have := HGG.out; simp; omega)).trans ((Below.heap_alloc _ _ _ (by have := HB4.out.size; have := HGG.out; simp; omega)).trans ((Below.heap_alloc _ _ _ (by have := HB4.out.size; have := HGG.out; omega)).trans (HB4.out.block _ HGG.out)))
      obtain ⟨f0, f1, f2, f3, f4, f5, f6, f7, f8⟩ := row8_facts (hf.trans HX.out)
      clear hf
      go_wp2_with fail
      have hbF : Below X.heap.size X (((W4.alloc (.cells #[.int .i64 1, .slice Aka la.length cka, .slice Ava va.length cva, .slice Ana 0 cna, .int .i64 0, .int .i64 0, .int .i64 0, .int .i64 0] 26)).alloc (.cells #[.int .i64 1, .slice Akb lb.length ckb, .slice Avb vb.length cvb, .slice Anb 0 cnb, .int .i64 0, .int .i64 0, .int .i64 0, .int .i64 0] 26)).alloc (.cells #[.int .i64 1, .slice Aka la.length cka, .slice Ava va.length cva, .slice Ana 0 cna, .int .i64 0, .int .i64 0, .int .i64 0, .int .i64 0] 26)) := ((HB4.out.alloc HB4.out.size _).alloc (by have := HB4.out.size; simp; omega) _).alloc (by have := HB4.out.size; simp; omega) _
      have hb4 : Below W4.heap.size W4 (((W4.alloc (.cells #[.int .i64 1, .slice Aka la.length cka, .slice Ava va.length cva, .slice Ana 0 cna, .int .i64 0, .int .i64 0, .int .i64 0, .int .i64 0] 26)).alloc (.cells #[.int .i64 1, .slice Akb lb.length ckb, .slice Avb vb.length cvb, .slice Anb 0 cnb, .int .i64 0, .int .i64 0, .int .i64 0, .int .i64 0] 26)).alloc (.cells #[.int .i64 1, .slice Aka la.length cka, .slice Ava va.length cva, .slice Ana 0 cna, .int .i64 0, .int .i64 0, .int .i64 0, .int .i64 0] 26)) := (((Below.refl _ W4).alloc (Nat.le_refl _) _).alloc (by simp) _).alloc (by simp; omega) _
      have hrs := heap_alloc_new ((W4.alloc (.cells #[.int .i64 1, .slice Aka la.length cka, .slice Ava va.length cva, .slice Ana 0 cna, .int .i64 0, .int .i64 0, .int .i64 0, .int .i64 0] 26)).alloc (.cells #[.int .i64 1, .slice Akb lb.length ckb, .slice Avb vb.length cvb, .slice Anb 0 cnb, .int .i64 0, .int .i64 0, .int .i64 0, .int .i64 0] 26)) (.cells #[.int .i64 1, .slice Aka la.length cka, .slice Ava va.length cva, .slice Ana 0 cna, .int .i64 0, .int .i64 0, .int .i64 0, .int .i64 0] 26)
      rw [World.size_alloc, World.size_alloc] at hrs
      obtain ⟨Y, hY⟩ : ∃ Y, Y = ((W4.alloc (.cells #[.int .i64 1, .slice Aka la.length cka, .slice Ava va.length cva, .slice Ana 0 cna, .int .i64 0, .int .i64 0, .int .i64 0, .int .i64 0] 26)).alloc (.cells #[.int .i64 1, .slice Akb lb.length ckb, .slice Avb vb.length cvb, .slice Anb 0 cnb, .int .i64 0, .int .i64 0, .int .i64 0, .int .i64 0] 26)).alloc (.cells #[.int .i64 1, .slice Aka la.length cka, .slice Ava va.length cva, .slice Ana 0 cna, .int .i64 0, .int .i64 0, .int .i64 0, .int .i64 0] 26) := ⟨_, rfl⟩
      rw [← hY] at hbF hb4 hrs ⊢
      have HBF := Lib.hid hbF
      have HBF4 := Lib.hid hb4
      have HRS := Lib.hid hrs
      clear hY hbF hb4 hrs f0 f1 f2 f3 f4 f5 f6 f7 f8
      refine (get_any Y (HPG.out Y HBF.out) HRI.out (fun _ => HVL.out) k).mono ?_
      rintro e Y1 ⟨rfl, hb⟩
      have HY1 := Lib.hid hb
      clear hb
      obtain ⟨sv, hsv⟩ : ∃ s, s = valS ⟨1, ks, vs, []⟩ k := ⟨_, rfl⟩
      obtain ⟨gv, hgv⟩ : ∃ b, b = gotS ⟨1, ks, vs, []⟩ k := ⟨_, rfl⟩
      rw [← hsv, ← hgv]
      have HSV := Lib.hid hsv
      have HGV := Lib.hid hgv
      clear hsv hgv
      obtain ⟨f0, f1, f2, f3, f4, f5, f6, f7, f8⟩ := row8_facts ((HY1.out.block _ (Array.getElem?_eq_some_iff.1 HRS.out).1).trans HRS.out)
      go_wp2_with fail
      refine (HGS.out Y1 (HBF4.out.trans (HY1.out.mono HBF4.out.size))).mono ?_
      rintro e Y2 ⟨he, hb⟩
      rw [← HSV.out, ← HGV.out] at he
      subst he
      have HY2 := Lib.hid hb
      clear hb f0 f1 f2 f3 f4 f5 f6 f7 f8
      cases gv with
      | true =>
        go_wp2_with fail
        go_ret
        exact ⟨rfl, HXL.out.trans ((HBF.out.trans ((HY1.out.trans (HY2.out.mono HY1.out.size)).mono HBF.out.size)).mono HXL.out.size)⟩
      | false =>
        go_wp2_with fail
        go_ret
        exact ⟨rfl, HXL.out.trans ((HBF.out.trans ((HY1.out.trans (HY2.out.mono HY1.out.size)).mono HBF.out.size)).mono HXL.out.size)⟩
    | false =>
      have hge := run_geq hk
      simp only [Bool.not_false] at hge
      have hhere := here_right HRI.out HMID.out hk
      rw [← HLB.out] at hhere
      have HRA : Hid (Rise (kp lb)) := by rw [HLB.out]; exact rise_drop HRI.out _
      have HGS : Hid (∀ W, Below W4.heap.size W4 W → Calls Try.prog 18 #[.agg #[.int .i64 1, .slice Akb lb.length ckb, .slice Avb vb.length cvb, .slice Anb 0 cnb, .int .i64 0, .int .i64 0, .int .i64 0, .int .i64 0], .string k] W fun e w' => e = .returned (.tuple #[.string (valS ⟨1, ks, vs, []⟩ k), .bool (gotS ⟨1, ks, vs, []⟩ k)]) ∧ Below W.heap.size W w') := fun W hb => (get_any W (HBB.out.up hb) HRA.out (fun _ => by rw [HVB.out]; simp) k).mono fun e w' he => ⟨he.1.trans (by
        rw [HVB.out, HVS.out, valS_vk _ _ _ HRA.out, valS_vk _ _ _ HRI.out]
        unfold gotS
        show _ = _
        simp only
        rw [hhere]), he.2⟩
      clear hk hhere
      have hf : (((W4.alloc (.cells #[.int .i64 1, .slice Aka la.length cka, .slice Ava va.length cva, .slice Ana 0 cna, .int .i64 0, .int .i64 0, .int .i64 0, .int .i64 0] 26)).alloc (.cells #[.int .i64 1, .slice Akb lb.length ckb, .slice Avb vb.length cvb, .slice Anb 0 cnb, .int .i64 0, .int .i64 0, .int .i64 0, .int .i64 0] 26)).alloc (.cells #[.int .i64 1, .slice Akb lb.length ckb, .slice Avb vb.length cvb, .slice Anb 0 cnb, .int .i64 0, .int .i64 0, .int .i64 0, .int .i64 0] 26)).heap[g5]? = X.heap[g5]? := (Below.heap_alloc _ _ _ (by have := HB4.out.size; have := HGG.out; simp; omega)).trans ((Below.heap_alloc _ _ _ (by have := HB4.out.size; have := HGG.out; simp; omega)).trans ((Below.heap_alloc _ _ _ (by have := HB4.out.size; have := HGG.out; omega)).trans (HB4.out.block _ HGG.out)))
      obtain ⟨f0, f1, f2, f3, f4, f5, f6, f7, f8⟩ := row8_facts (hf.trans HX.out)
      clear hf
      go_wp2_with fail
      have hbF : Below X.heap.size X (((W4.alloc (.cells #[.int .i64 1, .slice Aka la.length cka, .slice Ava va.length cva, .slice Ana 0 cna, .int .i64 0, .int .i64 0, .int .i64 0, .int .i64 0] 26)).alloc (.cells #[.int .i64 1, .slice Akb lb.length ckb, .slice Avb vb.length cvb, .slice Anb 0 cnb, .int .i64 0, .int .i64 0, .int .i64 0, .int .i64 0] 26)).alloc (.cells #[.int .i64 1, .slice Akb lb.length ckb, .slice Avb vb.length cvb, .slice Anb 0 cnb, .int .i64 0, .int .i64 0, .int .i64 0, .int .i64 0] 26)) := ((HB4.out.alloc HB4.out.size _).alloc (by have := HB4.out.size; simp; omega) _).alloc (by have := HB4.out.size; simp; omega) _
      have hb4 : Below W4.heap.size W4 (((W4.alloc (.cells #[.int .i64 1, .slice Aka la.length cka, .slice Ava va.length cva, .slice Ana 0 cna, .int .i64 0, .int .i64 0, .int .i64 0, .int .i64 0] 26)).alloc (.cells #[.int .i64 1, .slice Akb lb.length ckb, .slice Avb vb.length cvb, .slice Anb 0 cnb, .int .i64 0, .int .i64 0, .int .i64 0, .int .i64 0] 26)).alloc (.cells #[.int .i64 1, .slice Akb lb.length ckb, .slice Avb vb.length cvb, .slice Anb 0 cnb, .int .i64 0, .int .i64 0, .int .i64 0, .int .i64 0] 26)) := (((Below.refl _ W4).alloc (Nat.le_refl _) _).alloc (by simp) _).alloc (by simp; omega) _
      have hrs := heap_alloc_new ((W4.alloc (.cells #[.int .i64 1, .slice Aka la.length cka, .slice Ava va.length cva, .slice Ana 0 cna, .int .i64 0, .int .i64 0, .int .i64 0, .int .i64 0] 26)).alloc (.cells #[.int .i64 1, .slice Akb lb.length ckb, .slice Avb vb.length cvb, .slice Anb 0 cnb, .int .i64 0, .int .i64 0, .int .i64 0, .int .i64 0] 26)) (.cells #[.int .i64 1, .slice Akb lb.length ckb, .slice Avb vb.length cvb, .slice Anb 0 cnb, .int .i64 0, .int .i64 0, .int .i64 0, .int .i64 0] 26)
      rw [World.size_alloc, World.size_alloc] at hrs
      obtain ⟨Y, hY⟩ : ∃ Y, Y = ((W4.alloc (.cells #[.int .i64 1, .slice Aka la.length cka, .slice Ava va.length cva, .slice Ana 0 cna, .int .i64 0, .int .i64 0, .int .i64 0, .int .i64 0] 26)).alloc (.cells #[.int .i64 1, .slice Akb lb.length ckb, .slice Avb vb.length cvb, .slice Anb 0 cnb, .int .i64 0, .int .i64 0, .int .i64 0, .int .i64 0] 26)).alloc (.cells #[.int .i64 1, .slice Akb lb.length ckb, .slice Avb vb.length cvb, .slice Anb 0 cnb, .int .i64 0, .int .i64 0, .int .i64 0, .int .i64 0] 26) := ⟨_, rfl⟩
      rw [← hY] at hbF hb4 hrs ⊢
      have HBF := Lib.hid hbF
      have HBF4 := Lib.hid hb4
      have HRS := Lib.hid hrs
      clear hY hbF hb4 hrs f0 f1 f2 f3 f4 f5 f6 f7 f8
      refine (get_any Y (HPG.out Y HBF.out) HRI.out (fun _ => HVL.out) k).mono ?_
      rintro e Y1 ⟨rfl, hb⟩
      have HY1 := Lib.hid hb
      clear hb
      obtain ⟨sv, hsv⟩ : ∃ s, s = valS ⟨1, ks, vs, []⟩ k := ⟨_, rfl⟩
      obtain ⟨gv, hgv⟩ : ∃ b, b = gotS ⟨1, ks, vs, []⟩ k := ⟨_, rfl⟩
      rw [← hsv, ← hgv]
      have HSV := Lib.hid hsv
      have HGV := Lib.hid hgv
      clear hsv hgv
      obtain ⟨f0, f1, f2, f3, f4, f5, f6, f7, f8⟩ := row8_facts ((HY1.out.block _ (Array.getElem?_eq_some_iff.1 HRS.out).1).trans HRS.out)
      go_wp2_with fail
      refine (HGS.out Y1 (HBF4.out.trans (HY1.out.mono HBF4.out.size))).mono ?_
      rintro e Y2 ⟨he, hb⟩
      rw [← HSV.out, ← HGV.out] at he
      subst he
      have HY2 := Lib.hid hb
      clear hb f0 f1 f2 f3 f4 f5 f6 f7 f8
      cases gv with
      | true =>
        go_wp2_with fail
        go_ret
        exact ⟨rfl, HXL.out.trans ((HBF.out.trans ((HY1.out.trans (HY2.out.mono HY1.out.size)).mono HBF.out.size)).mono HXL.out.size)⟩
      | false =>
        go_wp2_with fail
        go_ret
        exact ⟨rfl, HXL.out.trans ((HBF.out.trans ((HY1.out.trans (HY2.out.mono HY1.out.size)).mono HBF.out.size)).mono HXL.out.size)⟩
set_option maxHeartbeats 2000000 in
set_option maxRecDepth 100000 in
theorem parts_inner {v : Value} {keys : List S} (w : World) (h : Rd w w.heap.size 1 v keys.length (sc keys)) (hn : keys.length ≤ 20) (hsz : ∀ k ∈ keys, k.size < 9223372036854775807) (k : S) :
    Calls Try.prog 4 #[v, .bool true, .string k] w fun e w' => e = .returned (.bool true) ∧ Below w.heap.size w w' := by
  have HR : Hid (∀ W, Below w.heap.size w W → Rd W W.heap.size 1 v keys.length (sc keys)) := fun W hb => h.up hb
  obtain ⟨_, A, c, rfl, _, _, _⟩ := h
  obtain ⟨hri, hle⟩ := leafK_rise _ keys rfl
  obtain ⟨ks, hks⟩ : ∃ ks, ks = leafK keys := ⟨_, rfl⟩
  obtain ⟨vs, hvs⟩ : ∃ vs, vs = ks.map vk := ⟨_, rfl⟩
  obtain ⟨kd, hkd⟩ : ∃ kd, kd = kidsOf (ks.length + 1) 5 := ⟨_, rfl⟩
  have hkl : kd.length = ks.length + 1 := by rw [hkd]; simp [kidsOf]
  have HL : Hid (∀ W, Below w.heap.size w W → Calls Try.prog 9 #[.slice A keys.length c] W fun e w' => ∃ Ak ck Av cv, e = .returned (.agg #[.int .i64 1, .slice Ak ks.length ck, .slice Av vs.length cv, .slice none 0 0, .int .i64 0, .int .i64 0, .int .i64 0, .int .i64 0]) ∧ PgO w' W.heap.size (.slice Ak ks.length ck) (.slice Av vs.length cv) (.slice none 0 0) ⟨1, ks, vs, []⟩ ∧ Below W.heap.size W w') := fun W hb => leaf_row W (HR.out W hb) hn hsz hks hvs
  have HI : Hid (∀ W, Below w.heap.size w W → Calls Try.prog 10 #[.slice A keys.length c, .int .i64 5] W fun e w' => ∃ Ak ck An cn, e = .returned (.agg #[.int .i64 2, .slice Ak ks.length ck, .slice none 0 0, .slice An kd.length cn, .int .i64 0, .int .i64 0, .int .i64 0, .int .i64 0]) ∧ PgO w' W.heap.size (.slice Ak ks.length ck) (.slice none 0 0) (.slice An kd.length cn) ⟨2, ks, [], kd⟩ ∧ Below W.heap.size W w') := fun W hb => inner_row W (HR.out W hb) hn hsz 5 (by omega) hks hkd
  have hn2 : (keys.length : Int) ≤ 20 := by omega
  rw [← hks] at hri hle
  have HRI := Lib.hid hri
  have HKD := Lib.hid hkd
  have HKL := Lib.hid hkl
  have hk21 : kd.length ≤ 21 := by omega
  clear hri hvs hkl hkd hsz HR hks hle
  unfold pv at *
  go_enter Try.func4, Try.ntmps4
  go_wp2_with fail
  refine (head_any w).mono ?_
  rintro e w0 ⟨rfl, hb0⟩
  have HB0 := Lib.hid hb0
  clear hb0
  go_wp2_with fail
  refine (HL.out w0 HB0.out).mono ?_
  rintro e W1 ⟨Al, cl, Av, cv, rfl, ho, hb1⟩
  have HW1 : Hid (Below w.heap.size w W1) := HB0.out.trans (hb1.mono HB0.out.size)
  clear ho hb1 HL
  go_wp2_with fail
  refine (HI.out _ (HW1.out.alloc HW1.out.size _)).mono ?_
  rintro e W2 ⟨Ak, ck, An, cn, rfl, ho, hb2⟩
  have HO := Lib.hid ho
  have HW2 : Hid (Below w.heap.size w W2) := (HW1.out.alloc HW1.out.size _).trans (hb2.mono (by have := HW1.out.size; simp; omega))
  have HR2 := Lib.hid ((hb2.block W1.heap.size (by simp)).trans (heap_alloc_new W1 (.cells #[.int .i64 1, .slice Al ks.length cl, .slice Av vs.length cv, .slice none 0 0, .int .i64 0, .int .i64 0, .int .i64 0, .int .i64 0] 26)))
  have hlt5 := hb2.size
  rw [World.size_alloc] at hlt5
  have HW12 := Lib.hid HW1.out.size
  clear ho hb2 HI
  obtain ⟨g5, hg5⟩ : ∃ g, g = W1.heap.size := ⟨_, rfl⟩
  rw [← hg5] at HR2 HW12 hlt5 ⊢
  have HLT5 := Lib.hid hlt5
  have hbase : W1.heap.size + 1 ≤ (W1.alloc (.cells #[.int .i64 1, .slice Al ks.length cl, .slice Av vs.length cv, .slice none 0 0, .int .i64 0, .int .i64 0, .int .i64 0, .int .i64 0] 26)).heap.size := by simp
  have HO2 := Lib.hid (HO.out.base_ hbase)
  rw [← hg5] at HO2
  clear hbase hg5 hlt5 HO
  obtain ⟨f0, f1, f2, f3, f4, f5, f6, f7, f8⟩ := row8_facts HR2.out
  by_cases h2 : kd.length < 4
  · have i2 : (kd.length : Int) < 4 := by omega
    go_wp2_with fail
    go_ret
    exact ⟨rfl, set8_below HW2.out HW12.out _ _ _ _ _ _ _ _⟩
  · have i2 : ¬ ((kd.length : Int) < 4) := by omega
    obtain ⟨m, hm⟩ : ∃ m, m = kd.length / 2 := ⟨_, rfl⟩
    obtain ⟨q, hq⟩ : ∃ q, m = q + 1 := ⟨m - 1, by omega⟩
    have hkl := HKL.out
    obtain ⟨mid, hmid⟩ : ∃ mid, ks[q]? = some mid := ⟨ks[q]'(by omega), List.getElem?_eq_getElem _⟩
    obtain ⟨la, hla⟩ : ∃ la, la = ks.take q := ⟨_, rfl⟩
    obtain ⟨lb, hlb⟩ : ∃ lb, lb = ks.drop m := ⟨_, rfl⟩
    obtain ⟨da, hda⟩ : ∃ da, da = kd.take m := ⟨_, rfl⟩
    obtain ⟨db, hdb⟩ : ∃ db, db = kd.drop m := ⟨_, rfl⟩
    have HMID := Lib.hid hmid
    have HLA := Lib.hid hla
    have HLB := Lib.hid hlb
    have HDA := Lib.hid hda
    have HDB := Lib.hid hdb
    have HM := Lib.hid hm
    have HQ := Lib.hid hq
    have HSP : Hid (∀ W Ak ck An cn, PgR W (.slice Ak ks.length ck) (.slice none 0 0) (.slice An kd.length cn) ⟨2, ks, [], kd⟩ → Calls Try.prog 12 #[.agg #[.int .i64 2, .slice Ak ks.length ck, .slice none 0 0, .slice An kd.length cn, .int .i64 0, .int .i64 0, .int .i64 0, .int .i64 0]] W fun e w' => ∃ Aka cka Ava cva Ana cna Akb ckb Avb cvb Anb cnb, e = .returned (.tuple #[.agg #[.int .i64 2, .slice Aka la.length cka, .slice Ava 0 cva, .slice Ana da.length cna, .int .i64 0, .int .i64 0, .int .i64 0, .int .i64 0], .string mid, .agg #[.int .i64 2, .slice Akb lb.length ckb, .slice Avb 0 cvb, .slice Anb db.length cnb, .int .i64 0, .int .i64 0, .int .i64 0, .int .i64 0]]) ∧ PgR w' (.slice Aka la.length cka) (.slice Ava 0 cva) (.slice Ana da.length cna) ⟨2, la, [], da⟩ ∧ PgR w' (.slice Akb lb.length ckb) (.slice Avb 0 cvb) (.slice Anb db.length cnb) ⟨2, lb, [], db⟩ ∧ Below W.heap.size W w') := fun W Ak ck An cn hp => (split_inner W hp hkl (by omega) hm hq HMID.out).mono fun e w' he => by
      obtain ⟨ka, va', na, kb, vb', nb, e1, p1, p2, hb⟩ := he
      rw [← HLA.out, ← HDA.out] at p1
      rw [← HLB.out, ← HDB.out] at p2
      obtain ⟨Aka, cka, Ava, cva, Ana, cna, q1, q2, q3⟩ := p1.forms
      obtain ⟨Akb, ckb, Avb, cvb, Anb, cnb, q4, q5, q6⟩ := p2.forms
      subst q1 q2 q3 q4 q5 q6
      exact ⟨_, _, _, _, _, _, _, _, _, _, _, _, e1, p1, p2, hb⟩
    clear hm hq hmid hla hlb hda hdb hkl
    go_wp2_with fail
    clear f0 f1 f2 f3 f4 f5 f6 f7 f8
    obtain ⟨X, hX⟩ : ∃ X, X = ((((((((W2.setCell ⟨g5, 0, none⟩ (.int .i64 2)).setCell ⟨g5, 1, none⟩ (.slice Ak ks.length ck)).setCell ⟨g5, 2, none⟩ (.slice none 0 0)).setCell ⟨g5, 3, none⟩ (.slice An kd.length cn)).setCell ⟨g5, 4, none⟩ (.int .i64 0)).setCell ⟨g5, 5, none⟩ (.int .i64 0)).setCell ⟨g5, 6, none⟩ (.int .i64 0)).setCell ⟨g5, 7, none⟩ (.int .i64 0)) := ⟨_, rfl⟩
    rw [← hX]
    have HX : Hid (X.heap[g5]? = some (.cells #[.int .i64 2, .slice Ak ks.length ck, .slice none 0 0, .slice An kd.length cn, .int .i64 0, .int .i64 0, .int .i64 0, .int .i64 0] 26 (0, 0))) := by rw [hX]; exact row8_set HR2.out _ _ _ _ _ _ _ _
    have HPG : Hid (∀ W, Below X.heap.size X W → PgR W (.slice Ak ks.length ck) (.slice none 0 0) (.slice An kd.length cn) ⟨2, ks, [], kd⟩) := by
      have h9 : PgR X (.slice Ak ks.length ck) (.slice none 0 0) (.slice An kd.length cn) ⟨2, ks, [], kd⟩ := by
        rw [hX]; exact (HO2.out.kept fun k hk => set8_ne _ (by omega) _ _ _ _ _ _ _ _).rd
      exact Lib.hid fun W hb => h9.up hb
    have HXL : Hid (Below w.heap.size w X) := by rw [hX]; exact set8_below HW2.out HW12.out _ _ _ _ _ _ _ _
    clear hX HO2 HR2
    refine (HSP.out X _ _ _ _ (HPG.out X (Below.refl _ _))).mono ?_
    rintro e W4 ⟨Aka, cka, Ava, cva, Ana, cna, Akb, ckb, Avb, cvb, Anb, cnb, rfl, ha, hb, hbl⟩
    have HA := Lib.hid ha
    have HBB := Lib.hid hb
    have HB4 := Lib.hid hbl
    clear ha hb hbl HSP
    have hg : g5 < X.heap.size := (Array.getElem?_eq_some_iff.1 HX.out).1
    have HGG := Lib.hid hg
    clear hg
    obtain ⟨u, hu⟩ : ∃ u, u = upTo ks k := ⟨_, rfl⟩
    have hul := upTo_le HRI.out k
    rw [← hu] at hul
    have hkl := HKL.out
    have u1 : u < kd.length := by omega
    have HU := Lib.hid hu
    have HAT : Hid (∀ W, Below X.heap.size X W → Calls Try.prog 17 #[.agg #[.int .i64 2, .slice Ak ks.length ck, .slice none 0 0, .slice An kd.length cn, .int .i64 0, .int .i64 0, .int .i64 0, .int .i64 0], .string k] W fun e w' => ∃ b, e = .returned (.tuple #[.int .i64 u, .bool b]) ∧ Below W.heap.size W w') := fun W hb => (at_any W (HPG.out W hb) HRI.out k).mono fun e w' he => ⟨_, he.1.trans (by
      have e1 : atZ ⟨2, ks, [], kd⟩ k = u := by rw [HU.out]; unfold atZ upTo; simp
      rw [e1]), he.2⟩
    have hc5 : kd[u]? = some (5 + (u : Int)) := by rw [HKD.out]; exact kidsOf_at (by omega)
    have HC5 := Lib.hid hc5
    cases hk : lt k mid with
    | true =>
      have hge := run_geq hk
      simp only [Bool.not_true] at hge
      have hup := upTo_left HRI.out HMID.out hk
      rw [← HLA.out, ← hu] at hup
      have HRA : Hid (Rise (kp la)) := by rw [HLA.out]; exact rise_take HRI.out _
      have hu2 : u < da.length := by
        have h1 := upTo_le HRA.out k
        rw [hup] at h1
        rw [HDA.out]
        have h3 : la.length ≤ q := by rw [HLA.out]; simp; omega
        have := HQ.out
        have := HM.out
        simp
        omega
      have hcs : da[u]? = some (5 + (u : Int)) := by
        rw [HDA.out, List.getElem?_take]
        rw [HDA.out] at hu2
        rw [if_pos (by simp at hu2; omega)]
        exact hc5
      have HAS : Hid (∀ W, Below W4.heap.size W4 W → Calls Try.prog 17 #[.agg #[.int .i64 2, .slice Aka la.length cka, .slice Ava 0 cva, .slice Ana da.length cna, .int .i64 0, .int .i64 0, .int .i64 0, .int .i64 0], .string k] W fun e w' => ∃ b, e = .returned (.tuple #[.int .i64 u, .bool b]) ∧ Below W.heap.size W w') := fun W hb => (at_any W (HA.out.up hb) HRA.out k).mono fun e w' he => ⟨_, he.1.trans (by
        have e1 : atZ ⟨2, la, [], da⟩ k = u := by rw [← hup]; unfold atZ upTo; simp
        rw [e1]), he.2⟩
      clear hk hup hu hul hkl hc5
      obtain ⟨u', hu'⟩ : ∃ u', u' = u := ⟨_, rfl⟩
      rw [← hu'] at HAS hu2
      rw [show da[u]? = da[u']? by rw [hu']] at hcs
      have HCS := Lib.hid hcs
      clear hcs hu'
      have hf : (((W4.alloc (.cells #[.int .i64 2, .slice Aka la.length cka, .slice Ava 0 cva, .slice Ana da.length cna, .int .i64 0, .int .i64 0, .int .i64 0, .int .i64 0] 26)).alloc (.cells #[.int .i64 2, .slice Akb lb.length ckb, .slice Avb 0 cvb, .slice Anb db.length cnb, .int .i64 0, .int .i64 0, .int .i64 0, .int .i64 0] 26)).alloc (.cells #[.int .i64 2, .slice Aka la.length cka, .slice Ava 0 cva, .slice Ana da.length cna, .int .i64 0, .int .i64 0, .int .i64 0, .int .i64 0] 26)).heap[g5]? = X.heap[g5]? := (Below.heap_alloc _ _ _ (by have := HB4.out.size; have := HGG.out; simp; omega)).trans ((Below.heap_alloc _ _ _ (by have := HB4.out.size; have := HGG.out; simp; omega)).trans ((Below.heap_alloc _ _ _ (by have := HB4.out.size; have := HGG.out; omega)).trans (HB4.out.block _ HGG.out)))
      obtain ⟨f0, f1, f2, f3, f4, f5, f6, f7, f8⟩ := row8_facts (hf.trans HX.out)
      clear hf
      go_wp2_with fail
      have hbF : Below X.heap.size X (((W4.alloc (.cells #[.int .i64 2, .slice Aka la.length cka, .slice Ava 0 cva, .slice Ana da.length cna, .int .i64 0, .int .i64 0, .int .i64 0, .int .i64 0] 26)).alloc (.cells #[.int .i64 2, .slice Akb lb.length ckb, .slice Avb 0 cvb, .slice Anb db.length cnb, .int .i64 0, .int .i64 0, .int .i64 0, .int .i64 0] 26)).alloc (.cells #[.int .i64 2, .slice Aka la.length cka, .slice Ava 0 cva, .slice Ana da.length cna, .int .i64 0, .int .i64 0, .int .i64 0, .int .i64 0] 26)) := ((HB4.out.alloc HB4.out.size _).alloc (by have := HB4.out.size; simp; omega) _).alloc (by have := HB4.out.size; simp; omega) _
      have hb4 : Below W4.heap.size W4 (((W4.alloc (.cells #[.int .i64 2, .slice Aka la.length cka, .slice Ava 0 cva, .slice Ana da.length cna, .int .i64 0, .int .i64 0, .int .i64 0, .int .i64 0] 26)).alloc (.cells #[.int .i64 2, .slice Akb lb.length ckb, .slice Avb 0 cvb, .slice Anb db.length cnb, .int .i64 0, .int .i64 0, .int .i64 0, .int .i64 0] 26)).alloc (.cells #[.int .i64 2, .slice Aka la.length cka, .slice Ava 0 cva, .slice Ana da.length cna, .int .i64 0, .int .i64 0, .int .i64 0, .int .i64 0] 26)) := (((Below.refl _ W4).alloc (Nat.le_refl _) _).alloc (by simp) _).alloc (by simp; omega) _
      have hrs := heap_alloc_new ((W4.alloc (.cells #[.int .i64 2, .slice Aka la.length cka, .slice Ava 0 cva, .slice Ana da.length cna, .int .i64 0, .int .i64 0, .int .i64 0, .int .i64 0] 26)).alloc (.cells #[.int .i64 2, .slice Akb lb.length ckb, .slice Avb 0 cvb, .slice Anb db.length cnb, .int .i64 0, .int .i64 0, .int .i64 0, .int .i64 0] 26)) (.cells #[.int .i64 2, .slice Aka la.length cka, .slice Ava 0 cva, .slice Ana da.length cna, .int .i64 0, .int .i64 0, .int .i64 0, .int .i64 0] 26)
      rw [World.size_alloc, World.size_alloc] at hrs
      obtain ⟨Y, hY⟩ : ∃ Y, Y = ((W4.alloc (.cells #[.int .i64 2, .slice Aka la.length cka, .slice Ava 0 cva, .slice Ana da.length cna, .int .i64 0, .int .i64 0, .int .i64 0, .int .i64 0] 26)).alloc (.cells #[.int .i64 2, .slice Akb lb.length ckb, .slice Avb 0 cvb, .slice Anb db.length cnb, .int .i64 0, .int .i64 0, .int .i64 0, .int .i64 0] 26)).alloc (.cells #[.int .i64 2, .slice Aka la.length cka, .slice Ava 0 cva, .slice Ana da.length cna, .int .i64 0, .int .i64 0, .int .i64 0, .int .i64 0] 26) := ⟨_, rfl⟩
      rw [← hY] at hbF hb4 hrs ⊢
      have HBF := Lib.hid hbF
      have HBF4 := Lib.hid hb4
      have HRS := Lib.hid hrs
      clear hY hbF hb4 hrs f0 f1 f2 f3 f4 f5 f6 f7 f8
      refine (HAT.out Y HBF.out).mono ?_
      rintro e Y1 ⟨b1, rfl, hb⟩
      have HY1 := Lib.hid hb
      clear hb
      obtain ⟨f0, f1, f2, f3, f4, f5, f6, f7, f8⟩ := row8_facts ((HY1.out.block _ (Array.getElem?_eq_some_iff.1 HRS.out).1).trans HRS.out)
      go_wp2_with fail
      refine (HAS.out Y1 (HBF4.out.trans (HY1.out.mono HBF4.out.size))).mono ?_
      rintro e Y2 ⟨b2, rfl, hb⟩
      have HY2 : Hid (Below Y.heap.size Y Y2) := HY1.out.trans (hb.mono HY1.out.size)
      clear hb f0 f1 f2 f3 f4 f5 f6 f7 f8
      obtain ⟨gn, on, cz, e, hgn, _, _, hx⟩ := (HPG.out Y2 (HBF.out.trans (HY2.out.mono HBF.out.size))).kids.cells (show 0 < kd.length by omega)
      injection e with e1 e2 e3
      clear e2 e3
      subst e1
      have hcA := hx u _ (ic_at HC5.out)
      clear hx
      obtain ⟨gs, os, cz2, e, hgs, _, _, hx⟩ := (HA.out.up (HBF4.out.trans (HY2.out.mono HBF4.out.size))).kids.cells (show 0 < da.length by omega)
      injection e with e1 e2 e3
      clear e2 e3
      subst e1
      have hcB := hx u' _ (ic_at HCS.out)
      have HCA := Lib.hid hcA
      have HCB := Lib.hid hcB
      have HGN := Lib.hid hgn
      have HGS2 := Lib.hid hgs
      clear hx hcA hcB hgn hgs
      have j0 : (0 : Int) ≤ (u : Int) := by omega
      have j1 : (u : Int) < (kd.length : Int) := by omega
      have j2 : (0 : Int) ≤ (u' : Int) := by omega
      have j3 : (u' : Int) < (da.length : Int) := by omega
      have HRX := Lib.hid ((HY2.out.block _ (by have := (HBF.out.size); have := HGG.out; omega)).trans ((HBF.out.block _ HGG.out).trans HX.out))
      have HRY := Lib.hid ((HY2.out.block _ (Array.getElem?_eq_some_iff.1 HRS.out).1).trans HRS.out)
      go_wp2_with fail
      refine Held3.ways_start (fun _ W W' => (fun W : World => Below Y2.heap.size Y2 W) W → (fun W : World => Below Y2.heap.size Y2 W) W') (by kernel_rfl) ?_
      obtain ⟨D, hD⟩ : ∃ D, D = Y2.drew := ⟨_, rfl⟩
      rw [← hD]
      have HBD : Hid (Below Y2.heap.size Y2 D) := by rw [hD]; exact (Below.refl _ Y2).drew
      clear hD
      refine Held3.Ways.plain (i := 0) (oi := ?oa1) ?va1 ?hia1 ?hsa1 ?hfa1 ?hra1 ?hQa1 ?hya1 (fun _ _ => id) ?resta1
      case hia1 => exact rfl
      case hsa1 => kernel_rfl
      case hfa1 => kernel_rfl
      case hra1 => kernel_rfl
      case hQa1 => exact fun _ _ _ h => h
      case hya1 =>
        refine .inl ⟨by rfl, fun W _ => ?_⟩
        go_simp
        try with_reducible rfl
      try simp only [Act.put, List.setIfInBounds_toArray, List.set_cons_zero, List.set_cons_succ]
      refine Held3.Ways.take (i := 1) (oi := ?oa2) (fun W : World => Below Y2.heap.size Y2 W) (fun _ => true) ?va2 ?hia2 ?hsa2 ?hfa2 ?hlwa2 ?hra2 ?hQa2 HBD.out ?hya2 (fun _ _ _ h _ => h) (fun _ _ => id) ?resta2
      case hia2 => exact rfl
      case hsa2 => kernel_rfl
      case hfa2 => kernel_rfl
      case hlwa2 => kernel_rfl
      case hra2 => kernel_rfl
      case hQa2 => exact fun _ _ _ h => h
      case hya2 =>
        refine .inl ⟨by rfl, fun W hW => ?_⟩
        obtain ⟨f0, f1, f2, f3, f4, f5, f6, f7, f8⟩ := row8_facts ((hW.block _ (Array.getElem?_eq_some_iff.1 HRX.out).1).trans HRX.out)
        obtain ⟨z0, z1, z2, z3, z4, z5, z6, z7, z8⟩ := row8_facts ((hW.block _ (Array.getElem?_eq_some_iff.1 HRY.out).1).trans HRY.out)
        have cA := (hW.cell (p := ⟨gn, on + u, none⟩) HGN.out).trans HCA.out
        have cB := (hW.cell (p := ⟨gs, os + u', none⟩) HGS2.out).trans HCB.out
        go_simp
        try with_reducible rfl
      try simp only [Act.put, List.setIfInBounds_toArray, List.set_cons_zero, List.set_cons_succ]
      refine Held3.Ways.plain (i := 2) (oi := ?oa3) ?va3 ?hia3 ?hsa3 ?hfa3 ?hra3 ?hQa3 ?hya3 (fun _ _ => id) ?resta3
      case hia3 => exact rfl
      case hsa3 => kernel_rfl
      case hfa3 => kernel_rfl
      case hra3 => kernel_rfl
      case hQa3 => exact fun _ _ _ h => h
      case hya3 =>
        refine .inl ⟨by rfl, fun W _ => ?_⟩
        go_simp
        try with_reducible rfl
      try simp only [Act.put, List.setIfInBounds_toArray, List.set_cons_zero, List.set_cons_succ]
      refine Held3.Ways.plain (i := 3) (oi := ?oa4) ?va4 ?hia4 ?hsa4 ?hfa4 ?hra4 ?hQa4 ?hya4 (fun _ _ => id) ?resta4
      case hia4 => exact rfl
      case hsa4 => kernel_rfl
      case hfa4 => kernel_rfl
      case hra4 => kernel_rfl
      case hQa4 => exact fun _ _ _ h => h
      case hya4 =>
        refine .inl ⟨by rfl, fun W _ => ?_⟩
        go_simp
        try with_reducible rfl
      try simp only [Act.put, List.setIfInBounds_toArray, List.set_cons_zero, List.set_cons_succ]
      refine Held3.Ways.take (i := 4) (oi := ?oa5) (fun W : World => Below Y2.heap.size Y2 W) (fun _ => true) ?va5 ?hia5 ?hsa5 ?hfa5 ?hlwa5 ?hra5 ?hQa5 HBD.out ?hya5 (fun _ _ _ h _ => h) (fun _ _ => id) ?resta5
      case hia5 => exact rfl
      case hsa5 => kernel_rfl
      case hfa5 => kernel_rfl
      case hlwa5 => kernel_rfl
      case hra5 => kernel_rfl
      case hQa5 => exact fun _ _ _ h => h
      case hya5 =>
        refine .inl ⟨by rfl, fun W hW => ?_⟩
        obtain ⟨f0, f1, f2, f3, f4, f5, f6, f7, f8⟩ := row8_facts ((hW.block _ (Array.getElem?_eq_some_iff.1 HRX.out).1).trans HRX.out)
        obtain ⟨z0, z1, z2, z3, z4, z5, z6, z7, z8⟩ := row8_facts ((hW.block _ (Array.getElem?_eq_some_iff.1 HRY.out).1).trans HRY.out)
        have cA := (hW.cell (p := ⟨gn, on + u, none⟩) HGN.out).trans HCA.out
        have cB := (hW.cell (p := ⟨gs, os + u', none⟩) HGS2.out).trans HCB.out
        go_simp
        try with_reducible rfl
      try simp only [Act.put, List.setIfInBounds_toArray, List.set_cons_zero, List.set_cons_succ]
      refine Held3.Ways.plain (i := 5) (oi := ?oa6) ?va6 ?hia6 ?hsa6 ?hfa6 ?hra6 ?hQa6 ?hya6 (fun _ _ => id) ?resta6
      case hia6 => exact rfl
      case hsa6 => kernel_rfl
      case hfa6 => kernel_rfl
      case hra6 => kernel_rfl
      case hQa6 => exact fun _ _ _ h => h
      case hya6 =>
        refine .inl ⟨by rfl, fun W _ => ?_⟩
        go_simp
        try with_reducible rfl
      try simp only [Act.put, List.setIfInBounds_toArray, List.set_cons_zero, List.set_cons_succ]
      refine Held3.Ways.take (i := 6) (oi := ?oa7) (fun W : World => Below Y2.heap.size Y2 W) (fun _ => true) ?va7 ?hia7 ?hsa7 ?hfa7 ?hlwa7 ?hra7 ?hQa7 HBD.out ?hya7 (fun _ _ _ h _ => h) (fun _ _ => id) ?resta7
      case hia7 => exact rfl
      case hsa7 => kernel_rfl
      case hfa7 => kernel_rfl
      case hlwa7 => kernel_rfl
      case hra7 => kernel_rfl
      case hQa7 => exact fun _ _ _ h => h
      case hya7 =>
        refine .inl ⟨by rfl, fun W hW => ?_⟩
        obtain ⟨f0, f1, f2, f3, f4, f5, f6, f7, f8⟩ := row8_facts ((hW.block _ (Array.getElem?_eq_some_iff.1 HRX.out).1).trans HRX.out)
        obtain ⟨z0, z1, z2, z3, z4, z5, z6, z7, z8⟩ := row8_facts ((hW.block _ (Array.getElem?_eq_some_iff.1 HRY.out).1).trans HRY.out)
        have cA := (hW.cell (p := ⟨gn, on + u, none⟩) HGN.out).trans HCA.out
        have cB := (hW.cell (p := ⟨gs, os + u', none⟩) HGS2.out).trans HCB.out
        go_simp
        try with_reducible rfl
      try simp only [Act.put, List.setIfInBounds_toArray, List.set_cons_zero, List.set_cons_succ]
      refine Held3.Ways.plain (i := 7) (oi := ?oa8) ?va8 ?hia8 ?hsa8 ?hfa8 ?hra8 ?hQa8 ?hya8 (fun _ _ => id) ?resta8
      case hia8 => exact rfl
      case hsa8 => kernel_rfl
      case hfa8 => kernel_rfl
      case hra8 => kernel_rfl
      case hQa8 => exact fun _ _ _ h => h
      case hya8 =>
        refine .inl ⟨by rfl, fun W _ => ?_⟩
        go_simp
        try with_reducible rfl
      try simp only [Act.put, List.setIfInBounds_toArray, List.set_cons_zero, List.set_cons_succ]
      refine Held3.Ways.plain (i := 8) (oi := ?oa9) ?va9 ?hia9 ?hsa9 ?hfa9 ?hra9 ?hQa9 ?hya9 (fun _ _ => id) ?resta9
      case hia9 => exact rfl
      case hsa9 => kernel_rfl
      case hfa9 => kernel_rfl
      case hra9 => kernel_rfl
      case hQa9 => exact fun _ _ _ h => h
      case hya9 =>
        refine .inl ⟨by rfl, fun W _ => ?_⟩
        go_simp
        try with_reducible rfl
      try simp only [Act.put, List.setIfInBounds_toArray, List.set_cons_zero, List.set_cons_succ]
      refine Held3.Ways.take (i := 9) (oi := ?oa10) (fun W : World => Below Y2.heap.size Y2 W) (fun _ => true) ?va10 ?hia10 ?hsa10 ?hfa10 ?hlwa10 ?hra10 ?hQa10 HBD.out ?hya10 (fun _ _ _ h _ => h) (fun _ _ => id) ?resta10
      case hia10 => exact rfl
      case hsa10 => kernel_rfl
      case hfa10 => kernel_rfl
      case hlwa10 => kernel_rfl
      case hra10 => kernel_rfl
      case hQa10 => exact fun _ _ _ h => h
      case hya10 =>
        refine .inl ⟨by rfl, fun W hW => ?_⟩
        obtain ⟨f0, f1, f2, f3, f4, f5, f6, f7, f8⟩ := row8_facts ((hW.block _ (Array.getElem?_eq_some_iff.1 HRX.out).1).trans HRX.out)
        obtain ⟨z0, z1, z2, z3, z4, z5, z6, z7, z8⟩ := row8_facts ((hW.block _ (Array.getElem?_eq_some_iff.1 HRY.out).1).trans HRY.out)
        have cA := (hW.cell (p := ⟨gn, on + u, none⟩) HGN.out).trans HCA.out
        have cB := (hW.cell (p := ⟨gs, os + u', none⟩) HGS2.out).trans HCB.out
        go_simp
        try with_reducible rfl
      try simp only [Act.put, List.setIfInBounds_toArray, List.set_cons_zero, List.set_cons_succ]
      refine Held3.Ways.plain (i := 10) (oi := ?oa11) ?va11 ?hia11 ?hsa11 ?hfa11 ?hra11 ?hQa11 ?hya11 (fun _ _ => id) ?resta11
      case hia11 => exact rfl
      case hsa11 => kernel_rfl
      case hfa11 => kernel_rfl
      case hra11 => kernel_rfl
      case hQa11 => exact fun _ _ _ h => h
      case hya11 =>
        refine .inl ⟨by rfl, fun W _ => ?_⟩
        go_simp
        try with_reducible rfl
      try simp only [Act.put, List.setIfInBounds_toArray, List.set_cons_zero, List.set_cons_succ]
      refine Held3.Ways.plain (i := 11) (oi := ?oa12) ?va12 ?hia12 ?hsa12 ?hfa12 ?hra12 ?hQa12 ?hya12 (fun _ _ => id) ?resta12
      case hia12 => exact rfl
      case hsa12 => kernel_rfl
      case hfa12 => kernel_rfl
      case hra12 => kernel_rfl
      case hQa12 => exact fun _ _ _ h => h
      case hya12 =>
        refine .inl ⟨by rfl, fun W _ => ?_⟩
        go_simp
        try with_reducible rfl
      try simp only [Act.put, List.setIfInBounds_toArray, List.set_cons_zero, List.set_cons_succ]
      refine Held3.Ways.done (by kernel_rfl) ?_ _
      go_wp2_with fail
      go_ret
      exact ⟨rfl, HXL.out.trans ((HBF.out.trans ((HY2.out.trans (HBD.out.mono HY2.out.size)).mono HBF.out.size)).mono HXL.out.size)⟩
    | false =>
      have hge := run_geq hk
      simp only [Bool.not_false] at hge
      have hup := upTo_right HRI.out HMID.out hk
      rw [← HQ.out, ← HLB.out, ← hu] at hup
      have HRA : Hid (Rise (kp lb)) := by rw [HLB.out]; exact rise_drop HRI.out _
      obtain ⟨u', hu'⟩ : ∃ u', u' = upTo lb k := ⟨_, rfl⟩
      rw [← hu'] at hup
      have hu2 : u' < db.length := by rw [HDB.out]; simp; omega
      have hcs : db[u']? = some (5 + (u : Int)) := by
        rw [HDB.out, List.getElem?_drop, ← hup]
        exact hc5
      have HAS : Hid (∀ W, Below W4.heap.size W4 W → Calls Try.prog 17 #[.agg #[.int .i64 2, .slice Akb lb.length ckb, .slice Avb 0 cvb, .slice Anb db.length cnb, .int .i64 0, .int .i64 0, .int .i64 0, .int .i64 0], .string k] W fun e w' => ∃ b, e = .returned (.tuple #[.int .i64 u', .bool b]) ∧ Below W.heap.size W w') := fun W hb => (at_any W (HBB.out.up hb) HRA.out k).mono fun e w' he => ⟨_, he.1.trans (by
        have e1 : atZ ⟨2, lb, [], db⟩ k = u' := by rw [hu']; unfold atZ upTo; simp
        rw [e1]), he.2⟩
      have HCS := Lib.hid hcs
      clear hk hup hu hul hkl hc5 hcs hu'
      have hf : (((W4.alloc (.cells #[.int .i64 2, .slice Aka la.length cka, .slice Ava 0 cva, .slice Ana da.length cna, .int .i64 0, .int .i64 0, .int .i64 0, .int .i64 0] 26)).alloc (.cells #[.int .i64 2, .slice Akb lb.length ckb, .slice Avb 0 cvb, .slice Anb db.length cnb, .int .i64 0, .int .i64 0, .int .i64 0, .int .i64 0] 26)).alloc (.cells #[.int .i64 2, .slice Akb lb.length ckb, .slice Avb 0 cvb, .slice Anb db.length cnb, .int .i64 0, .int .i64 0, .int .i64 0, .int .i64 0] 26)).heap[g5]? = X.heap[g5]? := (Below.heap_alloc _ _ _ (by have := HB4.out.size; have := HGG.out; simp; omega)).trans ((Below.heap_alloc _ _ _ (by have := HB4.out.size; have := HGG.out; simp; omega)).trans ((Below.heap_alloc _ _ _ (by have := HB4.out.size; have := HGG.out; omega)).trans (HB4.out.block _ HGG.out)))
      obtain ⟨f0, f1, f2, f3, f4, f5, f6, f7, f8⟩ := row8_facts (hf.trans HX.out)
      clear hf
      go_wp2_with fail
      have hbF : Below X.heap.size X (((W4.alloc (.cells #[.int .i64 2, .slice Aka la.length cka, .slice Ava 0 cva, .slice Ana da.length cna, .int .i64 0, .int .i64 0, .int .i64 0, .int .i64 0] 26)).alloc (.cells #[.int .i64 2, .slice Akb lb.length ckb, .slice Avb 0 cvb, .slice Anb db.length cnb, .int .i64 0, .int .i64 0, .int .i64 0, .int .i64 0] 26)).alloc (.cells #[.int .i64 2, .slice Akb lb.length ckb, .slice Avb 0 cvb, .slice Anb db.length cnb, .int .i64 0, .int .i64 0, .int .i64 0, .int .i64 0] 26)) := ((HB4.out.alloc HB4.out.size _).alloc (by have := HB4.out.size; simp; omega) _).alloc (by have := HB4.out.size; simp; omega) _
      have hb4 : Below W4.heap.size W4 (((W4.alloc (.cells #[.int .i64 2, .slice Aka la.length cka, .slice Ava 0 cva, .slice Ana da.length cna, .int .i64 0, .int .i64 0, .int .i64 0, .int .i64 0] 26)).alloc (.cells #[.int .i64 2, .slice Akb lb.length ckb, .slice Avb 0 cvb, .slice Anb db.length cnb, .int .i64 0, .int .i64 0, .int .i64 0, .int .i64 0] 26)).alloc (.cells #[.int .i64 2, .slice Akb lb.length ckb, .slice Avb 0 cvb, .slice Anb db.length cnb, .int .i64 0, .int .i64 0, .int .i64 0, .int .i64 0] 26)) := (((Below.refl _ W4).alloc (Nat.le_refl _) _).alloc (by simp) _).alloc (by simp; omega) _
      have hrs := heap_alloc_new ((W4.alloc (.cells #[.int .i64 2, .slice Aka la.length cka, .slice Ava 0 cva, .slice Ana da.length cna, .int .i64 0, .int .i64 0, .int .i64 0, .int .i64 0] 26)).alloc (.cells #[.int .i64 2, .slice Akb lb.length ckb, .slice Avb 0 cvb, .slice Anb db.length cnb, .int .i64 0, .int .i64 0, .int .i64 0, .int .i64 0] 26)) (.cells #[.int .i64 2, .slice Akb lb.length ckb, .slice Avb 0 cvb, .slice Anb db.length cnb, .int .i64 0, .int .i64 0, .int .i64 0, .int .i64 0] 26)
      rw [World.size_alloc, World.size_alloc] at hrs
      obtain ⟨Y, hY⟩ : ∃ Y, Y = ((W4.alloc (.cells #[.int .i64 2, .slice Aka la.length cka, .slice Ava 0 cva, .slice Ana da.length cna, .int .i64 0, .int .i64 0, .int .i64 0, .int .i64 0] 26)).alloc (.cells #[.int .i64 2, .slice Akb lb.length ckb, .slice Avb 0 cvb, .slice Anb db.length cnb, .int .i64 0, .int .i64 0, .int .i64 0, .int .i64 0] 26)).alloc (.cells #[.int .i64 2, .slice Akb lb.length ckb, .slice Avb 0 cvb, .slice Anb db.length cnb, .int .i64 0, .int .i64 0, .int .i64 0, .int .i64 0] 26) := ⟨_, rfl⟩
      rw [← hY] at hbF hb4 hrs ⊢
      have HBF := Lib.hid hbF
      have HBF4 := Lib.hid hb4
      have HRS := Lib.hid hrs
      clear hY hbF hb4 hrs f0 f1 f2 f3 f4 f5 f6 f7 f8
      refine (HAT.out Y HBF.out).mono ?_
      rintro e Y1 ⟨b1, rfl, hb⟩
      have HY1 := Lib.hid hb
      clear hb
      obtain ⟨f0, f1, f2, f3, f4, f5, f6, f7, f8⟩ := row8_facts ((HY1.out.block _ (Array.getElem?_eq_some_iff.1 HRS.out).1).trans HRS.out)
      go_wp2_with fail
      refine (HAS.out Y1 (HBF4.out.trans (HY1.out.mono HBF4.out.size))).mono ?_
      rintro e Y2 ⟨b2, rfl, hb⟩
      have HY2 : Hid (Below Y.heap.size Y Y2) := HY1.out.trans (hb.mono HY1.out.size)
      clear hb f0 f1 f2 f3 f4 f5 f6 f7 f8
      obtain ⟨gn, on, cz, e, hgn, _, _, hx⟩ := (HPG.out Y2 (HBF.out.trans (HY2.out.mono HBF.out.size))).kids.cells (show 0 < kd.length by omega)
      injection e with e1 e2 e3
      clear e2 e3
      subst e1
      have hcA := hx u _ (ic_at HC5.out)
      clear hx
      obtain ⟨gs, os, cz2, e, hgs, _, _, hx⟩ := (HBB.out.up (HBF4.out.trans (HY2.out.mono HBF4.out.size))).kids.cells (show 0 < db.length by omega)
      injection e with e1 e2 e3
      clear e2 e3
      subst e1
      have hcB := hx u' _ (ic_at HCS.out)
      have HCA := Lib.hid hcA
      have HCB := Lib.hid hcB
      have HGN := Lib.hid hgn
      have HGS2 := Lib.hid hgs
      clear hx hcA hcB hgn hgs
      have j0 : (0 : Int) ≤ (u : Int) := by omega
      have j1 : (u : Int) < (kd.length : Int) := by omega
      have j2 : (0 : Int) ≤ (u' : Int) := by omega
      have j3 : (u' : Int) < (db.length : Int) := by omega
      have HRX := Lib.hid ((HY2.out.block _ (by have := (HBF.out.size); have := HGG.out; omega)).trans ((HBF.out.block _ HGG.out).trans HX.out))
      have HRY := Lib.hid ((HY2.out.block _ (Array.getElem?_eq_some_iff.1 HRS.out).1).trans HRS.out)
      go_wp2_with fail
      refine Held3.ways_start (fun _ W W' => (fun W : World => Below Y2.heap.size Y2 W) W → (fun W : World => Below Y2.heap.size Y2 W) W') (by kernel_rfl) ?_
      obtain ⟨D, hD⟩ : ∃ D, D = Y2.drew := ⟨_, rfl⟩
      rw [← hD]
      have HBD : Hid (Below Y2.heap.size Y2 D) := by rw [hD]; exact (Below.refl _ Y2).drew
      clear hD
      refine Held3.Ways.plain (i := 0) (oi := ?ob13) ?vb13 ?hib13 ?hsb13 ?hfb13 ?hrb13 ?hQb13 ?hyb13 (fun _ _ => id) ?restb13
      case hib13 => exact rfl
      case hsb13 => kernel_rfl
      case hfb13 => kernel_rfl
      case hrb13 => kernel_rfl
      case hQb13 => exact fun _ _ _ h => h
      case hyb13 =>
        refine .inl ⟨by rfl, fun W _ => ?_⟩
        go_simp
        try with_reducible rfl
      try simp only [Act.put, List.setIfInBounds_toArray, List.set_cons_zero, List.set_cons_succ]
      refine Held3.Ways.take (i := 1) (oi := ?ob14) (fun W : World => Below Y2.heap.size Y2 W) (fun _ => true) ?vb14 ?hib14 ?hsb14 ?hfb14 ?hlwb14 ?hrb14 ?hQb14 HBD.out ?hyb14 (fun _ _ _ h _ => h) (fun _ _ => id) ?restb14
      case hib14 => exact rfl
      case hsb14 => kernel_rfl
      case hfb14 => kernel_rfl
      case hlwb14 => kernel_rfl
      case hrb14 => kernel_rfl
      case hQb14 => exact fun _ _ _ h => h
      case hyb14 =>
        refine .inl ⟨by rfl, fun W hW => ?_⟩
        obtain ⟨f0, f1, f2, f3, f4, f5, f6, f7, f8⟩ := row8_facts ((hW.block _ (Array.getElem?_eq_some_iff.1 HRX.out).1).trans HRX.out)
        obtain ⟨z0, z1, z2, z3, z4, z5, z6, z7, z8⟩ := row8_facts ((hW.block _ (Array.getElem?_eq_some_iff.1 HRY.out).1).trans HRY.out)
        have cA := (hW.cell (p := ⟨gn, on + u, none⟩) HGN.out).trans HCA.out
        have cB := (hW.cell (p := ⟨gs, os + u', none⟩) HGS2.out).trans HCB.out
        go_simp
        try with_reducible rfl
      try simp only [Act.put, List.setIfInBounds_toArray, List.set_cons_zero, List.set_cons_succ]
      refine Held3.Ways.plain (i := 2) (oi := ?ob15) ?vb15 ?hib15 ?hsb15 ?hfb15 ?hrb15 ?hQb15 ?hyb15 (fun _ _ => id) ?restb15
      case hib15 => exact rfl
      case hsb15 => kernel_rfl
      case hfb15 => kernel_rfl
      case hrb15 => kernel_rfl
      case hQb15 => exact fun _ _ _ h => h
      case hyb15 =>
        refine .inl ⟨by rfl, fun W _ => ?_⟩
        go_simp
        try with_reducible rfl
      try simp only [Act.put, List.setIfInBounds_toArray, List.set_cons_zero, List.set_cons_succ]
      refine Held3.Ways.plain (i := 3) (oi := ?ob16) ?vb16 ?hib16 ?hsb16 ?hfb16 ?hrb16 ?hQb16 ?hyb16 (fun _ _ => id) ?restb16
      case hib16 => exact rfl
      case hsb16 => kernel_rfl
      case hfb16 => kernel_rfl
      case hrb16 => kernel_rfl
      case hQb16 => exact fun _ _ _ h => h
      case hyb16 =>
        refine .inl ⟨by rfl, fun W _ => ?_⟩
        go_simp
        try with_reducible rfl
      try simp only [Act.put, List.setIfInBounds_toArray, List.set_cons_zero, List.set_cons_succ]
      refine Held3.Ways.take (i := 4) (oi := ?ob17) (fun W : World => Below Y2.heap.size Y2 W) (fun _ => true) ?vb17 ?hib17 ?hsb17 ?hfb17 ?hlwb17 ?hrb17 ?hQb17 HBD.out ?hyb17 (fun _ _ _ h _ => h) (fun _ _ => id) ?restb17
      case hib17 => exact rfl
      case hsb17 => kernel_rfl
      case hfb17 => kernel_rfl
      case hlwb17 => kernel_rfl
      case hrb17 => kernel_rfl
      case hQb17 => exact fun _ _ _ h => h
      case hyb17 =>
        refine .inl ⟨by rfl, fun W hW => ?_⟩
        obtain ⟨f0, f1, f2, f3, f4, f5, f6, f7, f8⟩ := row8_facts ((hW.block _ (Array.getElem?_eq_some_iff.1 HRX.out).1).trans HRX.out)
        obtain ⟨z0, z1, z2, z3, z4, z5, z6, z7, z8⟩ := row8_facts ((hW.block _ (Array.getElem?_eq_some_iff.1 HRY.out).1).trans HRY.out)
        have cA := (hW.cell (p := ⟨gn, on + u, none⟩) HGN.out).trans HCA.out
        have cB := (hW.cell (p := ⟨gs, os + u', none⟩) HGS2.out).trans HCB.out
        go_simp
        try with_reducible rfl
      try simp only [Act.put, List.setIfInBounds_toArray, List.set_cons_zero, List.set_cons_succ]
      refine Held3.Ways.plain (i := 5) (oi := ?ob18) ?vb18 ?hib18 ?hsb18 ?hfb18 ?hrb18 ?hQb18 ?hyb18 (fun _ _ => id) ?restb18
      case hib18 => exact rfl
      case hsb18 => kernel_rfl
      case hfb18 => kernel_rfl
      case hrb18 => kernel_rfl
      case hQb18 => exact fun _ _ _ h => h
      case hyb18 =>
        refine .inl ⟨by rfl, fun W _ => ?_⟩
        go_simp
        try with_reducible rfl
      try simp only [Act.put, List.setIfInBounds_toArray, List.set_cons_zero, List.set_cons_succ]
      refine Held3.Ways.take (i := 6) (oi := ?ob19) (fun W : World => Below Y2.heap.size Y2 W) (fun _ => true) ?vb19 ?hib19 ?hsb19 ?hfb19 ?hlwb19 ?hrb19 ?hQb19 HBD.out ?hyb19 (fun _ _ _ h _ => h) (fun _ _ => id) ?restb19
      case hib19 => exact rfl
      case hsb19 => kernel_rfl
      case hfb19 => kernel_rfl
      case hlwb19 => kernel_rfl
      case hrb19 => kernel_rfl
      case hQb19 => exact fun _ _ _ h => h
      case hyb19 =>
        refine .inl ⟨by rfl, fun W hW => ?_⟩
        obtain ⟨f0, f1, f2, f3, f4, f5, f6, f7, f8⟩ := row8_facts ((hW.block _ (Array.getElem?_eq_some_iff.1 HRX.out).1).trans HRX.out)
        obtain ⟨z0, z1, z2, z3, z4, z5, z6, z7, z8⟩ := row8_facts ((hW.block _ (Array.getElem?_eq_some_iff.1 HRY.out).1).trans HRY.out)
        have cA := (hW.cell (p := ⟨gn, on + u, none⟩) HGN.out).trans HCA.out
        have cB := (hW.cell (p := ⟨gs, os + u', none⟩) HGS2.out).trans HCB.out
        go_simp
        try with_reducible rfl
      try simp only [Act.put, List.setIfInBounds_toArray, List.set_cons_zero, List.set_cons_succ]
      refine Held3.Ways.plain (i := 7) (oi := ?ob20) ?vb20 ?hib20 ?hsb20 ?hfb20 ?hrb20 ?hQb20 ?hyb20 (fun _ _ => id) ?restb20
      case hib20 => exact rfl
      case hsb20 => kernel_rfl
      case hfb20 => kernel_rfl
      case hrb20 => kernel_rfl
      case hQb20 => exact fun _ _ _ h => h
      case hyb20 =>
        refine .inl ⟨by rfl, fun W _ => ?_⟩
        go_simp
        try with_reducible rfl
      try simp only [Act.put, List.setIfInBounds_toArray, List.set_cons_zero, List.set_cons_succ]
      refine Held3.Ways.plain (i := 8) (oi := ?ob21) ?vb21 ?hib21 ?hsb21 ?hfb21 ?hrb21 ?hQb21 ?hyb21 (fun _ _ => id) ?restb21
      case hib21 => exact rfl
      case hsb21 => kernel_rfl
      case hfb21 => kernel_rfl
      case hrb21 => kernel_rfl
      case hQb21 => exact fun _ _ _ h => h
      case hyb21 =>
        refine .inl ⟨by rfl, fun W _ => ?_⟩
        go_simp
        try with_reducible rfl
      try simp only [Act.put, List.setIfInBounds_toArray, List.set_cons_zero, List.set_cons_succ]
      refine Held3.Ways.take (i := 9) (oi := ?ob22) (fun W : World => Below Y2.heap.size Y2 W) (fun _ => true) ?vb22 ?hib22 ?hsb22 ?hfb22 ?hlwb22 ?hrb22 ?hQb22 HBD.out ?hyb22 (fun _ _ _ h _ => h) (fun _ _ => id) ?restb22
      case hib22 => exact rfl
      case hsb22 => kernel_rfl
      case hfb22 => kernel_rfl
      case hlwb22 => kernel_rfl
      case hrb22 => kernel_rfl
      case hQb22 => exact fun _ _ _ h => h
      case hyb22 =>
        refine .inl ⟨by rfl, fun W hW => ?_⟩
        obtain ⟨f0, f1, f2, f3, f4, f5, f6, f7, f8⟩ := row8_facts ((hW.block _ (Array.getElem?_eq_some_iff.1 HRX.out).1).trans HRX.out)
        obtain ⟨z0, z1, z2, z3, z4, z5, z6, z7, z8⟩ := row8_facts ((hW.block _ (Array.getElem?_eq_some_iff.1 HRY.out).1).trans HRY.out)
        have cA := (hW.cell (p := ⟨gn, on + u, none⟩) HGN.out).trans HCA.out
        have cB := (hW.cell (p := ⟨gs, os + u', none⟩) HGS2.out).trans HCB.out
        go_simp
        try with_reducible rfl
      try simp only [Act.put, List.setIfInBounds_toArray, List.set_cons_zero, List.set_cons_succ]
      refine Held3.Ways.plain (i := 10) (oi := ?ob23) ?vb23 ?hib23 ?hsb23 ?hfb23 ?hrb23 ?hQb23 ?hyb23 (fun _ _ => id) ?restb23
      case hib23 => exact rfl
      case hsb23 => kernel_rfl
      case hfb23 => kernel_rfl
      case hrb23 => kernel_rfl
      case hQb23 => exact fun _ _ _ h => h
      case hyb23 =>
        refine .inl ⟨by rfl, fun W _ => ?_⟩
        go_simp
        try with_reducible rfl
      try simp only [Act.put, List.setIfInBounds_toArray, List.set_cons_zero, List.set_cons_succ]
      refine Held3.Ways.plain (i := 11) (oi := ?ob24) ?vb24 ?hib24 ?hsb24 ?hfb24 ?hrb24 ?hQb24 ?hyb24 (fun _ _ => id) ?restb24
      case hib24 => exact rfl
      case hsb24 => kernel_rfl
      case hfb24 => kernel_rfl
      case hrb24 => kernel_rfl
      case hQb24 => exact fun _ _ _ h => h
      case hyb24 =>
        refine .inl ⟨by rfl, fun W _ => ?_⟩
        go_simp
        try with_reducible rfl
      try simp only [Act.put, List.setIfInBounds_toArray, List.set_cons_zero, List.set_cons_succ]
      refine Held3.Ways.done (by kernel_rfl) ?_ _
      go_wp2_with fail
      go_ret
      exact ⟨rfl, HXL.out.trans ((HBF.out.trans ((HY2.out.trans (HBD.out.mono HY2.out.size)).mono HBF.out.size)).mono HXL.out.size)⟩
theorem parts_row {H : Type} {enc : TypeId × Value → H} {w : World} {base : Nat} {spare : Nat → Bool} {held : Bool}
    (v0 : Value) (ok0 : Value.okWide Try.prog w .any base 22 v0) (h0 : Reads1 enc Try.prog w 0 spare held 22 v0.cells.toList) (b : Bool) (k : S) (_ : k.size ≤ 140737488351232) :
    Calls Try.prog 4 #[v0, .bool b, .string k] w fun e w' => e = .returned (.bool true) ∧ Below w.heap.size w w' := by
  obtain ⟨a, l, c, e⟩ := okWide_slice Try.underlying22 ok0
  obtain ⟨keys, hk, hsz⟩ := strings_of h0 (by rw [e]; rfl)
  by_cases hn : keys.length ≤ 20
  · cases b with
    | false => exact parts_leaf w hk hn hsz k
    | true => exact parts_inner w hk hn hsz k
  · obtain ⟨_, A, c, rfl, _, _, _⟩ := hk
    have hn2 : ¬ ((keys.length : Int) ≤ 20) := by omega
    have hn3 : (20 : Int) < (keys.length : Int) := by omega
    go_enter Try.func4, Try.ntmps4
    go_wp2_with fail
    refine (head_any w).mono ?_
    rintro e w0 ⟨rfl, hb0⟩
    have HB0 := Lib.hid hb0
    clear hb0
    go_wp2_with fail
    go_ret
    exact ⟨rfl, HB0.out⟩
#print axioms parts_row
end Go.Proofs.Ytfhpgmgmofganaa.NodeA
