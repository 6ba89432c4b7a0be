/- HistParts: its walk. -/
import Derived.Test.YthkacajlbenflaaHistPl
set_option linter.unusedVariables false
set_option linter.unusedSimpArgs false
set_option linter.unusedSectionVars false
set_option maxRecDepth 100000
namespace Go.Proofs.Ythkacajlbenflaa.HistG
open Go.RowKit Go.WideShapes Go.Deep Go.Proofs.Ythkacajlbenflaa.Mem Go.Proofs.Ythkacajlbenflaa.Maps Go.Proofs.Ythkacajlbenflaa.Kv Go.Proofs.Ythkacajlbenflaa.Open Go.Proofs.Ythkacajlbenflaa.HistA
/-- The second loop's state behind j events. -/
structure Pt2 (w wr : World) (b n : Nat) (es fs : List EvV) (j : Nat) (A1 : Option Addr) (c1 : Nat) (A2 : Option Addr) (c2 : Nat) : Prop where
  ox : Own wr b 34 16 (.slice A1 n c1) n (evc (es.map (setN 0)))
  oy : Own wr b 34 16 (.slice A2 j c2) j (evc ((fs.take j).map (setN 1)))
  ne : ∀ g, (Value.slice A2 j c2).ownBlock = some g → ¬ (Value.slice A1 n c1).ownBlock = some g
  nm : SeenAt wr (b + 2) (nmL es)
  no : ∀ y ∈ fs.take j, y.said = true → getM (nmL es) (y.anum, y.and_) = none
  sz : b + 3 ≤ wr.heap.size
  wb : w.heap.size ≤ b
  bl : Below w.heap.size w wr
theorem pt2_start {w wr : World} {b n : Nat} {es fs : List EvV} {A1 : Option Addr} {c1 : Nat} (h : Pt1 w wr b es n A1 c1) (ht : es.take n = es) : Pt2 w wr b n es fs 0 A1 c1 (some ⟨b + 1, 0, none⟩) 0 where
  ox := by have h9 := h.own; rw [ht] at h9; exact h9
  oy := own_none (Nat.le_succ _) h.y
  ne := fun g hg h1 => h.ne g h1 (by injection hg with e; exact e.symm)
  nm := by have h9 := h.nm; rw [ht] at h9; exact h9
  no := fun y hy => by simp at hy
  sz := h.sz
  wb := h.wb
  bl := h.bl
theorem pt2_next {w wr W W6 : World} {b n : Nat} {es fs : List EvV} {j : Nat} {e : EvV} {A1 A2 A6 : Option Addr} {c1 c2 c6 : Nat} (h : Pt2 w wr b n es fs j A1 c1 A2 c2) (he : fs[j]? = some e)
    (hn : e.said = true → getM (nmL es) (e.anum, e.and_) = none) (hb : Below wr.heap.size wr W) {o : Obj}
    (ho : Own W6 b 34 16 (.slice A6 (j + 1) c6) (j + 1) (evc ((fs.take j).map (setN 1)) ++ ev1 (setN 1 e))) (h6 : Fr (fun g => (Value.slice A2 j c2).ownBlock = some g) (W.alloc o) W6) (hb6 : ∀ g, (Value.slice A6 (j + 1) c6).ownBlock = some g → (Value.slice A2 j c2).ownBlock = some g ∨ (W.alloc o).heap.size ≤ g) : Pt2 w W6 b n es fs (j + 1) A1 c1 A6 c6 := by
  have hsz := h.sz
  have hws := hb.size
  have hz : (W.alloc o).heap.size = W.heap.size + 1 := by simp
  have hw6 := h6.size
  have hoy := (h.oy.below hb).alloc o
  have hox := (h.ox.below hb).alloc o
  have hnm := (h.nm.below hb).alloc o
  refine ⟨hox.fr h6 fun g h1 h2 => h.ne g h2 h1, ?_, fun g hg h1 => ?_, ?_, fun y hy hs => ?_, by omega, h.wb, ?_⟩
  · rw [take_snoc he, List.map_append, evc_append]
    have e1 : evc ([e].map (setN 1)) = ev1 (setN 1 e) := by simp [evc]
    rw [e1]
    exact ho
  · rcases hb6 g hg with h2 | h2
    · exact h.ne g h2 h1
    · have := (h.ox.lt g h1).2
      omega
  · exact hnm.kept (h6.block (b + 2) (by omega) (own_not_map hoy hnm))
  · rw [take_snoc he] at hy
    rcases List.mem_append.1 hy with h1 | h1
    · exact h.no y h1 hs
    · have : y = e := by simpa using h1
      subst this
      exact hn hs
  · have h2 : Below w.heap.size w (W.alloc o) := (h.bl.trans (hb.mono h.bl.size)).alloc (by have := h.bl.size; omega) o
    exact h2.trans (h6.below h2.size fun i _ hi => by have := (hoy.lt i hi).1; have := h.wb; omega)
theorem tx_cells {w : World} {A : Option Addr} {n c : Nat} {xs : List TxP} (h : Rd w w.heap.size 7 (.slice A n c) n (txc xs)) {j : Nat} {x : TxP} (hx : xs[j]? = some x) (hn : 0 < n) : ∃ g off, A = some ⟨g, off, none⟩ ∧ ∀ i u, x.cs[i]? = some u → w.cell? ⟨g, off + j * 7 + i, none⟩ = some u := by
  obtain ⟨g, off, cz, e9, hg, _, _, hx9⟩ := h.cells hn
  injection e9 with e1 e2 e3
  exact ⟨g, off, e1, fun i u hu => by rw [Nat.add_assoc]; exact hx9 _ _ (txc_at hx i _ hu)⟩
theorem tx_at {x1 x2 x5 : List TxP} (h : (x1 ++ x2).map TxP.t = x5.map TxP.t) {j : Nat} {y : TxP} (hy : x5[j]? = some y) : (∃ x, j < x1.length ∧ x1[j]? = some x ∧ y.t = x.t) ∨ (∃ (q : Nat) (x : TxP), j = x1.length + q ∧ q < x2.length ∧ x2[q]? = some x ∧ y.t = x.t) := by
  have h1 := congrArg (fun l => l[j]?) h
  simp only [List.getElem?_map, hy, Option.map_some] at h1
  by_cases hj : j < x1.length
  · left
    rw [List.getElem?_append_left hj, List.getElem?_eq_getElem hj] at h1
    exact ⟨_, hj, List.getElem?_eq_getElem hj, by injection h1 with h1; exact h1.symm⟩
  · right
    rw [List.getElem?_append_right (by omega)] at h1
    cases hq : x2[j - x1.length]? with
    | none => rw [hq] at h1; cases h1
    | some x =>
      rw [hq] at h1
      exact ⟨j - x1.length, x, by omega, (List.getElem?_eq_some_iff.1 hq).1, hq, by injection h1 with h1; exact h1.symm⟩
set_option maxHeartbeats 40000000 in
theorem parts_any {es fs : List EvV} (w : World) {A B : Option Addr} {c d : Nat} (h : Rd w w.heap.size 16 (.slice A es.length c) es.length (evc es)) (hk : Rd w w.heap.size 16 (.slice B fs.length d) fs.length (evc fs)) (hes : ∀ e ∈ es, EvW e) (hfs : ∀ e ∈ fs, EvW e) :
    Calls Try.prog 3 #[.slice A es.length c, .slice B fs.length d] w fun e w' => e = .returned (.bool true) ∧ Below w.heap.size w w' := by
  have HX : Hid (∀ W, Below w.heap.size w W → Rd W W.heap.size 16 (.slice A es.length c) es.length (evc es)) := fun W hb => h.up hb
  have HY : Hid (∀ W, Below w.heap.size w W → Rd W W.heap.size 16 (.slice B fs.length d) fs.length (evc fs)) := fun W hb => hk.up hb
  have hln := h.len_le
  have hlm := hk.len_le
  have HES := Lib.hid hes
  have HFS := Lib.hid hfs
  clear h hk hes hfs
  obtain ⟨n, hn⟩ : ∃ n, n = es.length := ⟨_, rfl⟩
  obtain ⟨m, hm⟩ : ∃ m, m = fs.length := ⟨_, rfl⟩
  rw [← hn] at HX hln ⊢
  rw [← hm] at HY hlm ⊢
  have HN := Lib.hid hn
  have HM := Lib.hid hm
  clear hn hm
  unfold maxLen at hln hlm
  have hmm := @run_makeMap Try.prog
  go_enter Try.func3, Try.ntmps3
  go_wp2_with fail
  refine (head_any w).mono ?_
  rintro e w0 ⟨rfl, hb0⟩
  have HB0 : Hid (Below w.heap.size w w0) := Lib.hid hb0
  clear hb0
  by_cases hn40 : 40 < n
  · have hni : (40 : Int) < (n : Int) := by omega
    go_wp2_with fail
    go_ret
    exact ⟨rfl, HB0.out⟩
  have hni : ¬ (40 : Int) < (n : Int) := by omega
  by_cases hm40 : 40 < m
  · have hmi : (40 : Int) < (m : Int) := by omega
    go_wp2_with fail
    go_ret
    exact ⟨rfl, HB0.out⟩
  have hmi : ¬ (40 : Int) < (m : Int) := by omega
  go_wp2_with fail
  clear hmm
  obtain ⟨b, hb⟩ : ∃ b, b = w0.heap.size := ⟨_, rfl⟩
  have HBB : Hid (w.heap.size ≤ b) := Lib.hid (by rw [hb]; exact HB0.out.size)
  rw [← hb, show b + 1 + 1 = b + 2 from rfl]
  have HBE := Lib.hid hb
  clear hb
  have H0 : Hid (Pt1 w (((w0.alloc (.cells #[] 34)).alloc (.cells #[] 34)).alloc (.map #[] 0)) b es 0 (some ⟨b, 0, none⟩) 0) := Lib.hid (by
      have hb := HBE.out
      have e0 : ∀ o1 o2 : Obj, ((w0.alloc o1).alloc o2).heap.size = b + 2 := fun o1 o2 => by simp [hb]
      have hx : (((w0.alloc (.cells #[] 34)).alloc (.cells #[] 34)).alloc (.map #[] 0)).heap[b]? = some (.cells #[] 34 (0, 0)) := by
        rw [Below.heap_alloc _ _ _ (by rw [e0]; omega), Below.heap_alloc _ _ _ (by simp [hb])]
        rw [hb]
        exact heap_alloc_new w0 _
      have hy : (((w0.alloc (.cells #[] 34)).alloc (.cells #[] 34)).alloc (.map #[] 0)).heap[b + 1]? = some (.cells #[] 34 (0, 0)) := by
        rw [Below.heap_alloc _ _ _ (by rw [e0]; omega)]
        have h9 := heap_alloc_new (w0.alloc (.cells #[] 34)) (.cells #[] 34)
        rw [World.size_alloc, ← hb] at h9
        exact h9
      have hm3 : SeenAt (((w0.alloc (.cells #[] 34)).alloc (.cells #[] 34)).alloc (.map #[] 0)) (b + 2) [] := by
        have h9 : SeenAt _ ((w0.alloc (.cells #[] 34)).alloc (.cells #[] 34)).heap.size [] := MapAt.new ((w0.alloc (.cells #[] 34)).alloc (.cells #[] 34))
        rw [e0] at h9
        exact h9
      refine ⟨own_none (Nat.le_refl _) hx, fun g hg => ?_, hy, hm3, by rw [World.size_alloc, e0]; omega, HBB.out, ((HB0.out.alloc HB0.out.size _).alloc (by have := HB0.out.size; simp; omega) _).alloc (by have := HB0.out.size; simp; omega) _⟩
      have : b = g := by injection hg
      omega)
  have HL40 : Hid (n ≤ 40) := Lib.hid (by omega)
  refine abs_loop fun F N hF hN => ?_
  rw [hF]
  refine loop1_law (by kernel_rfl) HX HN HES HL40 H0 ?_
  intro A1 c1 x9 x34 x35 x36 x37 x38 x39 x40 x41 x42 x43 x44 x45 x46 x47 x48 wr hp
  refine hN _ _ ?_
  clear hF hN F N H0 HL40
  have htk : es.take n = es := by rw [HN.out]; exact List.take_length
  have hnn : ¬ ((n : Int) < (n : Int)) := by omega
  have HQ : Hid (Pt2 w wr b n es fs 0 A1 c1 (some ⟨b + 1, 0, none⟩) 0) := Lib.hid (pt2_start hp htk)
  clear hp htk
  have hle0 : (0 : Nat) ≤ m := Nat.zero_le _
  go_upto_region 17 with fail
  go_loopw [6, 51] (fun yv i wr => ∃ (j : Nat) (A2 : Option Addr) (c2 : Nat), j ≤ m ∧ i = .int .i64 j ∧ yv = .slice A2 j c2 ∧ Pt2 w wr b n es fs j A1 c1 A2 c2) (fun _ i _ => m - (intOf i).toNat)
  case atStart => exact ⟨0, _, _, Nat.zero_le _, rfl, rfl, HQ.out⟩
  case round =>
    clear HQ hle0
    obtain ⟨j, A2, c2, hj, rfl, rfl, hp⟩ := hrel
    by_cases hlt : j < m
    · obtain ⟨e, he⟩ : ∃ e, fs[j]? = some e := ⟨fs[j]'(by rw [← HM.out]; omega), List.getElem?_eq_getElem _⟩
      obtain ⟨g, off, rfl, hcl⟩ := ev_cells (HY.out wr hp.bl) he (by omega)
      have HP := Lib.hid hp
      have HE := Lib.hid he
      have d0 : wr.cell? ⟨g, off + j * 16, none⟩ = some (.int .i64 e.step) := hcl 0 _ rfl
      have d1 : wr.cell? ⟨g, off + j * 16 + 1, none⟩ = some (.int .i64 e.node) := hcl 1 _ rfl
      have d2 : wr.cell? ⟨g, off + j * 16 + 2, none⟩ = some (.int .i64 e.cs) := hcl 2 _ rfl
      have d3 : wr.cell? ⟨g, off + j * 16 + 3, none⟩ = some (.int .i64 e.cr) := hcl 3 _ rfl
      have d4 : wr.cell? ⟨g, off + j * 16 + 4, none⟩ = some (.int .i64 e.ck) := hcl 4 _ rfl
      have d5 : wr.cell? ⟨g, off + j * 16 + 5, none⟩ = some (.string e.ckey) := hcl 5 _ rfl
      have d6 : wr.cell? ⟨g, off + j * 16 + 6, none⟩ = some (.string e.cval) := hcl 6 _ rfl
      have d7 : wr.cell? ⟨g, off + j * 16 + 7, none⟩ = some (.int .i64 e.as_) := hcl 7 _ rfl
      have d8 : wr.cell? ⟨g, off + j * 16 + 8, none⟩ = some (.int .i64 e.ar) := hcl 8 _ rfl
      have d9 : wr.cell? ⟨g, off + j * 16 + 9, none⟩ = some (.int .i64 e.ac) := hcl 9 _ rfl
      have d10 : wr.cell? ⟨g, off + j * 16 + 10, none⟩ = some (.string e.aval) := hcl 10 _ rfl
      have d11 : wr.cell? ⟨g, off + j * 16 + 11, none⟩ = some (.bool e.ahas) := hcl 11 _ rfl
      have d12 : wr.cell? ⟨g, off + j * 16 + 12, none⟩ = some (.int .u64 e.anum) := hcl 12 _ rfl
      have d13 : wr.cell? ⟨g, off + j * 16 + 13, none⟩ = some (.int .i64 e.and_) := hcl 13 _ rfl
      have d14 : wr.cell? ⟨g, off + j * 16 + 14, none⟩ = some (.bool e.said) := hcl 14 _ rfl
      have d15 : wr.cell? ⟨g, off + j * 16 + 15, none⟩ = some (.bool e.up) := hcl 15 _ rfl
      obtain ⟨X, hX⟩ : ∃ X, X = wr.alloc (.cells #[.int .i64 e.step, .int .i64 e.node, .int .i64 e.cs, .int .i64 e.cr, .int .i64 e.ck, .string e.ckey, .string e.cval, .int .i64 e.as_, .int .i64 e.ar, .int .i64 e.ac, .string e.aval, .bool e.ahas, .int .u64 e.anum, .int .i64 e.and_, .bool e.said, .bool e.up] 34) := ⟨_, rfl⟩
      have HXB : Hid (Below wr.heap.size wr X) := Lib.hid (by rw [hX]; exact (Below.refl _ _).alloc (Nat.le_refl _) _)
      obtain ⟨ge, hge⟩ : ∃ g, g = wr.heap.size := ⟨_, rfl⟩
      have HXR : Hid (X.heap[ge]? = some (.cells #[.int .i64 e.step, .int .i64 e.node, .int .i64 e.cs, .int .i64 e.cr, .int .i64 e.ck, .string e.ckey, .string e.cval, .int .i64 e.as_, .int .i64 e.ar, .int .i64 e.ac, .string e.aval, .bool e.ahas, .int .u64 e.anum, .int .i64 e.and_, .bool e.said, .bool e.up] 34 (0, 0))) := Lib.hid (by rw [hX, hge]; exact heap_alloc_new wr _)
      have i0 : (0 : Int) ≤ (j : Int) := by omega
      have i1 : (j : Int) < (m : Int) := by omega
      clear hcl hp he
      go_upto_region 19 with fail
      rw [← hX]
      rw [← hge]
      have HGQ := Lib.hid hge
      clear hge
      clear hX d0 d1 d2 d3 d4 d5 d6 d7 d8 d9 d10 d11 d12 d13 d14 d15
      obtain ⟨x0, x1, x2, x3, x4, x5, x6, x7, x8, x9, x10, x11, x12, x13, x14, x15⟩ := row16_facts HXR.out
      have xf := row_free HXR.out
      go_upto_region 20 with fail
      obtain ⟨Y, hY⟩ : ∃ Y, Y = X.setCell ⟨ge, 1, none⟩ (.int .i64 1) := ⟨_, rfl⟩
      rw [← hY]
      have HYR : Hid (Y.heap[ge]? = some (.cells #[.int .i64 e.step, .int .i64 1, .int .i64 e.cs, .int .i64 e.cr, .int .i64 e.ck, .string e.ckey, .string e.cval, .int .i64 e.as_, .int .i64 e.ar, .int .i64 e.ac, .string e.aval, .bool e.ahas, .int .u64 e.anum, .int .i64 e.and_, .bool e.said, .bool e.up] 34 (0, 0))) := Lib.hid (by
        have h9 := sets_row [(1, .int .i64 1)] X HXR.out
        rw [show sets X ge [(1, .int .i64 1)] = X.setCell ⟨ge, 1, none⟩ (.int .i64 1) from rfl, ← hY] at h9
        exact h9)
      have HYB : Hid (Below wr.heap.size wr Y) := Lib.hid (by rw [hY]; exact HXB.out.setCell (by rw [HGQ.out]; exact Nat.le_refl _) _)
      have HGE : Hid (b + 3 ≤ ge) := Lib.hid (by rw [HGQ.out]; exact HP.out.sz)
      have HNY : Hid (SeenAt Y (b + 2) (nmL es)) := Lib.hid (HP.out.nm.below HYB.out)
      have HID : Hid (Tid.IdOk (e.anum, e.and_)) := Lib.hid ((HFS).out e (List.mem_of_getElem? HE.out)).t
      clear hY x0 x1 x2 x3 x4 x5 x6 x7 x8 x9 x10 x11 x12 x13 x14 x15 xf HXR HXB X
      obtain ⟨y0, y1, y2, y3, y4, y5, y6, y7, y8, y9, y10, y11, y12, y13, y14, y15⟩ := row16_facts HYR.out
      obtain ⟨sd, hsd⟩ : ∃ b, b = e.said := ⟨_, rfl⟩
      have HSD := Lib.hid hsd
      rw [← hsd] at y14
      clear hsd
      go_cut [64] from 56 to 64 (fun v64 wx => wx = Y ∧ (v64 = .bool true ∨ (v64 = .bool false ∧ (e.said = true → getM (nmL es) (e.anum, e.and_) = none))))
      case first =>
        cases sd with
        | true =>
          have hlk : (Instr.lookup 24 (.map (some (b + 2))) (.agg #[.int .u64 e.anum, .int .i64 e.and_]) false).run Try.prog Y = .ok ((getM (nmL es) (e.anum, e.and_)).elim (.bool false) Value.bool) Y := run_lookup (P := Try.prog) (e := 4) (z := .bool false) Tid.km_tid Try.underlying24 (by kernel_rfl) HNY.out (x := (e.anum, e.and_)) HID.out false
          cases hg : getM (nmL es) (e.anum, e.and_) with
          | some bb =>
            have hbb : bb = true := by
              rw [nmL_get _ _ rfl] at hg
              split at hg
              · injection hg with hg; exact hg.symm
              · cases hg
            rw [hg, hbb] at hlk
            dsimp only [Option.elim] at hlk
            clear hbb hg
            go_wp2_with fail
            go_meet
            case rel => exact ⟨rfl, .inl rfl⟩
          | none =>
            rw [hg] at hlk
            dsimp only [Option.elim] at hlk
            have HNO := Lib.hid hg
            clear hg
            go_wp2_with fail
            go_meet
            case rel => exact ⟨rfl, .inr ⟨rfl, fun _ => HNO.out⟩⟩
        | false =>
          go_wp2_with fail
          go_meet
          case rel => exact ⟨rfl, .inr ⟨rfl, fun h => absurd (HSD.out.trans h) (by simp)⟩⟩
      case rest =>
        obtain ⟨hwz, hor⟩ := hcut
        rw [hwz]
        clear hwz wc
        rcases hor with rfl | ⟨rfl, hno⟩
        · go_wp2_with fail
          go_ret
          exact ⟨rfl, HP.out.bl.trans (HYB.out.mono HP.out.bl.size)⟩
        · have HNO := Lib.hid hno
          clear hno
          have HWS : Hid (wr.heap.size ≤ Y.heap.size) := Lib.hid HYB.out.size
          rw [HSD.out] at y14
          have HD : Hid (Own Y b 34 16 (.slice A2 j c2) j (evc ((fs.take j).map (setN 1)))) := Lib.hid (HP.out.oy.below HYB.out)
          have HSZ : Hid (b ≤ Y.heap.size) := Lib.hid (by have := HWS.out; have := HP.out.sz; omega)
          have HAP := Lib.hid (app_ev (W := Y.alloc (.cells #[.int .i64 e.step, .int .i64 1, .int .i64 e.cs, .int .i64 e.cr, .int .i64 e.ck, .string e.ckey, .string e.cval, .int .i64 e.as_, .int .i64 e.ar, .int .i64 e.ac, .string e.aval, .bool e.ahas, .int .u64 e.anum, .int .i64 e.and_, .bool e.said, .bool e.up] 34)) (q := Y.heap.size) (HD.out.alloc _) (by have := HSZ.out; simp; omega) (e := setN 1 e) (heap_alloc_new Y (.cells #[.int .i64 e.step, .int .i64 1, .int .i64 e.cs, .int .i64 e.cr, .int .i64 e.ck, .string e.ckey, .string e.cval, .int .i64 e.as_, .int .i64 e.ar, .int .i64 e.ac, .string e.aval, .bool e.ahas, .int .u64 e.anum, .int .i64 e.and_, .bool e.said, .bool e.up] 34)) (by omega))
          go_wp2_with (at_builtin; refine wpL_append rfl _ _ 22 22 rfl rfl rfl HAP.out ?_; rintro v6 w6 ⟨⟨A6, c6, rfl⟩, ho6, hf6, hb6⟩; have HO6 := Lib.hid ho6; have HF6 := Lib.hid hf6; have HB6 := Lib.hid hb6; clear ho6 hf6 hb6)
          go_roundw
          case rel => exact ⟨j + 1, A6, c6, by omega, by go_num, rfl, pt2_next HP.out HE.out HNO.out HYB.out HO6.out HF6.out HB6.out⟩
          case measure => simp [intOf]; omega
    · have hjn : j = m := by omega
      rw [hjn] at hp ⊢
      have htk : fs.take m = fs := by rw [HM.out]; exact List.take_length
      have hm2 : ¬ ((m : Int) < (m : Int)) := by omega
      clear hlt hj hjn j
      obtain ⟨xs, hxs⟩ : ∃ xs, xs = es.map (setN 0) := ⟨_, rfl⟩
      obtain ⟨ys, hys⟩ : ∃ ys, ys = fs.map (setN 1) := ⟨_, rfl⟩
      have HXL : Hid (xs.length = n) := Lib.hid (by rw [hxs, List.length_map, HN.out])
      have HYL : Hid (ys.length = m) := Lib.hid (by rw [hys, List.length_map, HM.out])
      have HOX : Hid (Own wr b 34 16 (.slice A1 n c1) n (evc xs)) := Lib.hid (by rw [hxs]; exact hp.ox)
      have HOY : Hid (Own wr b 34 16 (.slice A2 m c2) m (evc ys)) := Lib.hid (by have h9 := hp.oy; rw [htk] at h9; rw [hys]; exact h9)
      have HXE : Hid (∀ e ∈ xs, EvOk e) := Lib.hid (fun e he => by rw [hxs] at he; obtain ⟨e0, h0, rfl⟩ := List.mem_map.1 he; exact evok_set (HES.out e0 h0) (by decide))
      have HYE : Hid (∀ e ∈ ys, EvOk e) := Lib.hid (fun e he => by rw [hys] at he; obtain ⟨e0, h0, rfl⟩ := List.mem_map.1 he; exact evok_set (HFS.out e0 h0) (by decide))
      have HPA : Hid ((ofM (xs ++ ys)).all = (ofM xs).all ++ (ofM ys).all) := Lib.hid (by
        refine parts_all (fun e he => ?_) (fun e he => ?_) (fun y hy hs x hx ht he => ?_)
        · rw [hxs] at he; obtain ⟨e0, h0, rfl⟩ := List.mem_map.1 he; rfl
        · rw [hys] at he; obtain ⟨e0, h0, rfl⟩ := List.mem_map.1 he; rfl
        · rw [hys] at hy; obtain ⟨y0, hy0, rfl⟩ := List.mem_map.1 hy
          rw [hxs] at hx; obtain ⟨x0, hx0, rfl⟩ := List.mem_map.1 hx
          have h9 := hp.no y0 (by rw [htk]; exact hy0) hs
          rw [nmL_get _ _ rfl, if_pos ⟨x0, hx0, ht, by rw [show x0.anum = y0.anum from he.1, show x0.and_ = y0.and_ from he.2]⟩] at h9
          cases h9)
      have HBL := Lib.hid hp.bl
      have HWB : Hid (b ≤ wr.heap.size) := Lib.hid (by have := hp.sz; omega)
      have HOF1 : Hid (Calls Try.prog 9 #[.slice A1 n c1] wr fun x w' => ∃ v, x = .returned v ∧ TxsAt w' wr.heap.size (ofM xs).all v ∧ Below wr.heap.size wr w') := Lib.hid (by
        have h9 := of_g (es := xs) (A := A1) (c := c1) wr (by rw [HXL.out]; exact HOX.out.rd) (by rw [HXL.out]; omega) HXE.out
        rw [HXL.out] at h9
        exact h9)
      have HOF2 : Hid (∀ W, Below wr.heap.size wr W → Calls Try.prog 9 #[.slice A2 m c2] W fun x w' => ∃ v, x = .returned v ∧ TxsAt w' W.heap.size (ofM ys).all v ∧ Below W.heap.size W w') := Lib.hid (fun W hW => by
        have h9 := of_g (es := ys) (A := A2) (c := c2) W (by rw [HYL.out]; exact (HOY.out.below hW).rd) (by rw [HYL.out]; omega) HYE.out
        rw [HYL.out] at h9
        exact h9)
      have HOF3 : Hid (∀ W A4 c4 b4, Own W b4 34 16 (.slice A4 (n + m) c4) (n + m) (evc xs ++ evc ys) → Calls Try.prog 9 #[.slice A4 (n + m) c4] W fun x w' => ∃ v, x = .returned v ∧ TxsAt w' W.heap.size ((ofM xs).all ++ (ofM ys).all) v ∧ Below W.heap.size W w') := Lib.hid (fun W A4 c4 b4 ho => by
        have hl : (xs ++ ys).length = n + m := by rw [List.length_append, HXL.out, HYL.out]
        have he : evc (xs ++ ys) = evc xs ++ evc ys := evc_append _ _
        have h9 := of_g (es := xs ++ ys) (A := A4) (c := c4) W (by rw [hl, he]; exact ho.rd) (by rw [hl]; omega) (fun e he => (List.mem_append.1 he).elim (HXE.out e) (HYE.out e))
        rw [hl, HPA.out] at h9
        exact h9)
      clear hp htk hxs hys hm40 hn40
      go_wp2_with fail
      refine HOF1.out.mono ?_
      rintro x w1 ⟨v1, rfl, ht1, hb1⟩
      have HT1 := Lib.hid ht1
      have HB1 := Lib.hid hb1
      clear ht1 hb1 HOF1
      go_wp2_with fail
      refine (HOF2.out w1 HB1.out).mono ?_
      rintro x w2 ⟨v2, rfl, ht2, hb2⟩
      have HT2 := Lib.hid ht2
      have HB2 := Lib.hid hb2
      clear ht2 hb2 HOF2
      have HB12 : Hid (Below wr.heap.size wr w2) := Lib.hid (HB1.out.trans (HB2.out.mono HB1.out.size))
      have HAP1 := Lib.hid (app_evs (W := w2.alloc (.cells #[] 34)) (B := w2.heap.size) (own_none (Nat.le_refl _) (heap_alloc_new w2 _)) (by simp) ((HOX.out.below HB12.out).alloc (.cells #[] 34)).rd (by omega))
      simp only [Nat.zero_add, List.nil_append] at HAP1
      go_wp2_with (first | (at_builtin; refine wpL_append rfl _ _ 22 22 rfl rfl rfl HAP1.out ?_; rintro v3 w3 ⟨⟨A3, c3, rfl⟩, ho3, hf3⟩; have HO3 := Lib.hid ho3; have HF3 := Lib.hid hf3; have HB3 : Hid (Below w2.heap.size w2 w3) := Lib.hid (((Below.refl _ _).alloc (Nat.le_refl _) _).trans (hf3.below (by simp) fun i _ e => by (have e1 : w2.heap.size = i := by injection e); omega)); have HAP2 := Lib.hid (app_evs (W := w3) ho3 HB3.out.size ((HOY.out.below HB12.out).below HB3.out).rd (by omega)); clear ho3 hf3 HAP1) | (at_builtin; refine wpL_append rfl _ _ 22 22 rfl rfl rfl HAP2.out ?_; rintro v4 w4 ⟨⟨A4, c4, rfl⟩, ho4, hf4⟩; have HO4 := Lib.hid ho4; have HB4 : Hid (Below w2.heap.size w2 w4) := Lib.hid (HB3.out.trans (hf4.below HB3.out.size fun i _ e => (HO3.out.lt i e).1)); clear ho4 hf4 HAP2))
      refine (HOF3.out _ _ _ _ HO4.out).mono ?_
      rintro x w5 ⟨v5, rfl, ht5, hb5⟩
      have HT5 := Lib.hid ht5
      have HB5 := Lib.hid hb5
      clear ht5 hb5 HOF3
      obtain ⟨x1, e1, o1, l1⟩ := HT1.out
      obtain ⟨x2, e2, o2, l2⟩ := HT2.out
      obtain ⟨x5, e5, o5, l5⟩ := HT5.out
      rw [e1, e2, ← List.map_append] at e5
      have hl5 : x1.length + x2.length = x5.length := by have := congrArg List.length e5; simpa using this
      have HE5 := Lib.hid e5
      have HB25 : Hid (Below w2.heap.size w2 w5) := Lib.hid (HB4.out.trans (HB5.out.mono HB4.out.size))
      have HO1 := Lib.hid ((o1.below HB2.out).below HB25.out)
      have HO2 := Lib.hid (o2.below HB25.out)
      have HO5 := Lib.hid o5
      obtain ⟨B1, k1, hv1, _, _⟩ := HO1.out.slice_
      obtain ⟨B2, k2, hv2, _, _⟩ := HO2.out.slice_
      obtain ⟨B5, k5, hv5, q1, q2⟩ := HO5.out.slice_
      subst hv1 hv2 hv5
      have HBW : Hid (Below w.heap.size w w5) := Lib.hid (HBL.out.trans ((HB12.out.trans (HB25.out.mono HB12.out.size)).mono HBL.out.size))
      clear e1 e2 e5 o1 o2 o5 l1 l2 l5 HT1 HT2 HT5
      obtain ⟨n1, hn1⟩ : ∃ n, n = x1.length := ⟨_, rfl⟩
      obtain ⟨n2, hn2⟩ : ∃ n, n = x2.length := ⟨_, rfl⟩
      obtain ⟨n5, hn5⟩ : ∃ n, n = x5.length := ⟨_, rfl⟩
      rw [← hn1] at HO1 hl5 ⊢
      rw [← hn2] at HO2 hl5 ⊢
      rw [← hn5] at HO5 hl5 q1 ⊢
      have HN1 := Lib.hid hn1
      have HN2 := Lib.hid hn2
      have HN5 := Lib.hid hn5
      clear hn1 hn2 hn5
      unfold maxLen at q2
      have b5 : (n5 : Int) ≤ 9223372036854775807 := by omega
      have hsum : (n1 : Int) + (n2 : Int) = (n5 : Int) := by omega
      have HL5 := Lib.hid hl5
      clear hl5 q1 q2
      go_wp2_with fail
      go_loopw [90] (fun i wr' => ∃ j : Nat, j ≤ n5 ∧ i = .int .i64 j ∧ Below w5.heap.size w5 wr') (fun i _ => n5 - (intOf i).toNat)
      case atStart => exact ⟨0, Nat.zero_le _, rfl, Below.refl _ _⟩
      case round =>
        obtain ⟨j, hj, rfl, hbj⟩ := hrel
        by_cases hlt : j < n5
        · obtain ⟨y, hy⟩ : ∃ y, x5[j]? = some y := ⟨x5[j]'(by rw [← HN5.out]; omega), List.getElem?_eq_getElem _⟩
          have HBJ := Lib.hid hbj
          have i0 : (0 : Int) ≤ (j : Int) := by omega
          have i1 : (j : Int) < (n5 : Int) := by omega
          obtain ⟨gy, oy, rfl, hyc⟩ := tx_cells (HO5.out.below hbj).rd hy (by omega)
          have HYC := Lib.hid hyc
          clear hbj hyc
          rcases tx_at HE5.out hy with ⟨x, hj1, hx, hxy⟩ | ⟨q, x, hjq, hq1, hx, hxy⟩
          · have hj1' : (j : Int) < (n1 : Int) := by rw [HN1.out]; omega
            obtain ⟨gx, ox, rfl, _⟩ := tx_cells HO1.out.rd hx (by rw [HN1.out]; omega)
            have HFX : Hid (∀ W, Below w5.heap.size w5 W → ∀ i u, x.cs[i]? = some u → W.cell? ⟨gx, ox + j * 7 + i, none⟩ = some u) := Lib.hid (fun W hW => by
              obtain ⟨g2, o2, e2, h2⟩ := tx_cells (HO1.out.below hW).rd hx (by rw [HN1.out]; omega)
              injection e2 with e2
              injection e2 with e3 e4
              subst e3 e4
              exact h2)
            have HXY := Lib.hid hxy
            clear hy hx hxy hj1
            have HYD : Hid (∀ i u, [.int .u64 x.t.num, .int .i64 x.t.nd, .int .i64 x.t.begin_, .int .i64 x.t.fin, .bool x.t.asked, .bool x.t.lost, .slice y.A x.t.ops.length y.c][i]? = some u → wr.cell? ⟨gy, oy + j * 7 + i, none⟩ = some u) := Lib.hid (fun i u h => HYC.out i u (by unfold TxP.cs TxP.ov; rw [HXY.out]; exact h))
            have d0 : wr.cell? ⟨gy, oy + j * 7, none⟩ = some (.int .u64 x.t.num) := HYD.out 0 _ rfl
            have d1 : wr.cell? ⟨gy, oy + j * 7 + 1, none⟩ = some (.int .i64 x.t.nd) := HYD.out 1 _ rfl
            have d2 : wr.cell? ⟨gy, oy + j * 7 + 2, none⟩ = some (.int .i64 x.t.begin_) := HYD.out 2 _ rfl
            have d3 : wr.cell? ⟨gy, oy + j * 7 + 3, none⟩ = some (.int .i64 x.t.fin) := HYD.out 3 _ rfl
            have d4 : wr.cell? ⟨gy, oy + j * 7 + 4, none⟩ = some (.bool x.t.asked) := HYD.out 4 _ rfl
            have d5 : wr.cell? ⟨gy, oy + j * 7 + 5, none⟩ = some (.bool x.t.lost) := HYD.out 5 _ rfl
            have d6 : wr.cell? ⟨gy, oy + j * 7 + 6, none⟩ = some (.slice y.A x.t.ops.length y.c) := HYD.out 6 _ rfl
            obtain ⟨X, hX⟩ : ∃ X, X = (wr.alloc (.cells #[.int .u64 x.t.num, .int .i64 x.t.nd, .int .i64 x.t.begin_, .int .i64 x.t.fin, .bool x.t.asked, .bool x.t.lost, .slice y.A x.t.ops.length y.c] 39)).alloc (.cells #[.int .u64 0, .int .i64 0, .int .i64 0, .int .i64 0, .bool false, .bool false, .slice none 0 0] 39) := ⟨_, rfl⟩
            obtain ⟨ga, hga⟩ : ∃ g, g = wr.heap.size := ⟨_, rfl⟩
            obtain ⟨gb, hgb⟩ : ∃ g, g = wr.heap.size + 1 := ⟨_, rfl⟩
            have HXA : Hid (X.heap[ga]? = some (.cells #[.int .u64 x.t.num, .int .i64 x.t.nd, .int .i64 x.t.begin_, .int .i64 x.t.fin, .bool x.t.asked, .bool x.t.lost, .slice y.A x.t.ops.length y.c] 39 (0, 0))) := Lib.hid (by rw [hX, hga, Below.heap_alloc _ _ _ (by simp)]; exact heap_alloc_new wr _)
            have HXZ : Hid (X.heap[gb]? = some (.cells #[.int .u64 0, .int .i64 0, .int .i64 0, .int .i64 0, .bool false, .bool false, .slice none 0 0] 39 (0, 0))) := Lib.hid (by
              have h9 := heap_alloc_new (wr.alloc (.cells #[.int .u64 x.t.num, .int .i64 x.t.nd, .int .i64 x.t.begin_, .int .i64 x.t.fin, .bool x.t.asked, .bool x.t.lost, .slice y.A x.t.ops.length y.c] 39)) (.cells #[.int .u64 0, .int .i64 0, .int .i64 0, .int .i64 0, .bool false, .bool false, .slice none 0 0] 39)
              rw [World.size_alloc] at h9
              rw [hX, hgb]
              exact h9)
            have HXB : Hid (Below w5.heap.size w5 X) := Lib.hid (by rw [hX]; exact (HBJ.out.alloc HBJ.out.size _).alloc (by have := HBJ.out.size; simp; omega) _)
            go_upto_region 34 with fail
            rw [← hX, ← hgb, ← hga]
            have HGB : Hid (w5.heap.size ≤ gb ∧ ga ≠ gb) := Lib.hid (by have := HBJ.out.size; omega)
            clear hX hga hgb d0 d1 d2 d3 d4 d5 d6
            have f0 : X.cell? ⟨gx, ox + j * 7, none⟩ = some (.int .u64 x.t.num) := HFX.out X HXB.out 0 _ rfl
            have f1 : X.cell? ⟨gx, ox + j * 7 + 1, none⟩ = some (.int .i64 x.t.nd) := HFX.out X HXB.out 1 _ rfl
            have f2 : X.cell? ⟨gx, ox + j * 7 + 2, none⟩ = some (.int .i64 x.t.begin_) := HFX.out X HXB.out 2 _ rfl
            have f3 : X.cell? ⟨gx, ox + j * 7 + 3, none⟩ = some (.int .i64 x.t.fin) := HFX.out X HXB.out 3 _ rfl
            have f4 : X.cell? ⟨gx, ox + j * 7 + 4, none⟩ = some (.bool x.t.asked) := HFX.out X HXB.out 4 _ rfl
            have f5 : X.cell? ⟨gx, ox + j * 7 + 5, none⟩ = some (.bool x.t.lost) := HFX.out X HXB.out 5 _ rfl
            have f6 : X.cell? ⟨gx, ox + j * 7 + 6, none⟩ = some (.slice x.A x.t.ops.length x.c) := HFX.out X HXB.out 6 _ rfl
            obtain ⟨z0, z1, z2, z3, z4, z5, z6⟩ := row7_facts HXZ.out
            have zf := row_free HXZ.out
            go_upto_region 36 with fail
            obtain ⟨Z, hZ⟩ : ∃ Z, Z = (((((((X.setCell ⟨gb, 0, none⟩ (.int .u64 x.t.num)).setCell ⟨gb, 1, none⟩ (.int .i64 x.t.nd)).setCell ⟨gb, 2, none⟩ (.int .i64 x.t.begin_)).setCell ⟨gb, 3, none⟩ (.int .i64 x.t.fin)).setCell ⟨gb, 4, none⟩ (.bool x.t.asked)).setCell ⟨gb, 5, none⟩ (.bool x.t.lost)).setCell ⟨gb, 6, none⟩ (.slice x.A x.t.ops.length x.c)) := ⟨_, rfl⟩
            rw [← hZ]
            have HZ : Hid (Z = sets X gb [(0, .int .u64 x.t.num), (1, .int .i64 x.t.nd), (2, .int .i64 x.t.begin_), (3, .int .i64 x.t.fin), (4, .bool x.t.asked), (5, .bool x.t.lost), (6, .slice x.A x.t.ops.length x.c)]) := Lib.hid hZ
            clear hZ z0 z1 z2 z3 z4 z5 z6 zf f0 f1 f2 f3 f4 f5 f6
            have HZA : Hid (Z.heap[ga]? = some (.cells #[.int .u64 x.t.num, .int .i64 x.t.nd, .int .i64 x.t.begin_, .int .i64 x.t.fin, .bool x.t.asked, .bool x.t.lost, .slice y.A x.t.ops.length y.c] 39 (0, 0))) := Lib.hid (by rw [HZ.out, sets_ne _ _ HGB.out.2]; exact HXA.out)
            have HZB : Hid (Z.heap[gb]? = some (.cells #[.int .u64 x.t.num, .int .i64 x.t.nd, .int .i64 x.t.begin_, .int .i64 x.t.fin, .bool x.t.asked, .bool x.t.lost, .slice x.A x.t.ops.length x.c] 39 (0, 0))) := Lib.hid (by rw [HZ.out]; have h9 := sets_row [(0, .int .u64 x.t.num), (1, .int .i64 x.t.nd), (2, .int .i64 x.t.begin_), (3, .int .i64 x.t.fin), (4, .bool x.t.asked), (5, .bool x.t.lost), (6, .slice x.A x.t.ops.length x.c)] X HXZ.out; simp only [List.foldl_cons, List.foldl_nil, List.setIfInBounds_toArray, List.set_cons_zero, List.set_cons_succ] at h9; exact h9)
            have HZL : Hid (Below w5.heap.size w5 Z) := Lib.hid (by rw [HZ.out]; exact sets_below _ HXB.out HGB.out.1)
            obtain ⟨a0, a1, a2, a3, a4, a5, a6⟩ := row7_facts HZA.out
            obtain ⟨b0, b1, b2, b3, b4, b5', b6⟩ := row7_facts HZB.out
            go_wp2_with fail
            go_roundw
            case rel => exact ⟨j + 1, by omega, by go_num, HZL.out⟩
            case measure => simp [intOf]; omega
          · have hj1' : ¬ ((j : Int) < (n1 : Int)) := by rw [HN1.out]; omega
            have hsub : (j : Int) - (n1 : Int) = (q : Int) := by rw [HN1.out]; omega
            have q0 : (0 : Int) ≤ (q : Int) := by omega
            have q1 : (q : Int) < (n2 : Int) := by rw [HN2.out]; omega
            obtain ⟨gx, ox, rfl, _⟩ := tx_cells HO2.out.rd hx (by rw [HN2.out]; omega)
            have HFX : Hid (∀ W, Below w5.heap.size w5 W → ∀ i u, x.cs[i]? = some u → W.cell? ⟨gx, ox + q * 7 + i, none⟩ = some u) := Lib.hid (fun W hW => by
              obtain ⟨g2, o2, e2, h2⟩ := tx_cells (HO2.out.below hW).rd hx (by rw [HN2.out]; omega)
              injection e2 with e2
              injection e2 with e3 e4
              subst e3 e4
              exact h2)
            have HXY := Lib.hid hxy
            clear hy hx hxy hjq hq1
            have HYD : Hid (∀ i u, [.int .u64 x.t.num, .int .i64 x.t.nd, .int .i64 x.t.begin_, .int .i64 x.t.fin, .bool x.t.asked, .bool x.t.lost, .slice y.A x.t.ops.length y.c][i]? = some u → wr.cell? ⟨gy, oy + j * 7 + i, none⟩ = some u) := Lib.hid (fun i u h => HYC.out i u (by unfold TxP.cs TxP.ov; rw [HXY.out]; exact h))
            have d0 : wr.cell? ⟨gy, oy + j * 7, none⟩ = some (.int .u64 x.t.num) := HYD.out 0 _ rfl
            have d1 : wr.cell? ⟨gy, oy + j * 7 + 1, none⟩ = some (.int .i64 x.t.nd) := HYD.out 1 _ rfl
            have d2 : wr.cell? ⟨gy, oy + j * 7 + 2, none⟩ = some (.int .i64 x.t.begin_) := HYD.out 2 _ rfl
            have d3 : wr.cell? ⟨gy, oy + j * 7 + 3, none⟩ = some (.int .i64 x.t.fin) := HYD.out 3 _ rfl
            have d4 : wr.cell? ⟨gy, oy + j * 7 + 4, none⟩ = some (.bool x.t.asked) := HYD.out 4 _ rfl
            have d5 : wr.cell? ⟨gy, oy + j * 7 + 5, none⟩ = some (.bool x.t.lost) := HYD.out 5 _ rfl
            have d6 : wr.cell? ⟨gy, oy + j * 7 + 6, none⟩ = some (.slice y.A x.t.ops.length y.c) := HYD.out 6 _ rfl
            obtain ⟨X, hX⟩ : ∃ X, X = (wr.alloc (.cells #[.int .u64 x.t.num, .int .i64 x.t.nd, .int .i64 x.t.begin_, .int .i64 x.t.fin, .bool x.t.asked, .bool x.t.lost, .slice y.A x.t.ops.length y.c] 39)).alloc (.cells #[.int .u64 0, .int .i64 0, .int .i64 0, .int .i64 0, .bool false, .bool false, .slice none 0 0] 39) := ⟨_, rfl⟩
            obtain ⟨ga, hga⟩ : ∃ g, g = wr.heap.size := ⟨_, rfl⟩
            obtain ⟨gb, hgb⟩ : ∃ g, g = wr.heap.size + 1 := ⟨_, rfl⟩
            have HXA : Hid (X.heap[ga]? = some (.cells #[.int .u64 x.t.num, .int .i64 x.t.nd, .int .i64 x.t.begin_, .int .i64 x.t.fin, .bool x.t.asked, .bool x.t.lost, .slice y.A x.t.ops.length y.c] 39 (0, 0))) := Lib.hid (by rw [hX, hga, Below.heap_alloc _ _ _ (by simp)]; exact heap_alloc_new wr _)
            have HXZ : Hid (X.heap[gb]? = some (.cells #[.int .u64 0, .int .i64 0, .int .i64 0, .int .i64 0, .bool false, .bool false, .slice none 0 0] 39 (0, 0))) := Lib.hid (by
              have h9 := heap_alloc_new (wr.alloc (.cells #[.int .u64 x.t.num, .int .i64 x.t.nd, .int .i64 x.t.begin_, .int .i64 x.t.fin, .bool x.t.asked, .bool x.t.lost, .slice y.A x.t.ops.length y.c] 39)) (.cells #[.int .u64 0, .int .i64 0, .int .i64 0, .int .i64 0, .bool false, .bool false, .slice none 0 0] 39)
              rw [World.size_alloc] at h9
              rw [hX, hgb]
              exact h9)
            have HXB : Hid (Below w5.heap.size w5 X) := Lib.hid (by rw [hX]; exact (HBJ.out.alloc HBJ.out.size _).alloc (by have := HBJ.out.size; simp; omega) _)
            go_upto_region 35 with fail
            rw [← hX, ← hgb, ← hga]
            have HGB : Hid (w5.heap.size ≤ gb ∧ ga ≠ gb) := Lib.hid (by have := HBJ.out.size; omega)
            clear hX hga hgb d0 d1 d2 d3 d4 d5 d6
            have f0 : X.cell? ⟨gx, ox + q * 7, none⟩ = some (.int .u64 x.t.num) := HFX.out X HXB.out 0 _ rfl
            have f1 : X.cell? ⟨gx, ox + q * 7 + 1, none⟩ = some (.int .i64 x.t.nd) := HFX.out X HXB.out 1 _ rfl
            have f2 : X.cell? ⟨gx, ox + q * 7 + 2, none⟩ = some (.int .i64 x.t.begin_) := HFX.out X HXB.out 2 _ rfl
            have f3 : X.cell? ⟨gx, ox + q * 7 + 3, none⟩ = some (.int .i64 x.t.fin) := HFX.out X HXB.out 3 _ rfl
            have f4 : X.cell? ⟨gx, ox + q * 7 + 4, none⟩ = some (.bool x.t.asked) := HFX.out X HXB.out 4 _ rfl
            have f5 : X.cell? ⟨gx, ox + q * 7 + 5, none⟩ = some (.bool x.t.lost) := HFX.out X HXB.out 5 _ rfl
            have f6 : X.cell? ⟨gx, ox + q * 7 + 6, none⟩ = some (.slice x.A x.t.ops.length x.c) := HFX.out X HXB.out 6 _ rfl
            obtain ⟨z0, z1, z2, z3, z4, z5, z6⟩ := row7_facts HXZ.out
            have zf := row_free HXZ.out
            go_upto_region 36 with fail
            obtain ⟨Z, hZ⟩ : ∃ Z, Z = (((((((X.setCell ⟨gb, 0, none⟩ (.int .u64 x.t.num)).setCell ⟨gb, 1, none⟩ (.int .i64 x.t.nd)).setCell ⟨gb, 2, none⟩ (.int .i64 x.t.begin_)).setCell ⟨gb, 3, none⟩ (.int .i64 x.t.fin)).setCell ⟨gb, 4, none⟩ (.bool x.t.asked)).setCell ⟨gb, 5, none⟩ (.bool x.t.lost)).setCell ⟨gb, 6, none⟩ (.slice x.A x.t.ops.length x.c)) := ⟨_, rfl⟩
            rw [← hZ]
            have HZ : Hid (Z = sets X gb [(0, .int .u64 x.t.num), (1, .int .i64 x.t.nd), (2, .int .i64 x.t.begin_), (3, .int .i64 x.t.fin), (4, .bool x.t.asked), (5, .bool x.t.lost), (6, .slice x.A x.t.ops.length x.c)]) := Lib.hid hZ
            clear hZ z0 z1 z2 z3 z4 z5 z6 zf f0 f1 f2 f3 f4 f5 f6
            have HZA : Hid (Z.heap[ga]? = some (.cells #[.int .u64 x.t.num, .int .i64 x.t.nd, .int .i64 x.t.begin_, .int .i64 x.t.fin, .bool x.t.asked, .bool x.t.lost, .slice y.A x.t.ops.length y.c] 39 (0, 0))) := Lib.hid (by rw [HZ.out, sets_ne _ _ HGB.out.2]; exact HXA.out)
            have HZB : Hid (Z.heap[gb]? = some (.cells #[.int .u64 x.t.num, .int .i64 x.t.nd, .int .i64 x.t.begin_, .int .i64 x.t.fin, .bool x.t.asked, .bool x.t.lost, .slice x.A x.t.ops.length x.c] 39 (0, 0))) := Lib.hid (by rw [HZ.out]; have h9 := sets_row [(0, .int .u64 x.t.num), (1, .int .i64 x.t.nd), (2, .int .i64 x.t.begin_), (3, .int .i64 x.t.fin), (4, .bool x.t.asked), (5, .bool x.t.lost), (6, .slice x.A x.t.ops.length x.c)] X HXZ.out; simp only [List.foldl_cons, List.foldl_nil, List.setIfInBounds_toArray, List.set_cons_zero, List.set_cons_succ] at h9; exact h9)
            have HZL : Hid (Below w5.heap.size w5 Z) := Lib.hid (by rw [HZ.out]; exact sets_below _ HXB.out HGB.out.1)
            obtain ⟨a0, a1, a2, a3, a4, a5, a6⟩ := row7_facts HZA.out
            obtain ⟨b0, b1, b2, b3, b4, b5', b6⟩ := row7_facts HZB.out
            go_wp2_with fail
            go_roundw
            case rel => exact ⟨j + 1, by omega, by go_num, HZL.out⟩
            case measure => simp [intOf]; omega
        · have hji : ¬ ((j : Int) < (n5 : Int)) := by omega
          have HBJ := Lib.hid hbj
          clear hbj
          go_wp2_with fail
          go_ret
          exact ⟨rfl, HBW.out.trans (HBJ.out.mono HBW.out.size)⟩
theorem parts_row {H : Type} {enc : TypeId × Value → H} {w : World} {base : Nat} {spare : Nat → Bool} {held : Bool} (v0 : Value) (ok0 : Value.okWide Try.prog w .any base 22 v0) (h0 : Reads1 enc Try.prog w 0 spare held 22 v0.cells.toList) (v1 : Value) (ok1 : Value.okWide Try.prog w .any base 22 v1) (h1 : Reads1 enc Try.prog w 0 spare held 22 v1.cells.toList) :
    Calls Try.prog 3 #[v0, v1] w fun e w' => e = .returned (.bool true) ∧ Below w.heap.size w w' := by
  obtain ⟨es, A, c, rfl, hr, he⟩ := evs_val ok0 h0
  obtain ⟨fs, B, d, rfl, hk, hf⟩ := evs_val ok1 h1
  exact parts_any w hr hk he hf
#print axioms parts_row
end Go.Proofs.Ythkacajlbenflaa.HistG
