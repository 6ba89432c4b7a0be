/- HistParts: its first loop, over a frame of letters. -/
import Derived.Test.YthkacajlbenflaaHistPv
import Derived.Test.YthkacajlbenflaaAbs
set_option linter.unusedVariables false
set_option linter.unusedSimpArgs false
set_option linter.unusedSectionVars false
set_option maxRecDepth 100000
namespace Go.Proofs.Ythkacajlbenflaa.HistG
open Go.RowKit Go.WideShapes Go.Deep Go.Proofs.Ythkacajlbenflaa.Mem Go.Proofs.Ythkacajlbenflaa.Maps Go.Proofs.Ythkacajlbenflaa.Kv Go.Proofs.Ythkacajlbenflaa.Open Go.Proofs.Ythkacajlbenflaa.HistA
/-- The first loop's state behind j events: the copies so far; the other row is empty; the names. -/
structure Pt1 (w wr : World) (b : Nat) (es : List EvV) (j : Nat) (A1 : Option Addr) (c1 : Nat) : Prop where
  own : Own wr b 34 16 (.slice A1 j c1) j (evc ((es.take j).map (setN 0)))
  ne : ∀ g, (Value.slice A1 j c1).ownBlock = some g → g ≠ b + 1
  y : wr.heap[b + 1]? = some (.cells #[] 34 (0, 0))
  nm : SeenAt wr (b + 2) (nmL (es.take j))
  sz : b + 3 ≤ wr.heap.size
  wb : w.heap.size ≤ b
  bl : Below w.heap.size w wr
theorem pt1_next {w wr W W6 : World} {b : Nat} {es : List EvV} {j : Nat} {e : EvV} {A1 A6 : Option Addr} {c1 c6 : Nat} (h : Pt1 w wr b es j A1 c1) (he : es[j]? = some e)
    (hn : SeenAt W (b + 2) (nmL (es.take (j + 1)))) (hf : Fr (fun k => k = b + 2) wr W) {o : Obj}
    (ho : Own W6 b 34 16 (.slice A6 (j + 1) c6) (j + 1) (evc ((es.take j).map (setN 0)) ++ ev1 (setN 0 e))) (h6 : Fr (fun g => (Value.slice A1 j c1).ownBlock = some g) (W.alloc o) W6) (hb6 : ∀ g, (Value.slice A6 (j + 1) c6).ownBlock = some g → (Value.slice A1 j c1).ownBlock = some g ∨ (W.alloc o).heap.size ≤ g) : Pt1 w W6 b es (j + 1) A6 c6 := by
  have hsz := h.sz
  have hws := hf.size
  have hz : (W.alloc o).heap.size = W.heap.size + 1 := by simp
  have hw6 := h6.size
  have hown : Own (W.alloc o) b 34 16 (.slice A1 j c1) j (evc ((es.take j).map (setN 0))) := (h.own.fr hf fun k hk e1 => own_not_map h.own h.nm (by rw [← e1]; exact hk)).alloc o
  refine ⟨?_, fun g hg => ?_, ?_, ?_, by omega, h.wb, ?_⟩
  · rw [take_snoc he, List.map_append, evc_append]
    have e1 : evc ([e].map (setN 0)) = ev1 (setN 0 e) := by simp [evc]
    rw [e1]
    exact ho
  · rcases hb6 g hg with h1 | h1
    · exact h.ne g h1
    · omega
  · refine (h6.block (b + 1) (by omega) fun h1 => h.ne _ h1 rfl).trans ?_
    rw [Below.heap_alloc _ _ _ (by omega)]
    exact (hf.block (b + 1) (by omega) (by omega)).trans h.y
  · exact hn.kept (by rw [h6.block (b + 2) (by omega) (own_not_map hown (hn.alloc o)), Below.heap_alloc _ _ _ (by omega)])
  · have h1 : Below w.heap.size w W := h.bl.trans (hf.below h.bl.size (fun i _ e => by have := h.wb; omega))
    have h2 : Below w.heap.size w (W.alloc o) := h1.alloc h1.size o
    exact h2.trans (h6.below h2.size fun i _ hi => by have := (hown.lt i hi).1; have := h.wb; omega)
/-- The loop of a code whose body has the region r. -/
def loopOf (r : Nat) : Code → Option Code
  | .loop c => match regOf r c with
    | some _ => some (.loop c)
    | none => none
  | .seq a b => match loopOf r a with
    | some c => some c
    | none => loopOf r b
  | .block _ c => loopOf r c
  | .scope c => loopOf r c
  | .cond _ a b => match loopOf r a with
    | some c => some c
    | none => loopOf r b
  | _ => none
def loopF (r : Nat) (f : Func) : Code := (f.body.bind (loopOf r)).getD .skip
/-- What a loop that ends by its way out, and never panics or returns, asks of its end. -/
def NrmX (N : Act → World → Prop) : Exit → Act → World → Prop
  | .exit k, a, w => if k = 0 then N a w else False
  | _, _, _ => False
theorem abs_loop {P : Program} {c : Code} {Q : Exit → Act → World → Prop} {a : Act} {w : World} (h : ∀ (A : Act) (N : Act → World → Prop), A = a → (∀ a w, Q (.exit 0) a w → N a w) → c.wp P (NrmX N) A w) : c.wp P Q a w :=
  wp_mono (h a (Q (.exit 0)) rfl (fun _ _ h => h)) fun e a w hq => by
    cases e with
    | exit k =>
      by_cases hk : k = 0
      · subst hk; exact hq
      · exact absurd hq (by simp [NrmX, hk])
    | _ => exact hq.elim
set_option maxHeartbeats 40000000 in
theorem loop1_law {C : Code} (hC : C = loopF 9 Try.f3) {es : List EvV} {w wb : World} {A A0 : Option Addr} {c c0 n b : Nat} (HX : Hid (∀ W, Below w.heap.size w W → Rd W W.heap.size 16 (.slice A n c) n (evc es))) (HN : Hid (n = es.length)) (HES : Hid (∀ e ∈ es, EvW e)) (HLN : Hid (n ≤ 40)) (H0 : Hid (Pt1 w wb b es 0 A0 c0)) {a1 a2 a3 a4 a6 a8 a9 a10 a11 a12 a13 a14 a15 a16 a17 a18 a19 a20 a21 a22 a23 a24 a25 a26 a27 a28 a29 a30 a34 a35 a36 a37 a38 a39 a40 a41 a42 a43 a44 a45 a46 a47 a48 a49 a50 a51 a52 a53 a54 a55 a56 a57 a58 a59 a60 a61 a62 a63 a64 a65 a66 a67 a68 a69 a70 a71 a72 a73 a74 a75 a76 a77 a78 a79 a80 a81 a82 a83 a84 a85 a86 a87 a88 a89 a90 a91 a92 a93 a94 a95 a96 a97 a98 a99 a100 a101 a102 a103 a104 a105 a106 a107 a108 a109 a110 a111 a112 a113 a114 a115 a116 a117 a118 a119 a120 a121 a122 a123 a124 a125 a126 a127 a128 a129 a130 a131 a132 a133 a134 a135 a136 a137 a138 a139 a140 a141 a142 a143 a144 a145 a146 a147 a148 a149 a150 a151 a152 a153 : Value} {N : Act → World → Prop}
    (hN : ∀ A1 c1 x9 x34 x35 x36 x37 x38 x39 x40 x41 x42 x43 x44 x45 x46 x47 x48 W, Pt1 w W b es n A1 c1 → N ⟨((.slice A n c) :: a1 :: a2 :: a3 :: a4 :: (.slice A1 n c1) :: a6 :: (.map (some (b + 2))) :: a8 :: (x9) :: a10 :: a11 :: a12 :: a13 :: a14 :: a15 :: a16 :: a17 :: a18 :: a19 :: a20 :: a21 :: a22 :: a23 :: a24 :: a25 :: a26 :: a27 :: a28 :: a29 :: a30 :: (.slice A n c) :: (.int .i64 n) :: (.int .i64 n) :: (x34) :: (x35) :: (x36) :: (x37) :: (x38) :: (x39) :: (x40) :: (x41) :: (x42) :: (x43) :: (x44) :: (x45) :: (x46) :: (x47) :: (x48) :: a49 :: a50 :: a51 :: a52 :: a53 :: a54 :: a55 :: a56 :: a57 :: a58 :: a59 :: a60 :: a61 :: a62 :: a63 :: a64 :: a65 :: a66 :: a67 :: a68 :: a69 :: a70 :: a71 :: a72 :: a73 :: a74 :: a75 :: a76 :: a77 :: a78 :: a79 :: a80 :: a81 :: a82 :: a83 :: a84 :: a85 :: a86 :: a87 :: a88 :: a89 :: a90 :: a91 :: a92 :: a93 :: a94 :: a95 :: a96 :: a97 :: a98 :: a99 :: a100 :: a101 :: a102 :: a103 :: a104 :: a105 :: a106 :: a107 :: a108 :: a109 :: a110 :: a111 :: a112 :: a113 :: a114 :: a115 :: a116 :: a117 :: a118 :: a119 :: a120 :: a121 :: a122 :: a123 :: a124 :: a125 :: a126 :: a127 :: a128 :: a129 :: a130 :: a131 :: a132 :: a133 :: a134 :: a135 :: a136 :: a137 :: a138 :: a139 :: a140 :: a141 :: a142 :: a143 :: a144 :: a145 :: a146 :: a147 :: a148 :: a149 :: a150 :: a151 :: a152 :: a153 :: []).toArray, []⟩ W) : Code.wp Try.prog C (NrmX N) ⟨((.slice A n c) :: a1 :: a2 :: a3 :: a4 :: (.slice A0 0 c0) :: a6 :: (.map (some (b + 2))) :: a8 :: a9 :: a10 :: a11 :: a12 :: a13 :: a14 :: a15 :: a16 :: a17 :: a18 :: a19 :: a20 :: a21 :: a22 :: a23 :: a24 :: a25 :: a26 :: a27 :: a28 :: a29 :: a30 :: (.slice A n c) :: (.int .i64 n) :: (.int .i64 0) :: a34 :: a35 :: a36 :: a37 :: a38 :: a39 :: a40 :: a41 :: a42 :: a43 :: a44 :: a45 :: a46 :: a47 :: a48 :: a49 :: a50 :: a51 :: a52 :: a53 :: a54 :: a55 :: a56 :: a57 :: a58 :: a59 :: a60 :: a61 :: a62 :: a63 :: a64 :: a65 :: a66 :: a67 :: a68 :: a69 :: a70 :: a71 :: a72 :: a73 :: a74 :: a75 :: a76 :: a77 :: a78 :: a79 :: a80 :: a81 :: a82 :: a83 :: a84 :: a85 :: a86 :: a87 :: a88 :: a89 :: a90 :: a91 :: a92 :: a93 :: a94 :: a95 :: a96 :: a97 :: a98 :: a99 :: a100 :: a101 :: a102 :: a103 :: a104 :: a105 :: a106 :: a107 :: a108 :: a109 :: a110 :: a111 :: a112 :: a113 :: a114 :: a115 :: a116 :: a117 :: a118 :: a119 :: a120 :: a121 :: a122 :: a123 :: a124 :: a125 :: a126 :: a127 :: a128 :: a129 :: a130 :: a131 :: a132 :: a133 :: a134 :: a135 :: a136 :: a137 :: a138 :: a139 :: a140 :: a141 :: a142 :: a143 :: a144 :: a145 :: a146 :: a147 :: a148 :: a149 :: a150 :: a151 :: a152 :: a153 :: []).toArray, []⟩ wb := by
  subst hC
  conv => arg 2; whnf
  have HNN := Lib.hid hN
  clear hN
  have hn40 := HLN.out
  go_loopw [5, 33] (fun xv i wr => ∃ (j : Nat) (A1 : Option Addr) (c1 : Nat), j ≤ n ∧ i = .int .i64 j ∧ xv = .slice A1 j c1 ∧ Pt1 w wr b es j A1 c1) (fun _ i _ => n - (intOf i).toNat)
  case atStart => exact ⟨0, _, _, Nat.zero_le _, rfl, rfl, H0.out⟩
  case round =>
    obtain ⟨j, A1, c1, hj, rfl, rfl, hp⟩ := hrel
    by_cases hlt : j < n
    · obtain ⟨e, he⟩ : ∃ e, es[j]? = some e := ⟨es[j]'(by rw [← HN.out]; omega), List.getElem?_eq_getElem _⟩
      obtain ⟨g, off, rfl, hcl⟩ := ev_cells (HX.out wr hp.bl) he (by omega)
      have HP := Lib.hid hp
      have HE := Lib.hid he
      have d0 : wr.cell? ⟨g, off + j * 16, none⟩ = some (.int .i64 e.step) := hcl 0 _ rfl
      have d1 : wr.cell? ⟨g, off + j * 16 + 1, none⟩ = some (.int .i64 e.node) := hcl 1 _ rfl
      have d2 : wr.cell? ⟨g, off + j * 16 + 2, none⟩ = some (.int .i64 e.cs) := hcl 2 _ rfl
      have d3 : wr.cell? ⟨g, off + j * 16 + 3, none⟩ = some (.int .i64 e.cr) := hcl 3 _ rfl
      have d4 : wr.cell? ⟨g, off + j * 16 + 4, none⟩ = some (.int .i64 e.ck) := hcl 4 _ rfl
      have d5 : wr.cell? ⟨g, off + j * 16 + 5, none⟩ = some (.string e.ckey) := hcl 5 _ rfl
      have d6 : wr.cell? ⟨g, off + j * 16 + 6, none⟩ = some (.string e.cval) := hcl 6 _ rfl
      have d7 : wr.cell? ⟨g, off + j * 16 + 7, none⟩ = some (.int .i64 e.as_) := hcl 7 _ rfl
      have d8 : wr.cell? ⟨g, off + j * 16 + 8, none⟩ = some (.int .i64 e.ar) := hcl 8 _ rfl
      have d9 : wr.cell? ⟨g, off + j * 16 + 9, none⟩ = some (.int .i64 e.ac) := hcl 9 _ rfl
      have d10 : wr.cell? ⟨g, off + j * 16 + 10, none⟩ = some (.string e.aval) := hcl 10 _ rfl
      have d11 : wr.cell? ⟨g, off + j * 16 + 11, none⟩ = some (.bool e.ahas) := hcl 11 _ rfl
      have d12 : wr.cell? ⟨g, off + j * 16 + 12, none⟩ = some (.int .u64 e.anum) := hcl 12 _ rfl
      have d13 : wr.cell? ⟨g, off + j * 16 + 13, none⟩ = some (.int .i64 e.and_) := hcl 13 _ rfl
      have d14 : wr.cell? ⟨g, off + j * 16 + 14, none⟩ = some (.bool e.said) := hcl 14 _ rfl
      have d15 : wr.cell? ⟨g, off + j * 16 + 15, none⟩ = some (.bool e.up) := hcl 15 _ rfl
      obtain ⟨X, hX⟩ : ∃ X, X = wr.alloc (.cells #[.int .i64 e.step, .int .i64 e.node, .int .i64 e.cs, .int .i64 e.cr, .int .i64 e.ck, .string e.ckey, .string e.cval, .int .i64 e.as_, .int .i64 e.ar, .int .i64 e.ac, .string e.aval, .bool e.ahas, .int .u64 e.anum, .int .i64 e.and_, .bool e.said, .bool e.up] 34) := ⟨_, rfl⟩
      have HXB : Hid (Below wr.heap.size wr X) := Lib.hid (by rw [hX]; exact (Below.refl _ _).alloc (Nat.le_refl _) _)
      obtain ⟨ge, hge⟩ : ∃ g, g = wr.heap.size := ⟨_, rfl⟩
      have HXR : Hid (X.heap[ge]? = some (.cells #[.int .i64 e.step, .int .i64 e.node, .int .i64 e.cs, .int .i64 e.cr, .int .i64 e.ck, .string e.ckey, .string e.cval, .int .i64 e.as_, .int .i64 e.ar, .int .i64 e.ac, .string e.aval, .bool e.ahas, .int .u64 e.anum, .int .i64 e.and_, .bool e.said, .bool e.up] 34 (0, 0))) := Lib.hid (by rw [hX, hge]; exact heap_alloc_new wr _)
      have i0 : (0 : Int) ≤ (j : Int) := by omega
      have i1 : (j : Int) < (n : Int) := by omega
      clear hcl hp he
      go_upto_region 11 with fail
      rw [← hX]
      rw [← hge]
      have HGQ := Lib.hid hge
      clear hge
      clear hX d0 d1 d2 d3 d4 d5 d6 d7 d8 d9 d10 d11 d12 d13 d14 d15
      obtain ⟨x0, x1, x2, x3, x4, x5, x6, x7, x8, x9, x10, x11, x12, x13, x14, x15⟩ := row16_facts HXR.out
      have xf := row_free HXR.out
      go_upto_region 12 with fail
      obtain ⟨Y, hY⟩ : ∃ Y, Y = X.setCell ⟨ge, 1, none⟩ (.int .i64 0) := ⟨_, rfl⟩
      rw [← hY]
      have HYR : Hid (Y.heap[ge]? = some (.cells #[.int .i64 e.step, .int .i64 0, .int .i64 e.cs, .int .i64 e.cr, .int .i64 e.ck, .string e.ckey, .string e.cval, .int .i64 e.as_, .int .i64 e.ar, .int .i64 e.ac, .string e.aval, .bool e.ahas, .int .u64 e.anum, .int .i64 e.and_, .bool e.said, .bool e.up] 34 (0, 0))) := Lib.hid (by
        have h9 := sets_row [(1, .int .i64 0)] X HXR.out
        rw [show sets X ge [(1, .int .i64 0)] = X.setCell ⟨ge, 1, none⟩ (.int .i64 0) from rfl, ← hY] at h9
        exact h9)
      have HYB : Hid (Below wr.heap.size wr Y) := Lib.hid (by rw [hY]; exact HXB.out.setCell (by rw [HGQ.out]; exact Nat.le_refl _) _)
      have HGE : Hid (b + 3 ≤ ge) := Lib.hid (by rw [HGQ.out]; exact HP.out.sz)
      have HNY : Hid (SeenAt Y (b + 2) (nmL (es.take j))) := Lib.hid (HP.out.nm.below HYB.out)
      have HID : Hid (Tid.IdOk (e.anum, e.and_)) := Lib.hid ((HES).out e (List.mem_of_getElem? HE.out)).t
      clear hY x0 x1 x2 x3 x4 x5 x6 x7 x8 x9 x10 x11 x12 x13 x14 x15 xf HXR HXB X
      obtain ⟨y0, y1, y2, y3, y4, y5, y6, y7, y8, y9, y10, y11, y12, y13, y14, y15⟩ := row16_facts HYR.out
      obtain ⟨sd, hsd⟩ : ∃ b, b = e.said := ⟨_, rfl⟩
      have HSD := Lib.hid hsd
      rw [← hsd] at y14
      clear hsd
      go_upto_if 39 with fail
      go_cut [9] from 38 to 43 (fun v9 wx => v9 = .pointer (some ⟨ge, 0, none⟩) ∧ Fr (fun k => k = b + 2) wr wx ∧ SeenAt wx (b + 2) (nmL (es.take (j + 1))) ∧ wx.heap[ge]? = some (.cells #[.int .i64 e.step, .int .i64 0, .int .i64 e.cs, .int .i64 e.cr, .int .i64 e.ck, .string e.ckey, .string e.cval, .int .i64 e.as_, .int .i64 e.ar, .int .i64 e.ac, .string e.aval, .bool e.ahas, .int .u64 e.anum, .int .i64 e.and_, .bool e.said, .bool e.up] 34 (0, 0)))
      case first =>
        cases sd with
        | true =>
          obtain ⟨W, hup, hat, htn⟩ := Maps.run_update (P := Try.prog) (t := 24) (e := 4) Tid.km_tid Try.underlying24 HNY.out HID.out true
          have HNW := Lib.hid hat
          have HTN := Lib.hid htn
          unfold Tid.encT at hup
          clear hat htn
          go_wp2_with fail
          go_meet
          case rel =>
            refine ⟨rfl, (Fr.of_below HYB.out _).trans HTN.out.fr (fun _ _ e => e), ?_, HTN.out.fr.blk HYR.out (by have := HGE.out; omega)⟩
            rw [take_snoc HE.out, nmL_snoc, ← HSD.out]
            exact HNW.out
        | false =>
          go_wp2_with fail
          go_meet
          case rel =>
            refine ⟨rfl, Fr.of_below HYB.out _, ?_, HYR.out⟩
            rw [take_snoc HE.out, nmL_snoc, ← HSD.out]
            exact HNY.out
      case rest =>
        obtain ⟨rfl, hcf, hcn, hcr⟩ := hcut
        obtain ⟨V, hV⟩ : ∃ V, V = wc := ⟨_, rfl⟩
        rw [← hV] at hcf hcn hcr ⊢
        clear hV wc
        have HWF := Lib.hid hcf
        have HNW := Lib.hid hcn
        have HWS : Hid (wr.heap.size ≤ V.heap.size) := Lib.hid hcf.size
        clear y0 y1 y2 y3 y4 y5 y6 y7 y8 y9 y10 y11 y12 y13 y14 y15
        obtain ⟨y0, y1, y2, y3, y4, y5, y6, y7, y8, y9, y10, y11, y12, y13, y14, y15⟩ := row16_facts hcr
        clear hcf hcn hcr HYR HYB HNY
        have HD : Hid (Own V b 34 16 (.slice A1 j c1) j (evc ((es.take j).map (setN 0)))) := Lib.hid (HP.out.own.fr HWF.out fun k hk e1 => own_not_map HP.out.own HP.out.nm (by rw [← e1]; exact hk))
        have HSZ : Hid (b ≤ V.heap.size) := Lib.hid (by have := HWS.out; have := HP.out.sz; omega)
        have HAP := Lib.hid (app_ev (W := V.alloc (.cells #[.int .i64 e.step, .int .i64 0, .int .i64 e.cs, .int .i64 e.cr, .int .i64 e.ck, .string e.ckey, .string e.cval, .int .i64 e.as_, .int .i64 e.ar, .int .i64 e.ac, .string e.aval, .bool e.ahas, .int .u64 e.anum, .int .i64 e.and_, .bool e.said, .bool e.up] 34)) (q := V.heap.size) (HD.out.alloc _) (by have := HSZ.out; simp; omega) (e := setN 0 e) (heap_alloc_new V (.cells #[.int .i64 e.step, .int .i64 0, .int .i64 e.cs, .int .i64 e.cr, .int .i64 e.ck, .string e.ckey, .string e.cval, .int .i64 e.as_, .int .i64 e.ar, .int .i64 e.ac, .string e.aval, .bool e.ahas, .int .u64 e.anum, .int .i64 e.and_, .bool e.said, .bool e.up] 34)) (by omega))
        go_wp2_with (at_builtin; refine wpL_append rfl _ _ 22 22 rfl rfl rfl HAP.out ?_; rintro v6 w6 ⟨⟨A6, c6, rfl⟩, ho6, hf6, hb6⟩; have HO6 := Lib.hid ho6; have HF6 := Lib.hid hf6; have HB6 := Lib.hid hb6; clear ho6 hf6 hb6)
        go_roundw
        case rel => exact ⟨j + 1, A6, c6, by omega, by go_num, rfl, pt1_next HP.out HE.out HNW.out HWF.out HO6.out HF6.out HB6.out⟩
        case measure => simp [intOf]; omega
    · have hjn : j = n := by omega
      rw [hjn] at hp ⊢
      have hnn : ¬ ((n : Int) < (n : Int)) := by omega
      clear hlt hj hjn j
      have HPP := Lib.hid hp
      clear hp
      go_wp2_with fail
      exact HNN.out _ _ _ _ _ _ _ _ _ _ _ _ _ _ _ _ _ _ _ HPP.out
end Go.Proofs.Ythkacajlbenflaa.HistG
