/- KeySame's walk: whether two maps have the same. -/
import Derived.Test.YtllmaoimngeofaaKeyS
set_option linter.unusedVariables false
set_option linter.unusedSimpArgs false
namespace Go.Proofs.Ytllmaoimngeofaa.KeyS
open Go.RowKit Go.WideShapes Go.Deep Go.Proofs.Ytllmaoimngeofaa.Mem Go.Proofs.Ytllmaoimngeofaa.Open Go.Proofs.Ytllmaoimngeofaa.KeyM Go.Proofs.Ytllmaoimngeofaa.KeyN Go.Proofs.Ytllmaoimngeofaa.KeyT Go.Proofs.Ytllmaoimngeofaa.Kv
attribute [local irreducible] withL withoutL

def sc (ks : List S) : List Value := ks.map .string
theorem sc_at {ks : List S} {i : Nat} {k : S} (h : ks[i]? = some k) : (sc ks)[i]? = some (.string k) := by simp [sc, h]

set_option maxHeartbeats 2000000 in
set_option maxRecDepth 100000 in
theorem same_any (v0 : Value) (ks : List S) (turn : Int) (more : S) (w : World) (h : Rd w w.heap.size 1 v0 ks.length (sc ks)) (ht : (Lit.int .i64 turn).wf = true) (hks : ∀ k ∈ ks, k.size ≤ 140737488351232) :
    Calls Try.prog 8 #[v0, .int .i64 turn, .string more] w fun e w' => e = .returned (.bool true) ∧ Below w.heap.size w w' := by
  obtain ⟨t, het, htl⟩ : ∃ t : Nat, bits .and .i64 turn 255 = (t : Int) ∧ t < 256 := by
    have hk : ∀ n : Nat, n < 256 → IntKind.i64.wrap (n : Int) = n := fun n hn => by rw [IntKind.wrap_i64]; omega
    refine ⟨((BitVec.ofInt 64 turn).toNat &&& 255), ?_, Nat.lt_succ_of_le Nat.and_le_right⟩
    have e : bits .and .i64 turn 255 = IntKind.i64.wrap (((BitVec.ofInt 64 turn &&& BitVec.ofInt 64 255).toNat : Nat) : Int) := rfl
    rw [e, BitVec.toNat_and, show (BitVec.ofInt 64 255).toNat = 255 from rfl]
    exact hk _ (Nat.lt_succ_of_le Nat.and_le_right)
  have hlen := h.len_le
  obtain ⟨hl, A, c, rfl, hc1, hc2, hx⟩ := h
  unfold maxLen at hlen
  have HX := Lib.hid hx
  have HKS := Lib.hid hks
  clear hx hl hks
  obtain ⟨n, hn⟩ : ∃ n, n = ks.length := ⟨_, rfl⟩
  rw [← hn] at hlen hc1 ⊢
  have HN := Lib.hid hn
  clear hn
  by_cases g1 : 20 < n
  · go_enter Try.func8, Try.ntmps8
    go_wp2_with (go_at_call 9; refine (KeyA.head_any _).mono ?_; rintro e w' ⟨rfl, rfl⟩)
    go_ret
    exact ⟨rfl, Below.refl _ _⟩
  go_enter Try.func8, Try.ntmps8
  go_wp2_with (go_at_call 9; refine (KeyA.head_any _).mono ?_; rintro e w' ⟨rfl, rfl⟩)
  go_loopw [7, 8, 9, 10, 11, 27] (fun a b _ _ _ i wr => ∃ (j : Nat), j ≤ n ∧ i = .int .i64 j ∧ IsMap wr a (build (ks.take j)) ∧ IsMap wr b (build (rot ks t j)) ∧ Below w.heap.size w wr) (fun _ _ _ _ _ i _ => n - (intOf i).toNat)
  case atStart => exact ⟨0, Nat.zero_le _, rfl, ⟨⟨rfl, _, _, rfl, Nat.le_refl _, Nat.zero_le _, fun h => absurd h (Nat.lt_irrefl 0)⟩, rise_nil, (by decide : 0 ≤ 1099511627776)⟩, ⟨⟨rfl, _, _, rfl, Nat.le_refl _, Nat.zero_le _, fun h => absurd h (Nat.lt_irrefl 0)⟩, rise_nil, (by decide : 0 ≤ 1099511627776)⟩, ((Below.refl _ _).alloc (Nat.le_refl _) _).alloc (by simp) _⟩
  case round =>
    obtain ⟨j, hj, rfl, hia, hib, hbl⟩ := hrel
    by_cases hlt : j < n
    · obtain ⟨g, off, rfl, hg, hx⟩ := HX.out (by rw [← HN.out]; omega)
      obtain ⟨p, hp⟩ : ∃ p, ks[j]? = some p := ⟨ks[j]'(by rw [← HN.out]; omega), List.getElem?_eq_getElem _⟩
      obtain ⟨m, hm⟩ : ∃ m, m = (j + t) % n := ⟨_, rfl⟩
      have hmn : m < n := by rw [hm]; exact Nat.mod_lt _ (by omega)
      obtain ⟨q, hq⟩ : ∃ q, ks[m]? = some q := ⟨ks[m]'(by rw [← HN.out]; omega), List.getElem?_eq_getElem _⟩
      have k0 : wr.cell? ⟨g, off + j, none⟩ = some (.string p) := (hbl.cell (p := ⟨g, off + j, none⟩) hg).trans (hx _ _ (sc_at hp))
      have em : ((j : Int) + (t : Int)) % (n : Int) = (m : Int) := by subst hm; simp
      have k1 : ∀ W', Below w.heap.size w W' → W'.cell? ⟨g, off + m, none⟩ = some (.string q) := fun W' hb => (hb.cell (p := ⟨g, off + m, none⟩) hg).trans (hx _ _ (sc_at hq))
      have HK1 := Lib.hid k1
      have HBL := Lib.hid hbl
      have HIA := Lib.hid hia
      have HIB := Lib.hid hib
      have hsz := hbl.size
      have hqs := HKS.out q (List.mem_of_getElem? hq)
      have HP := Lib.hid hp
      have HQ := Lib.hid hq
      have HM := Lib.hid hm
      clear hx hia hib hbl hp hq hm k1
      by_cases h40 : 40 < p.size
      · go_wp2
        go_ret
        exact ⟨rfl, HBL.out⟩
      · go_wp2_with fail
        refine (with_any _ HIA.out _ _).mono ?_
        rintro e w1 ⟨v1, rfl, hm1⟩
        have HM1 := Lib.hid hm1
        clear hm1
        go_wp2_with fail
        have HB1 : Hid (Below w.heap.size w w1) := HBL.out.trans (HM1.out.2.mono hsz)
        have HX0 : Hid (w1.cell? ⟨g, off + m, none⟩ = some (.string q)) := HK1.out _ HB1.out
        have HIB1 : Hid (IsMap w1.drew u8 (build (rot ks t j))) := (HIB.out.up HM1.out.2).drewN 1
        have z1 : ¬ (9223372036854775807 < q.size + 1) := by omega
        go_region_held3 (fun W' => W'.cell? ⟨g, off + m, none⟩ = some (.string q))
          (first | exact HX0.out | exact HX1.out)
          (first
            | (go_at_call 14; (with_reducible refine (with_any (ps := build (rot ks t j)) _ HIB1.out q (q ++ ⟨#[120]⟩)).mono ?_); rintro e w2 ⟨x2, rfl, hm2⟩; have HM2 := Lib.hid hm2; have HX1 : Hid (w2.cell? ⟨g, off + m, none⟩ = some (.string q)) := HK1.out _ ((HB1.out.drew).trans (hm2.2.mono (Nat.le_trans hsz HM1.out.2.size))); clear hm2))
        have hs1 := HM1.out.2.size
        have e1 : build (ks.take (j + 1)) = withL (build (ks.take j)) p (vx p) := by
          rw [← build_snoc, List.take_add_one, HP.out]; rfl
        have e2 : build (rot ks t (j + 1)) = withL (build (rot ks t j)) q (vx q) := by
          rw [rot_snoc, build_snoc, ← HN.out, ← HM.out, List.getD_eq_getElem?_getD, HQ.out]; rfl
        have hl1 := build_len (ks.take (j + 1))
        have hl2 := build_len (rot ks t (j + 1))
        have hl1' : (ks.take (j + 1)).length ≤ j + 1 := by simp; omega
        have hl2' : (rot ks t (j + 1)).length = j + 1 := by simp [rot]
        go_wp2_with fail
        go_roundw
        case rel =>
          refine ⟨j + 1, by omega, by go_num, ?_, ?_, (HB1.out.drew).trans (HM2.out.2.mono (Nat.le_trans hsz hs1))⟩
          · have h1 : IsMap w1 v1 (build (ks.take (j + 1))) := by
              rw [e1]; exact HM1.out.is (rise_with (build_rise _) _ _) (by unfold vx at e1; rw [← e1]; omega)
            exact (h1.drewN 1).up HM2.out.2
          · rw [e2]; exact HM2.out.is (rise_with (build_rise _) _ _) (by unfold vx at e2; rw [← e2]; omega)
        case measure => simp [intOf]; omega
    · obtain rfl : j = n := by omega
      have ea : build (ks.take j) = build ks := by rw [HN.out, List.take_length]
      have eb : build (rot ks t j) = build ks := by rw [HN.out]; exact build_same fun k => (rot_all ks t k).symm
      rw [ea] at hia
      rw [eb] at hib
      obtain ⟨B, hB⟩ : ∃ B, B = build ks := ⟨_, rfl⟩
      have hBr : Rise B := by rw [hB]; exact build_rise ks
      have hBl : B.length ≤ 20 := by have := build_len ks; rw [hB]; have := HN.out; omega
      rw [← hB] at hia hib
      have HBL := Lib.hid hbl
      have HIA := Lib.hid hia
      have HIB := Lib.hid hib
      have HBR := Lib.hid hBr
      have hyl := len_with hBr more ⟨#[121]⟩
      have hyo := len_without hBr more
      have hsz := hbl.size
      clear ea eb hia hib hbl hB hBr
      go_wp2_with fail
      refine (with_any _ HIA.out more ⟨#[121]⟩).mono ?_
      rintro e w1 ⟨vc, rfl, hm1⟩
      have HC1 : Hid (IsMap w1 vc (withL B more ⟨#[121]⟩)) := hm1.is (rise_with HBR.out _ _) (by omega)
      have HA1 := Lib.hid (HIA.out.up hm1.2)
      have HB1 := Lib.hid (HIB.out.up hm1.2)
      have HW1 : Hid (Below w.heap.size w w1) := HBL.out.trans (hm1.2.mono hsz)
      clear hm1 HIA HIB
      go_wp2_with fail
      refine (without_any _ HA1.out more).mono ?_
      rintro e w2 ⟨vd, rfl, hm2⟩
      have HC2 := Lib.hid (HC1.out.up hm2.2)
      have HD2 : Hid (IsMap w2 vd (withoutL B more)) := hm2.is (rise_without HBR.out _) (by omega)
      have HA2 := Lib.hid (HA1.out.up hm2.2)
      have HB2 := Lib.hid (HB1.out.up hm2.2)
      have HW2 : Hid (Below w.heap.size w w2) := HW1.out.trans (hm2.2.mono HW1.out.size)
      clear hm2 HA1 HB1 HC1
      go_wp2_with fail
      refine (get_any _ HA2.out more).mono ?_
      rintro e w3 ⟨rfl, hb3⟩
      have HC3 := Lib.hid (HC2.out.up hb3)
      have HD3 := Lib.hid (HD2.out.up hb3)
      have HA3 := Lib.hid (HA2.out.up hb3)
      have HB3 := Lib.hid (HB2.out.up hb3)
      have HW3 : Hid (Below w.heap.size w w3) := HW2.out.trans (hb3.mono HW2.out.size)
      clear hb3 HA2 HB2 HC2 HD2
      go_wp2_with fail
      refine (get_any _ HA3.out more).mono ?_
      rintro e w4 ⟨rfl, hb4⟩
      have HC4 := Lib.hid (HC3.out.up hb4)
      have HD4 := Lib.hid (HD3.out.up hb4)
      have HA4 := Lib.hid (HA3.out.up hb4)
      have HB4 := Lib.hid (HB3.out.up hb4)
      have HW4 : Hid (Below w.heap.size w w4) := HW3.out.trans (hb4.mono HW3.out.size)
      clear hb4 HA3 HB3 HC3 HD3
      go_wp2_with fail
      refine (same_rd _ HA4.out.rd HB4.out.rd).mono ?_
      rintro e w5 ⟨he, hb5⟩
      rw [decide_eq_true rfl] at he
      subst he
      have HC5 := Lib.hid (HC4.out.up hb5)
      have HD5 := Lib.hid (HD4.out.up hb5)
      have HA5 := Lib.hid (HA4.out.up hb5)
      have HB5 := Lib.hid (HB4.out.up hb5)
      have HW5 : Hid (Below w.heap.size w w5) := HW4.out.trans (hb5.mono HW4.out.size)
      clear hb5 HA4 HB4 HC4 HD4
      go_wp2_with fail
      refine (same_rd _ HB5.out.rd HA5.out.rd).mono ?_
      rintro e w6 ⟨he, hb6⟩
      rw [decide_eq_true rfl] at he
      subst he
      have HC6 := Lib.hid (HC5.out.up hb6)
      have HD6 := Lib.hid (HD5.out.up hb6)
      have HA6 := Lib.hid (HA5.out.up hb6)
      have HW6 : Hid (Below w.heap.size w w6) := HW5.out.trans (hb6.mono HW5.out.size)
      clear hb6 HA5 HB5 HC5 HD5
      have q1 := same_with HBR.out more ⟨#[121]⟩
      have q2 := same_without HBR.out more
      have q3 : ((getS B more).toList == (⟨#[121]⟩ : ByteArray).toList) = decide (getS B more = ⟨#[121]⟩) := by
        rw [ByteArray.toList_eq, ByteArray.toList_eq]
        by_cases h : getS B more = ⟨#[121]⟩
        · rw [h]; simp
        · rw [decide_eq_false h, beq_eq_false_iff_ne]
          exact fun e => h (S_ext e)
      obtain ⟨G, hG⟩ : ∃ G, G = getS B more := ⟨_, rfl⟩
      obtain ⟨x, hx⟩ : ∃ x, x = here B more := ⟨_, rfl⟩
      obtain ⟨y, hy⟩ : ∃ y, y = decide (G = ⟨#[121]⟩) := ⟨_, rfl⟩
      rw [← hG] at q1 q3
      rw [← hx] at q1 q2
      rw [← hy] at q1 q3
      rw [← hG, ← hx]
      have q4 : (G.toList == [(121 : UInt8)]) = y := by rw [← q3]; congr 1; rw [ByteArray.toList_eq]
      have q5 := q3
      clear hG hx hy
      have Q1 := Lib.hid q1
      have Q2 := Lib.hid q2
      clear q1 q2
      go_wp2_with fail
      refine (same_rd _ HA6.out.rd HC6.out.rd).mono ?_
      rintro e w7 ⟨he, hb7⟩
      rw [Q1.out] at he
      subst he
      have HC7 := Lib.hid (HC6.out.up hb7)
      have HD7 := Lib.hid (HD6.out.up hb7)
      have HA7 := Lib.hid (HA6.out.up hb7)
      have HW7 : Hid (Below w.heap.size w w7) := HW6.out.trans (hb7.mono HW6.out.size)
      clear hb7 HA6 HC6 HD6 Q1
      cases x <;> cases y
      all_goals
        go_wp2_with fail
        refine (same_rd _ HA7.out.rd HD7.out.rd).mono ?_
        rintro e w8 ⟨he, hb8⟩
        rw [Q2.out] at he
        subst he
        have HC8 := Lib.hid (HC7.out.up hb8)
        have HD8 := Lib.hid (HD7.out.up hb8)
        have HW8 : Hid (Below w.heap.size w w8) := HW7.out.trans (hb8.mono HW7.out.size)
        clear hb8 HA7 HC7 HD7 Q2
        go_wp2_with fail
        refine (without_any _ HC8.out more).mono ?_
        rintro e w9 ⟨v9, rfl, hm9⟩
        have h9 := hm9.is (rise_without (rise_with HBR.out more ⟨#[121]⟩) more) (by have := len_without (rise_with HBR.out more ⟨#[121]⟩) more; omega)
        rw [turns_back HBR.out] at h9
        have HC9 := Lib.hid h9
        have HD9 := Lib.hid (HD8.out.up hm9.2)
        have HW9 : Hid (Below w.heap.size w w9) := HW8.out.trans (hm9.2.mono HW8.out.size)
        clear hm9 h9 HC8 HD8
        go_wp2_with fail
        refine (same_rd _ HC9.out.rd HD9.out.rd).mono ?_
        rintro e w10 ⟨he, hb10⟩
        rw [decide_eq_true rfl] at he
        subst he
        have HW10 : Hid (Below w.heap.size w w10) := HW9.out.trans (hb10.mono HW9.out.size)
        clear hb10 HC9 HD9
        go_wp2_with fail
        go_ret
        exact ⟨rfl, HW10.out⟩
theorem strs_of {H : Type} {enc : TypeId × Value → H} {w : World} {base : Nat} {spare : Nat → Bool} {held : Bool} {css : List (List Value)} (h : ∀ c ∈ css, c.length = 1 ∧ Reads1 enc Try.prog w base spare held 9 c) : ∃ ks : List S, css.flatten = sc ks ∧ css.length = ks.length ∧ ∀ k ∈ ks, k.size ≤ 140737488351232 := by
  induction css with
  | nil => exact ⟨[], rfl, rfl, by simp⟩
  | cons c css ih =>
    obtain ⟨ks, e1, e2, e3⟩ := ih (fun c hc => h c (List.mem_cons_of_mem _ hc))
    obtain ⟨k, rfl, h1⟩ := reads_string Try.underlying9 (h c (List.mem_cons_self ..)).2
    exact ⟨k :: ks, by rw [List.flatten_cons, e1]; rfl, by simp [e2], fun p hp => (List.mem_cons.1 hp).elim (fun e => by rw [e]; exact h1) (e3 p)⟩
theorem same_row {H : Type} {enc : TypeId × Value → H} {w : World} {base : Nat} {spare : Nat → Bool} {held : Bool} (v0 : Value) (ok0 : Value.okWide Try.prog w .any base 46 v0) (h0 : Reads1 enc Try.prog w 0 spare held 46 v0.cells.toList)
    (turn : Int) (ht : (Lit.int .i64 turn).wf = true) (more : S) (hm : more.size ≤ 140737488351232) :
    Calls Try.prog 8 #[v0, .int .i64 turn, .string more] w fun e w' => e = .returned (.bool true) ∧ Below w.heap.size w w' := by
  obtain ⟨a, l, c, rfl⟩ := okWide_slice Try.underlying46 ok0
  obtain ⟨v, n, css, e, rfl, hr, hc, _⟩ := reads_slice Try.underlying46 (k := 1) rfl (by omega) h0
  have e' : [Value.slice a l c] = [v] := e
  injection e' with e'
  subst e'
  obtain ⟨ks, e1, e2, e3⟩ := strs_of hc
  rw [e1, e2] at hr
  exact same_any _ ks turn more w hr ht e3
#print axioms same_row
end Go.Proofs.Ytllmaoimngeofaa.KeyS
