/- NetMany: there is an end of letters. -/
import Derived.Test.YtpgcoopkileclaaNetE
import Derived.Test.YtpgcoopkileclaaBits
set_option linter.unusedVariables false
set_option linter.unusedSimpArgs false
set_option linter.unusedSectionVars false
namespace Go.Proofs.Ytpgcoopkileclaa.NetA
open Go.RowKit Go.WideShapes Go.Deep Go.Proofs.Ytpgcoopkileclaa.Mem Go.Proofs.Ytpgcoopkileclaa.Open Go.Proofs.Ytpgcoopkileclaa.Bits
set_option maxHeartbeats 2000000 in
set_option maxRecDepth 100000 in
theorem many_any (at_ : Int) (v : Value) (b : B) (w : World) (h : Rd w w.heap.size 1 v b.length (bc b)) :
    Calls Try.prog 5 #[.int .i64 at_, v] w fun e w' => e = .returned (.bool true) ∧ Below w.heap.size w w' := by
  obtain ⟨Ab, cb, rfl⟩ : ∃ A c, v = .slice A b.length c := by
    obtain ⟨_, A, c, e, _⟩ := h
    exact ⟨A, c, e⟩
  have H := Lib.hid h
  clear h
  by_cases g1 : 200 < b.length
  · go_enter Try.func5, Try.ntmps5
    go_wp2_with fail
    refine (head_any w).mono ?_
    rintro e w0 ⟨rfl, hb⟩
    have HB := Lib.hid hb
    clear hb
    go_wp2_with fail
    go_ret
    exact ⟨rfl, HB.out⟩
  go_enter Try.func5, Try.ntmps5
  go_wp2_with fail
  refine (head_any w).mono ?_
  rintro e w0 ⟨rfl, hb⟩
  have HB := Lib.hid hb
  have hs0 := hb.size
  clear hb
  go_wp2_with fail
  go_loopw [6] (fun i wr => ∃ (j : Nat) (av : Value) (rs : List R3), j ≤ 2000 ∧ i = .int .i64 j ∧ rs.length = j ∧ NetAt wr w0.heap.size w0.heap.size av rs ∧ Below w0.heap.size w0 wr) (fun i _ => 2000 - (intOf i).toNat)
  case atStart => exact ⟨0, _, [], by omega, rfl, rfl, NetAt.new w0, (Below.refl _ _).alloc (Nat.le_refl _) _⟩
  case round =>
    obtain ⟨j, av, rs, hj, rfl, hrl, hN, hbl⟩ := hrel
    have HN := Lib.hid hN
    have HBL := Lib.hid hbl
    have hsr := hbl.size
    have hRb : Rd wr wr.heap.size 1 (.slice Ab b.length cb) b.length (bc b) := ((H.out.up HB.out).below hbl).more hsr
    have HR := Lib.hid hRb
    clear hN hbl hRb
    by_cases hlt : j < 2000
    · have hand : bits .and .i64 (j : Int) 63 = (andN j 63 : Int) := and_eq j 63 (by decide)
      have hle := andN_le j 63
      go_wp2_with fail
      refine (HN.out.send_ok hsr (by omega) (by omega) (by omega) HR.out).mono ?_
      rintro e w1 ⟨rfl, hS⟩
      have hb1 := hS.below HN.out hsr
      obtain ⟨av', v', hN', _, _, _⟩ := hS
      have HN' := Lib.hid hN'
      have HB1 := Lib.hid hb1
      clear hb1 hN'
      go_wp2_with fail
      go_roundw
      case rel => exact ⟨j + 1, av', _, by omega, by go_num, by simp [hrl], HN'.out, HBL.out.trans HB1.out⟩
      case measure => simp [intOf]; omega
    · obtain rfl : j = 2000 := by omega
      obtain ⟨r5, hr5⟩ : ∃ r, rs[5]? = some r := ⟨rs[5]'(by omega), List.getElem?_eq_getElem _⟩
      go_wp2_with fail
      refine (at_nil wr at_).mono ?_
      rintro e w1 ⟨rfl, hb1⟩
      have HN1 := Lib.hid (HN.out.below hb1)
      have HB1 : Hid (Below w0.heap.size w0 w1) := HBL.out.trans (hb1.mono hsr)
      clear hb1 HN HBL
      go_wp2_with fail
      have hs1 := HB1.out.size
      have HB1b : Hid (Below w0.heap.size w0 (w1.alloc (.cells #[.int .i64 0, .slice none 0 0] 33))) := HB1.out.alloc hs1 _
      have HN1b : Hid (NetAt (w1.alloc (.cells #[.int .i64 0, .slice none 0 0] 33)) _ _ av rs) := HN1.out.alloc _
      refine (take_nil _ at_).mono ?_
      rintro e w2 ⟨rfl, hb2⟩
      have HN2 := Lib.hid (HN1b.out.below hb2)
      have HB2 : Hid (Below w0.heap.size w0 w2) := HB1b.out.trans (hb2.mono HB1b.out.size)
      have hs2 := HB2.out.size
      clear hb2 HN1b HB1b HN1 HB1
      have HB3 : Hid (Below w0.heap.size w0 (w2.alloc (.cells #[.int .i64 0, .slice none 0 0] 33))) := HB2.out.alloc hs2 _
      have HN3 : Hid (NetAt (w2.alloc (.cells #[.int .i64 0, .slice none 0 0] 33)) _ _ av rs) := HN2.out.alloc _
      obtain ⟨w3, hw3⟩ : ∃ w3, w3 = w2.alloc (.cells #[.int .i64 0, .slice none 0 0] 33) := ⟨_, rfl⟩
      rw [← hw3] at HN3 HB3
      have HW3 := Lib.hid hw3
      clear hw3
      go_wp2_with fail
      rw [← HW3.out]
      refine (HN3.out.send_many hrl 0 (by omega)).mono ?_
      rintro e w4 ⟨rfl, rfl⟩
      go_wp2_with fail
      refine (HN3.out.twice_many hrl hr5).mono ?_
      rintro e w5 ⟨rfl, hb5⟩
      have HN5 := Lib.hid (HN3.out.below hb5)
      have HB5 : Hid (Below w0.heap.size w0 w5) := HB3.out.trans (hb5.mono HB3.out.size)
      clear hb5 HN3 HB3
      go_wp2_with fail
      refine (HN5.out.len_any).mono ?_
      rintro e w6 ⟨he, rfl⟩
      rw [hrl] at he
      subst he
      go_wp2_with fail
      refine (send_nil _ 1 _).mono ?_
      rintro e w7 ⟨rfl, rfl⟩
      go_wp2_with fail
      refine (len_nil _).mono ?_
      rintro e w7 ⟨rfl, rfl⟩
      go_wp2_with fail
      refine (twice_nil _ at_).mono ?_
      rintro e w8 ⟨rfl, hb8⟩
      have HB8 : Hid (Below w0.heap.size w0 w8) := HB5.out.trans (hb8.mono HB5.out.size)
      clear hb8
      go_wp2_with fail
      refine (spoil_nil _ at_ 0 _).mono ?_
      rintro e w9 ⟨rfl, rfl⟩
      go_wp2_with fail
      go_ret
      exact ⟨rfl, HB.out.trans (HB8.out.mono hs0)⟩
#print axioms many_any
/-- Bytes that read as bytes. -/
theorem bytes_of {H : Type} {enc : TypeId × Value → H} {w : World} {base : Nat} {spare : Nat → Bool} {held : Bool} {css : List (List Value)} (h : ∀ c ∈ css, c.length = 1 ∧ Reads1 enc Try.prog w base spare held 5 c) : ∃ b : B, css.flatten = bc b ∧ css.length = b.length := by
  induction css with
  | nil => exact ⟨[], rfl, rfl⟩
  | cons c css ih =>
    obtain ⟨b, e1, e2⟩ := ih (fun c hc => h c (List.mem_cons_of_mem _ hc))
    obtain ⟨n, rfl, hw⟩ := reads_int Try.underlying5 (h c (List.mem_cons_self ..)).2
    obtain ⟨y, rfl⟩ := u8_of hw
    exact ⟨y :: b, by rw [List.flatten_cons, e1]; rfl, by simp [e2]⟩
theorem bytes_val {H : Type} {enc : TypeId × Value → H} {w : World} {base : Nat} {spare : Nat → Bool} {held : Bool} {cs : List Value} (h : Reads1 enc Try.prog w base spare held 29 cs) : ∃ (v : Value) (b : B), cs = [v] ∧ Rd w w.heap.size 1 v b.length (bc b) ∧ b.length ≤ 140737488351232 := by
  obtain ⟨v, n, css, rfl, rfl, hr, hc, hl⟩ := reads_slice Try.underlying29 (k := 1) rfl (by omega) h
  obtain ⟨b, e1, e2⟩ := bytes_of hc
  rw [e1, e2] at hr
  have hb1 : Try.prog.bytesOf 5 = 1 := by kernel_rfl
  rw [hb1, e2] at hl
  exact ⟨v, b, rfl, hr, by omega⟩
theorem many_row {H : Type} {enc : TypeId × Value → H} {w : World} {base : Nat} {spare : Nat → Bool} {held : Bool} (at_ : Int) (hat : (Lit.int .i64 at_).wf = true)
    (v : Value) (ok0 : Value.okWide Try.prog w .any base 29 v) (h0 : Reads1 enc Try.prog w 0 spare held 29 v.cells.toList) :
    Calls Try.prog 5 #[.int .i64 at_, v] w fun e w' => e = .returned (.bool true) ∧ Below w.heap.size w w' := by
  obtain ⟨a, l, c, rfl⟩ := okWide_slice Try.underlying29 ok0
  obtain ⟨v, b, e, hr, _⟩ := bytes_val h0
  have e' : [Value.slice a l c] = [v] := e
  injection e' with e'
  subst e'
  exact many_any at_ _ b w hr
#print axioms many_row
end Go.Proofs.Ytpgcoopkileclaa.NetA
