/- The document's example. -/
import Derived.Test.YtpgcoopkileclaaNetD
set_option linter.unusedVariables false
set_option linter.unusedSimpArgs false
set_option linter.unusedSectionVars false
namespace Go.Proofs.Ytpgcoopkileclaa.NetA
open Go.RowKit Go.WideShapes Go.Deep Go.Proofs.Ytpgcoopkileclaa.Mem Go.Proofs.Ytpgcoopkileclaa.Open
theorem Sent.below {w w' : World} {base nb : Nat} {av : Value} {rs : List R3} {to : Int} {b : B} (h : NetAt w base nb av rs) (hs : Sent w w' base nb av rs to b) (hbase : base ≤ w.heap.size) : Below base w w' := by
  obtain ⟨av', v', _, hf, _, _⟩ := hs
  exact hf.below hbase fun g _ hg => by
    rcases hg with rfl | hg
    · exact h.hb
    · exact (h.own.lt g hg).1
theorem Took.below {w w' : World} {base nb : Nat} {av : Value} {rs : List R3} {i : Nat} (h : NetAt w base nb av rs) (hs : Took w w' base nb av rs i) (hbase : base ≤ w.heap.size) : Below base w w' := by
  obtain ⟨av', _, hf, _⟩ := hs
  exact hf.below hbase fun g _ hg => by
    rcases hg with rfl | hg
    · exact h.hb
    · exact (h.own.lt g hg).1
theorem rd_lit (w : World) (x : UInt8) (fr : Nat × Nat) : Rd (w.alloc (.cells #[.int .u8 (x.toNat : Int)] 5 fr)) (w.alloc (.cells #[.int .u8 (x.toNat : Int)] 5 fr)).heap.size 1 (.slice (some ⟨w.heap.size, 0, none⟩) 1 1) [x].length (bc [x]) :=
  ⟨rfl, _, 1, rfl, Nat.le_refl _, by unfold maxLen; decide, fun _ => ⟨w.heap.size, 0, rfl, by simp, fun j u hu => by
    rw [Nat.zero_add, cell_of_row _ _ _ _ _ _ (heap_alloc_new w _)]
    simpa [bc] using hu⟩⟩
set_option maxHeartbeats 2000000 in
set_option maxRecDepth 100000 in
theorem head_any (w : World) : Calls Try.prog 7 #[] w fun e w' => e = .returned (.bool true) ∧ Below w.heap.size w w' := by
  have hcv1 := Lib.run_convert_bytes_const (P := Try.prog) (w.alloc (.cells #[.slice none 0 0] 28)) 29 5 #[.int .u8 97] 1 1 Try.underlying29 Try.underlying5
  simp only [World.size_alloc] at hcv1
  have HN0 := Lib.hid (NetAt.new w)
  go_enter Try.func7, Try.ntmps7
  go_wp2_with fail
  clear hcv1
  have HR1 := rd_lit (w.alloc (.cells #[.slice none 0 0] 28)) 97 (1, 2)
  refine ((HN0.out.alloc (.cells #[.int .u8 97] 5 (1, 2))).send_ok (b := [97]) (by simp; omega) (by omega) (by decide) (by decide) ?_).mono ?_
  · simpa using HR1
  rintro e w1 ⟨rfl, hS⟩
  have hb1 := hS.below (HN0.out.alloc _) (by simp; omega)
  obtain ⟨av1, v1, hN1, _, _, _⟩ := hS
  have HB1 : Hid (Below w.heap.size w w1) := (((Below.refl _ w).alloc (Nat.le_refl _) _).alloc (by simp) _).trans hb1
  have HN1 := Lib.hid hN1
  clear hb1 hN1 HR1 HN0
  have hcv2 := Lib.run_convert_bytes_const (P := Try.prog) w1 29 5 #[.int .u8 98] 1 1 Try.underlying29 Try.underlying5
  go_wp2_with fail
  have hs1 := HB1.out.size
  have HR2 := rd_lit w1 98 (1, 2)
  refine ((HN1.out.alloc (.cells #[.int .u8 98] 5 (1, 2))).send_ok (b := [98]) (by simp; omega) (by omega) (by decide) (by simp) ?_).mono ?_
  · simpa using HR2
  rintro e w2 ⟨rfl, hS⟩
  have hb2 := hS.below (HN1.out.alloc _) (by simp; omega)
  obtain ⟨av2, v2, hN2, _, _, _⟩ := hS
  have HB2 : Hid (Below w.heap.size w w2) := (HB1.out.alloc hs1 _).trans hb2
  have HN2 : Hid (NetAt w2 w.heap.size w.heap.size av2 [(1, v1, [97]), (2, v2, [98])]) := hN2
  clear hb2 hN2 HR2 HN1 hcv2 HB1 hs1
  go_wp2_with fail
  have hs2 := HB2.out.size
  refine (HN2.out.take_in hs2 (i := 0) rfl).mono ?_
  rintro e w3 ⟨v3, rfl, hv3, hT⟩
  have hb3 := hT.below HN2.out hs2
  obtain ⟨av3, hN3, _, _⟩ := hT
  have HB3 : Hid (Below w.heap.size w w3) := HB2.out.trans hb3
  have HN3 : Hid (NetAt w3 w.heap.size w.heap.size av3 [(2, v2, [98])]) := hN3
  obtain ⟨A3, c3, rfl, _⟩ := hv3.slice_
  have HV3 := Lib.hid hv3
  clear hb3 hN3 HB2 HN2 hv3
  go_wp2_with fail
  have hs3 := HB3.out.size
  refine ((HN3.out.alloc _).at_in (i := 0) rfl).mono ?_
  rintro e w4 ⟨v4, rfl, hv4, hb4⟩
  obtain ⟨A4, c4, rfl, _⟩ := hv4.slice_
  have hblk := (hb4.block w3.heap.size (by simp)).trans (heap_alloc_new w3 _)
  obtain ⟨d0, d1, _, _⟩ := Res.row2_facts hblk
  have hcs := run_str (((HV3.out.alloc _).below hb4).alloc (.cells #[.int .i64 2, .slice A4 1 c4] 33)).rd
  simp only [List.length_cons, List.length_nil, Nat.zero_add] at hcs
  have hs4 := hb4.size
  simp only [World.size_alloc] at hs4
  have HB4 : Hid (Below w.heap.size w w4) := (HB3.out.alloc hs3 _).trans (hb4.mono (by simp; omega))
  have hlt : w3.heap.size < w4.heap.size := by omega
  clear hb4 hblk HN3 HV3 hv4
  go_wp2_with fail
  go_ret
  have hs5 := HB4.out.size
  exact ⟨rfl, HB4.out.alloc hs5 _⟩
#print axioms head_any
end Go.Proofs.Ytpgcoopkileclaa.NetA
