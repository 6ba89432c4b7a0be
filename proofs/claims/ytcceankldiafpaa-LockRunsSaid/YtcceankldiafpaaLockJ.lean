/- A table's keys, sorted: slices.SortedFunc(maps.Keys(l.all), strings.Compare). -/
import Derived.Shelf.SlSortCmp.NoneTotal
import Derived.Sort.OwnSorted
import Derived.RangeFuncBound
import Derived.Lib.Bytealg
import Derived.Test.YtcceankldiafpaaLays
import Derived.Test.YtcceankldiafpaaLockE
set_option linter.unusedVariables false
set_option linter.unusedSimpArgs false
set_option linter.unusedSectionVars false
set_option maxRecDepth 100000
namespace Go.Proofs.Ytcceankldiafpaa.Lock
open Go.RowKit Go.WideShapes Go.Deep Go.Proofs.Ytcceankldiafpaa.Mem Go.Proofs.Ytcceankldiafpaa.Open Go.Proofs.Ytcceankldiafpaa.Maps
def R0 : Value → Option (DataW Unit × List MemPlace) := fun _ => some (.lit (.bool true), [])
abbrev kb (s : S) : List UInt8 := s.data.toList
theorem encStr_kb (s : S) : encStr (kb s) = .string s := by simp [encStr]
theorem key_str {s : S} (h : OkS s) : keyOf Try.prog 9 (encS s) = some (.string s.data.toList) := WideMaps.keyOf_string_mk Try.underlying9 h
def unS : Value → List UInt8
  | .string s => s.data.toList
  | _ => []
theorem own_of {w : World} {mb : Nat} {qs : List (S × Qv)} (h : QMap w mb qs) (hl : qs.length ≤ maxLen) : ∃ D : DataW Unit, w.ownsMap Try.prog 9 R0 mb qs.length D ∧ (Go.strKeys D).Perm (qs.map fun p => kb p.1) ∧ Go.Maps.size D ≤ qs.length := by
  obtain ⟨es, c, h1, h2, h3, h4, h5⟩ := h
  have hsz : es.size = qs.length := by have := congrArg List.length h2; simpa using this
  have hrd : ∀ x ∈ es.toList, ∃ s, x.key = encS s ∧ OkS s ∧ Go.WideElems.rd (H := Unit) Try.prog 9 R0 x = some (.string s.data.toList, .lit (.bool true)) := by
    intro x hx
    have : (x.key, x.val) ∈ qs.map (fun p => (encS p.1, encQ p.2)) := h2 ▸ List.mem_map.2 ⟨x, hx, rfl⟩
    obtain ⟨p, hp, e⟩ := List.mem_map.1 this
    have e1 : encS p.1 = x.key := congrArg Prod.fst e
    refine ⟨p.1, e1.symm, h3 p hp, ?_⟩
    obtain ⟨k, v, b⟩ := x
    simp only at e1
    subst e1
    exact Go.WideElems.rd_mk (R := R0) (yv := (.lit (.bool true), [])) (key_str (h3 p hp)) rfl
  refine ⟨_, ⟨es, c, h1, ⟨by omega, h5, fun x hx => ?_⟩, by omega, rfl⟩, ?_, ?_⟩
  · obtain ⟨n, _, _, hr⟩ := hrd x hx
    exact ⟨_, hr⟩
  · show (((es.toList.map (Go.WideElems.rg Try.prog 9 R0)).foldr DataW.insert []).map fun p => Go.strOf p.1).Perm _
    refine ((WideShapes.sorted_perm _).map _).trans ?_
    rw [List.map_map]
    have he : es.toList.map (fun x => Go.strOf (Go.WideElems.rg (H := Unit) Try.prog 9 R0 x).1) = qs.map (fun p => kb p.1) := by
      have h9 : es.toList.map (fun x => x.key) = qs.map (fun p => encS p.1) := by
        have := congrArg (List.map Prod.fst) h2
        simpa [List.map_map, Function.comp_def] using this
      have h8 : es.toList.map (fun x => Go.strOf (Go.WideElems.rg (H := Unit) Try.prog 9 R0 x).1) = (es.toList.map (fun x => x.key)).map unS := by
        rw [List.map_map]
        refine List.map_congr_left fun x hx => ?_
        obtain ⟨n, hk, _, hr⟩ := hrd x hx
        simp only [Function.comp]
        rw [Go.WideElems.rg_of hr, hk]; rfl
      rw [h8, h9, List.map_map]
      rfl
    exact he ▸ List.Perm.refl _
  · show ((es.toList.map (Go.WideElems.rg Try.prog 9 R0)).foldr DataW.insert []).length ≤ _
    rw [(WideShapes.sorted_perm _).length_eq]
    simp
    omega
/-- What maps.Keys hands back. -/
theorem keys_any (w : World) (mb : Nat) : Calls Try.prog 35 #[.map (some mb)] w fun e w' => e = .returned (.func (.func 50) #[] #[.pointer (some ⟨w.heap.size, 0, none⟩)]) ∧ w' = w.alloc (.cells #[.map (some mb)] 62) :=
  callsIn_wide.1 (AnyZ.keys_in Lays.keysA Fence.wide 5 trivial rfl (some mb) w)
theorem cmpstr_any (w : World) (x y : List UInt8) {r : Int} (hr : r = Lib.compareBytes x y) : Calls Try.prog 51 #[.string ⟨x.toArray⟩, .string ⟨y.toArray⟩] w fun e w' => e = .returned (.int .i64 r) ∧ w' = w := by
  have hc : (callFunc 57 #[.string ⟨x.toArray⟩, .string ⟨y.toArray⟩]).run Try.prog w = .ok (.value (.int .i64 r)) w := by
    rw [run_callFunc_extern Try.func57 (by kernel_rfl) (by kernel_rfl) (by kernel_rfl) (e := Extern.BytealgCompare.compare) (by kernel_rfl)]
    rw [Lib.run_compareString]
    rw [hr]
    rfl
  clear hr
  go_enter Try.func51, Try.ntmps51
  go_wp2_with (simp only [hc])
  go_ret
  exact ⟨rfl, rfl⟩
theorem compare_any (w : World) (x y : List UInt8) : Calls Try.prog 36 #[encStr x, encStr y] w fun e w' => e = .returned (.int .i64 (Lib.compareBytes x y)) ∧ w' = w := by
  obtain ⟨r, hr⟩ : ∃ r, r = Lib.compareBytes x y := ⟨_, rfl⟩
  have HC := Lib.hid (cmpstr_any w x y hr)
  rw [← hr]
  clear hr
  unfold encStr
  go_enter Try.func36, Try.ntmps36
  go_wp2_with (go_at_call 51; refine HC.out.mono ?_; rintro e wz ⟨rfl, hwz⟩; rw [hwz]; clear hwz wz)
  go_ret
  exact ⟨rfl, rfl⟩
theorem cmp_lt : ∀ (x y : List UInt8), Lib.compareBytes x y < 0 ↔ x < y
  | [], [] => by simp [Lib.compareBytes]
  | [], _ :: _ => by simp [Lib.compareBytes]
  | _ :: _, [] => by simp [Lib.compareBytes]
  | a :: xs, b :: ys => by
    have ih := cmp_lt xs ys
    unfold Lib.compareBytes
    rw [List.cons_lt_cons_iff]
    split
    · simp [*]
    · split
      · rename_i h1 h2
        have : ¬ a = b := fun e => by subst e; exact h1 h2
        simp [h1, this]
      · rename_i h1 h2
        have e : a = b := by
          apply UInt8.toNat_inj.1
          rw [UInt8.lt_iff_toNat_lt] at h1 h2
          omega
        rw [ih]
        simp [e, h1]
theorem ltOf_cmp : ltOf Lib.compareBytes = Go.Sort.ltStr := by
  funext x y
  unfold ltOf Go.Sort.ltStr
  rw [Bool.eq_iff_iff, decide_eq_true_eq, decide_eq_true_eq]
  exact cmp_lt x y
theorem swo_cmp : Go.Sort.SWO (ltOf Lib.compareBytes) := by rw [ltOf_cmp]; exact Go.Sort.swo_ltStr
theorem total_cmp (x y : List UInt8) (h1 : ltOf Lib.compareBytes x y = false) (h2 : ltOf Lib.compareBytes y x = false) : x = y := by
  rw [ltOf_cmp] at h1 h2
  unfold Go.Sort.ltStr at h1 h2
  rw [decide_eq_false_iff_not] at h1 h2
  exact List.le_antisymm h2 h1
def SortR (w : World) (qs : List (S × Qv)) (e : Ending) (w' : World) : Prop := ∃ v ks, e = .returned v ∧ (ks : List (List UInt8)).Perm (qs.map fun p => kb p.1) ∧ ks.Pairwise (fun a b => ¬ b < a) ∧ Rd w' w'.heap.size 1 v ks.length (ks.map encStr) ∧ Below w.heap.size w w' ∧ ∀ g, v.ownBlock = some g → w.heap.size ≤ g
set_option maxHeartbeats 2000000 in
theorem sorted_any {w : World} {mb : Nat} {qs : List (S × Qv)} (h : QMap w mb qs) (hl : qs.length ≤ 1000000) :
    Calls Try.prog 34 #[.func (.func 50) #[] #[.pointer (some ⟨w.heap.size, 0, none⟩)], .func (.func 36) #[] #[]] (w.alloc (.cells #[.map (some mb)] 62)) (SortR w qs) := by
  obtain ⟨D, hown, hp, hs⟩ := own_of h (by unfold maxLen; omega)
  have hbl := hown.lt
  have hseq : SeqGives Fence.wide 3 Try.prog 50 #[.pointer (some ⟨w.heap.size, 0, none⟩)] encStr (fun ss => ss.Perm (Go.strKeys D)) (Go.Maps.size D) (w.alloc (.cells #[.map (some mb)] 62)) :=
    AnyZ.keys_gives (ρ := Lays.keysA_ren) { Lays.keysA with } Fence.wide _ trivial rfl (by omega) w.heap.size mb qs.length D _ (by simp) (by simp) (by
      obtain ⟨es, clock, hb, Ft, hs, hD⟩ := hown
      exact ⟨es, clock, (Below.heap_alloc _ _ mb hbl).trans hb, Ft, hs, hD⟩)
  have HCOL := Lib.hid (callsIn_wide.1 (AnyZ.collect_in Lays.collectA Fence.wide 5 trivial trivial rfl (by omega) 50 #[.pointer (some ⟨w.heap.size, 0, none⟩)] trivial (enters_of Try.func50 (by kernel_rfl) rfl) _ (Go.Maps.size D) (by unfold maxLen; omega) (by omega) _ hseq.bounded))
  have HP := Lib.hid hp
  have HS := Lib.hid hs
  clear hseq hown hp hs hbl h
  have hbw : Hid (Below w.heap.size w (w.alloc (.cells #[.map (some mb)] 62))) := Lib.hid ((Below.refl _ w).alloc (Nat.le_refl _) _)
  go_enter Try.func34, Try.ntmps34
  go_upto_region 2 with (go_at_call 48; refine HCOL.out.mono ?_; rintro e W ⟨v, ss, rfl, ⟨hS, hlen⟩, hrow, hnil, hb⟩)
  have HROW := Lib.hid hrow
  have HSS := Lib.hid hS
  have HLEN := Lib.hid hlen
  have HB := Lib.hid hb
  clear hS hlen hnil hb HCOL
  rcases hrow.2 with ⟨rfl, hz⟩ | ⟨gb, cap, cur, rfl, hbase, hgb, r1, r2, r3, r4⟩
  · have hss : ss = [] := List.eq_nil_of_length_eq_zero hz
    subst hss
    have HN := Lib.hid (AnyF.slices_SortFunc_none (ρ := Lays.sortA_ren) { Lays.sortA with } none 0 (.func (.func 36) #[] #[]) W)
    clear hrow hz
    go_wp2_with (go_at_call 49; refine HN.out.mono ?_; rintro e wz ⟨rfl, hwz⟩; rw [hwz]; clear hwz wz)
    go_ret
    exact ⟨_, [], rfl, HSS.out.trans HP.out, List.Pairwise.nil, (Rd.nil_ _ _ _), hbw.out.trans (HB.out.mono (by simp)), fun g hg => by cases hg⟩
  · have hH : Go.Sort.Holds encStr W gb 0 ss.toArray := holds_of_block hgb (by simpa using r4)
    have hgl : gb < W.heap.size := (Array.getElem?_eq_some_iff.1 hgb).1
    have hsz : ss.length < 4611686018427387904 := by have := HLEN.out; have := HS.out; omega
    have hcmp : CmpReads Try.prog 36 #[] encStr Lib.compareBytes gb 0 ss.toArray.size W := fun m os dk _ x y => (compare_any _ x y).mono fun e w' h => ⟨h.1, 0, h.2⟩
    have HN := Lib.hid (Any.slices_SortFunc_total (ρ := Lays.sortA_ren) Lays.sortA encStr (fun _ => rfl) Lib.compareBytes swo_cmp 36 #[] gb 0 cap ss.toArray W (enters_of Try.func36 (by kernel_rfl) rfl) hcmp.lays hH hgl hsz total_cmp)
    have HR := Lib.hid (And.intro hbase (And.intro hgb (And.intro r1 (And.intro r2 r3))))
    clear hrow hH hcmp hbase hgb r1 r2 r3 r4
    go_wp2_with (go_at_call 49; refine HN.out.mono ?_; rintro e w2 ⟨rfl, nn, os, hw2⟩; have HW2 := Lib.hid hw2; clear hw2)
    go_ret
    obtain ⟨hbase, hgb, r1, r2, r3⟩ := HR.out
    have hw2 := HW2.out
    unfold sortWorld at hw2
    have hro := ownsRow_sorted (n := nn) (os := os) (ss := ss) (ts := ss.mergeSort fun x y => !(ltOf Lib.compareBytes) y x) (by simp) hbase hgb r1 r2 r3
    rw [← hw2] at hro
    have ho := (Own.of_owns hro).rd
    refine ⟨_, ss.mergeSort fun x y => !(ltOf Lib.compareBytes) y x, rfl, ((List.mergeSort_perm _ _).trans HSS.out).trans HP.out, ?_, ?_, ?_, fun g hg => by have := ((Own.of_owns hro).lt g hg).1; simp at this; omega⟩
    · have hpw := List.pairwise_mergeSort (le := fun x y => !(ltOf Lib.compareBytes) y x) (fun a b c h1 h2 => by
        simp only [ltOf_cmp, Go.Sort.ltStr, Bool.not_eq_true', decide_eq_false_iff_not] at h1 h2 ⊢
        exact fun h3 => h2 (by
          rcases Classical.em (b < a) with h4 | h4
          · exact absurd h4 h1
          · exact Std.lt_of_lt_of_le h3 (List.not_lt.1 h4))) (fun a b => by
        simp only [ltOf_cmp, Go.Sort.ltStr, Bool.or_eq_true, Bool.not_eq_true', decide_eq_false_iff_not]
        rcases Classical.em (b < a) with h4 | h4
        · exact .inr (fun h5 => List.lt_irrefl _ (List.lt_trans h4 h5))
        · exact .inl h4) ss
      refine hpw.imp fun {a b} h1 => ?_
      simp only [ltOf_cmp, Go.Sort.ltStr, Bool.not_eq_true', decide_eq_false_iff_not] at h1
      exact h1
    · rw [(List.mergeSort_perm ss _).length_eq]
      exact ho
    · have hg : W.grownBy w2 (some gb) := by rw [hw2]; exact grownBy_sorted _
      exact hbw.out.trans ((HB.out.grown hg HB.out.size (fun j hj => by cases hj; exact hbase)).mono (by simp))
#print axioms sorted_any
end Go.Proofs.Ytcceankldiafpaa.Lock
