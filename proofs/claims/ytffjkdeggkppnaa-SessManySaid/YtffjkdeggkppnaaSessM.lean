/- A map's keys, sorted. -/
import Derived.Test.YtffjkdeggkppnaaLays
import Derived.Test.YtffjkdeggkppnaaSessA
set_option linter.unusedVariables false
set_option linter.unusedSimpArgs false
set_option linter.unusedSectionVars false
namespace Go.Proofs.Ytffjkdeggkppnaa.Sess
open Go.RowKit Go.WideShapes Go.Deep Go.Proofs.Ytffjkdeggkppnaa.Mem Go.Proofs.Ytffjkdeggkppnaa.Maps Go.Proofs.Ytffjkdeggkppnaa.Tid Go.Proofs.Ytffjkdeggkppnaa.KeyA
def R0 : Value → Option (DataW Unit × List MemPlace) := fun _ => some (.lit (.bool true), [])
theorem key_int {n : Int} (h : OkI n) : keyOf Try.prog 3 (encI n) = some (.int .i64 n) := by
  unfold OkI at h
  simp [keyOf, mapKey, Try.underlying3, encI, h]
def unI : Value → Int
  | .int _ n => n
  | _ => 0
theorem own_of {w : World} {ba : Nat} {ss : List (Int × (Nat × One))} (h : SAt w ba ss) (hl : ss.length ≤ maxLen) : ∃ D : DataW Unit, w.ownsMap Try.prog 3 R0 ba ss.length D ∧ (intKeys D).Perm (ss.map (·.1)) ∧ Go.Maps.size D ≤ ss.length := by
  obtain ⟨es, c, h1, h2, h3, h4, h5⟩ := h
  have hsz : es.size = ss.length := by have := congrArg List.length h2; simpa using this
  have hrd : ∀ x ∈ es.toList, ∃ n, x.key = encI n ∧ OkI n ∧ Go.WideElems.rd (H := Unit) Try.prog 3 R0 x = some (.int .i64 n, .lit (.bool true)) := by
    intro x hx
    have : (x.key, x.val) ∈ ss.map (fun p => (encI p.1, encQ p.2)) := h2 ▸ List.mem_map.2 ⟨x, hx, rfl⟩
    obtain ⟨p, hp, e⟩ := List.mem_map.1 this
    have e1 : encI p.1 = x.key := congrArg Prod.fst e
    refine ⟨p.1, e1.symm, h3 p hp, ?_⟩
    obtain ⟨k, v, b⟩ := x
    simp only at e1
    subst e1
    exact Go.WideElems.rd_mk (R := R0) (yv := (.lit (.bool true), [])) (key_int (h3 p hp)) rfl
  refine ⟨_, ⟨es, c, h1, ⟨by omega, h5, fun x hx => ?_⟩, by omega, rfl⟩, ?_, ?_⟩
  · obtain ⟨n, _, _, hr⟩ := hrd x hx
    exact ⟨_, hr⟩
  · show (((es.toList.map (Go.WideElems.rg Try.prog 3 R0)).foldr DataW.insert []).map fun p => Go.intOf p.1).Perm _
    refine ((WideShapes.sorted_perm _).map _).trans ?_
    rw [List.map_map]
    have he : es.toList.map (fun x => Go.intOf (Go.WideElems.rg (H := Unit) Try.prog 3 R0 x).1) = ss.map (·.1) := by
      have h9 : es.toList.map (fun x => x.key) = ss.map (fun p => encI p.1) := by
        have := congrArg (List.map Prod.fst) h2
        simpa [List.map_map, Function.comp_def] using this
      have h8 : es.toList.map (fun x => encI (Go.intOf (Go.WideElems.rg (H := Unit) Try.prog 3 R0 x).1)) = es.toList.map (fun x => x.key) := List.map_congr_left fun x hx => by
        obtain ⟨n, hk, _, hr⟩ := hrd x hx
        rw [Go.WideElems.rg_of hr, hk]; rfl
      have h7 := h8.trans h9
      have h6 : (es.toList.map (fun x => Go.intOf (Go.WideElems.rg (H := Unit) Try.prog 3 R0 x).1)).map encI = (ss.map (·.1)).map encI := by simpa [List.map_map, Function.comp_def] using h7
      have h5' := congrArg (List.map unI) h6
      have hu : ∀ l : List Int, (l.map encI).map unI = l := fun l => by
        induction l with
        | nil => rfl
        | cons a l ih => rw [List.map_cons, List.map_cons, ih]; rfl
      rw [hu, hu] at h5'
      exact h5'
    exact he ▸ List.Perm.refl _
  · show ((es.toList.map (Go.WideElems.rg Try.prog 3 R0)).foldr DataW.insert []).length ≤ _
    rw [(WideShapes.sorted_perm _).length_eq]
    simp
    omega
/-- What maps.Keys hands back. -/
theorem keys_any (w : World) (ba : Nat) : Calls Try.prog 20 #[.map (some ba)] w fun e w' => e = .returned (.func (.func 23) #[] #[.pointer (some ⟨w.heap.size, 0, none⟩)]) ∧ w' = w.alloc (.cells #[.map (some ba)] 51) :=
  callsIn_wide.1 (AnyZI.keys_in Lays.keysA Fence.wide 5 trivial rfl (some ba) w)
theorem sorts (m : Nat) : AnyZI.SortsIn Try.prog Lays.sortedA_ren Fence.wide m :=
  ⟨fun blk off cap ss W hH hblk hsz => callsIn_wide.2 (AnyM.slices_Sort_int Lays.sortA blk off cap ss W hH hblk hsz),
   fun p cap W => callsIn_wide.2 (AnyM.slices_Sort_int_none Lays.sortA p cap W)⟩
theorem sorted_any {w : World} {ba : Nat} {ss : List (Int × (Nat × One))} (h : SAt w ba ss) (hl : ss.length ≤ 1000000) :
    Calls Try.prog 19 #[.func (.func 23) #[] #[.pointer (some ⟨w.heap.size, 0, none⟩)]] (w.alloc (.cells #[.map (some ba)] 51)) fun e w' => ∃ v ks, e = .returned v ∧ (ks : List Int).Perm (ss.map (·.1)) ∧ Rd w' w'.heap.size 1 v ks.length (ks.map encI) ∧ Below w.heap.size w w' := by
  obtain ⟨D, hown, hp, hs⟩ := own_of h (by unfold maxLen; omega)
  have hbl := hown.lt
  have hseq : SeqGives Fence.wide 2 Try.prog 23 #[.pointer (some ⟨w.heap.size, 0, none⟩)] encZ (fun ss => ss.Perm (intKeys D)) (Go.Maps.size D) (w.alloc (.cells #[.map (some ba)] 51)) :=
    AnyZI.keys_gives (ρ := Lays.keysA_ren) { Lays.keysA with } Fence.wide _ trivial rfl (by omega) w.heap.size ba ss.length D _ (by simp) (by simp) (by
      obtain ⟨es, clock, hb, Ft, hs, hD⟩ := hown
      exact ⟨es, clock, (Below.heap_alloc _ _ ba hbl).trans hb, Ft, hs, hD⟩)
  have cS := AnyZI.sorted_in Lays.sortedA Fence.wide 5 trivial trivial trivial trivial rfl (by omega) (sorts _) (enters_of Try.func22 (by kernel_rfl) rfl) 23 #[.pointer (some ⟨w.heap.size, 0, none⟩)] trivial (enters_of Try.func23 (by kernel_rfl) rfl) _ _ (by unfold maxLen; omega) (by omega) _ hseq
  refine (callsIn_wide.1 cS).mono ?_
  rintro e w' ⟨v, ks, rfl, hS, hrow, hnil, hb⟩
  have ho := Own.of_owns hrow
  have hperm : (ks.mergeSort (fun x y => decide (x ≤ y))).Perm (ss.map (·.1)) := ((List.mergeSort_perm _ _).trans hS).trans hp
  refine ⟨v, ks.mergeSort (fun x y => decide (x ≤ y)), rfl, hperm, ?_, (((Below.refl _ w).alloc (Nat.le_refl _) _)).trans (hb.mono (by simp))⟩
  have hrd := ho.rd
  rw [(List.mergeSort_perm ks _).length_eq]
  exact hrd
#print axioms sorted_any
end Go.Proofs.Ytffjkdeggkppnaa.Sess
