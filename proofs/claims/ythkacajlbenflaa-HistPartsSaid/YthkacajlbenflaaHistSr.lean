/- The maker's said: an op more, of each kind: its drawn regions, each over a frame of which only what it reads is known. -/
import Derived.Test.YthkacajlbenflaaHistNb
import Derived.Test.YthkacajlbenflaaAbs
set_option linter.unusedVariables false
set_option linter.unusedSimpArgs false
set_option linter.unusedSectionVars false
set_option maxRecDepth 100000
namespace Go.Proofs.Ythkacajlbenflaa.HistG
open Go.RowKit Go.WideShapes Go.Deep Go.Proofs.Ythkacajlbenflaa.Mem Go.Proofs.Ythkacajlbenflaa.Maps Go.Proofs.Ythkacajlbenflaa.Kv Go.Proofs.Ythkacajlbenflaa.Open Go.Proofs.Ythkacajlbenflaa.HistA
attribute [local go_sem] getD_put
set_option maxHeartbeats 4000000 in
theorem reg_op2 {C : Code} (hC : C = regF 21 Try.f22) {Y : World} {B g gc ga oj on oc_ : Nat} {oA : Option Addr} {k1 k2 : S} {k3 : Bool} {ops : List Value} (HOO : Hid (Own Y B 54 4 (.slice oA on oc_) on ops)) (HOL : Hid (on ≤ 1000)) (HNA : Hid (¬ (Value.slice oA on oc_).ownBlock = some ga)) (HYS : Hid (B ≤ Y.heap.size)) (hgal : ga < Y.heap.size) (hgl : g < Y.heap.size) (hgcl : gc < Y.heap.size) (l0 : Y.cell? ⟨g, 3, none⟩ = some (.string k1)) (l1 : Y.cell? ⟨gc, 3, none⟩ = some (.string k2)) (l2 : Y.cell? ⟨gc, 4, none⟩ = some (.bool k3))
    (a6 : Y.cell? ⟨ga, oj + 6, none⟩ = some (.slice oA on oc_)) (HF6 : Hid (∀ W : World, W.heap[ga]? = Y.heap[ga]? → W.cell? ⟨ga, oj + 6, none⟩ = some (.slice oA on oc_) ∧ W.frozen? ⟨ga, oj + 6, none⟩ = false)) {A : Act} {N : Act → World → Prop}
    (hsz : A.tmps.size = 237) (h11 : ∀ h, A.tmps[11]'h = .pointer (some ⟨ga, oj, none⟩)) (h8 : ∀ h, A.tmps[8]'h = .pointer (some ⟨g, 0, none⟩)) (h7 : ∀ h, A.tmps[7]'h = .pointer (some ⟨gc, 0, none⟩))
    (hN : ∀ A' D w6 A6 c6, A'.defers = A.defers → Below Y.heap.size Y D → Own w6 B 54 4 (.slice A6 (on + 1) c6) (on + 1) (ops ++ [.int .i64 2, .string k1, .string k2, .bool k3]) → Fr (fun k => (Value.slice oA on oc_).ownBlock = some k) D w6 → (∀ k, (Value.slice A6 (on + 1) c6).ownBlock = some k → (Value.slice oA on oc_).ownBlock = some k ∨ D.heap.size ≤ k) → N A' (w6.setCell ⟨ga, oj + 6, none⟩ (.slice A6 (on + 1) c6))) : Code.wp Try.prog C (Nrm N) A Y := by
  subst hC
  conv => arg 2; whnf
  have HN := Lib.hid hN
  clear hN
  obtain ⟨D, hD⟩ : ∃ D, D = (Y.alloc (.cells #[.int .i64 2, .string k1, .string k2, .bool k3] 54)).drew := ⟨_, rfl⟩
  have HDB : Hid (Below Y.heap.size Y D) := Lib.hid (by rw [hD]; exact ((Below.refl _ _).alloc (Nat.le_refl _) _).drew)
  have HDR : Hid (D.heap[Y.heap.size]? = some (.cells #[.int .i64 2, .string k1, .string k2, .bool k3] 54 (0, 0))) := Lib.hid (by rw [hD]; exact heap_alloc_new Y _)
  have HDO := Lib.hid (HOO.out.below HDB.out)
  have HAP := Lib.hid (app_op HDO.out (Nat.le_trans HYS.out HDB.out.size) HDR.out (fun u hu => by simp only [List.mem_cons, List.not_mem_nil, or_false] at hu; rcases hu with rfl | rfl | rfl | rfl <;> rfl) HOL.out)
  have HDE := Lib.hid hD
  rw [hD] at HAP
  clear hD
  go_region_law (refine step_append rfl _ _ 37 37 rfl (by go_simp) (by go_simp) HAP.out ?_; rintro v6 w6 ⟨⟨A6, c6, rfl⟩, ho6, hf6, hb6⟩; rw [← HDE.out] at hf6 hb6; have HO6 := Lib.hid ho6; have HR6 := Lib.hid hf6; have HB6 := Lib.hid hb6; obtain ⟨b6, g6⟩ := HF6.out w6 ((hf6.block ga (Nat.lt_of_lt_of_le hgal HDB.out.size) HNA.out).trans (HDB.out.block ga hgal)); clear ho6 hf6 hb6)
  all_goals
    exact HN.out _ _ _ _ _ rfl HDB.out HO6.out HR6.out HB6.out
#print axioms reg_op2
set_option maxHeartbeats 4000000 in
theorem reg_op3 {C : Code} (hC : C = regF 23 Try.f22) {Y : World} {B g ga oj on oc_ : Nat} {oA : Option Addr} {k1 k2 : S} {ops : List Value} (HOO : Hid (Own Y B 54 4 (.slice oA on oc_) on ops)) (HOL : Hid (on ≤ 1000)) (HNA : Hid (¬ (Value.slice oA on oc_).ownBlock = some ga)) (HYS : Hid (B ≤ Y.heap.size)) (hgal : ga < Y.heap.size) (hgl : g < Y.heap.size) (l0 : Y.cell? ⟨g, 3, none⟩ = some (.string k1)) (l1 : Y.cell? ⟨g, 4, none⟩ = some (.string k2))
    (a6 : Y.cell? ⟨ga, oj + 6, none⟩ = some (.slice oA on oc_)) (HF6 : Hid (∀ W : World, W.heap[ga]? = Y.heap[ga]? → W.cell? ⟨ga, oj + 6, none⟩ = some (.slice oA on oc_) ∧ W.frozen? ⟨ga, oj + 6, none⟩ = false)) {A : Act} {N : Act → World → Prop}
    (hsz : A.tmps.size = 237) (h11 : ∀ h, A.tmps[11]'h = .pointer (some ⟨ga, oj, none⟩)) (h8 : ∀ h, A.tmps[8]'h = .pointer (some ⟨g, 0, none⟩))
    (hN : ∀ A' D w6 A6 c6, A'.defers = A.defers → Below Y.heap.size Y D → Own w6 B 54 4 (.slice A6 (on + 1) c6) (on + 1) (ops ++ [.int .i64 3, .string k1, .string k2, .bool false]) → Fr (fun k => (Value.slice oA on oc_).ownBlock = some k) D w6 → (∀ k, (Value.slice A6 (on + 1) c6).ownBlock = some k → (Value.slice oA on oc_).ownBlock = some k ∨ D.heap.size ≤ k) → N A' (w6.setCell ⟨ga, oj + 6, none⟩ (.slice A6 (on + 1) c6))) : Code.wp Try.prog C (Nrm N) A Y := by
  subst hC
  conv => arg 2; whnf
  have HN := Lib.hid hN
  clear hN
  obtain ⟨D, hD⟩ : ∃ D, D = (Y.alloc (.cells #[.int .i64 3, .string k1, .string k2, .bool false] 54)).drew := ⟨_, rfl⟩
  have HDB : Hid (Below Y.heap.size Y D) := Lib.hid (by rw [hD]; exact ((Below.refl _ _).alloc (Nat.le_refl _) _).drew)
  have HDR : Hid (D.heap[Y.heap.size]? = some (.cells #[.int .i64 3, .string k1, .string k2, .bool false] 54 (0, 0))) := Lib.hid (by rw [hD]; exact heap_alloc_new Y _)
  have HDO := Lib.hid (HOO.out.below HDB.out)
  have HAP := Lib.hid (app_op HDO.out (Nat.le_trans HYS.out HDB.out.size) HDR.out (fun u hu => by simp only [List.mem_cons, List.not_mem_nil, or_false] at hu; rcases hu with rfl | rfl | rfl | rfl <;> rfl) HOL.out)
  have HDE := Lib.hid hD
  rw [hD] at HAP
  clear hD
  go_region_law (refine step_append rfl _ _ 37 37 rfl (by go_simp) (by go_simp) HAP.out ?_; rintro v6 w6 ⟨⟨A6, c6, rfl⟩, ho6, hf6, hb6⟩; rw [← HDE.out] at hf6 hb6; have HO6 := Lib.hid ho6; have HR6 := Lib.hid hf6; have HB6 := Lib.hid hb6; obtain ⟨b6, g6⟩ := HF6.out w6 ((hf6.block ga (Nat.lt_of_lt_of_le hgal HDB.out.size) HNA.out).trans (HDB.out.block ga hgal)); clear ho6 hf6 hb6)
  all_goals
    exact HN.out _ _ _ _ _ rfl HDB.out HO6.out HR6.out HB6.out
#print axioms reg_op3
set_option maxHeartbeats 4000000 in
theorem reg_op4 {C : Code} (hC : C = regF 25 Try.f22) {Y : World} {B g ga oj on oc_ : Nat} {oA : Option Addr} {k1 : S} {ops : List Value} (HOO : Hid (Own Y B 54 4 (.slice oA on oc_) on ops)) (HOL : Hid (on ≤ 1000)) (HNA : Hid (¬ (Value.slice oA on oc_).ownBlock = some ga)) (HYS : Hid (B ≤ Y.heap.size)) (hgal : ga < Y.heap.size) (hgl : g < Y.heap.size) (l0 : Y.cell? ⟨g, 3, none⟩ = some (.string k1))
    (a6 : Y.cell? ⟨ga, oj + 6, none⟩ = some (.slice oA on oc_)) (HF6 : Hid (∀ W : World, W.heap[ga]? = Y.heap[ga]? → W.cell? ⟨ga, oj + 6, none⟩ = some (.slice oA on oc_) ∧ W.frozen? ⟨ga, oj + 6, none⟩ = false)) {A : Act} {N : Act → World → Prop}
    (hsz : A.tmps.size = 237) (h11 : ∀ h, A.tmps[11]'h = .pointer (some ⟨ga, oj, none⟩)) (h8 : ∀ h, A.tmps[8]'h = .pointer (some ⟨g, 0, none⟩))
    (hN : ∀ A' D w6 A6 c6, A'.defers = A.defers → Below Y.heap.size Y D → Own w6 B 54 4 (.slice A6 (on + 1) c6) (on + 1) (ops ++ [.int .i64 4, .string k1, .string ⟨#[]⟩, .bool false]) → Fr (fun k => (Value.slice oA on oc_).ownBlock = some k) D w6 → (∀ k, (Value.slice A6 (on + 1) c6).ownBlock = some k → (Value.slice oA on oc_).ownBlock = some k ∨ D.heap.size ≤ k) → N A' (w6.setCell ⟨ga, oj + 6, none⟩ (.slice A6 (on + 1) c6))) : Code.wp Try.prog C (Nrm N) A Y := by
  subst hC
  conv => arg 2; whnf
  have HN := Lib.hid hN
  clear hN
  obtain ⟨D, hD⟩ : ∃ D, D = (Y.alloc (.cells #[.int .i64 4, .string k1, .string ⟨#[]⟩, .bool false] 54)).drew := ⟨_, rfl⟩
  have HDB : Hid (Below Y.heap.size Y D) := Lib.hid (by rw [hD]; exact ((Below.refl _ _).alloc (Nat.le_refl _) _).drew)
  have HDR : Hid (D.heap[Y.heap.size]? = some (.cells #[.int .i64 4, .string k1, .string ⟨#[]⟩, .bool false] 54 (0, 0))) := Lib.hid (by rw [hD]; exact heap_alloc_new Y _)
  have HDO := Lib.hid (HOO.out.below HDB.out)
  have HAP := Lib.hid (app_op HDO.out (Nat.le_trans HYS.out HDB.out.size) HDR.out (fun u hu => by simp only [List.mem_cons, List.not_mem_nil, or_false] at hu; rcases hu with rfl | rfl | rfl | rfl <;> rfl) HOL.out)
  have HDE := Lib.hid hD
  rw [hD] at HAP
  clear hD
  go_region_law (refine step_append rfl _ _ 37 37 rfl (by go_simp) (by go_simp) HAP.out ?_; rintro v6 w6 ⟨⟨A6, c6, rfl⟩, ho6, hf6, hb6⟩; rw [← HDE.out] at hf6 hb6; have HO6 := Lib.hid ho6; have HR6 := Lib.hid hf6; have HB6 := Lib.hid hb6; obtain ⟨b6, g6⟩ := HF6.out w6 ((hf6.block ga (Nat.lt_of_lt_of_le hgal HDB.out.size) HNA.out).trans (HDB.out.block ga hgal)); clear ho6 hf6 hb6)
  all_goals
    exact HN.out _ _ _ _ _ rfl HDB.out HO6.out HR6.out HB6.out
#print axioms reg_op4
end Go.Proofs.Ythkacajlbenflaa.HistG
