/- Sess: New, check, say. -/
import Derived.Test.YtffjkdeggkppnaaSessA
set_option linter.unusedVariables false
set_option linter.unusedSimpArgs false
set_option linter.unusedSectionVars false
namespace Go.Proofs.Ytffjkdeggkppnaa.Sess
open Go.RowKit Go.WideShapes Go.Deep Go.Proofs.Ytffjkdeggkppnaa.Mem Go.Proofs.Ytffjkdeggkppnaa.Maps Go.Proofs.Ytffjkdeggkppnaa.Tid Go.Proofs.Ytffjkdeggkppnaa.KeyA
structure Cal where
  sess : Int
  req : Int
  kind : Int
  key : S
  val : S
def calV (c : Cal) : Value := .agg #[.int .i64 c.sess, .int .i64 c.req, .int .i64 c.kind, .string c.key, .string c.val]
def calR (c : Cal) : Obj := .cells #[.int .i64 c.sess, .int .i64 c.req, .int .i64 c.kind, .string c.key, .string c.val] 30 (0, 0)
theorem cal_cells {w : World} {g : Nat} {c : Cal} (h : w.heap[g]? = some (calR c)) :
    w.cell? ⟨g, 0, none⟩ = some (.int .i64 c.sess) ∧ w.cell? ⟨g, 1, none⟩ = some (.int .i64 c.req) ∧ w.cell? ⟨g, 2, none⟩ = some (.int .i64 c.kind) ∧ w.cell? ⟨g, 3, none⟩ = some (.string c.key) ∧ w.cell? ⟨g, 4, none⟩ = some (.string c.val) :=
  ⟨cell_at h rfl, cell_at h rfl, cell_at h rfl, cell_at h rfl, cell_at h rfl⟩
def checkZ (op : Bool) (c : Cal) : Int :=
  if c.kind < 1 ∨ 6 < c.kind then 1 else if op = decide (c.kind = 1) then 5 else if c.kind ≠ 2 ∧ c.kind ≠ 3 ∧ c.kind ≠ 4 then 0 else
    if rightZ c.key.size ≠ 0 then rightZ c.key.size else if c.kind ≠ 3 then 0 else valueZ c.val.size
set_option maxHeartbeats 1000000 in
set_option maxRecDepth 100000 in
theorem check_any (w : World) {g : Nat} {o : One} (hg : w.heap[g]? = some (oneR o)) (c : Cal) (hk : c.key.size ≤ 9223372036854775807) (hv : c.val.size ≤ 9223372036854775807) :
    Calls Try.prog 17 #[.pointer (some ⟨g, 0, none⟩), calV c] w fun e w' => e = .returned (.int .i64 (checkZ o.op c)) ∧ Below w.heap.size w w' := by
  obtain ⟨X, hX⟩ : ∃ X, X = w.alloc (calR c) := ⟨_, rfl⟩
  have HXB : Hid (Below w.heap.size w X) := Lib.hid (by rw [hX]; exact (Below.refl _ _).alloc (Nat.le_refl _) _)
  have hxr : X.heap[w.heap.size]? = some (calR c) := by rw [hX]; exact heap_alloc_new w _
  obtain ⟨d0, d1, d2, d3, d4⟩ := cal_cells hxr
  obtain ⟨o0, o1, o2, o3, o4, _⟩ := one_cells ((HXB.out.block _ (lt_size hg)).trans hg)
  have hR := fun W => right_any c.key W hk
  have hV := fun W => value_any c.val W hv
  obtain ⟨op, hop⟩ : ∃ op, op = o.op := ⟨_, rfl⟩
  rw [← hop] at o4 ⊢
  obtain ⟨rz, hrz⟩ : ∃ r, r = rightZ c.key.size := ⟨_, rfl⟩
  obtain ⟨vz, hvz⟩ : ∃ r, r = valueZ c.val.size := ⟨_, rfl⟩
  simp only [← hrz] at hR
  simp only [← hvz] at hV
  have hz : ∀ z, z = checkZ op c → z = if c.kind < 1 ∨ 6 < c.kind then 1 else if op = decide (c.kind = 1) then 5 else if c.kind ≠ 2 ∧ c.kind ≠ 3 ∧ c.kind ≠ 4 then 0 else
    if rz ≠ 0 then rz else if c.kind ≠ 3 then 0 else vz := fun z h => by rw [h, hrz, hvz]; rfl
  obtain ⟨z, hz'⟩ : ∃ z, z = checkZ op c := ⟨_, rfl⟩
  rw [← hz']
  have hz2 := hz z hz'
  have HZ := Lib.hid hz2
  have HR := Lib.hid hR
  have HV := Lib.hid hV
  have HX := Lib.hid hX
  obtain ⟨cs, cr, ck, ckey, cval⟩ := c
  dsimp only at d0 d1 d2 d3 d4 HZ HX HR HV
  clear hz hz' hz2 hR hV hX hxr hg hrz hvz hop o0 o1 o2 o3
  unfold calV
  go_enter Try.func17, Try.ntmps17
  go_upto_region 1 with fail
  rw [show w.alloc (.cells #[.int .i64 cs, .int .i64 cr, .int .i64 ck, .string ckey, .string cval] 30) = X from HX.out.symm]
  clear HX
  by_cases k1 : ck < 1
  · have hz : z = 1 := by rw [HZ.out, if_pos (.inl k1)]
    subst hz
    go_wp2_with fail
    go_ret
    exact ⟨rfl, HXB.out⟩
  by_cases k6 : 6 < ck
  · have hz : z = 1 := by rw [HZ.out, if_pos (.inr k6)]
    subst hz
    go_wp2_with fail
    go_ret
    exact ⟨rfl, HXB.out⟩
  have hz1 := HZ.out
  rw [if_neg (by omega)] at hz1
  have HZ1 := Lib.hid hz1
  clear hz1 HZ
  by_cases e1 : ck = 1
  · subst e1
    cases op with
    | true =>
      have hz : z = 5 := HZ1.out
      subst hz
      go_wp2_with fail
      go_quiet (fail)
      go_wp2_with fail
      go_ret
      exact ⟨rfl, below_drewN HXB.out _⟩
    | false =>
      have hz : z = 0 := HZ1.out
      subst hz
      go_wp2_with fail
      go_quiet (fail)
      go_wp2_with fail
      go_ret
      exact ⟨rfl, below_drewN HXB.out _⟩
  have b1 : (ck == 1) = false := by simp [e1]
  have hz1 := HZ1.out
  rw [decide_eq_false e1] at hz1
  have HZ2 := Lib.hid hz1
  clear hz1 HZ1
  cases op with
  | false =>
    have hz : z = 5 := HZ2.out
    subst hz
    go_wp2_with fail
    go_quiet (fail)
    go_wp2_with fail
    go_ret
    exact ⟨rfl, below_drewN HXB.out _⟩
  | true =>
    have hz1 := HZ2.out
    rw [if_neg (by decide)] at hz1
    have HZ3 := Lib.hid hz1
    clear hz1 HZ2
    by_cases kk : ck ≠ 2 ∧ ck ≠ 3 ∧ ck ≠ 4
    · have hz : z = 0 := by rw [HZ3.out, if_pos kk]
      subst hz
      obtain ⟨n2, n3, n4⟩ := kk
      have b2 : (ck == 2) = false := by simp [n2]
      have b3 : (ck == 3) = false := by simp [n3]
      have b4 : (ck == 4) = false := by simp [n4]
      have c2 : (ck != 2) = true := by simp [n2]
      have c3 : (ck != 3) = true := by simp [n3]
      have c4 : (ck != 4) = true := by simp [n4]
      clear HZ3
      go_wp2_with fail
      go_quiet (fail)
      go_wp2_with fail
      go_ret
      exact ⟨rfl, below_drewN HXB.out _⟩
    have hz1 := HZ3.out
    rw [if_neg kk] at hz1
    have HZ4 := Lib.hid hz1
    clear hz1 HZ3
    have hcase : ck = 2 ∨ ck = 3 ∨ ck = 4 := by omega
    clear kk k1 k6 e1 b1
    by_cases r0 : rz = 0
    · have rb : (rz == 0) = true := by simp [r0]
      have hz1 := HZ4.out
      rw [if_neg (by simp [r0])] at hz1
      have HZ5 := Lib.hid hz1
      have R0 := Lib.hid r0
      clear hz1 HZ4 r0
      rcases hcase with rfl | rfl | rfl
      · have hz : z = 0 := HZ5.out
        subst hz
        go_wp2_with fail
        go_quiet (fail)
        go_wp2_with fail
        refine (HR.out _).mono ?_
        rintro e w1 ⟨rfl, rfl⟩
        go_wp2_with fail
        go_ret
        exact ⟨rfl, below_drewN HXB.out _⟩
      · have hz : z = vz := HZ5.out
        subst hz
        go_wp2_with fail
        go_quiet (fail)
        go_wp2_with fail
        refine (HR.out _).mono ?_
        rintro e w1 ⟨rfl, rfl⟩
        go_wp2_with fail
        refine (HV.out _).mono ?_
        rintro e w1 ⟨rfl, rfl⟩
        go_wp2_with fail
        go_ret
        exact ⟨rfl, below_drewN HXB.out _⟩
      · have hz : z = 0 := HZ5.out
        subst hz
        go_wp2_with fail
        go_quiet (fail)
        go_wp2_with fail
        refine (HR.out _).mono ?_
        rintro e w1 ⟨rfl, rfl⟩
        go_wp2_with fail
        go_ret
        exact ⟨rfl, below_drewN HXB.out _⟩
    · have rb : (rz == 0) = false := by simp [r0]
      have hz : z = rz := by rw [HZ4.out, if_pos r0]
      subst hz
      have R0 := Lib.hid r0
      clear HZ4 r0
      rcases hcase with rfl | rfl | rfl
      · go_wp2_with fail
        go_quiet (fail)
        go_wp2_with fail
        refine (HR.out _).mono ?_
        rintro e w1 ⟨rfl, rfl⟩
        go_wp2_with fail
        go_ret
        exact ⟨rfl, below_drewN HXB.out _⟩
      · go_wp2_with fail
        go_quiet (fail)
        go_wp2_with fail
        refine (HR.out _).mono ?_
        rintro e w1 ⟨rfl, rfl⟩
        go_wp2_with fail
        go_ret
        exact ⟨rfl, below_drewN HXB.out _⟩
      · go_wp2_with fail
        go_quiet (fail)
        go_wp2_with fail
        refine (HR.out _).mono ?_
        rintro e w1 ⟨rfl, rfl⟩
        go_wp2_with fail
        go_ret
        exact ⟨rfl, below_drewN HXB.out _⟩
#print axioms check_any
end Go.Proofs.Ytffjkdeggkppnaa.Sess
