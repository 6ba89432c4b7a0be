/- The maker in memory: a transaction more; an op more. -/
import Derived.Test.YthkacajlbenflaaHistN
set_option linter.unusedVariables false
set_option linter.unusedSimpArgs false
set_option linter.unusedSectionVars false
namespace Go.Proofs.Ythkacajlbenflaa.HistG
open Go.RowKit Go.WideShapes Go.Deep Go.Proofs.Ythkacajlbenflaa.Mem Go.Proofs.Ythkacajlbenflaa.Maps Go.Proofs.Ythkacajlbenflaa.Kv Go.Proofs.Ythkacajlbenflaa.Open Go.Proofs.Ythkacajlbenflaa.HistA
section
variable {w w1 w2 w' : World} {B gm ba bs N g : Nat} {m : MkR} {pp : List ((Int × Int) × Nat)} {xs : List TxP} {av v' : Value}
/-- The map of names has one more; a transaction more stands behind the others; the maker's row has the new slice. -/
theorem MkG.begin_ {tid : Int × Int} {t : TxR} (h : MkG w B gm ba bs N m pp xs av) (hB : B ≤ w.heap.size) (ht : Turned w w1 ba) (hm : MapAt Tid.encT enN Tid.IdOk w1 ba (setM m.at_ tid m.all.length)) (hb : Below w1.heap.size w1 w2) (hops : t.ops = [])
    (hown : Own w' B 39 7 v' (xs.length + 1) (txc xs ++ TxP.cs ⟨t, none, 0⟩)) (hf : Fr (fun k => av.ownBlock = some k) w2 w') :
    MkG (w'.setCell ⟨gm, 0, none⟩ v') B gm ba bs (N + 1) { m with all := m.all ++ [t], at_ := setM m.at_ tid m.all.length } pp (xs ++ [⟨t, none, 0⟩]) v' := by
  have h1 : ∀ k, k < w.heap.size → k ≠ ba → ¬ av.ownBlock = some k → w'.heap[k]? = w.heap[k]? := fun k hk hne hna => by
    have e1 := ht.fr.block k hk hne
    have hk1 : k < w1.heap.size := by rw [ht.size]; exact hk
    have e2 := hb.block k hk1
    have hk2 : k < w2.heap.size := Nat.lt_of_lt_of_le hk1 hb.size
    exact (hf.block k hk2 hna).trans (e2.trans e1)
  have hgm : w'.heap[gm]? = some (.cells #[av, .map (some ba), .map (some bs)] 67 (0, 0)) := (h1 gm (Array.getElem?_eq_some_iff.1 h.mkr).1 (fun e => map_not_row h.at_ h.mkr e.symm) (own_not_row h.own h.mkr (by decide))).trans h.mkr
  have hset : ∀ k, k ≠ gm → (w'.setCell ⟨gm, 0, none⟩ v').heap[k]? = w'.heap[k]? := fun k hk => Below.heap_setCell w' ⟨gm, 0, none⟩ v' k hk
  have h2 : ∀ k, k < w.heap.size → k ≠ ba → ¬ av.ownBlock = some k → k ≠ gm → (w'.setCell ⟨gm, 0, none⟩ v').heap[k]? = w.heap[k]? := fun k hk hne hna hg => (hset k hg).trans (h1 k hk hne hna)
  have hlen : m.all.length = xs.length := by rw [h.all, List.length_map]
  have hopO : ∀ x ∈ xs, Own (w'.setCell ⟨gm, 0, none⟩ v') B 54 4 x.ov x.t.ops.length (oc x.t.ops) := fun x hx => (h.ops x hx).kept fun k hk => h2 k ((h.ops x hx).lt k hk).2 (fun e => own_not_map (h.ops x hx) h.at_ (by rw [← e]; exact hk)) (fun e => own_two (h.ops x hx) h.own (by decide) e hk) (fun e => own_not_row (h.ops x hx) h.mkr (by decide) (by rw [← e]; exact hk))
  have hnew : TxP.ov ⟨t, none, 0⟩ = .slice none 0 0 := by unfold TxP.ov; rw [hops]; rfl
  have hba1 : (w'.setCell ⟨gm, 0, none⟩ v').heap[ba]? = w1.heap[ba]? := by
    have hl1 : ba < w1.heap.size := hm.lt
    have e2 := hb.block ba hl1
    have hk2 : ba < w2.heap.size := Nat.lt_of_lt_of_le hl1 hb.size
    rw [hset ba (map_not_row h.at_ h.mkr)]
    exact (hf.block ba hk2 (own_not_map h.own h.at_)).trans e2
  refine ⟨?_, hm.kept hba1, h.sm.kept (h2 bs h.sm.lt (fun e => h.ne e.symm) (own_not_map h.own h.sm) (map_not_row h.sm h.mkr)), fun p k hp => ?_, h.none_, h.inj, ?_, ?_, fun x hx => ?_, fun i j x y hi hj hne k hk => ?_, fun u i hi => ?_, h.sid, ?_, fun x hx => ?_, h.bm, h.bat, h.bss, h.bse, h.ne⟩
  · have h9 := heap_setCell_same w' gm 0 _ 67 v' hgm
    exact h9
  · obtain ⟨s, g1, g2⟩ := h.some_ p k hp
    exact ⟨s, g1, (h2 k (Array.getElem?_eq_some_iff.1 g2).1 (fun e => map_not_row h.at_ g2 e.symm) (own_not_row h.own g2 (by decide)) (rows_ne g2 h.mkr (by decide))).trans g2⟩
  · dsimp only
    rw [h.all, List.map_append]
    rfl
  · rw [List.length_append, List.length_singleton, txc_append]
    have e1 : txc [⟨t, none, 0⟩] = TxP.cs ⟨t, none, 0⟩ := by simp [txc]
    rw [e1]
    exact hown.kept fun k hk => hset k (fun e => own_not_row hown hgm (by decide) (by rw [← e]; exact hk))
  · rcases List.mem_append.1 hx with e | e
    · exact hopO x e
    · have e1 : x = ⟨t, none, 0⟩ := by simpa using e
      rw [e1, hnew]
      dsimp only
      rw [hops]
      exact Own.nil_ _ _ _ _
  · have hcase : ∀ (i : Nat) (x : TxP), (xs ++ [(⟨t, none, 0⟩ : TxP)])[i]? = some x → xs[i]? = some x ∨ x = ⟨t, none, 0⟩ := fun i x hi => by
      rw [List.getElem?_append] at hi
      split at hi
      · exact .inl hi
      · right
        have := List.mem_of_getElem? hi
        simpa using this
    rcases hcase i x hi with e1 | e1
    · rcases hcase j y hj with e2 | e2
      · exact h.apart i j x y e1 e2 hne k hk
      · rw [e2, hnew]; intro h9; cases h9
    · rw [e1, hnew] at hk; cases hk
  · dsimp only at hi ⊢
    rw [getM_set] at hi
    rw [List.length_append, List.length_singleton]
    split at hi
    · injection hi with hi; omega
    · have := h.idx u i hi; omega
  · rw [List.length_append, List.length_singleton]; have := h.lenx; omega
  · rcases List.mem_append.1 hx with e | e
    · have := h.leno x e; omega
    · have e1 : x = ⟨t, none, 0⟩ := by simpa using e
      rw [e1]
      dsimp only
      rw [hops]
      exact Nat.zero_le _
/-- An op more: the row of ops has grown, the transaction's cell has it. -/
theorem MkG.op {i n c off a A' c' : Nat} {x : TxP} {o : OpR} {P' : Option Addr} (h : MkG w B gm ba bs N m pp xs (.slice (some ⟨g, off, none⟩) n c)) (hB : B ≤ w.heap.size) (hx : xs[i]? = some x) (ha : a = off + (i * 7 + 6)) (hb : Below w.heap.size w w2)
    (hown : Own w' B 54 4 (.slice P' (x.t.ops.length + 1) c') (x.t.ops.length + 1) (oc x.t.ops ++ oc1 o)) (hf : Fr (fun k => x.ov.ownBlock = some k) w2 w') (hblk : ∀ k, (Value.slice P' (x.t.ops.length + 1) c').ownBlock = some k → x.ov.ownBlock = some k ∨ w2.heap.size ≤ k) :
    MkG (w'.setCell ⟨g, a, none⟩ (.slice P' (x.t.ops.length + 1) c')) B gm ba bs (N + 1) { m with all := m.all.set i { x.t with ops := x.t.ops ++ [o] } } pp (xs.set i ⟨{ x.t with ops := x.t.ops ++ [o] }, P', c'⟩) (.slice (some ⟨g, off, none⟩) n c) := by
  subst ha
  have hw : (Value.slice (some (⟨g, off, none⟩ : Addr)) n c).ownBlock = some g := rfl
  have hom := List.mem_of_getElem? hx
  have hol := h.ops x hom
  obtain ⟨y, hy⟩ : ∃ y : TxP, y = ⟨{ x.t with ops := x.t.ops ++ [o] }, P', c'⟩ := ⟨_, rfl⟩
  have hyl : y.t.ops.length = x.t.ops.length + 1 := by rw [hy]; simp
  have hyo : y.t.ops = x.t.ops ++ [o] := by rw [hy]
  have hyv : y.ov = .slice P' (x.t.ops.length + 1) c' := by unfold TxP.ov; rw [hyl, hy]
  have hyt : y.t = { x.t with ops := x.t.ops ++ [o] } := by rw [hy]
  have hyc : y.cs = x.cs.set 6 (.slice P' (x.t.ops.length + 1) c') := by
    unfold TxP.cs
    rw [hyv, hyt]
    rfl
  rw [← hy, ← hyt, ← hyv]
  rw [← hyv] at hown hblk hyc
  have h1 : ∀ k, k < w.heap.size → ¬ x.ov.ownBlock = some k → w'.heap[k]? = w.heap[k]? := fun k hk hna => (hf.block k (Nat.lt_of_lt_of_le hk hb.size) hna).trans (hb.block k hk)
  have hset : ∀ k, k ≠ g → (w'.setCell ⟨g, off + (i * 7 + 6), none⟩ y.ov).heap[k]? = w'.heap[k]? := fun k hk => Below.heap_setCell w' ⟨g, off + (i * 7 + 6), none⟩ y.ov k hk
  have h2 : ∀ k, k < w.heap.size → ¬ x.ov.ownBlock = some k → k ≠ g → (w'.setCell ⟨g, off + (i * 7 + 6), none⟩ y.ov).heap[k]? = w.heap[k]? := fun k hk hna hg => (hset k hg).trans (h1 k hk hna)
  have hn : n = xs.length := by obtain ⟨A, c2, e, _⟩ := h.own.slice_; injection e
  have hmem : ∀ z ∈ xs.set i y, z ∈ xs ∨ z = y := fun z hz => List.mem_or_eq_of_mem_set hz
  have hoth : ∀ (k : Nat) (z : TxP), xs[k]? = some z → k ≠ i → Own (w'.setCell ⟨g, off + (i * 7 + 6), none⟩ y.ov) B 54 4 z.ov z.t.ops.length (oc z.t.ops) := fun k z hz hne => (h.ops z (List.mem_of_getElem? hz)).kept fun q hq => h2 q ((h.ops z (List.mem_of_getElem? hz)).lt q hq).2 (fun e => h.apart k i z x hz hx hne q hq e) (fun e => own_two (h.ops z (List.mem_of_getElem? hz)) h.own (by decide) (by rw [e]; exact hw) hq)
  have hgo : ¬ x.ov.ownBlock = some g := own_two hol h.own (by decide) hw
  have hcur : Own w' B 39 7 (.slice (some ⟨g, off, none⟩) n c) xs.length (txc xs) := h.own.kept fun k hk => by
    have e : k = g := by rw [hw] at hk; injection hk with hk; exact hk.symm
    rw [e]
    exact h1 g (h.own.lt g hw).2 hgo
  have hyown : Own (w'.setCell ⟨g, off + (i * 7 + 6), none⟩ y.ov) B 54 4 y.ov y.t.ops.length (oc y.t.ops) := by
    have e1 : oc y.t.ops = oc x.t.ops ++ oc1 o := by rw [hyo]; simp [oc]
    rw [e1, hyl]
    exact hown.kept fun k hk => hset k (fun e => own_two hown hcur (by decide) (by rw [e]; exact hw) hk)
  have hget : ∀ (k : Nat) (z : TxP), (xs.set i y)[k]? = some z → (xs[k]? = some z ∧ k ≠ i) ∨ (z = y ∧ k = i) := fun k z hz => by
    rw [List.getElem?_set] at hz
    split at hz
    · rename_i e
      rw [if_pos (by subst e; exact (List.getElem?_eq_some_iff.1 hx).1)] at hz
      injection hz with hz
      exact .inr ⟨hz.symm, e.symm⟩
    · rename_i e
      exact .inl ⟨hz, fun e2 => e e2.symm⟩
  refine ⟨(h2 gm (Array.getElem?_eq_some_iff.1 h.mkr).1 (own_not_row hol h.mkr (by decide)) (fun e => own_not_row h.own h.mkr (by decide) (by rw [e]; exact hw))).trans h.mkr, h.at_.kept (h2 ba h.at_.lt (own_not_map hol h.at_) (fun e => own_not_map h.own h.at_ (by rw [e]; exact hw))), h.sm.kept (h2 bs h.sm.lt (own_not_map hol h.sm) (fun e => own_not_map h.own h.sm (by rw [e]; exact hw))), fun p k hp => ?_, h.none_, h.inj, ?_, ?_, fun z hz => ?_, fun a b z1 z2 g1 g2 hne k hk => ?_, fun u q hq => ?_, h.sid, ?_, fun z hz => ?_, h.bm, h.bat, h.bss, h.bse, h.ne⟩
  · obtain ⟨s, q1, q2⟩ := h.some_ p k hp
    exact ⟨s, q1, (h2 k (Array.getElem?_eq_some_iff.1 q2).1 (own_not_row hol q2 (by decide)) (fun e => own_not_row h.own q2 (by decide) (by rw [e]; exact hw))).trans q2⟩
  · dsimp only
    rw [h.all, List.map_set]
  · rw [List.length_set, ← txc_set hx (by omega) hyc]
    have h9 := (show Own w' B 39 7 (.slice (some ⟨g, off, none⟩) n c) n (txc xs) from by have h8 := hcur; rw [← hn] at h8; exact h8).set (i * 7 + 6) y.ov
    rw [← hn]
    exact h9
  · obtain ⟨k, hk⟩ := List.getElem?_of_mem hz
    rcases hget k z hk with ⟨e1, e2⟩ | ⟨e1, _⟩
    · exact hoth k z e1 e2
    · rw [e1]; exact hyown
  · rcases hget a z1 g1 with ⟨e1, f1⟩ | ⟨e1, f1⟩
    · rcases hget b z2 g2 with ⟨e2, f2⟩ | ⟨e2, f2⟩
      · exact h.apart a b z1 z2 e1 e2 hne k hk
      · rw [e2]
        intro h9
        rcases hblk k h9 with q | q
        · exact h.apart a i z1 x e1 hx f1 k hk q
        · have := ((h.ops z1 (List.mem_of_getElem? e1)).lt k hk).2
          have := hb.size
          omega
    · rcases hget b z2 g2 with ⟨e2, f2⟩ | ⟨e2, f2⟩
      · rw [e1] at hk
        intro h9
        rcases hblk k hk with q | q
        · exact h.apart i b x z2 hx e2 (fun e => f2 e.symm) k q h9
        · have := ((h.ops z2 (List.mem_of_getElem? e2)).lt k h9).2
          have := hb.size
          omega
      · exact absurd (f1.trans f2.symm) hne
  · dsimp only
    rw [List.length_set]
    exact h.idx u q hq
  · rw [List.length_set]; have := h.lenx; omega
  · obtain ⟨k, hk⟩ := List.getElem?_of_mem hz
    rcases hget k z hk with ⟨e1, e2⟩ | ⟨e1, _⟩
    · have := h.leno z (List.mem_of_getElem? e1); omega
    · rw [e1, hyl]; have := h.leno x hom; omega
/-- A transaction's cell is laid anew, and its session is not open any more. -/
theorem MkG.shut {i j n c off a gs : Nat} {x y : TxP} {u : Value} {p : Int × Int} {s : SesR} (h : MkG w B gm ba bs N m pp xs (.slice (some ⟨g, off, none⟩) n c)) (hx : xs[i]? = some x) (ha : a = off + (i * 7 + j)) (hj : j < 7) (hy : y.cs = x.cs.set j u) (hov : y.ov = x.ov) (hops : y.t.ops = x.t.ops) (hp : getM pp p = some gs) (hs : getM m.ss p = some s) :
    MkG ((w.setCell ⟨g, a, none⟩ u).setCell ⟨gs, 8, none⟩ (.bool false)) B gm ba bs N { m with all := m.all.set i y.t, ss := setM m.ss p { s with opn := false } } pp (xs.set i y) (.slice (some ⟨g, off, none⟩) n c) := by
  have h1 := h.txn hx ha hj hy hov hops
  obtain ⟨s2, g1, g2⟩ := h1.some_ p gs hp
  have e : s2 = s := by
    have : some s2 = some s := g1.symm.trans hs
    injection this
  subst e
  have h3 : (sets (w.setCell ⟨g, a, none⟩ u) gs [(8, .bool false)]).heap[gs]? = some (.cells (sesRow { s2 with opn := false }) 84 (0, 0)) := sets_row _ _ g2
  exact h1.sess hp ((Fr.refl (fun k => k = gs) _).setCell (p := ⟨gs, 8, none⟩) (.inl rfl) _) h3 (show Tid.IdOk (s2.num, s2.nd) from h1.sid p s2 g1)
/-- append of one transaction that lies in a block of its own. -/
theorem app_tx {W : World} {q n : Nat} {v : Value} {ys : List Value} (ho : Own W B 39 7 v n ys) (hB : B ≤ W.heap.size) {a b c d e f h : Value} (hq : W.heap[q]? = some (.cells #[a, b, c, d, e, f, h] 39 (0, 0))) (h1 : One [a, b, c, d, e, f, h]) (hn : n ≤ 1000) :
    Does Try.prog W (Builtin.append_ #[35, 35] 35 #[v, .slice (some ⟨q, 0, none⟩) 1 1]) fun v' w' => (∃ A k, v' = .slice A (n + 1) k) ∧ Own w' B 39 7 v' (n + 1) (ys ++ [a, b, c, d, e, f, h]) ∧ Fr (fun g => v.ownBlock = some g) W w' := by
  obtain ⟨v', w', hrun, ho', hg, _, _⟩ := run_append (P := Try.prog) W (ty := 35) Try.underlying35 Try.underlying35 ty_txn ho (A := some ⟨q, 0, none⟩) (m := 1) (c := 1) (news := [a, b, c, d, e, f, h]) rfl (fun _ => ⟨q, 0, rfl, fun j u hu => by
    rw [Nat.zero_add]
    exact row_at hq (by simpa using hu)⟩) h1 (by unfold maxLen; omega) (by omega) hB
  obtain ⟨A, k, e9, _⟩ := ho'.slice_
  exact ⟨v', w', hrun, ⟨A, k, e9⟩, ho', Fr.of_grown hg (fun g e => e)⟩
/-- append of one op that lies in a block of its own. -/
theorem app_op {W : World} {q n : Nat} {v : Value} {ys : List Value} (ho : Own W B 54 4 v n ys) (hB : B ≤ W.heap.size) {a b c d : Value} (hq : W.heap[q]? = some (.cells #[a, b, c, d] 54 (0, 0))) (h1 : One [a, b, c, d]) (hn : n ≤ 1000) :
    Does Try.prog W (Builtin.append_ #[37, 37] 37 #[v, .slice (some ⟨q, 0, none⟩) 1 1]) fun v' w' => (∃ A k, v' = .slice A (n + 1) k) ∧ Own w' B 54 4 v' (n + 1) (ys ++ [a, b, c, d]) ∧ Fr (fun g => v.ownBlock = some g) W w' ∧ (∀ g, v'.ownBlock = some g → v.ownBlock = some g ∨ W.heap.size ≤ g) := by
  obtain ⟨v', w', hrun, ho', hg, hbl, _⟩ := run_append (P := Try.prog) W (ty := 37) Try.underlying37 Try.underlying37 ty_op ho (A := some ⟨q, 0, none⟩) (m := 1) (c := 1) (news := [a, b, c, d]) rfl (fun _ => ⟨q, 0, rfl, fun j u hu => by
    rw [Nat.zero_add]
    exact row_at hq (by simpa using hu)⟩) h1 (by unfold maxLen; omega) (by omega) hB
  obtain ⟨A, k, e9, _⟩ := ho'.slice_
  refine ⟨v', w', hrun, ⟨A, k, e9⟩, ho', Fr.of_grown hg (fun g e => e), fun g hgo => ?_⟩
  rcases hbl with e1 | e1
  · rw [e1] at hgo; exact .inl hgo
  · rw [e1] at hgo
    injection hgo with hgo
    exact .inr (Nat.le_of_eq hgo)
end
#print axioms app_op
#print axioms MkG.shut
#print axioms MkG.begin_
#print axioms MkG.op
end Go.Proofs.Ythkacajlbenflaa.HistG
