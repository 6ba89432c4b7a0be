/- LockRuns: the law's lines freed, one by one. -/
import Derived.Test.YtcceankldiafpaaLockRl
set_option linter.unusedVariables false
set_option linter.unusedSimpArgs false
set_option linter.unusedSectionVars false
set_option maxRecDepth 100000
namespace Go.Proofs.Ytcceankldiafpaa.Lock
open Go.RowKit Go.WideShapes Go.Deep Go.Proofs.Ytcceankldiafpaa.Mem Go.Proofs.Ytcceankldiafpaa.Open Go.Proofs.Ytcceankldiafpaa.Maps
/-- What freeing these lines grants. -/
def allGs (os : List Ln) (p : Int × Int) : List Gr := os.flatMap fun o => grs o.key (freeL o.ln p).2
theorem allGs_len (p : Int × Int) {N : Nat} : ∀ os : List Ln, (∀ o ∈ os, o.waits.length ≤ N) → (allGs os p).length ≤ os.length * N
  | [], _ => Nat.zero_le _
  | o :: os, h => by
    have h1 := allGs_len p os fun x hx => h x (List.mem_cons_of_mem _ hx)
    have h2 := (freeL_len o.ln p).2
    have h3 := h o (List.mem_cons_self ..)
    have h4 : (freeL o.ln p).2.length ≤ o.waits.length := h2
    unfold allGs at h1 ⊢
    rw [List.flatMap_cons, List.length_append, grs_len, List.length_cons, Nat.succ_mul]
    omega
structure RunF (X w : World) (B lt mb : Nat) (qs : List (S × Qv)) (os os' : List Ln) (p : Int × Int) (j : Nat) (gs : List Gr) (gy : Nat) (cs : Array Value) (v gv : Value) : Prop where
  tb : Tb w B lt mb qs
  l : RunL w B mb qs v os'
  key : os'.map Ln.key = os.map Ln.key
  ln : os'.map Ln.ln = ((os.take j).map fun o => (freeL o.ln p).1) ++ (os.drop j).map Ln.ln
  g : GOwn w X.heap.size gv gs
  bx : Below X.heap.size X w
  row : w.heap[gy]? = some (.cells cs 42 (0, 0))
section
variable {X V w w' W : World} {B lt mb j gy gn n c g off m1 c1 m2 c2 : Nat} {qs qs' : List (S × Qv)} {os os' : List Ln} {o o' : Ln} {p : Int × Int} {gs ns : List Gr} {cs : Array Value} {v gv gv' : Value} {B1 B2 : Option Addr} {k : S}
theorem RunF.below (h : RunF X w B lt mb qs os os' p j gs gy cs v gv) (hb : Below w.heap.size w w') : RunF X w' B lt mb qs os os' p j gs gy cs v gv :=
  ⟨h.tb.below hb, h.l.below hb, h.key, h.ln, Own.below h.g hb, h.bx.trans (hb.mono h.bx.size), blk_below h.row hb⟩
theorem RunF.len (h : RunF X w B lt mb qs os os' p j gs gy cs v gv) : os'.length = os.length := by have := congrArg List.length h.key; simpa using this
theorem RunF.at_ (h : RunF X w B lt mb qs os os' p j gs gy cs v gv) (ho : os'[j]? = some o') : ∃ o, os[j]? = some o ∧ o.key = o'.key ∧ o.ln = o'.ln := by
  have hlt := (List.getElem?_eq_some_iff.1 ho).1
  have hl := h.len
  obtain ⟨x, hx⟩ : ∃ x, os[j]? = some x := ⟨os[j]'(by omega), List.getElem?_eq_getElem _⟩
  refine ⟨x, hx, ?_, ?_⟩
  · have e1 : (os'.map Ln.key)[j]? = some o'.key := by rw [List.getElem?_map, ho]; rfl
    rw [h.key, List.getElem?_map, hx] at e1
    simpa using e1
  · have e1 : (os'.map Ln.ln)[j]? = some o'.ln := by rw [List.getElem?_map, ho]; rfl
    rw [h.ln, List.getElem?_append_right (by rw [List.length_map, List.length_take]; omega), List.length_map, List.length_take, List.getElem?_map, List.getElem?_drop, show j + (j - min j os.length) = j by omega, hx] at e1
    simpa using e1
theorem ln_next {os : List Ln} (h : os[j]? = some o) (f : Ln → Line) (q : Ln → Line) (hq : q o = f o) : ((os.take (j + 1)).map f) ++ (os.drop (j + 1)).map q = ((os.take j).map f) ++ (os.drop j).map q := by
  have hlt := (List.getElem?_eq_some_iff.1 h).1
  have e1 : os.take (j + 1) = os.take j ++ [o] := by rw [List.take_add_one, h]; rfl
  have e2 : os.drop j = o :: os.drop (j + 1) := by
    rw [List.drop_eq_getElem_cons hlt, (List.getElem?_eq_some_iff.1 h).2]
  rw [e1, e2, List.map_append, List.map_cons, List.map_nil, List.append_assoc, List.map_cons, hq]
  rfl
theorem RunF.skip (h : RunF X w B lt mb qs os os' p j gs gy cs v gv) (ho : os'[j]? = some o') (h1 : hasT o'.has p = false) (h2 : hasT o'.waits p = false) (hg : gs = allGs (os.take j) p) : RunF X w B lt mb qs os os' p (j + 1) gs gy cs v gv ∧ gs = allGs (os.take (j + 1)) p := by
  obtain ⟨o, hoo, _, hl⟩ := h.at_ ho
  have hf : freeL o.ln p = (o.ln, []) := by rw [hl]; exact free_skip h1 h2
  refine ⟨⟨h.tb, h.l, h.key, ?_, h.g, h.bx, h.row⟩, ?_⟩
  · rw [h.ln]
    exact (ln_next hoo (fun o => (freeL o.ln p).1) Ln.ln (by rw [hf])).symm
  · rw [hg, List.take_add_one, hoo]
    unfold allGs
    rw [List.flatMap_append]
    show _ = _ ++ ([o].flatMap _)
    rw [List.flatMap_cons, hf]
    simp [grs]
theorem RunF.freed (h : RunF X V B lt mb qs os os' p j gs gy cs (.slice (some ⟨g, off, none⟩) n c) gv) (ho : os'[j]? = some o') (hk : o'.key = k) (hx : NxR (OldB o'.hv o'.wv) V W B gn k (.slice B1 m1 c1) (.slice B2 m2 c2) (freeL o'.ln p).1) (hXB : X.heap.size ≤ B) :
    RunF X (((W.setCell ⟨g, off + j * 3, none⟩ (.string k)).setCell ⟨g, off + j * 3 + 1, none⟩ (.slice B1 m1 c1)).setCell ⟨g, off + j * 3 + 2, none⟩ (.slice B2 m2 c2)) B lt mb qs os (os'.set j ⟨k, B1, m1, c1, B2, m2, c2, (freeL o'.ln p).1.1, (freeL o'.ln p).1.2⟩) p (j + 1) gs gy cs (.slice (some ⟨g, off, none⟩) n c) gv := by
  have hW := h.below hx.go
  have hom := List.mem_of_getElem? ho
  have hg5 := hW.l.own.lt g rfl
  have hlt := (List.getElem?_eq_some_iff.1 ho).1
  obtain ⟨o, hoo, hok, hol⟩ := h.at_ ho
  have hold : ∀ {u : Value}, (∀ x, u.ownBlock = some x → OldB o'.hv o'.wv x ∨ V.heap.size ≤ x) → ∀ x, u.ownBlock = some x → ¬ TFeet mb qs x := fun {u} hq x hx' hf => by
    rcases hq x hx' with e | e
    · exact h.l.ap o' hom x e hf
    · have := (h.tb.feet hf).2; omega
  have hR := run_laid (l := (freeL o'.ln p).1) hW.l ho hk hx.h hx.wt (fun x hx' => by
    rcases hx' with e | e
    · exact hold hx.ho x e
    · exact hold hx.wo x e) (free_lk (h.l.lk o' hom) p)
  have hw : (Value.slice (some (⟨g, off, none⟩ : Addr)) n c).ownBlock = some g := rfl
  have hf : Fr (fun x => (Value.slice (some (⟨g, off, none⟩ : Addr)) n c).ownBlock = some x) W (((W.setCell ⟨g, off + j * 3, none⟩ (.string k)).setCell ⟨g, off + j * 3 + 1, none⟩ (.slice B1 m1 c1)).setCell ⟨g, off + j * 3 + 2, none⟩ (.slice B2 m2 c2)) := laid_fr.mono (fun i _ e => by rw [e]; exact hw)
  refine ⟨hW.tb.row hW.l.own (by decide) (by decide) (by decide) hf, hR, ?_, ?_, Own.fr hW.g laid_fr (fun x hx' e => own_apart hW.g hW.l.own (by decide) (by rw [e]; exact hw) hx'), ?_, laid_fr.blk hW.row (fun e => own_ne_row hW.l.own hW.row (by decide) (by rw [e]; exact hw))⟩
  · rw [List.map_set, ← h.key]
    apply List.ext_getElem?
    intro i
    rw [List.getElem?_set]
    split
    · rename_i e
      subst e
      rw [List.getElem?_map, ho, List.length_map, if_pos hlt]
      show some k = some o'.key
      rw [hk]
    · rfl
  · have e1 : os.take (j + 1) = os.take j ++ [o] := by rw [List.take_add_one, hoo]; rfl
    have hl2 := h.len
    have e2 : os.drop j = o :: os.drop (j + 1) := by
      rw [List.drop_eq_getElem_cons (by omega), (List.getElem?_eq_some_iff.1 hoo).2]
    have hlj : ((os.take j).map fun o => (freeL o.ln p).1).length = j := by rw [List.length_map, List.length_take]; omega
    rw [List.map_set, h.ln, List.set_append_right _ _ (by rw [hlj]; exact Nat.le_refl _), hlj, Nat.sub_self, e2, List.map_cons, List.set_cons_zero, e1, List.map_append, List.append_assoc, List.map_cons, List.map_nil]
    show _ ++ (freeL o'.ln p).1 :: _ = _
    rw [← hol]
    rfl
  · exact ((hW.bx.setCell (p := ⟨g, off + j * 3, none⟩) (Nat.le_trans hXB hg5.1) _).setCell (p := ⟨g, off + j * 3 + 1, none⟩) (Nat.le_trans hXB hg5.1) _).setCell (p := ⟨g, off + j * 3 + 2, none⟩) (Nat.le_trans hXB hg5.1) _
/-- Other rows stay when a line is laid. -/
theorem gown_laid {b : Nat} {u1 u2 : Value} (hL : RunL W B mb qs (.slice (some ⟨g, off, none⟩) n c) os') (hg : GOwn W b gv ns) : GOwn (((W.setCell ⟨g, off + j * 3, none⟩ (.string k)).setCell ⟨g, off + j * 3 + 1, none⟩ u1).setCell ⟨g, off + j * 3 + 2, none⟩ u2) b gv ns :=
  Own.fr hg laid_fr (fun x hx' e => own_apart hg hL.own (by decide) (by rw [e]; rfl) hx')
theorem RunF.app (h : RunF X w B lt mb qs os os' p j gs gy cs v gv) (hg : GOwn w' X.heap.size gv' (gs ++ ns)) (hf : Fr (fun g => gv.ownBlock = some g) w w') : RunF X w' B lt mb qs os os' p j (gs ++ ns) gy cs v gv' :=
  ⟨h.tb.gr h.g hf, h.l.row h.g (by decide) (by decide) hf, h.key, h.ln, hg, h.bx.trans (hf.below h.bx.size fun g _ e => (Own.lt h.g g e).1), hf.blk h.row (fun e => own_ne_row h.g h.row (by decide) e)⟩
theorem gs_next (ho : os[j]? = some o) (hg : gs = allGs (os.take j) p) (hk : o.key = k) (hl : o.ln = o'.ln) : gs ++ grs k (freeL o'.ln p).2 = allGs (os.take (j + 1)) p := by
  rw [hg, List.take_add_one, ho]
  unfold allGs
  rw [List.flatMap_append]
  show _ = _ ++ ([o].flatMap _)
  rw [List.flatMap_cons, hk, hl]
  simp
/-- All lines are freed, and the table. -/
theorem RunF.done {N M i : Nat} {ks : List (List UInt8)} {gs2 : List Gr} (h : RunF X w B lt mb qs os os' p j gs gy cs v gv) (hj : os.length ≤ j) (hg : gs = allGs (os.take j) p) (hK : RunK N M qs os) (hs : os.Pairwise fun a b => kLt a.key b.key) (hN : N ≤ i) (hM : M ≤ i) (hsv : SomeV v) (hf : FreeO w w' B lt mb N qs qs' p ks gs2) (hny : ¬ TFeet mb qs gy) (hXB : X.heap.size ≤ B) :
    (RunS w' B lt mb i v ∧ Below X.heap.size X w' ∧ w'.heap[gy]? = some (.cells cs 42 (0, 0))) ∧ gs2 = gs ∧ GOwn w' X.heap.size gv gs := by
  have htk : os.take j = os := List.take_of_length_le hj
  refine ⟨⟨⟨qs', os', hf.tb, h.l.table h.tb hf.go, ?_, hsv⟩, h.bx.trans ((hf.go.below h.tb).mono hXB), hf.go.fr.blk h.row hny⟩, ?_, Own.fr h.g hf.go.fr (fun x hx => h.tb.far h.g (by decide) (by decide) hx)⟩
  · refine (hK.free h.key ?_ hf).more hN hM
    rw [h.ln, htk, List.drop_of_length_le hj, List.map_nil, List.append_nil]
  · rw [hf.grants, hK.grants hs h.tb.fm.keys hf.perm hf.sorted, hg, htk]
    rfl
end
theorem gc_at : ∀ {gs : List Gr} {i : Nat} {t : Gr}, gs[i]? = some t → ∀ (j : Nat) (u : Value), (Gr.cs t)[j]? = some u → (gc gs)[i * 4 + j]? = some u
  | [], i, t, h => by simp at h
  | p :: gs, 0, t, h => by
    have h' : p = t := by simpa using h
    subst h'
    intro j u hu
    have hl : j < (Gr.cs p).length := (List.getElem?_eq_some_iff.1 hu).1
    show (Gr.cs p ++ gc gs)[0 * 4 + j]? = _
    rw [Nat.zero_mul, Nat.zero_add, List.getElem?_append_left hl]
    exact hu
  | p :: gs, i + 1, t, h => by
    have h' : gs[i]? = some t := by simpa using h
    intro j u hu
    show (Gr.cs p ++ gc gs)[(i + 1) * 4 + j]? = _
    have hl : (Gr.cs p).length = 4 := rfl
    rw [List.getElem?_append_right (by omega), hl, show (i + 1) * 4 + j - 4 = i * 4 + j by omega]
    exact gc_at h' _ _ hu
theorem gr_cells {w : World} {B : Nat} {A : Option Addr} {n c j : Nat} {gs : List Gr} {t : Gr} (h : Rd w B 4 (.slice A n c) n (gc gs)) (ht : gs[j]? = some t) (hn : 0 < n) : ∃ g off, A = some ⟨g, off, none⟩ ∧
    w.cell? ⟨g, off + j * 4, none⟩ = some (.int .u64 t.1.num) ∧ w.cell? ⟨g, off + j * 4 + 1, none⟩ = some (.int .i64 t.1.nd) ∧ w.cell? ⟨g, off + j * 4 + 2, none⟩ = some (.string t.2) ∧ w.cell? ⟨g, off + j * 4 + 3, none⟩ = some (.int .i64 t.1.md) := by
  obtain ⟨g, off, cz, e, _, _, _, hx⟩ := h.cells hn
  injection e with e1 e2 e3
  refine ⟨g, off, e1, ?_, ?_, ?_, ?_⟩
  · exact hx _ _ (gc_at ht 0 _ rfl)
  · rw [Nat.add_assoc]; exact hx _ _ (gc_at ht 1 _ rfl)
  · rw [Nat.add_assoc]; exact hx _ _ (gc_at ht 2 _ rfl)
  · rw [Nat.add_assoc]; exact hx _ _ (gc_at ht 3 _ rfl)
theorem RunS.below {w w' : World} {B lt mb N : Nat} {v : Value} (h : RunS w B lt mb N v) (hb : Below w.heap.size w w') : RunS w' B lt mb N v := by
  obtain ⟨⟨qs, os, h1, h2, h3, h4⟩⟩ := h
  exact ⟨⟨qs, os, h1.below hb, h2.below hb, h3, h4⟩⟩
theorem allGs_le {N M : Nat} {qs : List (S × Qv)} {os : List Ln} (hK : RunK N M qs os) (hN : N ≤ 100) (hM : M ≤ 100) (p : Int × Int) (j : Nat) : (allGs (os.take j) p).length ≤ 10000 := by
  have h1 := allGs_len p (N := 100) (os.take j) (fun o ho => by
    have hb := hK.bnd o.key
    rw [hK.same1 o (List.mem_of_mem_take ho)] at hb
    have : o.has.length + o.waits.length ≤ N := hb
    omega)
  have h2 := hK.osl
  have h3 : (os.take j).length ≤ 100 := by rw [List.length_take]; omega
  omega
#print axioms RunF.freed
#print axioms RunF.done
end Go.Proofs.Ytcceankldiafpaa.Lock
