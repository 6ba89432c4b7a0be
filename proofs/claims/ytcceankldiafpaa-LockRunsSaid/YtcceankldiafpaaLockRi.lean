/- LockRuns: the law's lines beside the table; what each step does to them. -/
import Derived.Test.YtcceankldiafpaaLockRh
import Derived.Test.YtcceankldiafpaaKv
import Derived.Sort.Walk0
set_option linter.unusedVariables false
set_option linter.unusedSimpArgs false
set_option linter.unusedSectionVars false
set_option maxRecDepth 100000
namespace Go.Proofs.Ytcceankldiafpaa.Lock
open Go.RowKit Go.WideShapes Go.Deep Go.Proofs.Ytcceankldiafpaa.Mem Go.Proofs.Ytcceankldiafpaa.Open Go.Proofs.Ytcceankldiafpaa.Maps
abbrev kLt (a b : S) : Prop := Kv.lt a b = true
/-- The law's lines in memory, apart from the table. -/
structure RunL (w : World) (B mb : Nat) (qs : List (S × Qv)) (v : Value) (os : List Ln) : Prop where
  own : NOwn w B v os
  rows : ∀ o ∈ os, LOwn w B o.hv o.has ∧ LOwn w B o.wv o.waits
  ap : ∀ o ∈ os, ∀ g, (o.hv.ownBlock = some g ∨ o.wv.ownBlock = some g) → ¬ TFeet mb qs g
  sorted : os.Pairwise fun a b => kLt a.key b.key
  lk : ∀ o ∈ os, LkOk o.ln
  ok : ∀ o ∈ os, OkS o.key
/-- The table has what the law's lines have. -/
structure RunK (N M : Nat) (qs : List (S × Qv)) (os : List Ln) : Prop where
  bnd : Bnd qs N
  len : qs.length ≤ N
  ne : NE qs
  osl : os.length ≤ M
  same1 : ∀ o ∈ os, lineOf qs o.key = o.ln
  same2 : ∀ k, (∀ o ∈ os, o.key ≠ k) → lineOf qs k = ([], [])
theorem RunK.nil : RunK 0 0 [] [] := ⟨Bnd.nil, Nat.le_refl _, (fun k q h => by cases h), Nat.le_refl _, (fun o h => by cases h), fun k _ => rfl⟩
theorem RunK.more {N M N' M' : Nat} {qs : List (S × Qv)} {os : List Ln} (h : RunK N M qs os) (hN : N ≤ N') (hM : M ≤ M') : RunK N' M' qs os := ⟨fun k => Nat.le_trans (h.bnd k) hN, Nat.le_trans h.len hN, h.ne, Nat.le_trans h.osl hM, h.same1, h.same2⟩
section
variable {w w' : World} {B mb lt N M : Nat} {qs qs' : List (S × Qv)} {v v' : Value} {os : List Ln}
theorem RunL.below (h : RunL w B mb qs v os) (hb : Below w.heap.size w w') : RunL w' B mb qs v os :=
  ⟨Own.below h.own hb, fun o ho => ⟨(h.rows o ho).1.below_ hb, (h.rows o ho).2.below_ hb⟩, h.ap, h.sorted, h.lk, h.ok⟩
/-- The table is called: the law's lines stay. -/
theorem RunL.table (h : RunL w B mb qs v os) (hT : Tb w B lt mb qs) (hg : TGo w w' mb qs qs') : RunL w' B mb qs' v os := by
  refine ⟨Own.fr h.own hg.fr (fun g hg' => hT.far h.own (by decide) (by decide) hg'), fun o ho => ⟨Own.fr (h.rows o ho).1 hg.fr (fun g hg' => h.ap o ho g (.inl hg')), Own.fr (h.rows o ho).2 hg.fr (fun g hg' => h.ap o ho g (.inr hg'))⟩, fun o ho g hgo hf => ?_, h.sorted, h.lk, h.ok⟩
  rcases hg.feet g hf with e | e
  · exact h.ap o ho g hgo e
  · have h1 := (h.rows o ho).1.lt g
    have h2 := (h.rows o ho).2.lt g
    rcases hgo with hgo | hgo
    · have := (h1 hgo).2; omega
    · have := (h2 hgo).2; omega
/-- A block of memory that is no one of these changes. -/
theorem RunL.row {b k n : Nat} {e : TypeId} {u : Value} {xs : List Value} (h : RunL w B mb qs v os) (ho : Own w b e k u n xs) (h1 : (47 : TypeId) ≠ e) (h2 : (52 : TypeId) ≠ e) (hf : Fr (fun g => u.ownBlock = some g) w w') : RunL w' B mb qs v os :=
  ⟨Own.fr h.own hf (fun g hg e => own_apart h.own ho h2 e hg), fun o hoo => ⟨Own.fr (h.rows o hoo).1 hf (fun g hg e => own_apart (h.rows o hoo).1 ho h1 e hg), Own.fr (h.rows o hoo).2 hf (fun g hg e => own_apart (h.rows o hoo).2 ho h1 e hg)⟩, h.ap, h.sorted, h.lk, h.ok⟩
theorem pw_set {α : Type} {R : α → α → Prop} {l : List α} {i : Nat} {x y : α} (h : l.Pairwise R) (hx : l[i]? = some x) (h1 : ∀ z, R z x → R z y) (h2 : ∀ z, R x z → R y z) : (l.set i y).Pairwise R := by
  induction l generalizing i with
  | nil => simp at hx
  | cons a l ih =>
    have hp := List.pairwise_cons.1 h
    cases i with
    | zero =>
      have e : a = x := by simpa using hx
      subst e
      exact List.pairwise_cons.2 ⟨fun z hz => h2 z (hp.1 z hz), hp.2⟩
    | succ i =>
      have hx' : l[i]? = some x := by simpa using hx
      refine List.pairwise_cons.2 ⟨fun z hz => ?_, ih hp.2 hx'⟩
      rcases List.mem_or_eq_of_mem_set hz with e | e
      · exact hp.1 z e
      · rw [e]; exact h1 a (hp.1 x (List.mem_of_getElem? hx'))
/-- A line is laid anew in its place. -/
theorem RunL.set {at_ : Nat} {o o' : Ln} (h : RunL w B mb qs v os) (ho : os[at_]? = some o) (hk : o'.key = o.key) (hl : LOwn w B o'.hv o'.has ∧ LOwn w B o'.wv o'.waits) (hap : ∀ g, (o'.hv.ownBlock = some g ∨ o'.wv.ownBlock = some g) → ¬ TFeet mb qs g) (hlk : LkOk o'.ln) (hf : Fr (fun g => v.ownBlock = some g) w w') (hno : NOwn w' B v (os.set at_ o')) : RunL w' B mb qs v (os.set at_ o') := by
  have hr : ∀ {u : Value} {ws : List Wt}, LOwn w B u ws → LOwn w' B u ws := fun {u ws} hu => Own.fr hu hf (fun g hg e => own_apart hu h.own (by decide) e hg)
  have hin : ∀ x ∈ os.set at_ o', x ∈ os ∨ x = o' := fun x hx => List.mem_or_eq_of_mem_set hx
  refine ⟨hno, fun x hx => ?_, fun x hx => ?_, pw_set h.sorted ho (fun z hz => by rw [hk]; exact hz) (fun z hz => by rw [hk]; exact hz), fun x hx => ?_, fun x hx => ?_⟩
  · rcases hin x hx with e | e
    · exact ⟨hr (h.rows x e).1, hr (h.rows x e).2⟩
    · rw [e]; exact ⟨hr hl.1, hr hl.2⟩
  · rcases hin x hx with e | e
    · exact h.ap x e
    · rw [e]; exact hap
  · rcases hin x hx with e | e
    · exact h.lk x e
    · rw [e]; exact hlk
  · rcases hin x hx with e | e
    · exact h.ok x e
    · rw [e, hk]; exact h.ok o (List.mem_of_getElem? ho)
theorem RunL.insert {a b : List Ln} {k : S} (h : RunL w B mb qs v (a ++ b)) (hb : Below w.heap.size w w') (hno : NOwn w' B v' (a ++ (⟨k, none, 0, 0, none, 0, 0, [], []⟩ : Ln) :: b)) (h1 : ∀ x ∈ a, kLt x.key k) (h2 : ∀ x ∈ b, kLt k x.key) (hok : OkS k) : RunL w' B mb qs v' (a ++ (⟨k, none, 0, 0, none, 0, 0, [], []⟩ : Ln) :: b) := by
  have hin : ∀ x ∈ a ++ (⟨k, none, 0, 0, none, 0, 0, [], []⟩ : Ln) :: b, x = ⟨k, none, 0, 0, none, 0, 0, [], []⟩ ∨ x ∈ a ++ b := fun x hx => by
    rcases List.mem_append.1 hx with e | e
    · exact .inr (List.mem_append_left _ e)
    · rcases List.mem_cons.1 e with e | e
      · exact .inl e
      · exact .inr (List.mem_append_right _ e)
  have hl := h.below hb
  refine ⟨hno, fun x hx => ?_, fun x hx => ?_, ?_, fun x hx => ?_, fun x hx => ?_⟩
  · rcases hin x hx with e | e
    · rw [e]; exact ⟨Own.nil_ _ _ _ _, Own.nil_ _ _ _ _⟩
    · exact hl.rows x e
  · rcases hin x hx with e | e
    · rw [e]; intro g hg; rcases hg with hg | hg <;> cases hg
    · exact hl.ap x e
  · obtain ⟨p1, p2, p3⟩ := List.pairwise_append.1 h.sorted
    refine List.pairwise_append.2 ⟨p1, List.pairwise_cons.2 ⟨h2, p2⟩, fun x hx y hy => ?_⟩
    rcases List.mem_cons.1 hy with e | e
    · rw [e]; exact h1 x hx
    · exact p3 x hx y e
  · rcases hin x hx with e | e
    · rw [e]; exact LkOk.nil
    · exact hl.lk x e
  · rcases hin x hx with e | e
    · rw [e]; exact hok
    · exact hl.ok x e
theorem keys_ne {i j : Nat} {o x : Ln} (h : os.Pairwise fun a b => kLt a.key b.key) (ho : os[i]? = some o) (hx : os[j]? = some x) (he : x.key = o.key) : j = i := by
  rcases Nat.lt_trichotomy j i with e | e | e
  · exact absurd he (Kv.lt_ne (pw_at h hx ho e))
  · exact e
  · exact absurd he.symm (Kv.lt_ne (pw_at h ho hx e))
/-- The table's Ask, and the law's line turned so. -/
theorem RunK.ask {at_ : Nat} {o o' : Ln} {l' : Line} (h : RunK N M qs os) (hs : os.Pairwise fun a b => kLt a.key b.key) (ho : os[at_]? = some o) (hk : o'.key = o.key) (hn : Nxt qs o.key l' qs') (hl : o'.ln = l') (hb : Bnd qs' (N + 1)) (hne : NE qs') : RunK (N + 1) M qs' (os.set at_ o') := by
  have hlt := (List.getElem?_eq_some_iff.1 ho).1
  refine ⟨hb, by have := hn.len; have := h.len; omega, hne, by rw [List.length_set]; have := h.osl; omega, fun x hx => ?_, fun k hkk => ?_⟩
  · obtain ⟨j, hj⟩ := List.getElem?_of_mem hx
    rw [List.getElem?_set] at hj
    by_cases e : at_ = j
    · rw [if_pos e, if_pos (by omega)] at hj
      injection hj with hj
      rw [← hj, hk, hl]
      exact hn.line
    · rw [if_neg e] at hj
      have hne2 : x.key ≠ o.key := fun e2 => e (keys_ne hs ho hj e2).symm
      rw [hn.other hne2]
      exact h.same1 x (List.mem_of_getElem? hj)
  · have hko : k ≠ o.key := fun e => hkk o' (List.mem_of_getElem? (by rw [List.getElem?_set, if_pos rfl, if_pos hlt])) (by rw [hk, e])
    rw [hn.other hko]
    refine h.same2 k fun x hx e => ?_
    obtain ⟨j, hj⟩ := List.getElem?_of_mem hx
    by_cases e2 : at_ = j
    · subst e2
      rw [ho] at hj
      injection hj with hj
      exact hko (by rw [← e, hj])
    · exact hkk x (List.mem_of_getElem? (by rw [List.getElem?_set, if_neg e2]; exact hj)) e
/-- A new key, of which nothing is known. -/
theorem RunK.insert {a b : List Ln} {o : Ln} (h : RunK N M qs (a ++ b)) (hk : ∀ x ∈ a ++ b, x.key ≠ o.key) (ho : o.ln = ([], [])) : RunK N (M + 1) qs (a ++ o :: b) := by
  refine ⟨h.bnd, h.len, h.ne, by have := h.osl; rw [List.length_append] at *; rw [List.length_cons]; omega, fun x hx => ?_, fun k hkk => h.same2 k fun x hx => hkk x (by
    rcases List.mem_append.1 hx with e | e
    · exact List.mem_append_left _ e
    · exact List.mem_append_right _ (List.mem_cons_of_mem _ e))⟩
  have hx' : x = o ∨ x ∈ a ++ b := by
    rcases List.mem_append.1 hx with e | e
    · exact .inr (List.mem_append_left _ e)
    · rcases List.mem_cons.1 e with e | e
      · exact .inl e
      · exact .inr (List.mem_append_right _ e)
  rcases hx' with e | e
  · rw [e, ho]; exact h.same2 o.key hk
  · exact h.same1 x e
end
#print axioms RunL.set
#print axioms RunK.ask
#print axioms RunK.insert
end Go.Proofs.Ytcceankldiafpaa.Lock
