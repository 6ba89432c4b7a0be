/- A frame behind a letter: a drawn region of a large frame is walked over 'A', of which only the slots that it reads are known. -/
import Derived.Test.YthkacajlbenflaaMem
import Derived.Deep.Cut
set_option linter.unusedVariables false
set_option linter.unusedSimpArgs false
namespace Go.Proofs.Ythkacajlbenflaa.Mem
open Go.RowKit
/-- The region r of a code. -/
def regOf (r : Nat) : Code → Option Code
  | .region id ops d => if id = r then some (.region id ops d) else none
  | .loop c => regOf r c
  | .seq a b => match regOf r a with
    | some c => some c
    | none => regOf r b
  | .block _ c => regOf r c
  | .scope c => regOf r c
  | .cond _ a b => match regOf r a with
    | some c => some c
    | none => regOf r b
  | _ => none
def regF (r : Nat) (f : Func) : Code := (f.body.bind (regOf r)).getD .skip
theorem getD_put (xs : Array Value) (i j : Nat) (v d : Value) (h : i < xs.size) : (xs.setIfInBounds i v).getD j d = if i = j then v else xs.getD j d := by
  by_cases e : i = j
  · subst e; simp [h]
  · simp [e]
/-- What a piece that never panics, returns or jumps asks of its end. -/
def Nrm (N : Act → World → Prop) : Exit → Act → World → Prop
  | .normal, a, w => N a w
  | _, _, _ => False
theorem abs_frame {P : Program} {c : Code} {Q : Exit → Act → World → Prop} {a : Act} {w : World} (h : ∀ (A : Act) (N : Act → World → Prop), A = a → (∀ a w, Q .normal a w → N a w) → c.wp P (Nrm N) A w) : c.wp P Q a w :=
  wp_mono (h a (Q .normal) rfl (fun _ _ h => h)) fun e a w hq => by cases e <;> first | exact hq | exact hq.elim
/-- The same within 'go_cut''s first case: the end is a meeting. -/
theorem abs_cut {P : Program} {c : Code} {K J : Act → World → Prop} {Q' : Exit → Act → World → Prop} {a : Act} {w : World} (hJ : ∀ a' w', Met J a' w' → K a' w') (h : ∀ (A : Act) (N : Act → World → Prop), A = a → (∀ a w, Met J a w → N a w) → c.wp P (Nrm N) A w) : c.wp P (Exit.then K Q') a w :=
  wp_mono (h a (fun a w => Met J a w) rfl (fun _ _ h => h)) fun e a w hq => by cases e <;> first | exact hJ _ _ hq | exact hq.elim
/-- Of the frame A' all slots but p's are A's. -/
structure Keeps (p : Nat → Bool) (A A' : Act) : Prop where
  df : A'.defers = A.defers
  sz : A'.tmps.size = A.tmps.size
  at_ : ∀ i, p i = false → A'.tmps[i]? = A.tmps[i]?
theorem Keeps.refl (p : Nat → Bool) (A : Act) : Keeps p A ⟨A.tmps, A.defers⟩ := ⟨rfl, rfl, fun _ _ => rfl⟩
theorem Keeps.same (p : Nat → Bool) (A : Act) : Keeps p A A := ⟨rfl, rfl, fun _ _ => rfl⟩
theorem Keeps.set {p : Nat → Bool} {A : Act} {t : Array Value} {d : List Deferred} {i : Nat} {v : Value} (h : Keeps p A ⟨t, d⟩) (hi : p i = true) : Keeps p A ⟨t.setIfInBounds i v, d⟩ := by
  refine ⟨h.df, by have := h.sz; simpa using this, fun j hj => ?_⟩
  have hne : i ≠ j := fun e => by rw [e, hj] at hi; cases hi
  have := h.at_ j hj
  simpa [hne] using this
theorem Keeps.put {p : Nat → Bool} {A B : Act} {d : Option Tmp} {i : Nat} {v : Value} (h : Keeps p A B) (hd : d = some i) (hi : p i = true) : Keeps p A (B.put d v) := by
  subst hd
  exact Keeps.set (t := B.tmps) (d := B.defers) h hi
def fillF (p : Nat → Bool) (f : Nat → Value) : Nat → List Value → List Value
  | _, [] => []
  | i, v :: vs => cond (p i) (f i) v :: fillF p f (i + 1) vs
theorem fillF_len (p : Nat → Bool) (f : Nat → Value) : ∀ (i : Nat) (l : List Value), (fillF p f i l).length = l.length
  | _, [] => rfl
  | i, v :: vs => by
    show (fillF p f (i + 1) vs).length + 1 = vs.length + 1
    rw [fillF_len p f (i + 1) vs]
theorem fillF_at (p : Nat → Bool) (f : Nat → Value) : ∀ (i : Nat) (l : List Value) (j : Nat), (fillF p f i l)[j]? = (l[j]?).map fun v => cond (p (i + j)) (f (i + j)) v
  | _, [], j => by simp [fillF]
  | i, v :: vs, 0 => by simp [fillF]
  | i, v :: vs, j + 1 => by
    show (fillF p f (i + 1) vs)[j]? = (vs[j]?).map _
    rw [fillF_at p f (i + 1) vs j, show i + 1 + j = i + (j + 1) by omega]
theorem Keeps.lit {p : Nat → Bool} {l : List Value} {d : List Deferred} {A' : Act} (h : Keeps p ⟨l.toArray, d⟩ A') : A' = ⟨(fillF p (fun i => A'.tmps.getD i undef) 0 l).toArray, d⟩ := by
  obtain ⟨t, d'⟩ := A'
  obtain ⟨h1, h2, h3⟩ := h
  dsimp only at h1 h2 h3 ⊢
  subst h1
  congr 1
  apply Array.ext'
  rw [List.toList_toArray]
  apply List.ext_getElem?
  intro j
  rw [fillF_at, Nat.zero_add, Array.getElem?_toList]
  have hsz : t.size = l.length := by simpa using h2
  by_cases hj : j < l.length
  · have e1 : t[j]? = some (t.getD j undef) := by
      have hj' : j < t.size := by omega
      simp [hj']
    cases hp : p j with
    | true => rw [List.getElem?_eq_getElem hj]; exact e1
    | false =>
      have := h3 j hp
      rw [this]
      simp [hj]
  · rw [Array.getElem?_eq_none (by omega), List.getElem?_eq_none (by omega)]
    rfl
theorem Keeps.of_fill {p : Nat → Bool} {l l' : List Value} {d : List Deferred} (h : l' = fillF p (fun i => l'.getD i undef) 0 l) : Keeps p ⟨l.toArray, d⟩ ⟨l'.toArray, d⟩ := by
  obtain ⟨f, hf⟩ : ∃ f, f = fun i => l'.getD i undef := ⟨_, rfl⟩
  rw [← hf] at h
  clear hf
  subst h
  refine ⟨rfl, by simp [fillF_len], fun i hi => ?_⟩
  show (fillF p f 0 l).toArray[i]? = l.toArray[i]?
  rw [List.getElem?_toArray, List.getElem?_toArray, fillF_at, Nat.zero_add, hi]
  simp
end Go.Proofs.Ythkacajlbenflaa.Mem
