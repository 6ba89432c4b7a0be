/- Tables of which one key alone is asked for; LockUps. -/
import Derived.Test.YtcceankldiafpaaLockK
import Derived.Test.YtcceankldiafpaaLockM
import Derived.Test.YtcceankldiafpaaLockH
set_option linter.unusedVariables false
set_option linter.unusedSimpArgs false
set_option linter.unusedSectionVars false
set_option maxRecDepth 100000
namespace Go.Proofs.Ytcceankldiafpaa.Lock
open Go.RowKit Go.WideShapes Go.Deep Go.Proofs.Ytcceankldiafpaa.Mem Go.Proofs.Ytcceankldiafpaa.Open Go.Proofs.Ytcceankldiafpaa.Maps
set_option maxHeartbeats 1000000 in
theorem elderL_any (w : World) (p q : Int × Int) : Calls Try.prog 11 #[.agg #[.int .u64 p.1, .int .i64 p.2], .agg #[.int .u64 q.1, .int .i64 q.2]] w fun e w' => e = .returned (.bool (elder p q)) ∧ Below w.heap.size w w' := by
  obtain ⟨r, hr⟩ : ∃ r, r = elder p q := ⟨_, rfl⟩
  rw [← hr]
  have HR := Lib.hid hr
  clear hr
  obtain ⟨a, c⟩ := p
  obtain ⟨b, d⟩ := q
  dsimp only
  go_enter Try.func11, Try.ntmps11
  by_cases h1 : a < b
  · go_wp2_with fail
    go_ret
    exact ⟨by rw [HR.out]; unfold elder; simp [h1], ((Below.refl _ _).alloc (Nat.le_refl _) _).alloc (by simp) _⟩
  · by_cases h2 : a = b
    · have b2 : (a == b) = true := by simp [h2]
      have h1' : ¬ b < a := by omega
      have H2 := Lib.hid h2
      have H1 := Lib.hid h1
      clear h2
      by_cases h3 : c < d
      · go_wp2_with fail
        go_ret
        exact ⟨by rw [HR.out]; unfold elder; simp [H2.out, h3], ((Below.refl _ _).alloc (Nat.le_refl _) _).alloc (by simp) _⟩
      · go_wp2_with fail
        go_ret
        exact ⟨by rw [HR.out]; unfold elder; simp [H2.out, h3], ((Below.refl _ _).alloc (Nat.le_refl _) _).alloc (by simp) _⟩
    · have b2 : (a == b) = false := by simp [h2]
      have H2 := Lib.hid h2
      clear h2
      go_wp2_with fail
      go_ret
      exact ⟨by rw [HR.out]; unfold elder; simp [H2.out, h1], ((Below.refl _ _).alloc (Nat.le_refl _) _).alloc (by simp) _⟩

/-- A table of which one key alone has anything. -/
structure One1 (w : World) (B lt mb : Nat) (k : S) (l : Line) (N : Nat) (qs : List (S × Qv)) : Prop where
  tb : Tb w B lt mb qs
  line : lineOf qs k = l
  else_ : ∀ k', k' ≠ k → lineOf qs k' = ([], [])
  bnd : Bnd qs N
  len : qs.length ≤ N
theorem Nxt.len {qs qs' : List (S × Qv)} {k : S} {l' : Line} (h : Nxt qs k l' qs') : qs'.length ≤ qs.length + 1 := by
  rcases h with ⟨rfl, _⟩ | ⟨q', rfl, _⟩
  · omega
  · rw [length_set]
    split <;> omega
theorem One1.new {w : World} {B lt mb : Nat} (h : Tb w B lt mb []) (k : S) : One1 w B lt mb k ([], []) 0 [] := ⟨h, rfl, fun _ _ => rfl, Bnd.nil, Nat.le_refl _⟩
theorem One1.below {w w' : World} {B lt mb : Nat} {k : S} {l : Line} {N : Nat} {qs : List (S × Qv)} (h : One1 w B lt mb k l N qs) (hb : Below w.heap.size w w') : One1 w' B lt mb k l N qs := ⟨h.tb.below hb, h.line, h.else_, h.bnd, h.len⟩
def Ask1 (w : World) (B lt mb : Nat) (k : S) (l' : Line) (N : Nat) (a : Int) (e : Ending) (w' : World) : Prop := e = .returned (.int .i64 a) ∧ (∃ qs', One1 w' B lt mb k l' (N + 1) qs') ∧ Below B w w'
theorem One1.ask {w : World} {B lt mb : Nat} {k : S} {l l' : Line} {N : Nat} {qs : List (S × Qv)} (h : One1 w B lt mb k l N qs) (hk : OkS k) (p : Int × Int) (m : Int) {a : Int} (hN : N ≤ 50000) (hv : askL l p m = (l', a)) :
    Calls Try.prog 13 #[.pointer (some ⟨lt, 0, none⟩), .agg #[.int .u64 p.1, .int .i64 p.2], .string k, .int .i64 m] w (Ask1 w B lt mb k l' N a) := by
  refine (ask_any h.tb hk p m fun k q hq => by have := h.bnd.rows hq; omega).mono ?_
  rintro e w' ⟨he, qs', h1, h2, h3⟩
  have h4 := h3.bnd h.bnd
  have h5 := h3.len
  have h6 := h.len
  have h7 := h.line
  rw [h7, hv] at he h3
  exact ⟨he, ⟨qs', h1, h3.line, fun k' hk' => by rw [h3.other hk']; exact h.else_ k' hk', h4, by omega⟩, h2.below h.tb⟩
theorem flat_one {κ α : Type} [DecidableEq κ] {f : κ → List α} {k : κ} : ∀ {ks : List κ}, ks.Nodup → k ∈ ks → (∀ k', k' ≠ k → f k' = []) → ks.flatMap f = f k
  | [], _, h, _ => by cases h
  | a :: ks, hn, h, he => by
    have hn' := List.nodup_cons.1 hn
    rw [List.flatMap_cons]
    by_cases e : a = k
    · subst e
      have : ks.flatMap f = [] := List.flatMap_eq_nil_iff.2 fun x hx => he x fun e => hn'.1 (e ▸ hx)
      rw [this, List.append_nil]
    · rw [he a e, List.nil_append]
      rcases List.mem_cons.1 h with h | h
      · exact absurd h.symm e
      · exact flat_one hn'.2 h he
theorem nodup_le {κ : Type} [DecidableEq κ] : ∀ {xs ys : List κ}, xs.Nodup → (∀ x, x ∈ xs → x ∈ ys) → xs.length ≤ ys.length
  | [], _, _, _ => Nat.zero_le _
  | x :: xs, ys, hn, h => by
    have hn' := List.nodup_cons.1 hn
    have hx := h x (List.mem_cons_self ..)
    have ih := nodup_le (xs := xs) (ys := ys.erase x) hn'.2 fun y hy => (List.mem_erase_of_ne (fun (e : y = x) => hn'.1 (by rw [← e]; exact hy))).2 (h y (List.mem_cons_of_mem _ hy))
    rw [List.length_erase_of_mem hx] at ih
    have := List.length_pos_of_mem hx
    rw [List.length_cons]
    omega
theorem freeL_nil (p : Int × Int) : freeL ([], []) p = (([], []), []) := rfl
def Free1 (w : World) (B lt mb : Nat) (k : S) (l' : Line) (N : Nat) (ws : List Wt) (e : Ending) (w' : World) : Prop := ∃ A c, e = .returned (.slice A ws.length c) ∧ GOwn w' w.heap.size (.slice A ws.length c) (grs k ws) ∧ (∃ qs', One1 w' B lt mb k l' (N + N) qs') ∧ Below B w w'
theorem One1.free {w : World} {B lt mb : Nat} {k : S} {l l' : Line} {ws : List Wt} {N : Nat} {qs : List (S × Qv)} (h : One1 w B lt mb k l N qs) (p : Int × Int) (hN : N ≤ 100) (hl : l ≠ ([], [])) (hf : freeL l p = (l', ws)) :
    Calls Try.prog 14 #[.pointer (some ⟨lt, 0, none⟩), .agg #[.int .u64 p.1, .int .i64 p.2]] w (Free1 w B lt mb k l' N ws) := by
  have hokk : ∀ q ∈ qs, OkS q.1 := by
    obtain ⟨_, _, _, _, h3, _⟩ := h.tb.fm
    exact h3
  have hnd := h.tb.fm.keys
  refine (free_any h.tb p (N := N) (by omega) h.bnd (by have := h.len; omega) hokk).mono ?_
  rintro e w' ⟨v, qs', ks, gs, he, hg, hT, hG, hp, hs, hi⟩
  have hkd : (ks.map ofB).Perm (qs.map (·.1)) := by
    have := hp.map ofB
    rw [List.map_map] at this
    exact this
  have hnk : (ks.map ofB).Nodup := hkd.nodup_iff.2 hnd
  have hmem : ∀ k', (k' ∈ ks.map ofB ↔ ∃ q, getM qs k' = some q) := fun k' => by
    rw [hkd.mem_iff]
    constructor
    · intro hm
      obtain ⟨q, hq, rfl⟩ := List.mem_map.1 hm
      obtain ⟨i, hi⟩ := List.getElem?_of_mem hq
      exact ⟨q.2, getM_at hnd hi⟩
    · rintro ⟨q, hq⟩
      exact List.mem_map.2 ⟨_, getM_mem hq, rfl⟩
  have hkin : k ∈ ks.map ofB := (hmem k).2 (by
    cases hq : getM qs k with
    | some q => exact ⟨q, rfl⟩
    | none =>
      refine absurd ?_ hl
      rw [← h.line]
      unfold lineOf
      rw [hq])
  have hgs : gs = grs k ws := by
    rw [hi.grants, flat_one (k := k) hnk hkin (fun k' hk' => by rw [h.else_ k' hk', freeL_nil]; rfl), h.line, hf]
  have hline : lineOf qs' k = l' := by rw [hi.inn k hkin, h.line, hf]
  have helse : ∀ k', k' ≠ k → lineOf qs' k' = ([], []) := fun k' hk' => by
    by_cases hm : k' ∈ ks.map ofB
    · rw [hi.inn k' hm, h.else_ k' hk', freeL_nil]
    · have := h.else_ k' hk'
      unfold lineOf at this ⊢
      rw [hi.out k' hm]
      exact this
  subst hgs
  obtain ⟨A, c, ev⟩ := hg.form
  rw [grs_len] at ev
  subst ev
  have hbn : Bnd qs' N := fun k' => by
    by_cases e : k' = k
    · subst e
      rw [hline]
      have h1 := freeL_len l p
      rw [hf] at h1
      have h2 := h.bnd k'
      rw [h.line] at h2
      dsimp only at h1
      omega
    · rw [helse k' e]
      exact Nat.zero_le _
  have hln : qs'.length ≤ qs.length := by
    have hnd' := hT.fm.keys
    unfold Keys1 at hnd hnd'
    have hsub : ∀ x, x ∈ qs'.map (·.1) → x ∈ qs.map (·.1) := fun x hx => by
      obtain ⟨q, hq, rfl⟩ := List.mem_map.1 hx
      obtain ⟨i, hi2⟩ := List.getElem?_of_mem hq
      have hq' := getM_at hnd' hi2
      refine Classical.byContradiction fun hn => ?_
      have hn2 : q.1 ∉ ks.map ofB := fun hm => hn (hkd.mem_iff.1 hm)
      rw [hi.out _ hn2] at hq'
      exact hn (List.mem_map.2 ⟨_, getM_mem hq', rfl⟩)
    have := nodup_le hnd' hsub
    simpa using this
  exact ⟨A, c, he, hg, ⟨qs', hT, hline, helse, fun k' => by have := hbn k'; omega, by have := h.len; omega⟩, hG.below h.tb⟩
#print axioms One1.free
end Go.Proofs.Ytcceankldiafpaa.Lock
