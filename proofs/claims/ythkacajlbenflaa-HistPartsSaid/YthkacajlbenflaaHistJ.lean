/- Pair, and what Of makes of the head's six events. -/
import Derived.Test.YthkacajlbenflaaHistI
import Derived.Test.YthkacajlbenflaaHistD
import Derived.Test.YthkacajlbenflaaHistE
import Derived.Test.YthkacajlbenflaaHistF
import Derived.Test.YthkacajlbenflaaHistG
import Derived.Test.YthkacajlbenflaaHistH
set_option linter.unusedVariables false
set_option linter.unusedSimpArgs false
set_option linter.unusedSectionVars false
namespace Go.Proofs.Ythkacajlbenflaa.HistA
open Go.RowKit Go.WideShapes Go.Deep Go.Proofs.Ythkacajlbenflaa.Mem Go.Proofs.Ythkacajlbenflaa.Maps Go.Proofs.Ythkacajlbenflaa.Kv Go.Proofs.Ythkacajlbenflaa.Open
/-- A call and its answer. -/
def pairEv (r kind : Int) (k v : S) (ac : Int) (av : S) (ah : Bool) (num nd : Int) : List EvV :=
  [⟨r, 0, 1, r, kind, k, v, 0, 0, 0, ⟨#[]⟩, false, 0, 0, false, false⟩, ⟨r, 0, 0, 0, 0, ⟨#[]⟩, ⟨#[]⟩, 1, r, ac, av, ah, num, nd, true, false⟩]
theorem pair_any (w : World) (r kind : Int) (k v : S) (a0 a1 ac : Int) (av : S) (ah : Bool) (num nd : Int) :
    Calls Try.prog 20 #[.int .i64 r, .int .i64 kind, .string k, .string v, .agg #[.int .i64 a0, .int .i64 a1, .int .i64 ac, .string av, .bool ah, .int .u64 num, .int .i64 nd]] w fun e w' =>
      ∃ g, w.heap.size ≤ g ∧ e = .returned (.slice (some ⟨g, 0, none⟩) 2 2) ∧ w'.heap[g]? = some (.cells (evc (pairEv r kind k v ac av ah num nd)).toArray 34 (0, 0)) ∧ Below w.heap.size w w' := by
  go_enter Try.func20, Try.ntmps20
  go_wp2_with fail
  go_ret
  refine ⟨_, ?_, rfl, ?_, ?_⟩
  · omega
  · have h9 := heap_alloc_new (w.alloc (.cells #[.int .i64 1, .int .i64 r, .int .i64 ac, .string av, .bool ah, .int .u64 num, .int .i64 nd] 32)) (.cells (evc (pairEv r kind k v ac av ah num nd)).toArray 34)
    rw [World.size_alloc] at h9
    exact h9
  · exact ((Below.refl _ _).alloc (Nat.le_refl _) _).alloc (by simp) _
theorem St.below {B : Nat} {w w' : World} {gm ba bs gs : Nat} {av : Value} {s : Array Value} {am : List ((Int × Int) × Nat)} (h : St B w gm ba bs gs av s am) (hb : Below w.heap.size w w') : St B w' gm ba bs gs av s am :=
  ⟨(hb.block _ (Array.getElem?_eq_some_iff.1 h.fm).1).trans h.fm, MapAt.below h.fs hb, MapAt.below h.fa hb, (hb.block _ (Array.getElem?_eq_some_iff.1 h.fg).1).trans h.fg, h.lm, h.ls, h.la, h.lg, h.ne⟩
theorem TAt.below {B : Nat} {w w' : World} {A : Nat} {l : List Value} (h : TAt B w A l) (hb : Below w.heap.size w w') : TAt B w' A l :=
  ⟨(hb.block _ (Array.getElem?_eq_some_iff.1 h.1).1).trans h.1, h.2⟩
def sv (r kind : Int) (k v : S) (busy : Bool) (num : Int) (open_ : Bool) : Array Value := #[.int .i64 1, .int .i64 r, .int .i64 kind, .string k, .string v, .bool busy, .int .u64 num, .int .i64 0, .bool open_]
def tl (en : Int) (asked : Bool) (ov : Value) (l : List Value) : List Value := .int .u64 7 :: .int .i64 0 :: .int .i64 1 :: .int .i64 en :: .bool asked :: .bool false :: ov :: l
def ol (l : List Value) : List Value := .int .i64 3 :: .string ⟨#[97]⟩ :: .string ⟨#[120]⟩ :: .bool false :: l
/-- The maker behind j of the head's events. -/
def HInv (B : Nat) : Nat → World → Prop
  | 0, w => w.heap[B + 2]? = some (.cells #[.slice none 0 0, .map (some B), .map (some (B + 1))] 67 (0, 0)) ∧ SessAt w (B + 1) [] ∧ AtAt w B []
  | 1, w => ∃ gs, St B w (B + 2) B (B + 1) gs (.slice none 0 0) (sv 1 1 ⟨#[]⟩ ⟨#[]⟩ true 0 false) []
  | 2, w => ∃ gs A c l, St B w (B + 2) B (B + 1) gs (.slice (some ⟨A, 0, none⟩) 1 c) (sv 1 1 ⟨#[]⟩ ⟨#[]⟩ false 7 true) [((7, 0), 0)] ∧ TAt B w A (tl 0 false (.slice none 0 0) l)
  | 3, w => ∃ gs A c l, St B w (B + 2) B (B + 1) gs (.slice (some ⟨A, 0, none⟩) 1 c) (sv 2 3 ⟨#[97]⟩ ⟨#[120]⟩ true 7 true) [((7, 0), 0)] ∧ TAt B w A (tl 0 false (.slice none 0 0) l)
  | 4, w => ∃ gs A c l go co lo, St B w (B + 2) B (B + 1) gs (.slice (some ⟨A, 0, none⟩) 1 c) (sv 2 3 ⟨#[97]⟩ ⟨#[120]⟩ false 7 true) [((7, 0), 0)] ∧ TAt B w A (tl 0 false (.slice (some ⟨go, 0, none⟩) 1 co) l) ∧ w.heap[go]? = some (.cells (ol lo).toArray 54 (0, 0))
  | 5, w => ∃ gs A c l go co lo, St B w (B + 2) B (B + 1) gs (.slice (some ⟨A, 0, none⟩) 1 c) (sv 3 5 ⟨#[]⟩ ⟨#[]⟩ true 7 true) [((7, 0), 0)] ∧ TAt B w A (tl 0 true (.slice (some ⟨go, 0, none⟩) 1 co) l) ∧ w.heap[go]? = some (.cells (ol lo).toArray 54 (0, 0))
  | _ + 6, w => ∃ gs A c l go co lo, St B w (B + 2) B (B + 1) gs (.slice (some ⟨A, 0, none⟩) 1 c) (sv 3 5 ⟨#[]⟩ ⟨#[]⟩ false 7 false) [((7, 0), 0)] ∧ TAt B w A (tl 3 true (.slice (some ⟨go, 0, none⟩) 1 co) l) ∧ w.heap[go]? = some (.cells (ol lo).toArray 54 (0, 0))
theorem blk_below {w w' : World} {g : Nat} {o : Obj} (h : w.heap[g]? = some o) (hb : Below w.heap.size w w') : w'.heap[g]? = some o := (hb.block _ (Array.getElem?_eq_some_iff.1 h).1).trans h
theorem HInv.below {B : Nat} {w w' : World} (hb : Below w.heap.size w w') : ∀ {j : Nat}, HInv B j w → HInv B j w'
  | 0, h => ⟨blk_below h.1 hb, MapAt.below h.2.1 hb, MapAt.below h.2.2 hb⟩
  | 1, ⟨gs, h⟩ => ⟨gs, h.below hb⟩
  | 2, ⟨gs, A, c, l, h, t⟩ => ⟨gs, A, c, l, h.below hb, t.below hb⟩
  | 3, ⟨gs, A, c, l, h, t⟩ => ⟨gs, A, c, l, h.below hb, t.below hb⟩
  | 4, ⟨gs, A, c, l, go, co, lo, h, t, o⟩ => ⟨gs, A, c, l, go, co, lo, h.below hb, t.below hb, blk_below o hb⟩
  | 5, ⟨gs, A, c, l, go, co, lo, h, t, o⟩ => ⟨gs, A, c, l, go, co, lo, h.below hb, t.below hb, blk_below o hb⟩
  | _ + 6, ⟨gs, A, c, l, go, co, lo, h, t, o⟩ => ⟨gs, A, c, l, go, co, lo, h.below hb, t.below hb, blk_below o hb⟩
def headEvs : List EvV := (pairEv 1 1 ⟨#[]⟩ ⟨#[]⟩ 0 ⟨#[]⟩ false 7 0 ++ pairEv 2 3 ⟨#[97]⟩ ⟨#[120]⟩ 0 ⟨#[]⟩ false 7 0) ++ pairEv 3 5 ⟨#[]⟩ ⟨#[]⟩ 0 ⟨#[]⟩ false 7 0
theorem head_steps (B : Nat) : Steps headEvs B (B + 2) (HInv B) := by
  intro j e he W hB hI
  match j with
  | 0 =>
    have h : _ = e := Option.some.inj he
    subst h
    refine ⟨fun h => (by cases h), fun _ h => (by cases h), fun _ _ => ?_⟩
    obtain ⟨h1, h2, h3⟩ := hI
    refine (call_new W ⟨_, _, _, rfl⟩ h1 h2 1 ⟨#[]⟩ ⟨#[]⟩).mono ?_
    rintro x W' ⟨rfl, gs, hg, hr, hs, hf⟩
    have hne : ¬ (B = B + 1) := by omega
    exact ⟨rfl, ⟨gs, hf.blk h1 (by omega), hs, MapAt.kept h3 (hf.block _ h3.lt hne), hr, by omega, by omega, by omega, by omega, hne⟩, hf.below hB (fun i _ e => by omega)⟩
  | 1 =>
    have h : _ = e := Option.some.inj he
    subst h
    refine ⟨fun h => (by cases h), fun _ _ => ?_, fun _ h => (by cases h)⟩
    obtain ⟨gs, h⟩ := hI
    refine (said_begin W hB h 1 ⟨#[]⟩ false).mono ?_
    rintro x W' ⟨rfl, ⟨A, c, l, h', t'⟩, hb⟩
    exact ⟨rfl, ⟨gs, A, c, l, h', t'⟩, hb⟩
  | 2 =>
    have h : _ = e := Option.some.inj he
    subst h
    refine ⟨fun h => (by cases h), fun _ h => (by cases h), fun _ _ => ?_⟩
    obtain ⟨gs, A, c, l, h, t⟩ := hI
    refine (call_put W hB h t ⟨#[97]⟩ ⟨#[120]⟩).mono ?_
    rintro x W' ⟨rfl, h', t', hb⟩
    exact ⟨rfl, ⟨gs, A, c, l, h', t'⟩, hb⟩
  | 3 =>
    have h : _ = e := Option.some.inj he
    subst h
    refine ⟨fun h => (by cases h), fun _ _ => ?_, fun _ h => (by cases h)⟩
    obtain ⟨gs, A, c, l, h, t⟩ := hI
    refine (said_put W hB h t 2 ⟨#[]⟩ false).mono ?_
    rintro x W' ⟨rfl, h', ⟨go, co, lo, t', o'⟩, hb⟩
    exact ⟨rfl, ⟨gs, A, c, l, go, co, lo, h', t', o'⟩, hb⟩
  | 4 =>
    have h : _ = e := Option.some.inj he
    subst h
    refine ⟨fun h => (by cases h), fun _ h => (by cases h), fun _ _ => ?_⟩
    obtain ⟨gs, A, c, l, go, co, lo, h, t, o⟩ := hI
    refine (call_commit W hB h t o ⟨#[]⟩ ⟨#[]⟩).mono ?_
    rintro x W' ⟨rfl, h', t', o', hb⟩
    exact ⟨rfl, ⟨gs, A, c, l, go, co, lo, h', t', o'⟩, hb⟩
  | 5 =>
    have h : _ = e := Option.some.inj he
    subst h
    refine ⟨fun h => (by cases h), fun _ _ => ?_, fun _ h => (by cases h)⟩
    obtain ⟨gs, A, c, l, go, co, lo, h, t, o⟩ := hI
    refine (said_commit W hB h t o 3 ⟨#[]⟩ false).mono ?_
    rintro x W' ⟨rfl, h', t', o', hb⟩
    exact ⟨rfl, ⟨gs, A, c, l, go, co, lo, h', t', o'⟩, hb⟩
  | n + 6 =>
    exact absurd (List.getElem?_eq_some_iff.1 he).1 (by simp [headEvs, pairEv])
def HRes (v : Value) (w : World) : Prop := ∃ A c l go co lo, v = .slice (some ⟨A, 0, none⟩) 1 c ∧ w.heap[A]? = some (.cells (tl 3 true (.slice (some ⟨go, 0, none⟩) 1 co) l).toArray 39 (0, 0)) ∧ w.heap[go]? = some (.cells (ol lo).toArray 54 (0, 0))
theorem of_head (w : World) {A : Option Addr} {c : Nat} (h : Rd w w.heap.size 16 (.slice A 6 c) 6 (evc headEvs)) :
    Calls Try.prog 9 #[.slice A 6 c] w fun x w' => ∃ v, x = .returned v ∧ HRes v w' ∧ Below w.heap.size w w' :=
  of_any (es := headEvs) w h (HInv w.heap.size) (fun j W W' hi _ hb => hi.below hb)
    (fun W h0 h1 h2 => ⟨h2, ⟨#[], 0, h1, rfl, by simp, by simp [Keys1], MapKept.stamped_empty 0⟩, ⟨#[], 0, h0, rfl, by simp, by simp [Keys1], MapKept.stamped_empty 0⟩⟩)
    (head_steps w.heap.size)
    (fun W ⟨gs, A, c, l, go, co, lo, h, t, o⟩ => ⟨_, h.fm, A, c, l, go, co, lo, rfl, t.1, o⟩)
end Go.Proofs.Ythkacajlbenflaa.HistA
