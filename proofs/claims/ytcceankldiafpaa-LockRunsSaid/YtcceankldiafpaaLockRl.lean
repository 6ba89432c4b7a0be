/- LockRuns: what each step leaves. -/
import Derived.Test.YtcceankldiafpaaLockRj
import Derived.Test.YtcceankldiafpaaLockR
import Derived.Test.YtcceankldiafpaaAbs
set_option linter.unusedVariables false
set_option linter.unusedSimpArgs false
set_option linter.unusedSectionVars false
set_option maxRecDepth 100000
namespace Go.Proofs.Ytcceankldiafpaa.Lock
open Go.RowKit Go.WideShapes Go.Deep Go.Proofs.Ytcceankldiafpaa.Mem Go.Proofs.Ytcceankldiafpaa.Open Go.Proofs.Ytcceankldiafpaa.Maps
theorem toL (a : S) : a.toList = a.data.toList := ByteArray.toList_eq a
def SomeV (v : Value) : Prop := ∃ g off n c, v = .slice (some ⟨g, off, none⟩) n c ∧ (n = 0 → c = 0)
/-- All that stands between two rounds. -/
structure RunS (w : World) (B lt mb N : Nat) (v : Value) : Prop where
  ex : ∃ qs os, Tb w B lt mb qs ∧ RunL w B mb qs v os ∧ RunK N N qs os ∧ SomeV v
/-- What the table's Ask leaves. -/
structure AskO (w w' : World) (B lt mb N : Nat) (qs qs' : List (S × Qv)) (k : S) (r : Line × Int) : Prop where
  tb : Tb w' B lt mb qs'
  go : TGo w w' mb qs qs'
  nxt : Nxt qs k r.1 qs'
  bnd : Bnd qs' (N + 1)
  ne : NE qs'
def AskF (w : World) (B lt mb N : Nat) (qs : List (S × Qv)) (k : S) (r : Line × Int) (e : Ending) (w' : World) : Prop := e = .returned (.int .i64 r.2) ∧ ∃ qs', AskO w w' B lt mb N qs qs' k r
theorem ask_full {w : World} {B lt mb N : Nat} {qs : List (S × Qv)} (h : Tb w B lt mb qs) {k : S} (hk : OkS k) (p : Int × Int) {m : Int} (hm : m = 1 ∨ m = 2) (hb : Bnd qs N) (hN : N ≤ 50000) (hne : NE qs) {l : Line} (hl : lineOf qs k = l) :
    Calls Try.prog 13 #[.pointer (some ⟨lt, 0, none⟩), .agg #[.int .u64 p.1, .int .i64 p.2], .string k, .int .i64 m] w (AskF w B lt mb N qs k (askL l p m)) := by
  subst hl
  refine (ask_any h hk p m fun k q hq => by have := hb.rows hq; omega).mono ?_
  rintro e w' ⟨he, qs', h1, h2, h3⟩
  refine ⟨he, qs', h1, h2, h3, h3.bnd hb, fun k' q hq => ?_⟩
  by_cases e : k' = k
  · subst e
    have hl := h3.line
    unfold lineOf at hl
    rw [hq] at hl
    have hn := ask_ne (lineOf qs k') p m hm
    unfold lineOf at hn
    rw [← hl] at hn
    exact hn
  · rcases h3 with ⟨rfl, _⟩ | ⟨q', rfl, _⟩
    · exact hne k' q hq
    · rw [getM_set, if_neg (fun e2 => e e2.symm)] at hq
      exact hne k' q hq
/-- A line turned, in a variable of its own. -/
structure NxR (O : Nat → Prop) (V w : World) (B gn : Nat) (k : S) (hv wv : Value) (l : Line) : Prop where
  row : w.heap[gn]? = some (.cells #[.string k, hv, wv] 52 (0, 0))
  h : LOwn w B hv l.1
  wt : LOwn w B wv l.2
  go : Below V.heap.size V w
  ge : V.heap.size ≤ gn
  ho : ∀ g, hv.ownBlock = some g → O g ∨ V.heap.size ≤ g
  wo : ∀ g, wv.ownBlock = some g → O g ∨ V.heap.size ≤ g
/-- A line as the law's ask, or free, answers it. -/
structure LnP (O : Nat → Prop) (V W w : World) (B : Nat) (hv wv : Value) (l : Line) : Prop where
  h : LOwn w B hv l.1
  wt : LOwn w B wv l.2
  vl : Below V.heap.size V W
  bl : Below W.heap.size W w
  ho : ∀ g, hv.ownBlock = some g → O g ∨ W.heap.size ≤ g
  wo : ∀ g, wv.ownBlock = some g → O g ∨ W.heap.size ≤ g
section
variable {O : Nat → Prop} {V W w : World} {B b gn lt mb N at_ : Nat} {hv wv gv : Value} {k : S} {l : Line} {gs : List Gr} {qs qs' : List (S × Qv)} {os : List Ln} {o : Ln}
theorem nx_set (h0 : W.heap[gn]? = some (.cells #[.string ⟨#[]⟩, .slice none 0 0, .slice none 0 0] 52 (0, 0))) (h1 : LOwn W B hv l.1) (h2 : LOwn W B wv l.2) (hb : Below V.heap.size V W) (hg : V.heap.size ≤ gn) (a1 : ∀ g, hv.ownBlock = some g → O g ∨ V.heap.size ≤ g) (a2 : ∀ g, wv.ownBlock = some g → O g ∨ V.heap.size ≤ g) (n1 : ∀ g, hv.ownBlock = some g → g ≠ gn) (n2 : ∀ g, wv.ownBlock = some g → g ≠ gn) :
    NxR O V ((((W).setCell ⟨gn, 0, none⟩ (.string k)).setCell ⟨gn, 1, none⟩ hv).setCell ⟨gn, 2, none⟩ wv) B gn k hv wv l := by
  have hf : Fr (fun g => g = gn) W ((((W).setCell ⟨gn, 0, none⟩ (.string k)).setCell ⟨gn, 1, none⟩ hv).setCell ⟨gn, 2, none⟩ wv) := (((Fr.refl (fun g => g = gn) W).setCell (p := ⟨gn, 0, none⟩) (.inl rfl) _).setCell (p := ⟨gn, 1, none⟩) (.inl rfl) _).setCell (p := ⟨gn, 2, none⟩) (.inl rfl) _
  exact ⟨row3_set h0, Own.fr h1 hf n1, Own.fr h2 hf n2, ((hb.setCell (p := ⟨gn, 0, none⟩) hg _).setCell (p := ⟨gn, 1, none⟩) hg _).setCell (p := ⟨gn, 2, none⟩) hg _, hg, a1, a2⟩
theorem nx_a (hp : LnP O V (V.alloc (.cells #[.string ⟨#[]⟩, .slice none 0 0, .slice none 0 0] 52)).drew w B hv wv l) (hO : ∀ g, O g → g < V.heap.size) : NxR O V ((((w).setCell ⟨V.heap.size, 0, none⟩ (.string k)).setCell ⟨V.heap.size, 1, none⟩ hv).setCell ⟨V.heap.size, 2, none⟩ wv) B V.heap.size k hv wv l := by
  have hs : (V.alloc (.cells #[.string ⟨#[]⟩, .slice none 0 0, .slice none 0 0] 52)).drew.heap.size = V.heap.size + 1 := by simp
  have n1 : ∀ v : Value, (∀ g, v.ownBlock = some g → O g ∨ (V.alloc (.cells #[.string ⟨#[]⟩, .slice none 0 0, .slice none 0 0] 52)).drew.heap.size ≤ g) → ∀ g, v.ownBlock = some g → g ≠ V.heap.size := fun v hv g hg => by
    rcases hv g hg with e | e
    · have := hO g e; omega
    · omega
  refine nx_set (blk_below (show (V.alloc (.cells #[.string ⟨#[]⟩, .slice none 0 0, .slice none 0 0] 52)).drew.heap[V.heap.size]? = some (.cells #[.string ⟨#[]⟩, .slice none 0 0, .slice none 0 0] 52 (0, 0)) from heap_alloc_new V _) hp.bl) hp.h hp.wt (hp.vl.trans (hp.bl.mono (by omega))) (Nat.le_refl _) (fun g hg => (hp.ho g hg).imp id (fun h => by omega)) (fun g hg => (hp.wo g hg).imp id (fun h => by omega)) (n1 _ hp.ho) (n1 _ hp.wo)
theorem z_row (hp : LnP O V (V.alloc (.cells #[.string ⟨#[]⟩, .slice none 0 0, .slice none 0 0] 52)).drew w B hv wv l) : w.heap[V.heap.size]? = some (.cells #[.string ⟨#[]⟩, .slice none 0 0, .slice none 0 0] 52 (0, 0)) :=
  blk_below (show (V.alloc (.cells #[.string ⟨#[]⟩, .slice none 0 0, .slice none 0 0] 52)).drew.heap[V.heap.size]? = some (.cells #[.string ⟨#[]⟩, .slice none 0 0, .slice none 0 0] 52 (0, 0)) from heap_alloc_new V _) hp.bl
theorem nx_b (hp : LnP O V V.drew w B hv wv l) : NxR O V (w.alloc (.cells #[.string k, hv, wv] 52)) B w.heap.size k hv wv l := by
  have hs : V.drew.heap.size = V.heap.size := rfl
  have hb : Below V.heap.size V w := hp.vl.trans hp.bl
  exact ⟨heap_alloc_new w _, Own.alloc hp.h _, Own.alloc hp.wt _, hb.alloc hb.size _, hb.size, fun g hg => (hp.ho g hg).imp id (fun h => by omega), fun g hg => (hp.wo g hg).imp id (fun h => by omega)⟩
theorem nxg_a (hg : GOwn w (V.alloc (.cells #[.string ⟨#[]⟩, .slice none 0 0, .slice none 0 0] 52)).drew.heap.size gv gs) : GOwn ((((w).setCell ⟨V.heap.size, 0, none⟩ (.string k)).setCell ⟨V.heap.size, 1, none⟩ hv).setCell ⟨V.heap.size, 2, none⟩ wv) V.heap.size gv gs := by
  have hs : (V.alloc (.cells #[.string ⟨#[]⟩, .slice none 0 0, .slice none 0 0] 52)).drew.heap.size = V.heap.size + 1 := by simp
  have hf : Fr (fun g => g = V.heap.size) w ((((w).setCell ⟨V.heap.size, 0, none⟩ (.string k)).setCell ⟨V.heap.size, 1, none⟩ hv).setCell ⟨V.heap.size, 2, none⟩ wv) := (((Fr.refl (fun g => g = V.heap.size) w).setCell (p := ⟨V.heap.size, 0, none⟩) (.inl rfl) _).setCell (p := ⟨V.heap.size, 1, none⟩) (.inl rfl) _).setCell (p := ⟨V.heap.size, 2, none⟩) (.inl rfl) _
  have h9 : GOwn _ (V.alloc (.cells #[.string ⟨#[]⟩, .slice none 0 0, .slice none 0 0] 52)).drew.heap.size _ _ := Own.fr hg hf (fun g hg' e => by have := (Own.lt hg g hg').1; omega)
  exact Own.base_ h9 (fun g hg' => by have := (Own.lt h9 g hg').1; omega)
theorem nxg_b (hg : GOwn w V.drew.heap.size gv gs) : GOwn (w.alloc (.cells #[.string k, hv, wv] 52)) V.heap.size gv gs := Own.alloc hg _
/-- A line that is turned, laid in its place. -/
theorem run_laid {g off n c : Nat} {B1 B2 : Option Addr} {m1 c1 m2 c2 : Nat} {W4 : World} (hL : RunL W4 B mb qs' (.slice (some ⟨g, off, none⟩) n c) os) (ho : os[at_]? = some o) (hk : o.key = k) (h1 : LOwn W4 B (.slice B1 m1 c1) l.1) (h2 : LOwn W4 B (.slice B2 m2 c2) l.2) (hap : ∀ x, ((Value.slice B1 m1 c1).ownBlock = some x ∨ (Value.slice B2 m2 c2).ownBlock = some x) → ¬ TFeet mb qs' x) (hlk : LkOk l) :
    RunL ((((W4).setCell ⟨g, off + at_ * 3, none⟩ (.string k)).setCell ⟨g, off + at_ * 3 + 1, none⟩ (.slice B1 m1 c1)).setCell ⟨g, off + at_ * 3 + 2, none⟩ (.slice B2 m2 c2)) B mb qs' (.slice (some ⟨g, off, none⟩) n c) (os.set at_ ⟨k, B1, m1, c1, B2, m2, c2, l.1, l.2⟩) := by
  have hown := hL.own
  have hn : n = os.length := by obtain ⟨_, _, e, _⟩ := hown.form_; injection e
  have hw : (Value.slice (some (⟨g, off, none⟩ : Addr)) n c).ownBlock = some g := rfl
  have hf : Fr (fun x => (Value.slice (some (⟨g, off, none⟩ : Addr)) n c).ownBlock = some x) W4 ((((W4).setCell ⟨g, off + at_ * 3, none⟩ (.string k)).setCell ⟨g, off + at_ * 3 + 1, none⟩ (.slice B1 m1 c1)).setCell ⟨g, off + at_ * 3 + 2, none⟩ (.slice B2 m2 c2)) := (((Fr.refl _ W4).setCell (p := ⟨g, off + at_ * 3, none⟩) (.inl hw) _).setCell (p := ⟨g, off + at_ * 3 + 1, none⟩) (.inl hw) _).setCell (p := ⟨g, off + at_ * 3 + 2, none⟩) (.inl hw) _
  have hn1 : m1 = l.1.length := by obtain ⟨_, _, e, _⟩ := h1.form_; injection e
  have hn2 : m2 = l.2.length := by obtain ⟨_, _, e, _⟩ := h2.form_; injection e
  refine RunL.set (o' := ⟨k, B1, m1, c1, B2, m2, c2, l.1, l.2⟩) hL ho hk.symm ⟨h1, h2⟩ hap hlk hf ?_
  have h3 := (((show Own W4 B 52 3 (.slice (some ⟨g, off, none⟩) n c) n (lnc os) by have h := hown; unfold NOwn at h; rw [← hn] at h; exact h).set (at_ * 3) (.string k)).set (at_ * 3 + 1) (.slice B1 m1 c1)).set (at_ * 3 + 2) (.slice B2 m2 c2)
  have h4 := lnc_set (ws := os) (i := at_) (x := ⟨k, B1, m1, c1, B2, m2, c2, l.1, l.2⟩) ho
  unfold NOwn
  rw [List.length_set, ← hn, ← h4]
  exact h3
/-- Behind Ask, of the law's line and of the table: all stands as it stood. -/
theorem run_asked {i : Nat} {W4 : World} {g off n c : Nat} {B1 B2 : Option Addr} {m1 c1 m2 c2 : Nat} {p : Int × Int} {m : Int} (hm : m = 1 ∨ m = 2) (hT : Tb V B lt mb qs) (hL : RunL V B mb qs (.slice (some ⟨g, off, none⟩) n c) os) (hK : RunK i (i + 1) qs os) (hsv : SomeV (.slice (some ⟨g, off, none⟩) n c)) (ho : os[at_]? = some o) (hk : o.key = k)
    (hx : NxR (OldB o.hv o.wv) V W B gn k (.slice B1 m1 c1) (.slice B2 m2 c2) (askL o.ln p m).1) (hA : AskO W W4 B lt mb i qs qs' k (askL o.ln p m)) :
    RunS ((((W4).setCell ⟨g, off + at_ * 3, none⟩ (.string k)).setCell ⟨g, off + at_ * 3 + 1, none⟩ (.slice B1 m1 c1)).setCell ⟨g, off + at_ * 3 + 2, none⟩ (.slice B2 m2 c2)) B lt mb (i + 1) (.slice (some ⟨g, off, none⟩) n c) := by
  have hom := List.mem_of_getElem? ho
  have hTW := hT.below hx.go
  have hLW := hL.below hx.go
  have hL4 := hLW.table hTW hA.go
  have hold : ∀ {u : Value} {ws : List Wt}, LOwn W B u ws → (∀ x, u.ownBlock = some x → OldB o.hv o.wv x ∨ V.heap.size ≤ x) → ∀ x, u.ownBlock = some x → ¬ TFeet mb qs x := fun {u ws} hu hq x hx' hf => by
    rcases hq x hx' with e | e
    · exact hL.ap o hom x e hf
    · have := (hT.feet hf).2; omega
  have hnew : ∀ {u : Value} {ws : List Wt}, LOwn W B u ws → (∀ x, u.ownBlock = some x → OldB o.hv o.wv x ∨ V.heap.size ≤ x) → ∀ x, u.ownBlock = some x → ¬ TFeet mb qs' x := fun {u ws} hu hq x hx' hf => by
    rcases hA.go.feet x hf with e | e
    · exact hold hu hq x hx' e
    · have := (hu.lt x hx').2; omega
  have hlk := ask_lk (hL.lk o hom) p m hm
  have hR := run_laid (l := (askL o.ln p m).1) hL4 ho hk (Own.fr hx.h hA.go.fr (hold hx.h hx.ho)) (Own.fr hx.wt hA.go.fr (hold hx.wt hx.wo)) (fun x hx' => by
    rcases hx' with e | e
    · exact hnew hx.h hx.ho x e
    · exact hnew hx.wt hx.wo x e) hlk
  have hw : (Value.slice (some (⟨g, off, none⟩ : Addr)) n c).ownBlock = some g := rfl
  have hf : Fr (fun x => (Value.slice (some (⟨g, off, none⟩ : Addr)) n c).ownBlock = some x) W4 ((((W4).setCell ⟨g, off + at_ * 3, none⟩ (.string k)).setCell ⟨g, off + at_ * 3 + 1, none⟩ (.slice B1 m1 c1)).setCell ⟨g, off + at_ * 3 + 2, none⟩ (.slice B2 m2 c2)) := (((Fr.refl _ W4).setCell (p := ⟨g, off + at_ * 3, none⟩) (.inl hw) _).setCell (p := ⟨g, off + at_ * 3 + 1, none⟩) (.inl hw) _).setCell (p := ⟨g, off + at_ * 3 + 2, none⟩) (.inl hw) _
  refine ⟨_, _, hA.tb.row hL4.own (by decide) (by decide) (by decide) hf, hR, ?_, hsv⟩
  exact (hK.ask hL.sorted ho (o' := ⟨k, B1, m1, c1, B2, m2, c2, (askL o.ln p m).1.1, (askL o.ln p m).1.2⟩) hk.symm (by rw [hk]; exact hA.nxt) rfl hA.bnd hA.ne).more (Nat.le_refl _) (by omega)
/-- A store into the law's row: of all else. -/
theorem laid_fr {k : S} {W4 : World} {g off : Nat} {u1 u2 : Value} : Fr (fun x => x = g) W4 (((W4.setCell ⟨g, off + at_ * 3, none⟩ (.string k)).setCell ⟨g, off + at_ * 3 + 1, none⟩ u1).setCell ⟨g, off + at_ * 3 + 2, none⟩ u2) :=
  (((Fr.refl (fun x => x = g) W4).setCell (p := ⟨g, off + at_ * 3, none⟩) (.inl rfl) _).setCell (p := ⟨g, off + at_ * 3 + 1, none⟩) (.inl rfl) _).setCell (p := ⟨g, off + at_ * 3 + 2, none⟩) (.inl rfl) _
theorem run_asked3 {X : World} {i gy : Nat} {W4 : World} {g off n c : Nat} {B1 B2 : Option Addr} {m1 c1 m2 c2 : Nat} {p : Int × Int} {m : Int} {cs : Array Value} {t : TypeId} {f : Nat × Nat} (hm : m = 1 ∨ m = 2) (hT : Tb V B lt mb qs) (hL : RunL V B mb qs (.slice (some ⟨g, off, none⟩) n c) os) (hK : RunK i (i + 1) qs os) (hsv : SomeV (.slice (some ⟨g, off, none⟩) n c)) (ho : os[at_]? = some o) (hk : o.key = k)
    (hx : NxR (OldB o.hv o.wv) V W B gn k (.slice B1 m1 c1) (.slice B2 m2 c2) (askL o.ln p m).1) (hA : AskO W W4 B lt mb i qs qs' k (askL o.ln p m)) (hXV : Below X.heap.size X V) (hXB : X.heap.size ≤ B) (hgy : V.heap[gy]? = some (.cells cs t f)) (hny : ¬ TFeet mb qs gy) (hty : (52 : TypeId) ≠ t) :
    RunS ((((W4).setCell ⟨g, off + at_ * 3, none⟩ (.string k)).setCell ⟨g, off + at_ * 3 + 1, none⟩ (.slice B1 m1 c1)).setCell ⟨g, off + at_ * 3 + 2, none⟩ (.slice B2 m2 c2)) B lt mb (i + 1) (.slice (some ⟨g, off, none⟩) n c) ∧ Below X.heap.size X ((((W4).setCell ⟨g, off + at_ * 3, none⟩ (.string k)).setCell ⟨g, off + at_ * 3 + 1, none⟩ (.slice B1 m1 c1)).setCell ⟨g, off + at_ * 3 + 2, none⟩ (.slice B2 m2 c2)) ∧ (((((W4).setCell ⟨g, off + at_ * 3, none⟩ (.string k)).setCell ⟨g, off + at_ * 3 + 1, none⟩ (.slice B1 m1 c1)).setCell ⟨g, off + at_ * 3 + 2, none⟩ (.slice B2 m2 c2))).heap[gy]? = some (.cells cs t f) := by
  have hTW := hT.below hx.go
  have hg5 := hL.own.lt g rfl
  have hne : gy ≠ g := fun e => own_ne_row hL.own hgy hty (by rw [e]; rfl)
  refine ⟨run_asked hm hT hL hK hsv ho hk hx hA, ?_, ?_⟩
  · have h1 : Below X.heap.size X W4 := (hXV.trans (hx.go.mono hXV.size)).trans ((hA.go.below hTW).mono hXB)
    exact ((h1.setCell (p := ⟨g, off + at_ * 3, none⟩) (Nat.le_trans hXB hg5.1) _).setCell (p := ⟨g, off + at_ * 3 + 1, none⟩) (Nat.le_trans hXB hg5.1) _).setCell (p := ⟨g, off + at_ * 3 + 2, none⟩) (Nat.le_trans hXB hg5.1) _
  · exact laid_fr.blk (hA.go.fr.blk (blk_below hgy hx.go) hny) hne
theorem bl_alloc {V W : World} (h : Below V.heap.size V W) (o : Obj) : Below V.heap.size V (W.alloc o) := h.alloc h.size o
theorem bl_setV {V W : World} {j : Nat} {u : Value} (h : Below V.heap.size V W) : Below V.heap.size V (W.setCell ⟨V.heap.size, j, none⟩ u) := h.setCell (Nat.le_refl _) u
theorem bl_setW {V W w1 : World} {j : Nat} {u : Value} (hw : V.heap.size ≤ w1.heap.size) (h : Below V.heap.size V W) : Below V.heap.size V (W.setCell ⟨w1.heap.size, j, none⟩ u) := h.setCell hw u
end
#print axioms run_asked3
end Go.Proofs.Ytcceankldiafpaa.Lock
