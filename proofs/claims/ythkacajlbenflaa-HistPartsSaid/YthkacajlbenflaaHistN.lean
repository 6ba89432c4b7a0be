/- The maker in memory, whatever its sessions and transactions; what each change of it leaves. -/
import Derived.Test.YthkacajlbenflaaHistM
import Derived.Test.YthkacajlbenflaaTid
import Derived.Test.YthkacajlbenflaaRange
set_option linter.unusedVariables false
set_option linter.unusedSimpArgs false
set_option linter.unusedSectionVars false
namespace Go.Proofs.Ythkacajlbenflaa.HistG
open Go.RowKit Go.WideShapes Go.Deep Go.Proofs.Ythkacajlbenflaa.Mem Go.Proofs.Ythkacajlbenflaa.Maps Go.Proofs.Ythkacajlbenflaa.Kv Go.Proofs.Ythkacajlbenflaa.Open Go.Proofs.Ythkacajlbenflaa.HistA
def enP (p : Int × Int) : Value := .agg #[.int .i64 p.1, .int .i64 p.2]
def enB (g : Nat) : Value := .pointer (some ⟨g, 0, none⟩)
def enN (n : Nat) : Value := .int .i64 n
def PlOk (p : Int × Int) : Prop := (Lit.int .i64 p.1).wf = true ∧ (Lit.int .i64 p.2).wf = true
theorem key_place (p : Int × Int) (h : PlOk p) : ∃ l, keyOf Try.prog 71 (enP p) = some l := by
  obtain ⟨a, b⟩ := p
  obtain ⟨h1, h2⟩ := h
  unfold keyOf
  rw [Try.underlying71]
  have k1 : Try.prog.keyType 71 = true := by kernel_rfl
  have k2 : (enP (a, b)).formed Try.prog 71 = true := by
    simp [Value.formed, enP, Try.underlying71]
    kernel_rfl
  simp only [k1, k2, Bool.and_true, if_true, Option.map_eq_some_iff]
  have h3 : ∃ d, Try.prog.types.size + 1 = d + 2 := ⟨Try.prog.types.size - 1, by kernel_rfl⟩
  obtain ⟨d, hd⟩ := h3
  rw [hd]
  have h4 : Try.prog.cellsOf 71 = 2 := by kernel_rfl
  have h6 : Try.prog.cellsOf 3 = 1 := by kernel_rfl
  refine ⟨_, [.int .i64 a, .int .i64 b], ?_, rfl⟩
  simp [Program.keyLits, Try.underlying71, Try.underlying3, enP, Value.cells, h1, h2, h4, h6]
theorem km_pl : Km Try.prog 71 enP PlOk :=
  ⟨Maps.Keyed.of_law (deep_law_laid Tid.laidOut (m := 2) (by omega) (of_decide_eq_true (by kernel_rfl)) (by kernel_rfl) (by kernel_rfl)), fun x hx => key_place x hx, fun x y e => by
    obtain ⟨a, b⟩ := x
    obtain ⟨c, d⟩ := y
    simp [enP] at e
    obtain ⟨rfl, rfl⟩ := e
    rfl⟩
/-- A transaction, and where its ops lie. -/
structure TxP where
  t : TxR
  A : Option Addr
  c : Nat
def TxP.ov (x : TxP) : Value := .slice x.A x.t.ops.length x.c
def TxP.cs (x : TxP) : List Value := [.int .u64 x.t.num, .int .i64 x.t.nd, .int .i64 x.t.begin_, .int .i64 x.t.fin, .bool x.t.asked, .bool x.t.lost, x.ov]
def txc (xs : List TxP) : List Value := xs.flatMap TxP.cs
theorem txc_len : ∀ xs : List TxP, (txc xs).length = xs.length * 7
  | [] => rfl
  | x :: xs => by
    show (x.cs ++ txc xs).length = _
    rw [List.length_append, txc_len xs]
    show 7 + xs.length * 7 = (xs.length + 1) * 7
    omega
theorem txc_append (a b : List TxP) : txc (a ++ b) = txc a ++ txc b := by simp [txc]
theorem txc_one (xs : List TxP) : One (txc xs) := fun u hu => by
  obtain ⟨x, _, hx⟩ := List.mem_flatMap.1 hu
  simp only [TxP.cs, TxP.ov, List.mem_cons, List.not_mem_nil, or_false] at hx
  rcases hx with rfl | rfl | rfl | rfl | rfl | rfl | rfl <;> rfl
theorem txc_at : ∀ {xs : List TxP} {i : Nat} {x : TxP}, xs[i]? = some x → ∀ (j : Nat) (u : Value), x.cs[j]? = some u → (txc xs)[i * 7 + j]? = some u
  | [], i, x, h => by simp at h
  | p :: xs, 0, x, h => by
    have h' : p = x := by simpa using h
    subst h'
    intro j u hu
    have hl : j < p.cs.length := (List.getElem?_eq_some_iff.1 hu).1
    show (p.cs ++ txc xs)[0 * 7 + j]? = _
    rw [Nat.zero_mul, Nat.zero_add, List.getElem?_append_left hl]
    exact hu
  | p :: xs, i + 1, x, h => by
    have h' : xs[i]? = some x := by simpa using h
    intro j u hu
    show (p.cs ++ txc xs)[(i + 1) * 7 + j]? = _
    have hl : p.cs.length = 7 := rfl
    rw [List.getElem?_append_right (by omega), hl, show (i + 1) * 7 + j - 7 = i * 7 + j by omega]
    exact txc_at h' _ _ hu
/-- One cell of a transaction is laid anew. -/
theorem txc_set : ∀ {xs : List TxP} {i : Nat} {x y : TxP} {j : Nat} {u : Value}, xs[i]? = some x → j < 7 → y.cs = x.cs.set j u → (txc xs).set (i * 7 + j) u = txc (xs.set i y)
  | [], i, x, y, j, u, h => by simp at h
  | p :: xs, 0, x, y, j, u, h => fun hj hy => by
    have h' : p = x := by simpa using h
    subst h'
    have hl : p.cs.length = 7 := rfl
    show (p.cs ++ txc xs).set (0 * 7 + j) u = y.cs ++ txc xs
    rw [Nat.zero_mul, Nat.zero_add, List.set_append_left _ _ (by omega), hy]
  | p :: xs, i + 1, x, y, j, u, h => fun hj hy => by
    have h' : xs[i]? = some x := by simpa using h
    have hl : p.cs.length = 7 := rfl
    show (p.cs ++ txc xs).set ((i + 1) * 7 + j) u = p.cs ++ txc (xs.set i y)
    rw [List.set_append_right _ _ (by omega), hl, show (i + 1) * 7 + j - 7 = i * 7 + j by omega, txc_set h' hj hy]
def sesRow (s : SesR) : Array Value := #[.int .i64 s.sess, .int .i64 s.req, .int .i64 s.kind, .string s.key, .string s.val, .bool s.busy, .int .u64 s.num, .int .i64 s.nd, .bool s.opn]
/-- The maker in memory. -/
structure MkG (w : World) (B gm ba bs N : Nat) (m : MkR) (pp : List ((Int × Int) × Nat)) (xs : List TxP) (av : Value) : Prop where
  mkr : w.heap[gm]? = some (.cells #[av, .map (some ba), .map (some bs)] 67 (0, 0))
  at_ : MapAt Tid.encT enN Tid.IdOk w ba m.at_
  sm : MapAt enP enB PlOk w bs pp
  some_ : ∀ p g, getM pp p = some g → ∃ s, getM m.ss p = some s ∧ w.heap[g]? = some (.cells (sesRow s) 84 (0, 0))
  none_ : ∀ p, getM pp p = none → getM m.ss p = none
  inj : ∀ p q g, getM pp p = some g → getM pp q = some g → p = q
  all : m.all = xs.map TxP.t
  own : Own w B 39 7 av xs.length (txc xs)
  ops : ∀ x ∈ xs, Own w B 54 4 x.ov x.t.ops.length (oc x.t.ops)
  apart : ∀ (i j : Nat) (x y : TxP), xs[i]? = some x → xs[j]? = some y → i ≠ j → ∀ g, x.ov.ownBlock = some g → ¬ y.ov.ownBlock = some g
  idx : ∀ t i, getM m.at_ t = some i → i < m.all.length
  sid : ∀ p s, getM m.ss p = some s → Tid.IdOk (s.num, s.nd)
  lenx : xs.length ≤ N
  leno : ∀ x ∈ xs, x.t.ops.length ≤ N
  bm : B ≤ gm
  bat : B ≤ ba
  bss : B ≤ bs
  bse : ∀ p g, getM pp p = some g → B ≤ g
  ne : ba ≠ bs
section
variable {w w' : World} {B gm ba bs N g : Nat} {m : MkR} {pp : List ((Int × Int) × Nat)} {xs : List TxP} {av : Value}
theorem map_not_row {κ ν : Type} [DecidableEq κ] {enc : κ → Value} {encv : ν → Value} {Ok : κ → Prop} {ms : List (κ × ν)} {b : Nat} (h : MapAt enc encv Ok w b ms) {cs : Array Value} {t : TypeId} {f : Nat × Nat} (hg : w.heap[g]? = some (.cells cs t f)) : b ≠ g := fun e => by
  obtain ⟨es, c, h1, _⟩ := h
  subst e
  rw [h1] at hg
  injection hg with hg
  cases hg
theorem own_not_row {b k n : Nat} {e t : TypeId} {v : Value} {ys : List Value} (h : Own w b e k v n ys) {cs : Array Value} {f : Nat × Nat} (hg : w.heap[g]? = some (.cells cs t f)) (he : e ≠ t) : ¬ v.ownBlock = some g := fun hb => by
  rcases h.2 with ⟨e0, _⟩ | ⟨g', off, cap, cur, e0, _, hg', _⟩
  · rw [e0] at hb; cases hb
  · rw [e0] at hb
    injection hb with hb
    subst hb
    rw [hg'] at hg
    injection hg with hg
    injection hg with _ hg
    exact he hg
theorem own_not_map {κ ν : Type} [DecidableEq κ] {enc : κ → Value} {encv : ν → Value} {Ok : κ → Prop} {ms : List (κ × ν)} {a b k n : Nat} {e : TypeId} {v : Value} {ys : List Value} (h : Own w b e k v n ys) (hm : MapAt enc encv Ok w a ms) : ¬ v.ownBlock = some a := fun hb => by
  obtain ⟨es, c, h1, _⟩ := hm
  rcases h.2 with ⟨e0, _⟩ | ⟨g', off, cap, cur, e0, _, hg', _⟩
  · rw [e0] at hb; cases hb
  · rw [e0] at hb
    injection hb with hb
    subst hb
    rw [hg'] at h1
    injection h1 with h1
    cases h1
theorem rows_ne {t u : TypeId} {a b : Nat} {c d : Array Value} {f e : Nat × Nat} (h1 : w.heap[a]? = some (.cells c t f)) (h2 : w.heap[b]? = some (.cells d u e)) (hne : t ≠ u) : a ≠ b := fun e1 => by
  subst e1
  rw [h1] at h2
  injection h2 with h2
  injection h2 with _ h2
  exact hne h2
theorem MkG.more {N' : Nat} (h : MkG w B gm ba bs N m pp xs av) (hN : N ≤ N') : MkG w B gm ba bs N' m pp xs av :=
  { h with lenx := Nat.le_trans h.lenx hN, leno := fun x hx => Nat.le_trans (h.leno x hx) hN }
/-- Blocks of which nothing is the maker's may turn. -/
theorem MkG.kept (h : MkG w B gm ba bs N m pp xs av) (hk : ∀ g, (g = gm ∨ g = ba ∨ g = bs ∨ (∃ p, getM pp p = some g) ∨ av.ownBlock = some g ∨ ∃ x ∈ xs, x.ov.ownBlock = some g) → w'.heap[g]? = w.heap[g]?) : MkG w' B gm ba bs N m pp xs av :=
  { h with
    mkr := (hk gm (.inl rfl)).trans h.mkr
    at_ := h.at_.kept (hk ba (.inr (.inl rfl)))
    sm := h.sm.kept (hk bs (.inr (.inr (.inl rfl))))
    some_ := fun p g hg => by
      obtain ⟨s, h1, h2⟩ := h.some_ p g hg
      exact ⟨s, h1, (hk g (.inr (.inr (.inr (.inl ⟨p, hg⟩))))).trans h2⟩
    own := h.own.kept fun g hg => hk g (.inr (.inr (.inr (.inr (.inl hg)))))
    ops := fun x hx => (h.ops x hx).kept fun g hg => hk g (.inr (.inr (.inr (.inr (.inr ⟨x, hx, hg⟩))))) }
theorem MkG.below (h : MkG w B gm ba bs N m pp xs av) (hb : Below w.heap.size w w') : MkG w' B gm ba bs N m pp xs av :=
  h.kept fun g hg => hb.block g (by
    rcases hg with rfl | rfl | rfl | ⟨p, hp⟩ | hg | ⟨x, hx, hg⟩
    · exact (Array.getElem?_eq_some_iff.1 h.mkr).1
    · exact h.at_.lt
    · exact h.sm.lt
    · obtain ⟨s, _, h2⟩ := h.some_ p g hp
      exact (Array.getElem?_eq_some_iff.1 h2).1
    · exact (h.own.lt g hg).2
    · exact ((h.ops x hx).lt g hg).2)
/-- A session's row is laid anew. -/
theorem MkG.sess {p : Int × Int} {s' : SesR} (h : MkG w B gm ba bs N m pp xs av) (hp : getM pp p = some g) (hf : Fr (fun k => k = g) w w') (hr : w'.heap[g]? = some (.cells (sesRow s') 84 (0, 0))) (hid : Tid.IdOk (s'.num, s'.nd)) : MkG w' B gm ba bs N { m with ss := setM m.ss p s' } pp xs av := by
  obtain ⟨s0, hs0, hrow⟩ := h.some_ p g hp
  have hout : ∀ k, k < w.heap.size → k ≠ g → w'.heap[k]? = w.heap[k]? := fun k hk hne => hf.block k hk hne
  refine { h with
    mkr := (hout gm (Array.getElem?_eq_some_iff.1 h.mkr).1 (rows_ne h.mkr hrow (by decide))).trans h.mkr
    at_ := h.at_.kept (hout ba h.at_.lt (map_not_row h.at_ hrow))
    sm := h.sm.kept (hout bs h.sm.lt (map_not_row h.sm hrow))
    some_ := fun q k hq => ?_
    none_ := fun q hq => ?_
    own := h.own.fr hf fun k hk e => own_not_row h.own hrow (by decide) (by rw [← e]; exact hk)
    ops := fun x hx => (h.ops x hx).fr hf fun k hk e => own_not_row (h.ops x hx) hrow (by decide) (by rw [← e]; exact hk)
    sid := fun q s1 hq => ?_ }
  · dsimp only
    by_cases e : p = q
    · subst e
      rw [hp] at hq
      injection hq with hq
      subst hq
      exact ⟨s', by rw [getM_set, if_pos rfl], hr⟩
    · obtain ⟨s1, h1, h2⟩ := h.some_ q k hq
      refine ⟨s1, by rw [getM_set, if_neg e]; exact h1, (hout k (Array.getElem?_eq_some_iff.1 h2).1 fun e2 => ?_).trans h2⟩
      subst e2
      exact e (h.inj p q k hp hq)
  · dsimp only
    rw [getM_set, if_neg (fun e => by rw [e, hq] at hp; cases hp)]
    exact h.none_ q hq
  · dsimp only at hq
    rw [getM_set] at hq
    split at hq
    · injection hq with hq; rw [← hq]; exact hid
    · exact h.sid q s1 hq
/-- A session is struck. -/
theorem MkG.strike {p : Int × Int} (h : MkG w B gm ba bs N m pp xs av) (hm : MapAt enP enB PlOk w' bs (delM pp p)) (ht : Turned w w' bs) : MkG w' B gm ba bs N { m with ss := delM m.ss p } (delM pp p) xs av := by
  have hout : ∀ k, k < w.heap.size → k ≠ bs → w'.heap[k]? = w.heap[k]? := fun k hk hne => ht.fr.block k hk hne
  refine { h with
    mkr := (hout gm (Array.getElem?_eq_some_iff.1 h.mkr).1 (fun e => map_not_row h.sm h.mkr e.symm)).trans h.mkr
    at_ := h.at_.kept (hout ba h.at_.lt h.ne)
    sm := hm
    some_ := fun q k hq => ?_
    none_ := fun q hq => ?_
    inj := fun q r k h1 h2 => ?_
    own := h.own.fr ht.fr fun k hk e => own_not_map h.own h.sm (by rw [← e]; exact hk)
    ops := fun x hx => (h.ops x hx).fr ht.fr fun k hk e => own_not_map (h.ops x hx) h.sm (by rw [← e]; exact hk)
    sid := fun q s1 hq => ?_
    bse := fun q k hq => ?_ }
  · dsimp only
    rw [getM_del] at hq
    split at hq
    · cases hq
    · rename_i e
      obtain ⟨s1, h1, h2⟩ := h.some_ q k hq
      exact ⟨s1, by rw [getM_del, if_neg e]; exact h1, (hout k (Array.getElem?_eq_some_iff.1 h2).1 (fun e2 => map_not_row h.sm h2 e2.symm)).trans h2⟩
  · dsimp only
    rw [getM_del] at hq ⊢
    split
    · rfl
    · rename_i e
      rw [if_neg e] at hq
      exact h.none_ q hq
  · rw [getM_del] at h1 h2
    split at h1
    · cases h1
    split at h2
    · cases h2
    exact h.inj q r k h1 h2
  · dsimp only at hq
    rw [getM_del] at hq
    split at hq
    · cases hq
    · exact h.sid q s1 hq
  · rw [getM_del] at hq
    split at hq
    · cases hq
    · exact h.bse q k hq
/-- A new session: its row lies in a new block; the map has it. -/
theorem MkG.new {p : Int × Int} {s' : SesR} {gs : Nat} (h : MkG w B gm ba bs N m pp xs av) (hr : w.heap[gs]? = some (.cells (sesRow s') 84 (0, 0))) (hB : B ≤ gs) (hnew : ∀ q k, getM pp q = some k → k ≠ gs) (hm : MapAt enP enB PlOk w' bs (setM pp p gs)) (ht : Turned w w' bs) (hid : Tid.IdOk (s'.num, s'.nd)) : MkG w' B gm ba bs N { m with ss := setM m.ss p s' } (setM pp p gs) xs av := by
  have hout : ∀ k, k < w.heap.size → k ≠ bs → w'.heap[k]? = w.heap[k]? := fun k hk hne => ht.fr.block k hk hne
  refine { h with
    mkr := (hout gm (Array.getElem?_eq_some_iff.1 h.mkr).1 (fun e => map_not_row h.sm h.mkr e.symm)).trans h.mkr
    at_ := h.at_.kept (hout ba h.at_.lt h.ne)
    sm := hm
    some_ := fun q k hq => ?_
    none_ := fun q hq => ?_
    inj := fun q r k h1 h2 => ?_
    own := h.own.fr ht.fr fun k hk e => own_not_map h.own h.sm (by rw [← e]; exact hk)
    ops := fun x hx => (h.ops x hx).fr ht.fr fun k hk e => own_not_map (h.ops x hx) h.sm (by rw [← e]; exact hk)
    sid := fun q s1 hq => ?_
    bse := fun q k hq => ?_ }
  · dsimp only
    rw [getM_set] at hq
    split at hq
    · rename_i e
      injection hq with hq
      subst hq
      exact ⟨s', by rw [getM_set, if_pos e], (hout gs (Array.getElem?_eq_some_iff.1 hr).1 (fun e2 => map_not_row h.sm hr e2.symm)).trans hr⟩
    · rename_i e
      obtain ⟨s1, h1, h2⟩ := h.some_ q k hq
      exact ⟨s1, by rw [getM_set, if_neg e]; exact h1, (hout k (Array.getElem?_eq_some_iff.1 h2).1 (fun e2 => map_not_row h.sm h2 e2.symm)).trans h2⟩
  · dsimp only
    rw [getM_set] at hq ⊢
    split at hq
    · cases hq
    · rename_i e
      rw [if_neg e]
      exact h.none_ q hq
  · rw [getM_set] at h1 h2
    split at h1
    · rename_i e1
      injection h1 with h1
      split at h2
      · rename_i e2; rw [← e1, ← e2]
      · exact absurd h1.symm (hnew r k h2)
    · split at h2
      · injection h2 with h2
        exact absurd h2.symm (hnew q k h1)
      · exact h.inj q r k h1 h2
  · dsimp only at hq
    rw [getM_set] at hq
    split at hq
    · injection hq with hq; rw [← hq]; exact hid
    · exact h.sid q s1 hq
  · rw [getM_set] at hq
    split at hq
    · injection hq with hq; rw [← hq]; exact hB
    · exact h.bse q k hq
/-- No iterator is the maker's. -/
theorem MkG.iter {a c d e} (h : MkG w B gm ba bs N m pp xs av) {r : Nat} (hr : w.heap[r]? = some (.mapIter a c d e)) (g : Nat) (hg : g = gm ∨ g = ba ∨ g = bs ∨ (∃ p, getM pp p = some g) ∨ av.ownBlock = some g ∨ ∃ x ∈ xs, x.ov.ownBlock = some g) : g ≠ r := fun e1 => by
  subst e1
  have own : ∀ {b k n : Nat} {t : TypeId} {v : Value} {ys : List Value}, Own w b t k v n ys → ¬ v.ownBlock = some g := fun {b k n t v ys} ho hb => by
    rcases ho.2 with ⟨e0, _⟩ | ⟨g', off, cap, cur, e0, _, hg', _⟩
    · rw [e0] at hb; cases hb
    · rw [e0] at hb
      injection hb with hb
      subst hb
      rw [hg'] at hr
      injection hr with hr
      cases hr
  rcases hg with rfl | rfl | rfl | ⟨p, hp⟩ | hg | ⟨x, hx, hg⟩
  · have := h.mkr; rw [this] at hr; injection hr with hr; cases hr
  · obtain ⟨es, c, h1, _⟩ := h.at_; rw [h1] at hr; injection hr with hr; cases hr
  · obtain ⟨es, c, h1, _⟩ := h.sm; rw [h1] at hr; injection hr with hr; cases hr
  · obtain ⟨s, _, h2⟩ := h.some_ p g hp; rw [h2] at hr; injection hr with hr; cases hr
  · exact own h.own hg
  · exact own (h.ops x hx) hg
/-- The maker's blocks are there. -/
theorem MkG.lt (h : MkG w B gm ba bs N m pp xs av) (g : Nat) (hg : g = gm ∨ g = ba ∨ g = bs ∨ (∃ p, getM pp p = some g) ∨ av.ownBlock = some g ∨ ∃ x ∈ xs, x.ov.ownBlock = some g) : g < w.heap.size := by
  rcases hg with rfl | rfl | rfl | ⟨p, hp⟩ | hg | ⟨x, hx, hg⟩
  · exact (Array.getElem?_eq_some_iff.1 h.mkr).1
  · exact h.at_.lt
  · exact h.sm.lt
  · obtain ⟨s, _, h2⟩ := h.some_ p g hp
    exact (Array.getElem?_eq_some_iff.1 h2).1
  · exact (h.own.lt g hg).2
  · exact ((h.ops x hx).lt g hg).2
/-- Only what is found counts of the sessions' list. -/
theorem MkG.ext (h : MkG w B gm ba bs N m pp xs av) {ss : List ((Int × Int) × SesR)} (he : ∀ p, getM ss p = getM m.ss p) : MkG w B gm ba bs N { m with ss := ss } pp xs av :=
  { h with
    some_ := fun p g hp => by
      obtain ⟨s, h1, h2⟩ := h.some_ p g hp
      exact ⟨s, (he p).trans h1, h2⟩
    none_ := fun p hp => (he p).trans (h.none_ p hp)
    sid := fun p s hs => h.sid p s ((he p).symm.trans hs) }
theorem own_two {e1 e2 : TypeId} {b1 b2 k1 k2 n1 n2 : Nat} {v1 v2 : Value} {ys zs : List Value} (h1 : Own w b1 e1 k1 v1 n1 ys) (h2 : Own w b2 e2 k2 v2 n2 zs) (hne : e1 ≠ e2) {g : Nat} (hg : v2.ownBlock = some g) : ¬ v1.ownBlock = some g := by
  rcases h2.2 with ⟨h0, _⟩ | ⟨g', off, cap, cur, h0, _, hg', _⟩
  · rw [h0] at hg; cases hg
  · rw [h0] at hg
    injection hg with hg
    subst hg
    exact own_not_row h1 hg' hne
/-- A cell of a transaction is laid anew. -/
theorem MkG.txn {i j n c off a : Nat} {x y : TxP} {u : Value} (h : MkG w B gm ba bs N m pp xs (.slice (some ⟨g, off, none⟩) n c)) (hx : xs[i]? = some x) (ha : a = off + (i * 7 + j)) (hj : j < 7) (hy : y.cs = x.cs.set j u) (hov : y.ov = x.ov) (hops : y.t.ops = x.t.ops) :
    MkG (w.setCell ⟨g, a, none⟩ u) B gm ba bs N { m with all := m.all.set i y.t } pp (xs.set i y) (.slice (some ⟨g, off, none⟩) n c) := by
  subst ha
  have hw : (Value.slice (some (⟨g, off, none⟩ : Addr)) n c).ownBlock = some g := rfl
  have hf : Fr (fun k => k = g) w (w.setCell ⟨g, off + (i * 7 + j), none⟩ u) := (Fr.refl (fun k => k = g) w).setCell (p := ⟨g, off + (i * 7 + j), none⟩) (.inl rfl) _
  have hout : ∀ k, k < w.heap.size → k ≠ g → (w.setCell ⟨g, off + (i * 7 + j), none⟩ u).heap[k]? = w.heap[k]? := fun k hk hne => hf.block k hk hne
  have hn : n = xs.length := by obtain ⟨A, c', e, _⟩ := h.own.slice_; injection e
  have hmem : ∀ z ∈ xs.set i y, z ∈ xs ∨ z = y := fun z hz => List.mem_or_eq_of_mem_set hz
  have hom := List.mem_of_getElem? hx
  have hopO : ∀ z ∈ xs, Own (w.setCell ⟨g, off + (i * 7 + j), none⟩ u) B 54 4 z.ov z.t.ops.length (oc z.t.ops) := fun z hz => (h.ops z hz).fr hf fun k hk e => own_two (h.ops z hz) h.own (by decide) (by rw [e]; exact hw) hk
  have hget : ∀ (k : Nat) (z : TxP), (xs.set i y)[k]? = some z → ∃ z', xs[k]? = some z' ∧ z'.ov = z.ov := fun k z hz => by
    rw [List.getElem?_set] at hz
    split at hz
    · rename_i e
      subst e
      rw [if_pos (List.getElem?_eq_some_iff.1 hx).1] at hz
      injection hz with hz
      subst hz
      exact ⟨x, hx, hov.symm⟩
    · exact ⟨z, hz, rfl⟩
  refine { h with
    mkr := (hout gm (Array.getElem?_eq_some_iff.1 h.mkr).1 (fun e => own_not_row h.own h.mkr (by decide) (by rw [e]; exact hw))).trans h.mkr
    at_ := h.at_.kept (hout ba h.at_.lt (fun e => own_not_map h.own h.at_ (by rw [e]; exact hw)))
    sm := h.sm.kept (hout bs h.sm.lt (fun e => own_not_map h.own h.sm (by rw [e]; exact hw)))
    some_ := fun p k hp => ?_
    all := by dsimp only; rw [h.all, List.map_set]
    own := ?_
    ops := fun z hz => ?_
    apart := fun a b z1 z2 h1 h2 hne k hk => ?_
    idx := fun t q hq => by dsimp only; rw [List.length_set]; exact h.idx t q hq
    lenx := by rw [List.length_set]; exact h.lenx
    leno := fun z hz => ?_ }
  · obtain ⟨s, h1, h2⟩ := h.some_ p k hp
    exact ⟨s, h1, (hout k (Array.getElem?_eq_some_iff.1 h2).1 (fun e => own_not_row h.own h2 (by decide) (by rw [e]; exact hw))).trans h2⟩
  · rw [List.length_set, ← txc_set hx hj hy]
    have h9 := (show Own w B 39 7 (.slice (some ⟨g, off, none⟩) n c) n (txc xs) from by rw [hn]; have h8 := h.own; rw [hn] at h8; exact h8).set (i * 7 + j) u
    rw [← hn]
    exact h9
  · rcases hmem z hz with e | e
    · exact hopO z e
    · rw [e, hov, hops]; exact hopO x hom
  · obtain ⟨z1', g1, e1⟩ := hget a z1 h1
    obtain ⟨z2', g2, e2⟩ := hget b z2 h2
    rw [← e1] at hk
    rw [← e2]
    exact h.apart a b z1' z2' g1 g2 hne k hk
  · rcases hmem z hz with e | e
    · exact h.leno z e
    · rw [e, hops]; exact h.leno x hom
theorem blk_b {w w' : World} {g : Nat} {o : Obj} (h : w.heap[g]? = some o) (hb : Below w.heap.size w w') : w'.heap[g]? = some o := (hb.block _ (Array.getElem?_eq_some_iff.1 h).1).trans h
theorem bl_turned {B : Nat} {a w w' : World} {b : Nat} (ht : Turned w w' b) (h : Below B a w) (hb : B ≤ b) : Below B a w' := below_turned ht h hb
end
#print axioms km_pl
#print axioms MkG.new
end Go.Proofs.Ythkacajlbenflaa.HistG
