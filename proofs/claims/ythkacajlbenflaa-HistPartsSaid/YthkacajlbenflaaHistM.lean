/- What the maker makes of any events, in plain words; events of one node and then of another (HistParts). -/
import Derived.Test.YthkacajlbenflaaHistI
set_option linter.unusedVariables false
set_option linter.unusedSimpArgs false
set_option linter.unusedSectionVars false
namespace Go.Proofs.Ythkacajlbenflaa.HistA
open Go.RowKit Go.WideShapes Go.Deep Go.Proofs.Ythkacajlbenflaa.Mem Go.Proofs.Ythkacajlbenflaa.Maps Go.Proofs.Ythkacajlbenflaa.Kv Go.Proofs.Ythkacajlbenflaa.Open
/-- A session, as the maker keeps it. -/
structure SesR where
  sess : Int
  req : Int
  kind : Int
  key : S
  val : S
  busy : Bool
  num : Int
  nd : Int
  opn : Bool
/-- A transaction, as the maker keeps it. -/
structure TxR where
  num : Int
  nd : Int
  begin_ : Int
  fin : Int
  asked : Bool
  lost : Bool
  ops : List OpR
structure MkR where
  all : List TxR
  at_ : List ((Int × Int) × Nat)
  ss : List ((Int × Int) × SesR)
def MkR.nil : MkR := ⟨[], [], []⟩
def updT (l : List TxR) (i : Nat) (f : TxR → TxR) : List TxR := match l[i]? with | some t => l.set i (f t) | none => l
def callM (m : MkR) (e : EvV) : MkR :=
  match getM m.ss (e.node, e.cs) with
  | none => if e.cr = 1 ∧ 0 ≤ e.cs then { m with ss := setM m.ss (e.node, e.cs) ⟨e.cs, e.cr, e.ck, e.ckey, e.cval, true, 0, 0, false⟩ } else m
  | some s =>
    if s.busy ∨ wrap64 (e.cr - 1) ≠ s.req then m else
      { m with ss := setM m.ss (e.node, e.cs) { s with sess := e.cs, req := e.cr, kind := e.ck, key := e.ckey, val := e.cval, busy := true },
               all := match getM m.at_ (s.num, s.nd) with
                 | some i => if s.opn ∧ e.ck = 5 then updT m.all i fun t => { t with asked := true } else m.all
                 | none => m.all }
def fateB (c : Int) : Bool := decide (c ≠ 0) && decide (c ≠ 1) && decide (c ≠ 7) && decide (c ≠ 5)
/-- What an answer does to a transaction, and whether the session's stays open. -/
def sayT (s : SesR) (e : EvV) (t : TxR) : TxR × Bool :=
  if fateB e.ac then ({ t with lost := decide (e.ac ≠ 16) }, false)
  else if e.ac ≠ 0 then (t, s.opn)
  else if s.kind = 5 then ({ t with fin := e.step }, false)
  else if s.kind = 6 then ({ t with lost := true }, false)
  else if s.kind = 2 then ({ t with ops := t.ops ++ [⟨2, s.key, e.aval, e.ahas⟩] }, s.opn)
  else if s.kind = 3 then ({ t with ops := t.ops ++ [⟨3, s.key, s.val, false⟩] }, s.opn)
  else if s.kind = 4 then ({ t with ops := t.ops ++ [⟨4, s.key, ⟨#[]⟩, false⟩] }, s.opn)
  else (t, s.opn)
def saidM (m : MkR) (e : EvV) : MkR :=
  match getM m.ss (e.node, e.as_) with
  | none => m
  | some s =>
    if s.busy = false ∨ e.ar ≠ s.req then m else
    if e.ac = 17 then { m with ss := delM m.ss (e.node, e.as_) } else
    if s.kind = 1 ∧ e.ac = 0 then
      { all := m.all ++ [⟨e.anum, e.and_, e.step, 0, false, false, []⟩], at_ := setM m.at_ (e.anum, e.and_) m.all.length,
        ss := setM m.ss (e.node, e.as_) { s with busy := false, num := e.anum, nd := e.and_, opn := true } }
    else match getM m.at_ (s.num, s.nd) with
      | none => { m with ss := setM m.ss (e.node, e.as_) { s with busy := false } }
      | some i =>
        if s.opn = false then { m with ss := setM m.ss (e.node, e.as_) { s with busy := false } } else
        match m.all[i]? with
        | none => { m with ss := setM m.ss (e.node, e.as_) { s with busy := false } }
        | some t => { m with all := m.all.set i (sayT s e t).1, ss := setM m.ss (e.node, e.as_) { s with busy := false, opn := (sayT s e t).2 } }
def upM (m : MkR) (e : EvV) : MkR := { m with ss := m.ss.filter fun p => !decide (p.1.1 = e.node) }
def stepM (m : MkR) (e : EvV) : MkR := if e.up then upM m e else if e.said then saidM m e else callM m e
def ofM (es : List EvV) : MkR := es.foldl stepM MkR.nil
theorem ofM_snoc (es : List EvV) (e : EvV) : ofM (es ++ [e]) = stepM (ofM es) e := by simp [ofM]
theorem getM_filter {κ ν : Type} [DecidableEq κ] (q : κ → Bool) (x : κ) : ∀ ms : List (κ × ν), getM (ms.filter fun p => q p.1) x = if q x then getM ms x else none
  | [] => by simp [getM_nil]
  | p :: ms => by
    rw [List.filter_cons]
    by_cases hq : q p.1 = true
    · rw [if_pos hq, getM_cons, getM_cons, getM_filter q x ms]
      by_cases e : p.1 = x
      · rw [if_pos e, if_pos e, ← e, if_pos hq]
      · rw [if_neg e, if_neg e]
    · rw [if_neg hq, getM_cons, getM_filter q x ms]
      by_cases e : p.1 = x
      · rw [if_pos e, ← e, if_neg hq, if_neg hq]
      · rw [if_neg e]
/-- All that the maker knows lies within its list; its open sessions' names fit T. -/
structure MkOk (m : MkR) (T : Int × Int → Prop) : Prop where
  at_ : ∀ t i, getM m.at_ t = some i → i < m.all.length
  nm : ∀ t i, getM m.at_ t = some i → T t
  sn : ∀ p s, getM m.ss p = some s → s.opn = true → T (s.num, s.nd)
theorem updT_len (l : List TxR) (i : Nat) (f : TxR → TxR) : (updT l i f).length = l.length := by unfold updT; split <;> simp
theorem getM_set' {κ ν : Type} [DecidableEq κ] (ms : List (κ × ν)) (x y : κ) (v : ν) : getM (setM ms x v) y = if x = y then some v else getM ms y := getM_set ms x y v
theorem sayT_opn (s : SesR) (e : EvV) (t : TxR) (h : (sayT s e t).2 = true) : s.opn = true := by
  unfold sayT at h
  by_cases hf : fateB e.ac = true
  · rw [if_pos hf] at h; cases h
  rw [if_neg hf] at h
  by_cases h0 : e.ac ≠ 0
  · rw [if_pos h0] at h; exact h
  rw [if_neg h0] at h
  by_cases k5 : s.kind = 5
  · rw [if_pos k5] at h; cases h
  rw [if_neg k5] at h
  by_cases k6 : s.kind = 6
  · rw [if_pos k6] at h; cases h
  rw [if_neg k6] at h
  by_cases k2 : s.kind = 2
  · rw [if_pos k2] at h; exact h
  rw [if_neg k2] at h
  by_cases k3 : s.kind = 3
  · rw [if_pos k3] at h; exact h
  rw [if_neg k3] at h
  by_cases k4 : s.kind = 4
  · rw [if_pos k4] at h; exact h
  rw [if_neg k4] at h
  exact h
theorem step_ok {m : MkR} {T : Int × Int → Prop} (h : MkOk m T) (e : EvV) (he : e.up = false → e.said = true → T (e.anum, e.and_)) : MkOk (stepM m e) T := by
  unfold stepM
  split
  · refine ⟨h.at_, h.nm, fun p s hs ho => ?_⟩
    unfold upM at hs
    rw [getM_filter (fun q : Int × Int => !decide (q.1 = e.node))] at hs
    split at hs
    · exact h.sn p s hs ho
    · cases hs
  rename_i hup
  split
  · rename_i hsd
    have hT := he (by simpa using hup) hsd
    unfold saidM
    cases hg : getM m.ss (e.node, e.as_) with
    | none => exact h
    | some s =>
      dsimp only
      split
      · exact h
      split
      · refine ⟨h.at_, h.nm, fun p s' hs ho => ?_⟩
        dsimp only at hs
        rw [getM_del] at hs
        split at hs
        · cases hs
        · exact h.sn p s' hs ho
      split
      · refine ⟨fun t i hi => ?_, fun t i hi => ?_, fun p s' hs ho => ?_⟩
        · dsimp only at hi ⊢
          rw [getM_set'] at hi
          rw [List.length_append, List.length_singleton]
          split at hi
          · injection hi with hi; omega
          · have := h.at_ t i hi; omega
        · dsimp only at hi
          rw [getM_set'] at hi
          split at hi
          · rename_i e1; rw [← e1]; exact hT
          · exact h.nm t i hi
        · dsimp only at hs
          rw [getM_set'] at hs
          split at hs
          · injection hs with hs; rw [← hs]; exact hT
          · exact h.sn p s' hs ho
      have key : ∀ (s2 : SesR) (all2 : List TxR), s2.num = s.num → s2.nd = s.nd → (s2.opn = true → s.opn = true) → all2.length = m.all.length → MkOk { m with all := all2, ss := setM m.ss (e.node, e.as_) s2 } T := fun s2 all2 h1 h2 h3 h4 => by
        refine ⟨fun t i hi => by dsimp only; rw [h4]; exact h.at_ t i hi, h.nm, fun p s' hs ho => ?_⟩
        dsimp only at hs
        rw [getM_set'] at hs
        split at hs
        · injection hs with hs
          rw [← hs, h1, h2]
          exact h.sn _ s hg (h3 (by rw [hs]; exact ho))
        · exact h.sn p s' hs ho
      cases ha : getM m.at_ (s.num, s.nd) with
      | none => exact key _ _ rfl rfl (fun h => h) rfl
      | some i =>
        dsimp only
        split
        · exact key _ _ rfl rfl (fun h => h) rfl
        cases ht : m.all[i]? with
        | none => exact key _ _ rfl rfl (fun h => h) rfl
        | some t => exact key _ _ rfl rfl (sayT_opn s e t) (by simp)
  · unfold callM
    cases hg : getM m.ss (e.node, e.cs) with
    | none =>
      dsimp only
      split
      · refine ⟨h.at_, h.nm, fun p s' hs ho => ?_⟩
        dsimp only at hs
        rw [getM_set'] at hs
        split at hs
        · injection hs with hs; rw [← hs] at ho; cases ho
        · exact h.sn p s' hs ho
      · exact h
    | some s =>
      dsimp only
      split
      · exact h
      have hlen : ∀ all2 : List TxR, all2.length = m.all.length → MkOk { m with all := all2, ss := setM m.ss (e.node, e.cs) { s with sess := e.cs, req := e.cr, kind := e.ck, key := e.ckey, val := e.cval, busy := true } } T := fun all2 h4 => by
        refine ⟨fun t i hi => by dsimp only; rw [h4]; exact h.at_ t i hi, h.nm, fun p s' hs ho => ?_⟩
        dsimp only at hs
        rw [getM_set'] at hs
        split at hs
        · injection hs with hs
          rw [← hs] at ho ⊢
          exact h.sn _ s hg ho
        · exact h.sn p s' hs ho
      refine hlen _ ?_
      split
      · split
        · exact updT_len _ _ _
        · rfl
      · rfl
theorem nil_ok (T : Int × Int → Prop) : MkOk MkR.nil T := ⟨(fun t i h => by rw [show getM MkR.nil.at_ t = none from rfl] at h; cases h), (fun t i h => by rw [show getM MkR.nil.at_ t = none from rfl] at h; cases h), (fun p s h => by rw [show getM MkR.nil.ss p = none from rfl] at h; cases h)⟩
theorem ofM_ok {T : Int × Int → Prop} : ∀ (n : Nat) (es : List EvV), es.length = n → (∀ e ∈ es, e.up = false → e.said = true → T (e.anum, e.and_)) → MkOk (ofM es) T
  | 0, es, hl, _ => by obtain rfl := List.eq_nil_of_length_eq_zero hl; exact nil_ok T
  | n + 1, es, hl, h => by
    obtain ⟨es', o, rfl⟩ : ∃ l' q, es = l' ++ [q] := ⟨es.dropLast, es.getLast (by intro e; simp [e] at hl), (List.dropLast_concat_getLast _).symm⟩
    rw [ofM_snoc]
    exact step_ok (ofM_ok n es' (by simpa using hl) fun e he => h e (List.mem_append_left _ he)) o (h o (by simp))
/-- One node's maker b beside a's, in one: what a has, and behind it what b has. -/
structure Both (a b c : MkR) (T : Int × Int → Prop) : Prop where
  all : c.all = a.all ++ b.all
  ss : ∀ k, getM c.ss (1, k) = getM b.ss (1, k)
  at_ : ∀ t, T t → getM c.at_ t = (getM b.at_ t).map (· + a.all.length)
theorem updT_app (a b : List TxR) (i : Nat) (f : TxR → TxR) (h : i < b.length) : updT (a ++ b) (i + a.length) f = a ++ updT b i f := by
  unfold updT
  rw [List.getElem?_append_right (by omega), Nat.add_sub_cancel, List.getElem?_eq_getElem h]
  dsimp only
  rw [List.set_append_right _ _ (by omega), Nat.add_sub_cancel]
theorem both_step {a b c : MkR} {T : Int × Int → Prop} (h : Both a b c T) (hb : MkOk b T) (e : EvV) (hn : e.node = 1) (he : e.up = false → e.said = true → T (e.anum, e.and_)) : Both a (stepM b e) (stepM c e) T := by
  unfold stepM
  split
  · refine ⟨h.all, fun k => ?_, h.at_⟩
    unfold upM
    rw [hn, getM_filter (fun q : Int × Int => !decide (q.1 = 1)), getM_filter (fun q : Int × Int => !decide (q.1 = 1))]
    rfl
  rename_i hup
  have hset : ∀ (p : Int) (s : SesR) (k : Int), getM (setM c.ss (1, p) s) (1, k) = getM (setM b.ss (1, p) s) (1, k) := fun p s k => by
    rw [getM_set', getM_set', h.ss k]
  split
  · rename_i hsd
    have hT := he (by simpa using hup) hsd
    unfold saidM
    rw [hn, h.ss e.as_]
    cases hg : getM b.ss (1, e.as_) with
    | none => exact h
    | some s =>
      dsimp only
      split
      · exact h
      split
      · exact ⟨h.all, fun k => by dsimp only; rw [getM_del, getM_del, h.ss k], h.at_⟩
      split
      · refine ⟨by dsimp only; rw [h.all, List.append_assoc], fun k => hset _ _ k, fun t ht => ?_⟩
        dsimp only
        rw [getM_set', getM_set', h.at_ t ht]
        split
        · rw [h.all, List.length_append]
          show some _ = some _
          rw [Nat.add_comm]
        · rfl
      by_cases ho : s.opn = true
      · have hTs := hb.sn _ s hg ho
        rw [h.at_ _ hTs]
        cases ha : getM b.at_ (s.num, s.nd) with
        | none => exact ⟨h.all, fun k => hset _ _ k, h.at_⟩
        | some i =>
          have hi := hb.at_ _ i ha
          dsimp only [Option.map]
          rw [if_neg (by rw [ho]; simp), if_neg (by rw [ho]; simp)]
          rw [h.all, List.getElem?_append_right (by omega), Nat.add_sub_cancel, List.getElem?_eq_getElem hi]
          dsimp only
          refine ⟨?_, fun k => hset _ _ k, fun t ht => h.at_ t ht⟩
          dsimp only
          rw [List.set_append_right _ _ (by omega), Nat.add_sub_cancel]
      · have ho' : s.opn = false := by simpa using ho
        have e1 : ∀ (m : MkR) (q : Option Nat), (match q with
            | none => ({ m with ss := setM m.ss (1, e.as_) { s with busy := false } } : MkR)
            | some i => if s.opn = false then { m with ss := setM m.ss (1, e.as_) { s with busy := false } } else
              match m.all[i]? with
              | none => { m with ss := setM m.ss (1, e.as_) { s with busy := false } }
              | some t => { m with all := m.all.set i (sayT s e t).1, ss := setM m.ss (1, e.as_) { s with busy := false, opn := (sayT s e t).2 } }) = { m with ss := setM m.ss (1, e.as_) { s with busy := false } } := fun m q => by
          cases q with
          | none => rfl
          | some i => dsimp only; rw [if_pos ho']
        rw [e1 b, e1 c]
        exact ⟨h.all, fun k => hset _ _ k, h.at_⟩
  · unfold callM
    rw [hn, h.ss e.cs]
    cases hg : getM b.ss (1, e.cs) with
    | none =>
      dsimp only
      split
      · exact ⟨h.all, fun k => hset _ _ k, h.at_⟩
      · exact h
    | some s =>
      dsimp only
      split
      · exact h
      refine ⟨?_, fun k => hset _ _ k, h.at_⟩
      dsimp only
      by_cases ho : s.opn = true ∧ e.ck = 5
      · have hTs := hb.sn _ s hg ho.1
        rw [h.at_ _ hTs]
        cases ha : getM b.at_ (s.num, s.nd) with
        | none => exact h.all
        | some i =>
          dsimp only [Option.map]
          rw [if_pos ho, if_pos ho, h.all]
          exact updT_app _ _ _ _ (hb.at_ _ i ha)
      · have e1 : ∀ (l : List TxR) (q : Option Nat), (match q with
            | some i => if s.opn = true ∧ e.ck = 5 then updT l i fun t => { t with asked := true } else l
            | none => l) = l := fun l q => by
          cases q with
          | none => rfl
          | some i => dsimp only; rw [if_neg ho]
        rw [e1, e1]
        exact h.all
theorem at0 {T T0 : Int × Int → Prop} {m : MkR} (h : MkOk m T0) (hd : ∀ t, T t → ¬ T0 t) (t : Int × Int) (ht : T t) : getM m.at_ t = none := by
  cases hg : getM m.at_ t with
  | none => rfl
  | some i => exact absurd (h.nm t i hg) (hd t ht)
/-- Of node 0 no session of node 1 is known. -/
theorem ss0 : ∀ (n : Nat) (es : List EvV), es.length = n → (∀ e ∈ es, e.node = 0) → ∀ k, getM (ofM es).ss (1, k) = none
  | 0, es, hl, _, k => by obtain rfl := List.eq_nil_of_length_eq_zero hl; rfl
  | n + 1, es, hl, h, k => by
    obtain ⟨es', o, rfl⟩ : ∃ l' q, es = l' ++ [q] := ⟨es.dropLast, es.getLast (by intro e; simp [e] at hl), (List.dropLast_concat_getLast _).symm⟩
    have ih := ss0 n es' (by simpa using hl) (fun e he => h e (List.mem_append_left _ he)) k
    have ho := h o (by simp)
    rw [ofM_snoc]
    have hne : ∀ (q : Int) (s : SesR) (ss : List ((Int × Int) × SesR)), getM ss (1, k) = none → getM (setM ss (0, q) s) (1, k) = none := fun q s ss hs => by
      rw [getM_set', if_neg (by intro e; injection e with e; cases e)]
      exact hs
    unfold stepM
    split
    · unfold upM
      dsimp only
      rw [getM_filter (fun q : Int × Int => !decide (q.1 = o.node)), ih]
      split <;> rfl
    split
    · unfold saidM
      rw [ho]
      split
      · exact ih
      · split
        · exact ih
        split
        · dsimp only
          rw [getM_del, ih]
          split <;> rfl
        split
        · exact hne _ _ _ ih
        split
        · exact hne _ _ _ ih
        · split
          · exact hne _ _ _ ih
          · split
            · exact hne _ _ _ ih
            · exact hne _ _ _ ih
    · unfold callM
      rw [ho]
      split
      · split
        · exact hne _ _ _ ih
        · exact ih
      · split
        · exact ih
        · exact hne _ _ _ ih
/-- Events of node 0, and then of node 1 under other names, are the transactions of both. -/
theorem parts_all {xs ys : List EvV} (hx : ∀ e ∈ xs, e.node = 0) (hy : ∀ e ∈ ys, e.node = 1) (hd : ∀ y ∈ ys, y.said = true → ∀ x ∈ xs, x.said = true → ¬ (x.anum = y.anum ∧ x.and_ = y.and_)) : (ofM (xs ++ ys)).all = (ofM xs).all ++ (ofM ys).all := by
  obtain ⟨T, hT⟩ : ∃ T : Int × Int → Prop, T = fun t => ∃ y ∈ ys, y.said = true ∧ t = (y.anum, y.and_) := ⟨_, rfl⟩
  obtain ⟨T0, hT0⟩ : ∃ T : Int × Int → Prop, T = fun t => ∃ x ∈ xs, x.said = true ∧ t = (x.anum, x.and_) := ⟨_, rfl⟩
  have hok := ofM_ok (T := T0) xs.length xs rfl (fun e he _ hs => by rw [hT0]; exact ⟨e, he, hs, rfl⟩)
  have hdis : ∀ t, T t → ¬ T0 t := fun t ht h0 => by
    rw [hT] at ht
    rw [hT0] at h0
    obtain ⟨y, hy1, hy2, e1⟩ := ht
    obtain ⟨x, hx1, hx2, e2⟩ := h0
    rw [e1] at e2
    injection e2 with e3 e4
    exact hd y hy1 hy2 x hx1 hx2 ⟨e3.symm, e4.symm⟩
  have key : ∀ (n : Nat) (zs : List EvV), zs.length = n → (∀ e ∈ zs, e ∈ ys) → Both (ofM xs) (ofM zs) (ofM (xs ++ zs)) T := by
    intro n
    induction n with
    | zero =>
      intro zs hl _
      obtain rfl := List.eq_nil_of_length_eq_zero hl
      rw [List.append_nil]
      exact ⟨by show _ = _ ++ []; rw [List.append_nil], fun k => ss0 _ xs rfl hx k, fun t ht => at0 hok hdis t ht⟩
    | succ n ih =>
      intro zs hl hz
      obtain ⟨zs', o, rfl⟩ : ∃ l' q, zs = l' ++ [q] := ⟨zs.dropLast, zs.getLast (by intro e; simp [e] at hl), (List.dropLast_concat_getLast _).symm⟩
      have hTo : ∀ e ∈ zs' ++ [o], e.up = false → e.said = true → T (e.anum, e.and_) := fun e he _ hs => by rw [hT]; exact ⟨e, hz e he, hs, rfl⟩
      rw [← List.append_assoc, ofM_snoc, ofM_snoc]
      exact both_step (ih zs' (by simpa using hl) fun e he => hz e (List.mem_append_left _ he)) (ofM_ok zs'.length zs' rfl fun e he => hTo e (List.mem_append_left _ he)) o (hy o (hz o (by simp))) (hTo o (by simp))
  exact (key ys.length ys rfl fun e he => he).all
#print axioms parts_all
end Go.Proofs.Ythkacajlbenflaa.HistA
