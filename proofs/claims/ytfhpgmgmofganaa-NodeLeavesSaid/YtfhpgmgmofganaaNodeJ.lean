/- NodeLeaves: the walk. -/
import Derived.Test.YtfhpgmgmofganaaNodeK
set_option linter.unusedVariables false
set_option linter.unusedSimpArgs false
set_option linter.unusedSectionVars false
namespace Go.Proofs.Ytfhpgmgmofganaa.NodeA
open Go.RowKit Go.WideShapes Go.Deep Go.Proofs.Ytfhpgmgmofganaa.Mem Go.Proofs.Ytfhpgmgmofganaa.Open Go.Proofs.Ytfhpgmgmofganaa.Kv
set_option maxHeartbeats 4000000 in
set_option maxRecDepth 100000 in
theorem leaves_true {v0 : Value} {keys : List S} (w : World) (h : Rd w w.heap.size 1 v0 keys.length (sc keys)) (hn : keys.length ≤ 20) (hsz : ∀ k ∈ keys, k.size < 9223372036854775807) (k v : S) (hkz : k.size < 9223372036854775807) (hh : here (kp (leafK keys)) k = true) :
    Calls Try.prog 7 #[v0, .string k, .string v] w fun e w' => e = .returned (.bool true) ∧ Below w.heap.size w w' := by
  have HR : Hid (∀ W, Below w.heap.size w W → Rd W W.heap.size 1 v0 keys.length (sc keys)) := fun W hb => h.up hb
  obtain ⟨_, A, c, rfl, _, _, _⟩ := h
  obtain ⟨hri, hle⟩ := leafK_rise _ keys rfl
  have hmem : ∀ {x : S}, x ∈ leafK keys → x ∈ keys := fun hx => leafK_mem keys hx
  obtain ⟨ks, hks⟩ : ∃ ks, ks = leafK keys := ⟨_, rfl⟩
  obtain ⟨vs, hvs⟩ : ∃ vs, vs = ks.map vk := ⟨_, rfl⟩
  have hvl : vs.length = ks.length := by rw [hvs]; simp
  have HL : Hid (∀ W, Below w.heap.size w W → Calls Try.prog 9 #[.slice A keys.length c] W fun e w' => ∃ Ak ck Av cv, e = .returned (.agg #[.int .i64 1, .slice Ak ks.length ck, .slice Av vs.length cv, .slice none 0 0, .int .i64 0, .int .i64 0, .int .i64 0, .int .i64 0]) ∧ PgO w' W.heap.size (.slice Ak ks.length ck) (.slice Av vs.length cv) (.slice none 0 0) ⟨1, ks, vs, []⟩ ∧ Below W.heap.size W w') := fun W hb => leaf_row W (HR.out W hb) hn hsz hks hvs
  have hn2 : (keys.length : Int) ≤ 20 := by omega
  rw [← hks] at hri hle hh hmem
  have HSZ : Hid (∀ x ∈ ks, x.size < 9223372036854775807) := fun x hx => hsz x (hmem hx)
  obtain ⟨wl, hwl⟩ : ∃ l, l = withL (prs ks) k v := ⟨_, rfl⟩
  obtain ⟨qk, hqk⟩ : ∃ l, l = wl.map (·.1) := ⟨_, rfl⟩
  obtain ⟨qv, hqv⟩ : ∃ l, l = wl.map (·.2) := ⟨_, rfl⟩
  obtain ⟨dk, hdk⟩ : ∃ l, l = delK ks k := ⟨_, rfl⟩
  obtain ⟨dv, hdv⟩ : ∃ l, l = dk.map vk := ⟨_, rfl⟩
  have hwr : Rise wl := by rw [hwl]; exact rise_with (prs_rise hri) _ _
  have hpq : pgOf wl = ⟨1, qk, qv, []⟩ := by unfold pgOf; rw [← hqk, ← hqv]
  have hpd : leafOf dk = ⟨1, dk, dv, []⟩ := by unfold leafOf; rw [← hdv]
  have hpp : leafOf ks = ⟨1, ks, vs, []⟩ := by unfold leafOf; rw [← hvs]
  have hprl : (prs ks).length = ks.length := by simp [prs]
  have hql : qk.length = ks.length := by
    rw [hqk, List.length_map, hwl, length_with (prs_rise hri), prs_here, hh, hprl]; simp
  have hqvl : qv.length = qk.length := by rw [hqv, hqk]; simp
  have hdl : dk.length = ks.length - 1 := by
    rw [← kp_len, hdk, kp_del, length_without hri, hh, kp_len]; simp
  have hdvl : dv.length = dk.length := by rw [hdv]; simp
  have hdr : Rise (kp dk) := by rw [hdk]; exact delK_rise hri k
  have HPUT : Hid (∀ W Ak ck Av cv, PgR W (.slice Ak ks.length ck) (.slice Av vs.length cv) (.slice none 0 0) ⟨1, ks, vs, []⟩ → Calls Try.prog 19 #[.agg #[.int .i64 1, .slice Ak ks.length ck, .slice Av vs.length cv, .slice none 0 0, .int .i64 0, .int .i64 0, .int .i64 0, .int .i64 0], .string k, .string v] W fun e w' => ∃ Aqk cqk Aqv cqv Aqn cqn, e = .returned (.agg #[.int .i64 1, .slice Aqk qk.length cqk, .slice Aqv qv.length cqv, .slice Aqn 0 cqn, .int .i64 0, .int .i64 0, .int .i64 0, .int .i64 0]) ∧ PgO w' W.heap.size (.slice Aqk qk.length cqk) (.slice Aqv qv.length cqv) (.slice Aqn 0 cqn) ⟨1, qk, qv, []⟩ ∧ Below W.heap.size W w') := by
    intro W Ak ck Av cv hp
    rw [← hpp] at hp
    refine (put_pairs W hp hri (by omega) k v).mono ?_
    rintro e w' ⟨kv', vv', nv', e1, ho, hb⟩
    rw [← hwl, hpq] at ho
    obtain ⟨Aqk, cqk, Aqv, cqv, Aqn, cqn, q1, q2, q3⟩ := ho.rd.forms
    dsimp only [List.length_nil] at q1 q2 q3
    subst q1 q2 q3
    exact ⟨_, _, _, _, _, _, e1, ho, hb⟩
  have HDROP : Hid (∀ W Ak ck Av cv, PgR W (.slice Ak ks.length ck) (.slice Av vs.length cv) (.slice none 0 0) ⟨1, ks, vs, []⟩ → Calls Try.prog 20 #[.agg #[.int .i64 1, .slice Ak ks.length ck, .slice Av vs.length cv, .slice none 0 0, .int .i64 0, .int .i64 0, .int .i64 0, .int .i64 0], .string k] W fun e w' => ∃ Adk cdk Adv cdv Adn cdn, e = .returned (.agg #[.int .i64 1, .slice Adk dk.length cdk, .slice Adv dv.length cdv, .slice Adn 0 cdn, .int .i64 0, .int .i64 0, .int .i64 0, .int .i64 0]) ∧ PgO w' W.heap.size (.slice Adk dk.length cdk) (.slice Adv dv.length cdv) (.slice Adn 0 cdn) ⟨1, dk, dv, []⟩ ∧ Below W.heap.size W w') := by
    intro W Ak ck Av cv hp
    rw [← hpp] at hp
    refine (drop_vk W hp hri (by omega) k).mono ?_
    rintro e w' ⟨kv', vv', nv', e1, ho, hb⟩
    rw [← hdk, hpd] at ho
    obtain ⟨Adk, cdk, Adv, cdv, Adn, cdn, q1, q2, q3⟩ := ho.rd.forms
    dsimp only [List.length_nil] at q1 q2 q3
    subst q1 q2 q3
    exact ⟨_, _, _, _, _, _, e1, ho, hb⟩
  have HGQ : Hid (∀ W Aqk cqk Aqv cqv Aqn cqn x y, PgR W (.slice Aqk qk.length cqk) (.slice Aqv qv.length cqv) (.slice Aqn 0 cqn) ⟨1, qk, qv, []⟩ → getL wl x = some y → Calls Try.prog 18 #[.agg #[.int .i64 1, .slice Aqk qk.length cqk, .slice Aqv qv.length cqv, .slice Aqn 0 cqn, .int .i64 0, .int .i64 0, .int .i64 0, .int .i64 0], .string x] W fun e w' => e = .returned (.tuple #[.string y, .bool true]) ∧ Below W.heap.size W w') := by
    intro W Aqk cqk Aqv cqv Aqn cqn x y hp hg
    refine (get_any W hp (by rw [hqk]; exact kp_rise hwr) (fun _ => hqvl) x).mono ?_
    rintro e w' ⟨e1, hb⟩
    obtain ⟨v1, v2⟩ := valS_of hwr hg
    rw [hpq] at v1 v2
    rw [v1, v2] at e1
    exact ⟨e1, hb⟩
  have HGD : Hid (∀ W Adk cdk Adv cdv Adn cdn x, PgR W (.slice Adk dk.length cdk) (.slice Adv dv.length cdv) (.slice Adn 0 cdn) ⟨1, dk, dv, []⟩ → x ∈ dk → Calls Try.prog 18 #[.agg #[.int .i64 1, .slice Adk dk.length cdk, .slice Adv dv.length cdv, .slice Adn 0 cdn, .int .i64 0, .int .i64 0, .int .i64 0, .int .i64 0], .string x] W fun e w' => e = .returned (.tuple #[.string (⟨#[118]⟩ ++ x), .bool true]) ∧ Below W.heap.size W w') := by
    intro W Adk cdk Adv cdv Adn cdn x hp hx
    refine (get_any W hp hdr (fun _ => hdvl) x).mono ?_
    rintro e w' ⟨e1, hb⟩
    have hhx := (here_iff dk x).2 hx
    have v1 : valS ⟨1, dk, dv, []⟩ x = ⟨#[118]⟩ ++ x := by rw [hdv, valS_vk _ _ _ hdr, if_pos hhx]; rfl
    have v2 : gotS ⟨1, dk, dv, []⟩ x = true := by unfold gotS; simp only; rw [hhx]; rfl
    rw [v1, v2] at e1
    exact ⟨e1, hb⟩
  have HGN : Hid (∀ W Adk cdk Adv cdv Adn cdn, PgR W (.slice Adk dk.length cdk) (.slice Adv dv.length cdv) (.slice Adn 0 cdn) ⟨1, dk, dv, []⟩ → Calls Try.prog 18 #[.agg #[.int .i64 1, .slice Adk dk.length cdk, .slice Adv dv.length cdv, .slice Adn 0 cdn, .int .i64 0, .int .i64 0, .int .i64 0, .int .i64 0], .string k] W fun e w' => e = .returned (.tuple #[.string ⟨#[]⟩, .bool false]) ∧ Below W.heap.size W w') := by
    intro W Adk cdk Adv cdv Adn cdn hp
    refine (get_any W hp hdr (fun _ => hdvl) k).mono ?_
    rintro e w' ⟨e1, hb⟩
    have hnx : here (kp dk) k = false := by
      cases hq : here (kp dk) k with
      | false => rfl
      | true =>
        have := (here_iff dk k).1 hq
        rw [hdk, delK_mem hri] at this
        exact absurd rfl this.2
    have v1 : valS ⟨1, dk, dv, []⟩ k = ⟨#[]⟩ := by rw [hdv, valS_vk _ _ _ hdr, hnx]; rfl
    have v2 : gotS ⟨1, dk, dv, []⟩ k = false := by unfold gotS; simp only; rw [hnx]; rfl
    rw [v1, v2] at e1
    exact ⟨e1, hb⟩
  have hml := pos_le (kp ks) k
  rw [kp_len] at hml
  obtain ⟨m, hm⟩ : ∃ m, m = pos (kp ks) k := ⟨_, rfl⟩
  rw [← hm] at hml
  have HAT : Hid (∀ W Ak ck Av cv, PgR W (.slice Ak ks.length ck) (.slice Av vs.length cv) (.slice none 0 0) ⟨1, ks, vs, []⟩ → Calls Try.prog 17 #[.agg #[.int .i64 1, .slice Ak ks.length ck, .slice Av vs.length cv, .slice none 0 0, .int .i64 0, .int .i64 0, .int .i64 0, .int .i64 0], .string k] W fun e w' => e = .returned (.tuple #[.int .i64 m, .bool true]) ∧ Below W.heap.size W w') := by
    intro W Ak ck Av cv hp
    refine (at_any W hp hri k).mono ?_
    rintro e w' ⟨e1, hb⟩
    have a1 : atZ ⟨1, ks, vs, []⟩ k = m := by unfold atZ; rw [if_neg (fun h => absurd (show (1 : Int) = 2 from h.1) (by decide)), hm]
    rw [a1] at e1
    exact ⟨e1.trans (by show _ = _; rw [hh]), hb⟩
  have HGP : Hid (∀ W Ak ck Av cv, PgR W (.slice Ak ks.length ck) (.slice Av vs.length cv) (.slice none 0 0) ⟨1, ks, vs, []⟩ → Calls Try.prog 18 #[.agg #[.int .i64 1, .slice Ak ks.length ck, .slice Av vs.length cv, .slice none 0 0, .int .i64 0, .int .i64 0, .int .i64 0, .int .i64 0], .string k] W fun e w' => e = .returned (.tuple #[.string (⟨#[118]⟩ ++ k), .bool true]) ∧ Below W.heap.size W w') := by
    intro W Ak ck Av cv hp
    refine (get_any W hp hri (fun _ => hvl) k).mono ?_
    rintro e w' ⟨e1, hb⟩
    have v1 : valS ⟨1, ks, vs, []⟩ k = ⟨#[118]⟩ ++ k := by rw [hvs, valS_vk _ _ _ hri, hh]; rfl
    have v2 : gotS ⟨1, ks, vs, []⟩ k = true := by unfold gotS; simp only; rw [hh]; rfl
    rw [v1, v2] at e1
    exact ⟨e1, hb⟩
  have HQG : Hid (getL wl k = some v) := by rw [hwl, getL_with (prs_rise hri), if_pos rfl]; exact Lib.hid rfl
  have HQX : Hid (∀ x ∈ ks, ¬ x = k → getL wl x = some (⟨#[118]⟩ ++ x)) := fun x hx hne => by
    rw [hwl, getL_with (prs_rise hri), if_neg (fun e => hne e.symm)]; exact prs_get hri hx
  have HDX : Hid (∀ x ∈ ks, ¬ x = k → x ∈ dk) := fun x hx hne => by rw [hdk, delK_mem hri]; exact ⟨hx, hne⟩
  have HQR : Hid (∀ i a b, qk[i]? = some a → qk[i + 1]? = some b → lt a b = true) := fun i a b ha hb => by
    rw [hqk] at ha hb
    exact rise_at (kp_rise hwr) ha hb (by omega)
  have HQL := Lib.hid hql
  have HQVL := Lib.hid hqvl
  have HDL := Lib.hid hdl
  have HDVL := Lib.hid hdvl
  have HRI := Lib.hid hri
  have HH := Lib.hid hh
  have HM := Lib.hid hm
  have hks20 : ks.length ≤ 20 := by omega
  clear hri hvs hvl hsz HR hks hmem hle hwl hqk hqv hdk hdv hwr hpq hpd hpp hprl hql hqvl hdl hdvl hdr hm hh
  unfold pv at *
  go_enter Try.func7, Try.ntmps7
  go_wp2_with fail
  refine (head_any w).mono ?_
  rintro e w0 ⟨rfl, hb0⟩
  have HB0 := Lib.hid hb0
  clear hb0
  go_wp2_with fail
  refine (HL.out w0 HB0.out).mono ?_
  rintro e W1 ⟨Ak, ck, Av, cv, rfl, ho, hb1⟩
  have HW1 : Hid (Below w.heap.size w W1) := HB0.out.trans (hb1.mono HB0.out.size)
  have HO := Lib.hid ho
  clear ho hb1 HL
  go_wp2_with fail
  obtain ⟨X, hX⟩ : ∃ X, X = W1.alloc (.cells #[.int .i64 1, .slice Ak ks.length ck, .slice Av vs.length cv, .slice none 0 0, .int .i64 0, .int .i64 0, .int .i64 0, .int .i64 0] 26) := ⟨_, rfl⟩
  rw [← hX]
  have HX7 : Hid (X.heap[W1.heap.size]? = some (.cells #[.int .i64 1, .slice Ak ks.length ck, .slice Av vs.length cv, .slice none 0 0, .int .i64 0, .int .i64 0, .int .i64 0, .int .i64 0] 26 (0, 0))) := by rw [hX]; exact heap_alloc_new W1 _
  have HPG : Hid (∀ W, Below X.heap.size X W → PgR W (.slice Ak ks.length ck) (.slice Av vs.length cv) (.slice none 0 0) ⟨1, ks, vs, []⟩) := by
    have h9 := (HO.out.alloc (.cells #[.int .i64 1, .slice Ak ks.length ck, .slice Av vs.length cv, .slice none 0 0, .int .i64 0, .int .i64 0, .int .i64 0, .int .i64 0] 26)).rd
    rw [← hX] at h9
    exact Lib.hid fun W hb => h9.up hb
  have HXL : Hid (Below w.heap.size w X) := by rw [hX]; exact HW1.out.alloc HW1.out.size _
  clear hX HO
  obtain ⟨g7, hg7⟩ : ∃ g, g = W1.heap.size := ⟨_, rfl⟩
  rw [← hg7] at HX7 ⊢
  clear hg7
  have HG7 : Hid (g7 < X.heap.size) := (Array.getElem?_eq_some_iff.1 HX7.out).1
  refine (clone_any X (HPG.out X (Below.refl _ _))).mono ?_
  rintro e C1 ⟨kvw, vvw, nvw, rfl, ho, hb⟩
  obtain ⟨Awk, cwk, Awv, cwv, Awn, cwn, e1, e2, e3⟩ := ho.rd.forms
  dsimp only [List.length_nil] at e1 e2 e3
  subst e1 e2 e3
  have HOW := Lib.hid ho
  have HC1 := Lib.hid hb
  clear ho hb
  unfold pv
  have hbz : Below X.heap.size X (C1.alloc (.cells #[.int .i64 1, .slice Awk ks.length cwk, .slice Awv vs.length cwv, .slice Awn 0 cwn, .int .i64 0, .int .i64 0, .int .i64 0, .int .i64 0] 26)) := HC1.out.alloc HC1.out.size _
  have h7 := (hbz.block _ HG7.out).trans HX7.out
  obtain ⟨f0, f1, f2, f3, f4, f5, f6, f7, f8⟩ := row8_facts (h7)
  go_wp2_with fail
  clear f0 f1 f2 f3 f4 f5 f6 f7 f8
  have h8 := heap_alloc_new C1 (.cells #[.int .i64 1, .slice Awk ks.length cwk, .slice Awv vs.length cwv, .slice Awn 0 cwn, .int .i64 0, .int .i64 0, .int .i64 0, .int .i64 0] 26)
  have how := (HOW.out.alloc (.cells #[.int .i64 1, .slice Awk ks.length cwk, .slice Awv vs.length cwv, .slice Awn 0 cwn, .int .i64 0, .int .i64 0, .int .i64 0, .int .i64 0] 26)).rd
  obtain ⟨Z, hZ⟩ : ∃ Z, Z = C1.alloc (.cells #[.int .i64 1, .slice Awk ks.length cwk, .slice Awv vs.length cwv, .slice Awn 0 cwn, .int .i64 0, .int .i64 0, .int .i64 0, .int .i64 0] 26) := ⟨_, rfl⟩
  rw [← hZ] at hbz h7 h8 how ⊢
  have HXZ := Lib.hid hbz
  have HZ7 := Lib.hid h7
  have HZ8 := Lib.hid h8
  have HPW : Hid (∀ W, Below Z.heap.size Z W → PgR W (.slice Awk ks.length cwk) (.slice Awv vs.length cwv) (.slice Awn 0 cwn) ⟨1, ks, vs, []⟩) := Lib.hid fun W hb => how.up hb
  have HPZ : Hid (∀ W, Below Z.heap.size Z W → PgR W (.slice Ak ks.length ck) (.slice Av vs.length cv) (.slice none 0 0) ⟨1, ks, vs, []⟩) := fun W hb => HPG.out W (HXZ.out.trans (hb.mono HXZ.out.size))
  have HZL : Hid (Below w.heap.size w Z) := HXL.out.trans (HXZ.out.mono HXL.out.size)
  clear hZ hbz h7 h8 how HOW HC1 HPG HX7 HXL
  obtain ⟨g8, hg8⟩ : ∃ g, g = C1.heap.size := ⟨_, rfl⟩
  rw [← hg8] at HZ8 ⊢
  clear hg8
  have z1 : ¬ (9223372036854775807 < 1 + k.size) := by omega
  go_loopw [9] (fun a wr => ∃ i : Nat, i ≤ m ∧ a = .int .i64 i ∧ wr = Z) (fun a _ => ks.length - (intOf a).toNat)
  case atStart => exact ⟨0, Nat.zero_le _, rfl, rfl⟩
  case round =>
    obtain ⟨i, hi, rfl, rfl⟩ := hrel
    obtain ⟨f0, f1, f2, f3, f4, f5, f6, f7, f8⟩ := row8_facts (HZ7.out)
    by_cases hip : i < m
    · obtain ⟨gk, ofk, cz, e, _, _, _, hxx⟩ := (HPZ.out wr (Below.refl _ _)).keys.cells (show 0 < ks.length by omega)
      injection e with e1 e2 e3
      clear e2 e3
      subst e1
      obtain ⟨q, hq⟩ : ∃ q, ks[i]? = some q := ⟨ks[i], List.getElem?_eq_getElem _⟩
      have hc := hxx i _ (sc_at hq)
      have d0 : Op.bytesLess q.toList k.toList = true := by rw [bl_lt]; exact (at_lt HRI.out hq).2 (by rw [← HM.out]; exact hip)
      have i0 : (0 : Int) ≤ (i : Int) := by omega
      have i1 : (i : Int) < (ks.length : Int) := by omega
      clear hxx hq
      go_wp2_with fail
      go_roundw
      case rel => exact ⟨i + 1, by omega, by go_num, by first | rfl | trivial⟩
      case measure => simp [intOf]; omega
    · obtain rfl : i = m := by omega
      clear hip hi
      have hmk : i < ks.length := by
        have h9 := here_pos_lt HRI.out HH.out
        rw [kp_len, ← HM.out] at h9
        exact h9
      obtain ⟨gk, ofk, cz, e, _, _, _, hxx⟩ := (HPZ.out wr (Below.refl _ _)).keys.cells (show 0 < ks.length by omega)
      injection e with e1 e2 e3
      clear e2 e3
      subst e1
      obtain ⟨q, hq⟩ : ∃ q, ks[i]? = some q := ⟨ks[i], List.getElem?_eq_getElem _⟩
      have hqk : q = k := (at_eq HRI.out hq).2 ⟨HH.out, HM.out⟩
      have hc := hxx i _ (sc_at hq)
      have d0 : Op.bytesLess q.toList k.toList = false := by rw [bl_lt, hqk]; exact lt_irrefl _
      have d1 : (q.toList == k.toList) = true := by rw [str_beq, decide_eq_true hqk]
      have i0 : (0 : Int) ≤ (i : Int) := by omega
      have i1 : (i : Int) < (ks.length : Int) := by omega
      clear hxx hq hqk hmk
      go_wp2_with fail
      clear d0 d1 hc i0 i1
      clear f0 f1 f2 f3 f4 f5 f6 f7 f8
      refine (HAT.out wr _ _ _ _ (HPZ.out wr (Below.refl _ _))).mono ?_
      rintro e Y1 ⟨rfl, hb⟩
      have B1 := Lib.hid hb
      clear hb
      obtain ⟨f0, f1, f2, f3, f4, f5, f6, f7, f8⟩ := row8_facts ((B1.out.block _ (Array.getElem?_eq_some_iff.1 HZ7.out).1).trans HZ7.out)
      go_wp2_with fail
      clear f0 f1 f2 f3 f4 f5 f6 f7 f8
      refine (HGP.out Y1 _ _ _ _ (HPZ.out Y1 B1.out)).mono ?_
      rintro e Y2 ⟨rfl, hb⟩
      have B2 := Lib.hid (B1.out.trans (hb.mono B1.out.size))
      clear hb
      obtain ⟨f0, f1, f2, f3, f4, f5, f6, f7, f8⟩ := row8_facts ((B2.out.block _ (Array.getElem?_eq_some_iff.1 HZ7.out).1).trans HZ7.out)
      go_wp2_with fail
      clear f0 f1 f2 f3 f4 f5 f6 f7 f8
      refine (HPUT.out Y2 _ _ _ _ (HPZ.out Y2 B2.out)).mono ?_
      rintro e Y3 ⟨Aqk, cqk, Aqv, cqv, Aqn, cqn, rfl, ho, hb⟩
      have HQO := Lib.hid ho
      have B3 := Lib.hid (B2.out.trans (hb.mono B2.out.size))
      clear ho hb
      have hbq : Below wr.heap.size wr (Y3.alloc (.cells #[.int .i64 1, .slice Aqk qk.length cqk, .slice Aqv qv.length cqv, .slice Aqn 0 cqn, .int .i64 0, .int .i64 0, .int .i64 0, .int .i64 0] 26)) := B3.out.alloc B3.out.size _
      have h15 := heap_alloc_new Y3 (.cells #[.int .i64 1, .slice Aqk qk.length cqk, .slice Aqv qv.length cqv, .slice Aqn 0 cqn, .int .i64 0, .int .i64 0, .int .i64 0, .int .i64 0] 26)
      have hqo := (HQO.out.alloc (.cells #[.int .i64 1, .slice Aqk qk.length cqk, .slice Aqv qv.length cqv, .slice Aqn 0 cqn, .int .i64 0, .int .i64 0, .int .i64 0, .int .i64 0] 26)).rd
      have h7 := (hbq.block _ (Array.getElem?_eq_some_iff.1 HZ7.out).1).trans HZ7.out
      obtain ⟨f0, f1, f2, f3, f4, f5, f6, f7, f8⟩ := row8_facts (h7)
      go_wp2_with fail
      clear f0 f1 f2 f3 f4 f5 f6 f7 f8
      obtain ⟨Q, hQ⟩ : ∃ Q, Q = Y3.alloc (.cells #[.int .i64 1, .slice Aqk qk.length cqk, .slice Aqv qv.length cqv, .slice Aqn 0 cqn, .int .i64 0, .int .i64 0, .int .i64 0, .int .i64 0] 26) := ⟨_, rfl⟩
      rw [← hQ] at hbq h15 hqo h7 ⊢
      have BQ := Lib.hid hbq
      have HQ15 := Lib.hid h15
      have HPQ : Hid (∀ W, Below Q.heap.size Q W → PgR W (.slice Aqk qk.length cqk) (.slice Aqv qv.length cqv) (.slice Aqn 0 cqn) ⟨1, qk, qv, []⟩) := Lib.hid fun W hb => hqo.up hb
      clear hQ hbq h15 hqo h7 HQO B3
      obtain ⟨g15, hg15⟩ : ∃ g, g = Y3.heap.size := ⟨_, rfl⟩
      rw [← hg15] at HQ15 ⊢
      clear hg15
      refine (HDROP.out Q _ _ _ _ (HPZ.out Q BQ.out)).mono ?_
      rintro e Y4 ⟨Adk, cdk, Adv, cdv, Adn, cdn, rfl, ho, hb⟩
      have HDO := Lib.hid ho
      have B4 := Lib.hid hb
      clear ho hb
      have hbd : Below Q.heap.size Q (Y4.alloc (.cells #[.int .i64 1, .slice Adk dk.length cdk, .slice Adv dv.length cdv, .slice Adn 0 cdn, .int .i64 0, .int .i64 0, .int .i64 0, .int .i64 0] 26)) := B4.out.alloc B4.out.size _
      have h16 := heap_alloc_new Y4 (.cells #[.int .i64 1, .slice Adk dk.length cdk, .slice Adv dv.length cdv, .slice Adn 0 cdn, .int .i64 0, .int .i64 0, .int .i64 0, .int .i64 0] 26)
      have hdo := (HDO.out.alloc (.cells #[.int .i64 1, .slice Adk dk.length cdk, .slice Adv dv.length cdv, .slice Adn 0 cdn, .int .i64 0, .int .i64 0, .int .i64 0, .int .i64 0] 26)).rd
      have h15 := (hbd.block _ (Array.getElem?_eq_some_iff.1 HQ15.out).1).trans HQ15.out
      have h7 := (hbd.block _ (by have h1 := (Array.getElem?_eq_some_iff.1 HZ7.out).1; have h2 := BQ.out.size; omega)).trans ((BQ.out.block _ (Array.getElem?_eq_some_iff.1 HZ7.out).1).trans HZ7.out)
      have h8 := (hbd.block _ (by have h1 := (Array.getElem?_eq_some_iff.1 HZ8.out).1; have h2 := BQ.out.size; omega)).trans ((BQ.out.block _ (Array.getElem?_eq_some_iff.1 HZ8.out).1).trans HZ8.out)
      obtain ⟨f0, f1, f2, f3, f4, f5, f6, f7, f8⟩ := row8_facts (h7)
      obtain ⟨p0, p1, p2, p3, p4, p5, p6, p7, p8⟩ := row8_facts (h8)
      obtain ⟨z0, z1, z2, z3, z4, z5, z6, z7, z8⟩ := row8_facts (h15)
      have a1 : ((qk.length : Int) != (ks.length : Int)) = false := by rw [bne_eq_false_iff_eq]; have := HQL.out; omega
      have a2 : ((qv.length : Int) != (ks.length : Int)) = false := by rw [bne_eq_false_iff_eq]; have := HQL.out; have := HQVL.out; omega
      have hpos : 0 < ks.length := by have h1 := here_pos_lt HRI.out HH.out; rw [kp_len] at h1; omega
      have a3 : ((dk.length : Int) != (ks.length : Int) - 1) = false := by rw [bne_eq_false_iff_eq]; have := HDL.out; omega
      have a4 : ((dk.length : Int) != (ks.length : Int) - 1 + 0) = false := by rw [bne_eq_false_iff_eq]; have := HDL.out; omega
      clear hpos
      have a5 : ((dv.length : Int) != (dk.length : Int)) = false := by rw [bne_eq_false_iff_eq]; have := HDVL.out; omega
      go_wp2_with fail
      clear a1 a2 a3 a4 a5
      clear f0 f1 f2 f3 f4 f5 f6 f7 f8 p0 p1 p2 p3 p4 p5 p6 p7 p8 z0 z1 z2 z3 z4 z5 z6 z7 z8
      obtain ⟨E, hE⟩ : ∃ E, E = Y4.alloc (.cells #[.int .i64 1, .slice Adk dk.length cdk, .slice Adv dv.length cdv, .slice Adn 0 cdn, .int .i64 0, .int .i64 0, .int .i64 0, .int .i64 0] 26) := ⟨_, rfl⟩
      rw [← hE] at hbd h16 hdo h15 h7 h8 ⊢
      have HE16 := Lib.hid h16
      have HE15 := Lib.hid h15
      have HE7 := Lib.hid h7
      have HPD : Hid (∀ W, Below E.heap.size E W → PgR W (.slice Adk dk.length cdk) (.slice Adv dv.length cdv) (.slice Adn 0 cdn) ⟨1, dk, dv, []⟩) := Lib.hid fun W hb => hdo.up hb
      have HPE : Hid (∀ W, Below E.heap.size E W → PgR W (.slice Aqk qk.length cqk) (.slice Aqv qv.length cqv) (.slice Aqn 0 cqn) ⟨1, qk, qv, []⟩) := fun W hb => HPQ.out W (hbd.trans (hb.mono hbd.size))
      have BE : Hid (Below wr.heap.size wr E) := BQ.out.trans (hbd.mono BQ.out.size)
      have HPP := Lib.hid (fun (W : World) (hb : Below E.heap.size E W) => HPZ.out W (BE.out.trans (hb.mono BE.out.size)))
      have HEL : Hid (Below w.heap.size w E) := HZL.out.trans (BE.out.mono HZL.out.size)
      clear hE hbd h16 hdo h15 h7 h8 HDO B4
      obtain ⟨g16, hg16⟩ : ∃ g, g = Y4.heap.size := ⟨_, rfl⟩
      rw [← hg16] at HE16 ⊢
      clear hg16
      refine (same_any E (HPP.out E (Below.refl _ _)) (HPW.out E BE.out) rfl).mono ?_
      rintro e E1 ⟨he, hb⟩
      have he' : e = .returned (.bool true) := he.trans (by simp)
      clear he
      subst he'
      have C1 := Lib.hid hb
      clear hb
      obtain ⟨f0, f1, f2, f3, f4, f5, f6, f7, f8⟩ := row8_facts ((C1.out.block _ (Array.getElem?_eq_some_iff.1 HE15.out).1).trans HE15.out)
      go_wp2_with fail
      clear f0 f1 f2 f3 f4 f5 f6 f7 f8
      refine (HGQ.out E1 _ _ _ _ _ _ k v (HPE.out E1 C1.out) HQG.out).mono ?_
      rintro e E2 ⟨rfl, hb⟩
      have C2 := Lib.hid (C1.out.trans (hb.mono C1.out.size))
      clear hb
      obtain ⟨f0, f1, f2, f3, f4, f5, f6, f7, f8⟩ := row8_facts ((C2.out.block _ (Array.getElem?_eq_some_iff.1 HE16.out).1).trans HE16.out)
      go_wp2_with fail
      clear f0 f1 f2 f3 f4 f5 f6 f7 f8
      refine (HGN.out E2 _ _ _ _ _ _ (HPD.out E2 C2.out)).mono ?_
      rintro e E3 ⟨rfl, hb⟩
      have C3 := Lib.hid (C2.out.trans (hb.mono C2.out.size))
      clear hb
      obtain ⟨f0, f1, f2, f3, f4, f5, f6, f7, f8⟩ := row8_facts ((C3.out.block _ (Array.getElem?_eq_some_iff.1 HE7.out).1).trans HE7.out)
      go_wp2_with fail
      clear f0 f1 f2 f3 f4 f5 f6 f7 f8
      go_loopw [188] (fun a wr2 => ∃ i : Nat, i ≤ ks.length ∧ a = .int .i64 i ∧ Below E.heap.size E wr2) (fun a _ => ks.length - (intOf a).toNat)
      case atStart => exact ⟨0, Nat.zero_le _, rfl, C3.out⟩
      case round =>
        obtain ⟨i, hi, rfl, hbl⟩ := hrel
        have CW := Lib.hid hbl
        clear hbl
        by_cases hlt : i < ks.length
        · obtain ⟨gk, ofk, cz, e, _, _, _, hxx⟩ := (HPP.out wr CW.out).keys.cells (show 0 < ks.length by omega)
          injection e with e1 e2 e3
          clear e2 e3
          cases e1
          obtain ⟨x, hx⟩ : ∃ x, ks[i]? = some x := ⟨ks[i], List.getElem?_eq_getElem _⟩
          have hc := hxx i _ (sc_at hx)
          have hxm := List.mem_of_getElem? hx
          have i0 : (0 : Int) ≤ (i : Int) := by omega
          have i1 : (i : Int) < (ks.length : Int) := by omega
          by_cases hxk : x = k
          · have d1 : (x.toList == k.toList) = true := by rw [str_beq, decide_eq_true hxk]
            clear hxx hx hxm hxk
            go_wp2_with fail
            go_roundw
            case rel => exact ⟨i + 1, by omega, by go_num, CW.out⟩
            case measure => simp [intOf]; omega
          · have d1 : (x.toList == k.toList) = false := by rw [str_beq, decide_eq_false hxk]
            have z2 : ¬ (9223372036854775807 < 1 + x.size) := by have := HSZ.out x hxm; omega
            have G1 := Lib.hid (HQX.out x hxm hxk)
            have G2 := Lib.hid (HDX.out x hxm hxk)
            clear hxx hx hxm hxk
            obtain ⟨f0, f1, f2, f3, f4, f5, f6, f7, f8⟩ := row8_facts ((CW.out.block _ (Array.getElem?_eq_some_iff.1 HE15.out).1).trans HE15.out)
            go_wp2_with fail
            clear f0 f1 f2 f3 f4 f5 f6 f7 f8
            refine (HGQ.out wr _ _ _ _ _ _ x _ (HPE.out wr CW.out) G1.out).mono ?_
            rintro e F1 ⟨rfl, hb⟩
            have CF := Lib.hid (CW.out.trans (hb.mono CW.out.size))
            clear hb
            obtain ⟨f0, f1, f2, f3, f4, f5, f6, f7, f8⟩ := row8_facts ((CF.out.block _ (Array.getElem?_eq_some_iff.1 HE16.out).1).trans HE16.out)
            go_wp2_with fail
            clear f0 f1 f2 f3 f4 f5 f6 f7 f8
            refine (HGD.out F1 _ _ _ _ _ _ x (HPD.out F1 CF.out) G2.out).mono ?_
            rintro e F2 ⟨rfl, hb⟩
            have CG := Lib.hid (CF.out.trans (hb.mono CF.out.size))
            clear hb
            go_wp2_with fail
            go_roundw
            case rel => exact ⟨i + 1, by omega, by go_num, CG.out⟩
            case measure => simp [intOf]; omega
        · obtain rfl : i = ks.length := by omega
          clear hlt hi
          go_wp2_with fail
          have hq0 : qk.length ≤ 21 := by have := HQL.out; omega
          go_loopw [29] (fun a wr2 => ∃ i : Nat, 1 ≤ i ∧ (i ≤ qk.length ∨ i = 1) ∧ a = .int .i64 i ∧ Below E.heap.size E wr2) (fun a _ => qk.length - (intOf a).toNat)
          case atStart => exact ⟨1, Nat.le_refl _, .inr rfl, rfl, CW.out⟩
          case round =>
            obtain ⟨i, hi1, hi, rfl, hbl⟩ := hrel
            have CX := Lib.hid hbl
            clear hbl CW
            obtain ⟨f0, f1, f2, f3, f4, f5, f6, f7, f8⟩ := row8_facts ((CX.out.block _ (Array.getElem?_eq_some_iff.1 HE15.out).1).trans HE15.out)
            by_cases hlt : i < qk.length
            · obtain ⟨i', rfl⟩ : ∃ i', i = i' + 1 := ⟨i - 1, by omega⟩
              obtain ⟨gk, ofk, cz, e, hgk, _, _, hxx⟩ := (HPE.out wr CX.out).keys.cells (show 0 < qk.length by omega)
              injection e with e1 e2 e3
              clear e2 e3
              cases e1
              obtain ⟨a, ha⟩ : ∃ a, qk[i']? = some a := ⟨qk[i'], List.getElem?_eq_getElem _⟩
              obtain ⟨b, hb⟩ : ∃ b, qk[i' + 1]? = some b := ⟨qk[i' + 1], List.getElem?_eq_getElem _⟩
              have HCA := Lib.hid (hxx i' _ (sc_at ha))
              have HCB := Lib.hid (hxx (i' + 1) _ (sc_at hb))
              have HGK := Lib.hid hgk
              have hlt2 := HQR.out i' a b ha hb
              have hge := run_geq hlt2
              simp only [Bool.not_true] at hge
              have i0 : (0 : Int) ≤ (i' : Int) := by omega
              have i1 : (i' : Int) < (qk.length : Int) := by omega
              have i2 : ((i' + 1 : Nat) : Int) < (qk.length : Int) := by omega
              have i3 : (i' : Int) + 1 < (qk.length : Int) := by omega
              have i4 : (0 : Int) ≤ (i' : Int) + 1 := by omega
              have j1 : i' < qk.length := by omega
              have ew : IntKind.i64.wrap (((i' + 1 : Nat) : Int) - 1) = (i' : Int) := by rw [IntKind.wrap_i64]; omega
              have ew2 : IntKind.i64.wrap ((i' : Int) + 1 - 1) = (i' : Int) := by rw [IntKind.wrap_i64]; omega
              have ew3 : IntKind.i64.wrap (i' : Int) = (i' : Int) := by rw [IntKind.wrap_i64]; omega
              have en : ((i' : Int) + 1).toNat = i' + 1 := by omega
              clear hxx ha hb hgk hlt2
              go_upto_region 39 with fail
              clear f0 f1 f2 f3 f4 f5 f6 f7 f8
              have HR15 := Lib.hid ((CX.out.block _ (Array.getElem?_eq_some_iff.1 HE15.out).1).trans HE15.out)
              have HG15 : Hid (g15 < wr.heap.size) := (Array.getElem?_eq_some_iff.1 HR15.out).1
              refine Held3.ways_start (fun _ W W' => (fun W : World => Below wr.heap.size wr W) W → (fun W : World => Below wr.heap.size wr W) W') (by kernel_rfl) ?_
              obtain ⟨D, hD⟩ : ∃ D, D = wr.drew := ⟨_, rfl⟩
              rw [← hD]
              have HBD : Hid (Below wr.heap.size wr D) := by rw [hD]; exact (Below.refl _ wr).drew
              clear hD
              refine Held3.Ways.plain (i := 0) (oi := ?oy11) ?vy11 ?hiy11 ?hsy11 ?hfy11 ?hry11 ?hQy11 ?hyy11 (fun _ _ => id) ?resty11
              case hiy11 => exact rfl
              case hsy11 => kernel_rfl
              case hfy11 => kernel_rfl
              case hry11 => kernel_rfl
              case hQy11 => exact fun _ _ _ h => h
              case hyy11 =>
                refine .inl ⟨by rfl, fun W _ => ?_⟩
                go_simp
                try with_reducible rfl
              try simp only [Act.put, List.setIfInBounds_toArray, List.set_cons_zero, List.set_cons_succ]
              refine Held3.Ways.take (i := 1) (oi := ?oy12) (fun W : World => Below wr.heap.size wr W) (fun _ => true) ?vy12 ?hiy12 ?hsy12 ?hfy12 ?hlwy12 ?hry12 ?hQy12 HBD.out ?hyy12 (fun _ _ _ h _ => h) (fun _ _ => id) ?resty12
              case hiy12 => exact rfl
              case hsy12 => kernel_rfl
              case hfy12 => kernel_rfl
              case hlwy12 => kernel_rfl
              case hry12 => kernel_rfl
              case hQy12 => exact fun _ _ _ h => h
              case hyy12 =>
                refine .inl ⟨by rfl, fun W hW => ?_⟩
                obtain ⟨f0, f1, f2, f3, f4, f5, f6, f7, f8⟩ := row8_facts ((hW.block _ HG15.out).trans HR15.out)
                have cA := (hW.cell (p := ⟨gk, ofk + i', none⟩) HGK.out).trans HCA.out
                have cB := (hW.cell (p := ⟨gk, ofk + (i' + 1), none⟩) HGK.out).trans HCB.out
                go_simp
                try with_reducible rfl
              try simp only [Act.put, List.setIfInBounds_toArray, List.set_cons_zero, List.set_cons_succ]
              refine Held3.Ways.plain (i := 2) (oi := ?oy13) ?vy13 ?hiy13 ?hsy13 ?hfy13 ?hry13 ?hQy13 ?hyy13 (fun _ _ => id) ?resty13
              case hiy13 => exact rfl
              case hsy13 => kernel_rfl
              case hfy13 => kernel_rfl
              case hry13 => kernel_rfl
              case hQy13 => exact fun _ _ _ h => h
              case hyy13 =>
                refine .inl ⟨by rfl, fun W _ => ?_⟩
                go_simp
                try with_reducible rfl
              try simp only [Act.put, List.setIfInBounds_toArray, List.set_cons_zero, List.set_cons_succ]
              refine Held3.Ways.plain (i := 3) (oi := ?oy14) ?vy14 ?hiy14 ?hsy14 ?hfy14 ?hry14 ?hQy14 ?hyy14 (fun _ _ => id) ?resty14
              case hiy14 => exact rfl
              case hsy14 => kernel_rfl
              case hfy14 => kernel_rfl
              case hry14 => kernel_rfl
              case hQy14 => exact fun _ _ _ h => h
              case hyy14 =>
                refine .inl ⟨by rfl, fun W _ => ?_⟩
                go_simp
                try with_reducible rfl
              try simp only [Act.put, List.setIfInBounds_toArray, List.set_cons_zero, List.set_cons_succ]
              refine Held3.Ways.plain (i := 4) (oi := ?oy15) ?vy15 ?hiy15 ?hsy15 ?hfy15 ?hry15 ?hQy15 ?hyy15 (fun _ _ => id) ?resty15
              case hiy15 => exact rfl
              case hsy15 => kernel_rfl
              case hfy15 => kernel_rfl
              case hry15 => kernel_rfl
              case hQy15 => exact fun _ _ _ h => h
              case hyy15 =>
                refine .inl ⟨by rfl, fun W _ => ?_⟩
                go_simp
                try with_reducible rfl
              try simp only [Act.put, List.setIfInBounds_toArray, List.set_cons_zero, List.set_cons_succ]
              refine Held3.Ways.take (i := 5) (oi := ?oy16) (fun W : World => Below wr.heap.size wr W) (fun _ => true) ?vy16 ?hiy16 ?hsy16 ?hfy16 ?hlwy16 ?hry16 ?hQy16 HBD.out ?hyy16 (fun _ _ _ h _ => h) (fun _ _ => id) ?resty16
              case hiy16 => exact rfl
              case hsy16 => kernel_rfl
              case hfy16 => kernel_rfl
              case hlwy16 => kernel_rfl
              case hry16 => kernel_rfl
              case hQy16 => exact fun _ _ _ h => h
              case hyy16 =>
                refine .inl ⟨by rfl, fun W hW => ?_⟩
                obtain ⟨f0, f1, f2, f3, f4, f5, f6, f7, f8⟩ := row8_facts ((hW.block _ HG15.out).trans HR15.out)
                have cA := (hW.cell (p := ⟨gk, ofk + i', none⟩) HGK.out).trans HCA.out
                have cB := (hW.cell (p := ⟨gk, ofk + (i' + 1), none⟩) HGK.out).trans HCB.out
                go_simp
                try with_reducible rfl
              try simp only [Act.put, List.setIfInBounds_toArray, List.set_cons_zero, List.set_cons_succ]
              refine Held3.Ways.plain (i := 6) (oi := ?oy17) ?vy17 ?hiy17 ?hsy17 ?hfy17 ?hry17 ?hQy17 ?hyy17 (fun _ _ => id) ?resty17
              case hiy17 => exact rfl
              case hsy17 => kernel_rfl
              case hfy17 => kernel_rfl
              case hry17 => kernel_rfl
              case hQy17 => exact fun _ _ _ h => h
              case hyy17 =>
                refine .inl ⟨by rfl, fun W _ => ?_⟩
                go_simp
                try with_reducible rfl
              try simp only [Act.put, List.setIfInBounds_toArray, List.set_cons_zero, List.set_cons_succ]
              refine Held3.Ways.take (i := 7) (oi := ?oy18) (fun W : World => Below wr.heap.size wr W) (fun _ => true) ?vy18 ?hiy18 ?hsy18 ?hfy18 ?hlwy18 ?hry18 ?hQy18 HBD.out ?hyy18 (fun _ _ _ h _ => h) (fun _ _ => id) ?resty18
              case hiy18 => exact rfl
              case hsy18 => kernel_rfl
              case hfy18 => kernel_rfl
              case hlwy18 => kernel_rfl
              case hry18 => kernel_rfl
              case hQy18 => exact fun _ _ _ h => h
              case hyy18 =>
                refine .inl ⟨by rfl, fun W hW => ?_⟩
                obtain ⟨f0, f1, f2, f3, f4, f5, f6, f7, f8⟩ := row8_facts ((hW.block _ HG15.out).trans HR15.out)
                have cA := (hW.cell (p := ⟨gk, ofk + i', none⟩) HGK.out).trans HCA.out
                have cB := (hW.cell (p := ⟨gk, ofk + (i' + 1), none⟩) HGK.out).trans HCB.out
                go_simp
                try with_reducible rfl
              try simp only [Act.put, List.setIfInBounds_toArray, List.set_cons_zero, List.set_cons_succ]
              refine Held3.Ways.plain (i := 8) (oi := ?oy19) ?vy19 ?hiy19 ?hsy19 ?hfy19 ?hry19 ?hQy19 ?hyy19 (fun _ _ => id) ?resty19
              case hiy19 => exact rfl
              case hsy19 => kernel_rfl
              case hfy19 => kernel_rfl
              case hry19 => kernel_rfl
              case hQy19 => exact fun _ _ _ h => h
              case hyy19 =>
                refine .inl ⟨by rfl, fun W _ => ?_⟩
                go_simp
                try with_reducible rfl
              try simp only [Act.put, List.setIfInBounds_toArray, List.set_cons_zero, List.set_cons_succ]
              refine Held3.Ways.plain (i := 9) (oi := ?oy110) ?vy110 ?hiy110 ?hsy110 ?hfy110 ?hry110 ?hQy110 ?hyy110 (fun _ _ => id) ?resty110
              case hiy110 => exact rfl
              case hsy110 => kernel_rfl
              case hfy110 => kernel_rfl
              case hry110 => kernel_rfl
              case hQy110 => exact fun _ _ _ h => h
              case hyy110 =>
                refine .inl ⟨by rfl, fun W _ => ?_⟩
                go_simp
                try with_reducible rfl
              try simp only [Act.put, List.setIfInBounds_toArray, List.set_cons_zero, List.set_cons_succ]
              refine Held3.Ways.take (i := 10) (oi := ?oy111) (fun W : World => Below wr.heap.size wr W) (fun _ => true) ?vy111 ?hiy111 ?hsy111 ?hfy111 ?hlwy111 ?hry111 ?hQy111 HBD.out ?hyy111 (fun _ _ _ h _ => h) (fun _ _ => id) ?resty111
              case hiy111 => exact rfl
              case hsy111 => kernel_rfl
              case hfy111 => kernel_rfl
              case hlwy111 => kernel_rfl
              case hry111 => kernel_rfl
              case hQy111 => exact fun _ _ _ h => h
              case hyy111 =>
                refine .inl ⟨by rfl, fun W hW => ?_⟩
                obtain ⟨f0, f1, f2, f3, f4, f5, f6, f7, f8⟩ := row8_facts ((hW.block _ HG15.out).trans HR15.out)
                have cA := (hW.cell (p := ⟨gk, ofk + i', none⟩) HGK.out).trans HCA.out
                have cB := (hW.cell (p := ⟨gk, ofk + (i' + 1), none⟩) HGK.out).trans HCB.out
                go_simp
                try with_reducible rfl
              try simp only [Act.put, List.setIfInBounds_toArray, List.set_cons_zero, List.set_cons_succ]
              refine Held3.Ways.plain (i := 11) (oi := ?oy112) ?vy112 ?hiy112 ?hsy112 ?hfy112 ?hry112 ?hQy112 ?hyy112 (fun _ _ => id) ?resty112
              case hiy112 => exact rfl
              case hsy112 => kernel_rfl
              case hfy112 => kernel_rfl
              case hry112 => kernel_rfl
              case hQy112 => exact fun _ _ _ h => h
              case hyy112 =>
                refine .inl ⟨by rfl, fun W _ => ?_⟩
                go_simp
                try with_reducible rfl
              try simp only [Act.put, List.setIfInBounds_toArray, List.set_cons_zero, List.set_cons_succ]
              refine Held3.Ways.done (by kernel_rfl) ?_ _
              go_wp2_with fail
              go_roundw
              case rel => exact ⟨i' + 1 + 1, by omega, .inl (by omega), by go_num, CX.out.trans (HBD.out.mono CX.out.size)⟩
              case measure => simp [intOf]; omega
            · have hn1 : ¬ ((i : Int) < (qk.length : Int)) := by omega
              clear f0 f1 f2 f3 f4 f5 f6 f7 f8
              obtain ⟨z0, z1, z2, z3, z4, z5, z6, z7, z8⟩ := row8_facts ((CX.out.block _ (Array.getElem?_eq_some_iff.1 HE15.out).1).trans HE15.out)
              clear hi hi1 hlt hq0
              by_cases c1 : 6 < ks.length
              · have p1 : (6 : Int) < (ks.length : Int) := by omega
                have p2 : ¬ ((ks.length : Int) < 3) := by omega
                obtain ⟨f0, f1, f2, f3, f4, f5, f6, f7, f8⟩ := row8_facts ((CX.out.block _ (Array.getElem?_eq_some_iff.1 HE7.out).1).trans HE7.out)
                go_wp2_with fail
                clear f0 f1 f2 f3 f4 f5 f6 f7 f8
                refine (over_any wr (HPP.out wr CX.out)).mono ?_
                rintro e V1 ⟨he, hb⟩
                have he' : e = .returned (.bool true) := he.trans (by simp; omega)
                clear he
                subst he'
                have CV := Lib.hid (CX.out.trans (hb.mono CX.out.size))
                clear hb
                obtain ⟨f0, f1, f2, f3, f4, f5, f6, f7, f8⟩ := row8_facts ((CV.out.block _ (Array.getElem?_eq_some_iff.1 HE7.out).1).trans HE7.out)
                go_wp2_with fail
                clear f0 f1 f2 f3 f4 f5 f6 f7 f8
                refine (under_any V1 (HPP.out V1 CV.out)).mono ?_
                rintro e V2 ⟨he, hb⟩
                have he' : e = .returned (.bool false) := he.trans (by simp; omega)
                clear he
                subst he'
                have CU := Lib.hid (CV.out.trans (hb.mono CV.out.size))
                clear hb
                go_wp2_with fail
                go_ret
                exact ⟨by first | rfl | (simp; omega), HEL.out.trans (CU.out.mono HEL.out.size)⟩
              · by_cases c2 : ks.length < 3
                · have p1 : ¬ ((6 : Int) < (ks.length : Int)) := by omega
                  have p2 : (ks.length : Int) < 3 := by omega
                  obtain ⟨f0, f1, f2, f3, f4, f5, f6, f7, f8⟩ := row8_facts ((CX.out.block _ (Array.getElem?_eq_some_iff.1 HE7.out).1).trans HE7.out)
                  go_wp2_with fail
                  clear f0 f1 f2 f3 f4 f5 f6 f7 f8
                  refine (over_any wr (HPP.out wr CX.out)).mono ?_
                  rintro e V1 ⟨he, hb⟩
                  have he' : e = .returned (.bool false) := he.trans (by simp; omega)
                  clear he
                  subst he'
                  have CV := Lib.hid (CX.out.trans (hb.mono CX.out.size))
                  clear hb
                  obtain ⟨f0, f1, f2, f3, f4, f5, f6, f7, f8⟩ := row8_facts ((CV.out.block _ (Array.getElem?_eq_some_iff.1 HE7.out).1).trans HE7.out)
                  go_wp2_with fail
                  clear f0 f1 f2 f3 f4 f5 f6 f7 f8
                  refine (under_any V1 (HPP.out V1 CV.out)).mono ?_
                  rintro e V2 ⟨he, hb⟩
                  have he' : e = .returned (.bool true) := he.trans (by simp; omega)
                  clear he
                  subst he'
                  have CU := Lib.hid (CV.out.trans (hb.mono CV.out.size))
                  clear hb
                  go_wp2_with fail
                  go_ret
                  exact ⟨by first | rfl | (simp; omega), HEL.out.trans (CU.out.mono HEL.out.size)⟩
                · have p1 : ¬ ((6 : Int) < (ks.length : Int)) := by omega
                  have p2 : ¬ ((ks.length : Int) < 3) := by omega
                  obtain ⟨f0, f1, f2, f3, f4, f5, f6, f7, f8⟩ := row8_facts ((CX.out.block _ (Array.getElem?_eq_some_iff.1 HE7.out).1).trans HE7.out)
                  go_wp2_with fail
                  clear f0 f1 f2 f3 f4 f5 f6 f7 f8
                  refine (over_any wr (HPP.out wr CX.out)).mono ?_
                  rintro e V1 ⟨he, hb⟩
                  have he' : e = .returned (.bool false) := he.trans (by simp; omega)
                  clear he
                  subst he'
                  have CV := Lib.hid (CX.out.trans (hb.mono CX.out.size))
                  clear hb
                  obtain ⟨f0, f1, f2, f3, f4, f5, f6, f7, f8⟩ := row8_facts ((CV.out.block _ (Array.getElem?_eq_some_iff.1 HE7.out).1).trans HE7.out)
                  go_wp2_with fail
                  clear f0 f1 f2 f3 f4 f5 f6 f7 f8
                  refine (under_any V1 (HPP.out V1 CV.out)).mono ?_
                  rintro e V2 ⟨he, hb⟩
                  have he' : e = .returned (.bool false) := he.trans (by simp; omega)
                  clear he
                  subst he'
                  have CU := Lib.hid (CV.out.trans (hb.mono CV.out.size))
                  clear hb
                  go_wp2_with fail
                  go_ret
                  exact ⟨by first | rfl | (simp; omega), HEL.out.trans (CU.out.mono HEL.out.size)⟩
end Go.Proofs.Ytfhpgmgmofganaa.NodeA
