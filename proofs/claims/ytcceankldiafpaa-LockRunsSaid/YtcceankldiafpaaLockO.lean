/- LockUps: the walk; arguments opened. -/
import Derived.Test.YtcceankldiafpaaLockN
set_option linter.unusedVariables false
set_option linter.unusedSimpArgs false
set_option linter.unusedSectionVars false
set_option maxRecDepth 100000
namespace Go.Proofs.Ytcceankldiafpaa.Lock
open Go.RowKit Go.WideShapes Go.Deep Go.Proofs.Ytcceankldiafpaa.Mem Go.Proofs.Ytcceankldiafpaa.Open Go.Proofs.Ytcceankldiafpaa.Maps
abbrev wt (p : Int × Int) (m : Int) : Wt := ⟨p.1, p.2, m⟩
theorem elder_not {a b : Int × Int} (h : elder a b = true) : elder b a = false := by
  unfold elder at h ⊢
  simp only [decide_eq_true_eq, decide_eq_false_iff_not] at h ⊢
  omega
theorem elder_ne {a b : Int × Int} (h : elder a b = true) : ¬ (a.1 = b.1 ∧ a.2 = b.2) := by
  unfold elder at h
  simp only [decide_eq_true_eq] at h
  omega
theorem same_self (a : Int × Int) (m : Int) : sameT (wt a m) a = true := by simp [sameT]
theorem same_no {a b : Int × Int} (h : ¬ (a.1 = b.1 ∧ a.2 = b.2)) (m : Int) : sameT (wt a m) b = false := decide_eq_false h
section
variable {a b : Int × Int}
theorem u1 (a : Int × Int) : askL ([], []) a 1 = (([wt a 1], []), 1) := by rfl
theorem u2 (a : Int × Int) : askL ([wt a 1], []) a 2 = (([wt a 2], []), 1) := by
  simp [askL, hasAs, hasT, placeL, placeN, qv, blocksL, blockL, giveL, List.findIdx?_cons, same_self, Wt.tid, sameT]
theorem u3 (a : Int × Int) : askL ([wt a 2], []) a 1 = (([wt a 2], []), 1) := by
  simp [askL, hasAs, hasT, placeL, placeN, qv, blocksL, blockL, giveL, List.findIdx?_cons, same_self, Wt.tid, sameT]
theorem u4 (h : elder a b = true) : askL ([wt a 2], []) b 1 = (([wt a 2], []), 3) := by
  have h1 := elder_not h
  have h2 := elder_ne h
  have h3 := same_no h2
  simp [askL, hasAs, hasT, placeL, placeN, qv, blocksL, blockL, giveL, List.findIdx?_cons, h3, against, notYoung, Wt.tid, h1]
theorem u5 (h : elder a b = true) : askL ([wt a 1], []) b 1 = (([wt a 1, wt b 1], []), 1) := by
  have h1 := elder_not h
  have h2 := elder_ne h
  have h3 := same_no h2
  simp [askL, hasAs, hasT, placeL, placeN, qv, blocksL, blockL, giveL, List.findIdx?_cons, List.findIdx_cons, h3, against, notYoung, Wt.tid, h]
theorem u6 (h : elder a b = true) : askL ([wt a 1, wt b 1], []) a 2 = (([wt a 1, wt b 1], [wt a 2]), 2) := by
  have h1 := elder_not h
  have h2 := elder_ne h
  have h3 := same_no (a := b) (b := a) (fun e => h2 ⟨e.1.symm, e.2.symm⟩)
  simp [askL, hasAs, hasT, placeL, placeN, qv, blocksL, blockL, giveL, List.findIdx?_cons, List.findIdx_cons, h3, against, notYoung, Wt.tid, h, same_self]
theorem u7 (h : elder a b = true) : askL ([wt a 1, wt b 1], [wt a 2]) b 2 = (([wt a 1, wt b 1], [wt a 2]), 3) := by
  have h1 := elder_not h
  have h2 := elder_ne h
  have h3 := same_no h2
  simp [askL, hasAs, hasT, placeL, placeN, qv, blocksL, blockL, giveL, List.findIdx?_cons, List.findIdx_cons, h3, against, notYoung, Wt.tid, h1, same_self]
theorem u8 (h : elder a b = true) : freeL ([wt a 1, wt b 1], [wt a 2]) b = (([wt a 2], []), [wt a 2]) := by
  have h1 := elder_not h
  have h2 := elder_ne h
  have h3 := same_no h2
  simp [freeL, nextL, free1, delT, hasT, giveL, List.findIdx?_cons, List.findIdx_cons, h3, against, Wt.tid, h1, same_self]
end
#print axioms u8
end Go.Proofs.Ytcceankldiafpaa.Lock
