/- Node: the guard lets only what fits. -/
import Derived.Test.YtjhenmegcgnkgaaNodeLaws
set_option linter.unusedVariables false
namespace Go.Proofs.YtjhenmegcgnkgaaX
open Go.RowKit Go.Proofs.Ytjhenmegcgnkgaa.PNode Go.Proofs.YtjhenmegcgnkgaaW.PrintWords Go.Proofs.YtjhenmegcgnkgaaW.PrintLast Go.Proofs.YtjhenmegcgnkgaaW.PrintMore

theorem rd_42 (l : List S42) (P : S42 → Prop) (h : ∀ p ∈ l, P p) (j : Nat) (hj : j < l.length) : P (rd_T42 l (j : Int)) := by
  unfold rd_T42
  rw [Int.toNat_natCast, List.getD_eq_getElem?_getD, List.getElem?_eq_getElem hj]
  exact h _ (List.getElem_mem hj)
theorem fit_of {l1 : List S42} {l2 : List ByteArray} {l3 : List Int} (h : Few l1 l2 l3) (s1 : ∀ p ∈ l1, p.f0.size ≤ reachBytes ∧ p.f1.size ≤ reachBytes) : Fit l1 l2 l3 := by
  refine ⟨Nat.le_trans h.n1 (by decide), Nat.le_trans h.n2 (by decide), Nat.le_trans h.n3 (by decide), fun j hj => ?_, fun j hj => ?_⟩
  · have h1 := h.p j hj
    have h2 := rd_42 l1 (fun p => p.f0.size ≤ reachBytes ∧ p.f1.size ≤ reachBytes) s1 j hj
    have hr : reachBytes ≤ 140737488355328 := by decide
    have e1 : p0 l1 j ≤ reachBytes := h2.1
    have e2 : p1 l1 j ≤ reachBytes := h2.2
    rw [w64 (by omega) (by omega)] at h1
    omega
  · have := h.k j hj
    omega
end Go.Proofs.YtjhenmegcgnkgaaX
