/- Loops that are told by rounds: going on, and stopping at the first that fails. No program. -/
import Derived.Test.YtkmnjekbacdfoaaPlain
set_option linter.unusedVariables false
namespace Go.Proofs.YtkmnjekbacdfoaaX
open Go.RowKit Go.Proofs.YtkmnjekbacdfoaaW.PrintWords Go.Proofs.YtkmnjekbacdfoaaW.PrintLast Go.Proofs.YtkmnjekbacdfoaaW.PrintMore

theorem ev_iter {α : Type} (G : Nat → Nat → Option α) (n : Nat) (hgo : ∀ i, i < n → ∀ k, G i (k + 1) = G (i + 1) k) {v : α} (hend : Ev (G n) v) : ∀ m i, i + m = n → Ev (G i) v
  | 0, i, h => by
    have : i = n := by omega
    subst this
    exact hend
  | m + 1, i, h => Ev.step (hgo i (by omega)) (ev_iter G n hgo hend m (i + 1) (by omega))
theorem ev_go {α : Type} (G : Nat → Nat → Option α) (n : Nat) (hgo : ∀ i, i < n → ∀ k, G i (k + 1) = G (i + 1) k) {v : α} (hend : Ev (G n) v) : Ev (G 0) v := ev_iter G n hgo hend n 0 (by omega)
theorem ev_no {α : Type} (G : Nat → Nat → Option α) (n : Nat) (ok : Nat → Prop) (hgo : ∀ i, i < n → ok i → ∀ k, G i (k + 1) = G (i + 1) k) {bad : α} (hbad : ∀ i, i < n → ¬ ok i → ∀ k, G i (k + 1) = some bad) (j : Nat) (hj : j < n) (hno : ¬ ok j) : ∀ m i, i + m = j → Ev (G i) bad
  | 0, i, h => by
    have : i = j := by omega
    subst this
    exact Ev.step (f := fun _ => some bad) (hbad i hj hno) (Ev.now bad)
  | m + 1, i, h => by
    by_cases hi : ok i
    · exact Ev.step (hgo i (by omega) hi) (ev_no G n ok hgo hbad j hj hno m (i + 1) (by omega))
    · exact Ev.step (f := fun _ => some bad) (hbad i (by omega) hi) (Ev.now bad)
/-- A loop that goes on while its test holds: either all hold, and it ends with v, or one fails. -/
theorem ev_all {α : Type} (G : Nat → Nat → Option α) (n : Nat) (ok : Nat → Prop) {v bad : α} (hgo : ∀ i, i < n → ok i → ∀ k, G i (k + 1) = G (i + 1) k) (hbad : ∀ i, i < n → ¬ ok i → ∀ k, G i (k + 1) = some bad) (hend : Ev (G n) v) :
    ((∀ j, j < n → ok j) ∧ Ev (G 0) v) ∨ ((∃ j, j < n ∧ ¬ ok j) ∧ Ev (G 0) bad) := by
  by_cases h : ∀ j, j < n → ok j
  · exact .inl ⟨h, ev_go G n (fun i hi k => hgo i hi (h i hi) k) hend⟩
  · have h' : ∃ j, j < n ∧ ¬ ok j := by
      refine Classical.byContradiction fun hc => h fun j hj => Classical.byContradiction fun hn => hc ⟨j, hj, hn⟩
    obtain ⟨j, hj, hn⟩ := h'
    exact .inr ⟨⟨j, hj, hn⟩, ev_no G n ok hgo hbad j hj hn j 0 (by omega)⟩
theorem w1 {n i : Nat} (h : i < n) (hn : n ≤ 9223372036854775807) : wrap64 ((i : Int) + 1) = ((i + 1 : Nat) : Int) := by
  rw [w64 (by omega) (by omega)]
  omega
theorem ev_eq {α : Type} {g : Nat → Option α} {a b : α} (h : Ev g a) (h' : Ev g b) : a = b := by
  obtain ⟨K, h⟩ := h
  obtain ⟨K', h'⟩ := h'
  have e1 := h (max K K') (by omega)
  have e2 := h' (max K K') (by omega)
  rw [e1] at e2
  exact Option.some.inj e2
end Go.Proofs.YtkmnjekbacdfoaaX
