/- Loops that look for the first place at which a test holds. No program. -/
import Derived.Test.YtkmnjekbacdfoaaEv
set_option linter.unusedVariables false
namespace Go.Proofs.YtkmnjekbacdfoaaX
open Go.RowKit Go.Proofs.YtkmnjekbacdfoaaW.PrintWords Go.Proofs.YtkmnjekbacdfoaaW.PrintLast Go.Proofs.YtkmnjekbacdfoaaW.PrintMore
theorem ev_search {α : Type} (G : Nat → Nat → Option α) (n : Nat) (hit : Nat → Bool) {yes no : α} (hgo : ∀ i, i < n → hit i = false → ∀ v, Ev (G (i + 1)) v → Ev (G i) v) (hstop : ∀ i, i < n → hit i = true → Ev (G i) yes) (hend : Ev (G n) no) :
    ((∃ i, i < n ∧ hit i = true) ∧ Ev (G 0) yes) ∨ ((∀ i, i < n → hit i = false) ∧ Ev (G 0) no) := by
  have key : ∀ m i, i + m = n → ((∃ j, i ≤ j ∧ j < n ∧ hit j = true) ∧ Ev (G i) yes) ∨ ((∀ j, i ≤ j → j < n → hit j = false) ∧ Ev (G i) no) := by
    intro m
    induction m with
    | zero =>
      intro i hi
      obtain rfl : i = n := by omega
      exact .inr ⟨fun j h1 h2 => by omega, hend⟩
    | succ m ih =>
      intro i hi
      cases hh : hit i
      · rcases ih (i + 1) (by omega) with ⟨⟨j, h1, h2, h3⟩, h4⟩ | ⟨h1, h2⟩
        · exact .inl ⟨⟨j, by omega, h2, h3⟩, hgo i (by omega) hh _ h4⟩
        · refine .inr ⟨fun j h3 h4 => ?_, hgo i (by omega) hh _ h2⟩
          rcases Nat.lt_or_ge i j with h5 | h5
          · exact h1 j h5 h4
          · obtain rfl : j = i := by omega
            exact hh
      · exact .inl ⟨⟨i, Nat.le_refl _, by omega, hh⟩, hstop i (by omega) hh⟩
  rcases key n 0 (by omega) with ⟨⟨j, _, h2, h3⟩, h4⟩ | ⟨h1, h2⟩
  · exact .inl ⟨⟨j, h2, h3⟩, h4⟩
  · exact .inr ⟨fun j h => h1 j (Nat.zero_le _) h, h2⟩
/-- The same, told as one value. -/
theorem ev_any {α : Type} (G : Nat → Nat → Option α) (n : Nat) (hit : Nat → Bool) {yes no : α} (hgo : ∀ i, i < n → hit i = false → ∀ v, Ev (G (i + 1)) v → Ev (G i) v) (hstop : ∀ i, i < n → hit i = true → Ev (G i) yes) (hend : Ev (G n) no) (b : Bool) (hb : b = true ↔ ∃ i, i < n ∧ hit i = true) :
    Ev (G 0) (if b = true then yes else no) := by
  rcases ev_search G n hit hgo hstop hend with ⟨h1, h2⟩ | ⟨h1, h2⟩
  · rw [if_pos (hb.2 h1)]; exact h2
  · rw [if_neg]
    · exact h2
    · intro h
      obtain ⟨i, hi, h3⟩ := hb.1 h
      rw [h1 i hi] at h3
      cases h3
/-- A place at which the test holds: no word on the end. -/
theorem ev_hit {α : Type} (G : Nat → Nat → Option α) (n : Nat) (hit : Nat → Bool) {yes : α} (hgo : ∀ i, i < n → hit i = false → ∀ v, Ev (G (i + 1)) v → Ev (G i) v) (hstop : ∀ i, i < n → hit i = true → Ev (G i) yes) (h : ∃ i, i < n ∧ hit i = true) : Ev (G 0) yes := by
  obtain ⟨j, hj, hh⟩ := h
  have key : ∀ m i, i + m = j → Ev (G i) yes := by
    intro m
    induction m with
    | zero =>
      intro i hi
      obtain rfl : i = j := by omega
      exact hstop i hj hh
    | succ m ih =>
      intro i hi
      cases h2 : hit i
      · exact hgo i (by omega) h2 _ (ih (i + 1) (by omega))
      · exact hstop i (by omega) h2
  exact key j 0 (by omega)
theorem ev_miss {α : Type} (G : Nat → Nat → Option α) (n : Nat) {v : α} (hgo : ∀ i, i < n → ∀ v, Ev (G (i + 1)) v → Ev (G i) v) (hend : Ev (G n) v) : ∀ i, i ≤ n → Ev (G i) v := by
  have key : ∀ m i, i + m = n → Ev (G i) v := by
    intro m
    induction m with
    | zero =>
      intro i hi
      obtain rfl : i = n := by omega
      exact hend
    | succ m ih => exact fun i hi => hgo i (by omega) _ (ih (i + 1) (by omega))
  exact fun i hi => key (n - i) i (by omega)
theorem rdB_get (l : List ByteArray) (i : Nat) (hi : i < l.length) : rdOf ByteArray.empty l (i : Int) = l[i] := by
  unfold rdOf
  rw [Int.toNat_natCast, List.getD_eq_getElem?_getD, List.getElem?_eq_getElem hi]
  rfl
end Go.Proofs.YtkmnjekbacdfoaaX
