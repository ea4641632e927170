/- Rows that rise, each once: a row that rises is told by what is in it; laying one in; sorting and taking each once; rows within rows: plain Lean, no program. -/
import Derived.Test.YtkmnjekbacdfoaaParts
import Derived.Lib.SlicesCompact
set_option linter.unusedVariables false
set_option linter.unusedSimpArgs false
namespace Go.Proofs.YtkmnjekbacdfoaaX
section
variable {α : Type} {lt : α → α → Bool}
def Rise (lt : α → α → Bool) (l : List α) : Prop := l.Pairwise fun x y => lt x y = true
theorem Rise.cons {x : α} {l : List α} (h : Rise lt (x :: l)) : (∀ y ∈ l, lt x y = true) ∧ Rise lt l := List.pairwise_cons.1 h
theorem Ord.ne (h : Ord lt) {a b : α} (h1 : lt a b = true) : a ≠ b := by
  rintro rfl
  rw [h.irr] at h1
  cases h1
theorem rise_ext (h : Ord lt) : ∀ {a b : List α}, Rise lt a → Rise lt b → (∀ x, x ∈ a ↔ x ∈ b) → a = b
  | [], [], _, _, _ => rfl
  | [], y :: b, _, _, hm => absurd ((hm y).2 List.mem_cons_self) (by simp)
  | x :: a, [], _, _, hm => absurd ((hm x).1 List.mem_cons_self) (by simp)
  | x :: a, y :: b, ha, hb, hm => by
    have hxy : x = y := by
      rcases List.mem_cons.1 ((hm x).1 List.mem_cons_self) with h1 | h1
      · exact h1
      rcases List.mem_cons.1 ((hm y).2 List.mem_cons_self) with h2 | h2
      · exact h2.symm
      have h3 := h.asym (hb.cons.1 x h1)
      rw [ha.cons.1 y h2] at h3
      cases h3
    subst hxy
    rw [rise_ext h ha.cons.2 hb.cons.2 fun z => ?_]
    constructor
    · intro hz
      rcases List.mem_cons.1 ((hm z).1 (List.mem_cons_of_mem _ hz)) with h1 | h1
      · exact absurd h1.symm (h.ne (ha.cons.1 z hz))
      · exact h1
    · intro hz
      rcases List.mem_cons.1 ((hm z).2 (List.mem_cons_of_mem _ hz)) with h1 | h1
      · exact absurd h1.symm (h.ne (hb.cons.1 z hz))
      · exact h1
/-- How many at the head are ahead of x. -/
def place (lt : α → α → Bool) (x : α) (l : List α) : Nat := (l.takeWhile fun y => lt y x).length
theorem place_le (x : α) (l : List α) : place lt x l ≤ l.length := by
  unfold place
  exact (List.takeWhile_prefix _).length_le
theorem place_cons (x y : α) (l : List α) : place lt x (y :: l) = if lt y x = true then place lt x l + 1 else 0 := by
  unfold place
  rw [List.takeWhile_cons]
  split <;> rfl
/-- Those ahead of the place are less; what stands there is not. -/
theorem place_lt (x : α) : ∀ (l : List α) (i : Nat) (hi : i < l.length), i < place lt x l → lt l[i] x = true
  | [], i, hi, _ => absurd hi (by simp)
  | y :: l, i, hi, hp => by
    rw [place_cons] at hp
    split at hp
    · rename_i hy
      cases i with
      | zero => exact hy
      | succ i => exact place_lt x l i (by simpa using hi) (by omega)
    · exact absurd hp (by omega)
theorem place_at (x : α) : ∀ (l : List α) (hi : place lt x l < l.length), lt (l[place lt x l]'hi) x = false
  | [], hi => absurd hi (by simp)
  | y :: l, hi => by
    by_cases hy : lt y x = true
    · have hp : place lt x (y :: l) = place lt x l + 1 := by rw [place_cons, if_pos hy]
      have := place_at x l (by rw [hp] at hi; simpa using hi)
      simp only [hp, List.getElem_cons_succ]
      exact this
    · have hp : place lt x (y :: l) = 0 := by rw [place_cons, if_neg hy]
      simp only [hp, List.getElem_cons_zero]
      exact Bool.eq_false_iff.2 hy
/-- Laid in, each once. -/
def layIn [DecidableEq α] (lt : α → α → Bool) (x : α) (l : List α) : List α := if l[place lt x l]? = some x then l else l.take (place lt x l) ++ x :: l.drop (place lt x l)
theorem layIn_mem [DecidableEq α] (x : α) (l : List α) (z : α) : z ∈ layIn lt x l ↔ z = x ∨ z ∈ l := by
  unfold layIn
  split
  · rename_i hx
    have := List.mem_of_getElem? hx
    constructor
    · exact .inr
    · rintro (rfl | h)
      · exact this
      · exact h
  · rw [List.mem_append, List.mem_cons]
    conv => rhs; rw [← List.take_append_drop (place lt x l) l, List.mem_append]
    constructor
    · rintro (h | h | h)
      · exact .inr (.inl h)
      · exact .inl h
      · exact .inr (.inr h)
    · rintro (h | h | h)
      · exact .inr (.inl h)
      · exact .inl h
      · exact .inr (.inr h)
theorem layIn_rise [DecidableEq α] (h : Ord lt) (x : α) {l : List α} (hl : Rise lt l) : Rise lt (layIn lt x l) := by
  unfold layIn
  split
  · exact hl
  rename_i hne
  have hl2 := hl
  unfold Rise at hl2 ⊢
  rw [← List.take_append_drop (place lt x l) l] at hl2
  obtain ⟨h1, h2, h3⟩ := List.pairwise_append.1 hl2
  have hlow : ∀ a ∈ l.take (place lt x l), lt a x = true := by
    intro a ha
    obtain ⟨i, hi, rfl⟩ := List.mem_iff_getElem.1 ha
    rw [List.getElem_take]
    rw [List.length_take] at hi
    exact place_lt x l i (by omega) (by omega)
  have hhigh : ∀ a ∈ l.drop (place lt x l), lt x a = true := by
    intro a ha
    have hlt : place lt x l < l.length := by
      rcases Nat.lt_or_ge (place lt x l) l.length with h4 | h4
      · exact h4
      · rw [List.drop_of_length_le h4] at ha
        cases ha
    have h5 := place_at x l hlt
    have hx : lt x (l[place lt x l]) = true := by
      cases h6 : lt x (l[place lt x l])
      · refine absurd ?_ hne
        rw [List.getElem?_eq_getElem hlt, h.tot _ _ h5 h6]
      · rfl
    rw [List.drop_eq_getElem_cons hlt] at ha h2
    rcases List.mem_cons.1 ha with rfl | ha
    · exact hx
    · exact h.tr _ _ _ hx ((List.pairwise_cons.1 h2).1 a ha)
  refine List.pairwise_append.2 ⟨h1, List.pairwise_cons.2 ⟨hhigh, h2⟩, fun a ha b hb => ?_⟩
  rcases List.mem_cons.1 hb with rfl | hb
  · exact hlow a ha
  · exact h3 a ha b hb
/-- Where a row does not fall, one of each run: it rises. -/
theorem compact_rise [Inhabited α] [DecidableEq α] (h : Ord lt) {zs : List α} (hs : zs.Pairwise fun x y => lt y x = false) : Rise lt (Lib.compact zs) := by
  have key : ∀ m, m ≤ zs.length → Rise lt (Lib.compactUpTo zs.toArray m) ∧ ∀ x ∈ Lib.compactUpTo zs.toArray m, ∃ j, ∃ hj : j < m, ∃ hz : j < zs.length, zs[j] = x := by
    intro m
    induction m with
    | zero => exact fun _ => ⟨List.Pairwise.nil, fun x hx => absurd hx (by simp [Lib.compactUpTo])⟩
    | succ m ih =>
      intro hm
      obtain ⟨h1, h2⟩ := ih (by omega)
      have hml : m < zs.length := by omega
      have hget : zs.toArray[m]! = zs[m] := by simp [hml]
      rw [Lib.compactUpTo_succ]
      split
      · rename_i hk
        refine ⟨List.pairwise_append.2 ⟨h1, List.pairwise_singleton _ _, fun x hx y hy => ?_⟩, fun x hx => ?_⟩
        · rw [List.mem_singleton.1 hy, hget]
          obtain ⟨j, hj, hz, rfl⟩ := h2 x hx
          have hm0 : 0 < m := by omega
          have hp : m - 1 < zs.length := by omega
          have hne : zs[m] ≠ zs[m - 1] := by
            have : zs.toArray[m - 1]! = zs[m - 1] := by simp [hp]
            unfold Lib.keeps at hk
            rw [hget, this] at hk
            rcases of_decide_eq_true hk with h3 | h3
            · omega
            · exact h3
          have hlast : lt zs[m - 1] zs[m] = true := by
            have h4 : lt zs[m] zs[m - 1] = false := List.pairwise_iff_getElem.1 hs (m - 1) m hp hml (by omega)
            cases h5 : lt zs[m - 1] zs[m]
            · exact absurd (h.tot _ _ h4 h5) hne
            · rfl
          rcases Nat.lt_or_ge j (m - 1) with h6 | h6
          · have h7 : lt zs[m - 1] zs[j] = false := List.pairwise_iff_getElem.1 hs j (m - 1) hz hp h6
            cases h8 : lt zs[j] zs[m - 1]
            · rw [h.tot _ _ h8 h7]; exact hlast
            · exact h.tr _ _ _ h8 hlast
          · obtain rfl : j = m - 1 := by omega
            exact hlast
        · rcases List.mem_append.1 hx with hx | hx
          · obtain ⟨j, hj, hz, e⟩ := h2 x hx
            exact ⟨j, by omega, hz, e⟩
          · exact ⟨m, by omega, hml, by rw [List.mem_singleton.1 hx, hget]⟩
      · rw [List.append_nil]
        exact ⟨h1, fun x hx => by
          obtain ⟨j, hj, hz, e⟩ := h2 x hx
          exact ⟨j, by omega, hz, e⟩⟩
  exact (key zs.length (Nat.le_refl _)).1
theorem compact_mem [Inhabited α] [DecidableEq α] (zs : List α) (x : α) : x ∈ Lib.compact zs ↔ x ∈ zs := by
  have key : ∀ m, m ≤ zs.length → (x ∈ Lib.compactUpTo zs.toArray m ↔ x ∈ zs.take m) := by
    intro m
    induction m with
    | zero => exact fun _ => by simp [Lib.compactUpTo]
    | succ m ih =>
      intro hm
      have hml : m < zs.length := by omega
      have hget : zs.toArray[m]! = zs[m] := by simp [hml]
      have htk : zs.take (m + 1) = zs.take m ++ [zs[m]] := by rw [List.take_add_one, List.getElem?_eq_getElem hml]; rfl
      rw [Lib.compactUpTo_succ, htk, List.mem_append, List.mem_append, ih (by omega), hget]
      split
      · exact Iff.rfl
      · rename_i hk
        constructor
        · rintro (h1 | h1)
          · exact .inl h1
          · cases h1
        · rintro (h1 | h1)
          · exact .inl h1
          · refine .inl ?_
            have h2 : m ≠ 0 ∧ zs.toArray[m]! = zs.toArray[m - 1]! := by
              unfold Lib.keeps at hk
              have := mt decide_eq_true hk
              refine ⟨fun h0 => this (.inl h0), Classical.byContradiction fun h0 => this (.inr h0)⟩
            have hp : m - 1 < zs.length := by omega
            have hg2 : zs.toArray[m - 1]! = zs[m - 1] := by simp [hp]
            rw [hget, hg2] at h2
            rw [List.mem_singleton.1 h1, h2.2]
            exact List.mem_iff_getElem.2 ⟨m - 1, by rw [List.length_take]; omega, by rw [List.getElem_take]⟩
  have := key zs.length (Nat.le_refl _)
  rwa [List.take_length] at this
/-- How far one gets in l, going through m. -/
def within [DecidableEq α] : List α → List α → List α
  | [], l => l
  | _, [] => []
  | y :: m, x :: l => if y = x then within m l else within m (x :: l)
theorem within_all [DecidableEq α] (h : Ord lt) : ∀ (m l : List α), Rise lt m → Rise lt l → (∀ x ∈ l, x ∈ m) → within m l = []
  | [], [], _, _, _ => rfl
  | [], x :: l, _, _, hs => absurd (hs x List.mem_cons_self) (by simp)
  | y :: m, [], _, _, _ => rfl
  | y :: m, x :: l, hm, hl, hs => by
    rw [within]
    split
    · rename_i e
      subst e
      refine within_all h m l hm.cons.2 hl.cons.2 fun z hz => ?_
      rcases List.mem_cons.1 (hs z (List.mem_cons_of_mem _ hz)) with rfl | h1
      · exact absurd rfl (h.ne (hl.cons.1 z hz))
      · exact h1
    · rename_i e
      refine within_all h m (x :: l) hm.cons.2 hl fun z hz => ?_
      rcases List.mem_cons.1 (hs z hz) with rfl | h1
      · rcases List.mem_cons.1 hz with rfl | h2
        · exact absurd rfl e
        · rcases List.mem_cons.1 (hs x List.mem_cons_self) with h3 | h3
          · exact absurd h3.symm e
          · have h4 := h.asym (hl.cons.1 z h2)
            rw [hm.cons.1 x h3] at h4
            cases h4
      · exact h1
end
end Go.Proofs.YtkmnjekbacdfoaaX
