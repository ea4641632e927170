/- What a scanner finds, told plainly: rising, each once, what its bytes speak of. No walk. -/
import Derived.Test.YtkmnjekbacdfoaaScanFind
import Derived.Test.YtkmnjekbacdfoaaRise
set_option linter.unusedVariables false
set_option linter.unusedSimpArgs false
namespace Go.Proofs.YtkmnjekbacdfoaaX
open Go.RowKit

theorem bl_less : ∀ x y : List UInt8, Op.bytesLess x y = bl x y
  | x, [] => by cases x <;> rfl
  | [], _ :: _ => rfl
  | a :: x, b :: y => by
    rw [Op.bytesLess, bl_less x y]
    rfl
theorem le_bl (x y : List UInt8) : decide (x ≤ y) = !bl y x := by
  rw [← bl_less, Proofs.bytesLess_eq]
  by_cases h : y < x
  · rw [decide_eq_true h, decide_eq_false]
    · rfl
    · exact fun h2 => h2 h
  · rw [decide_eq_false h, decide_eq_true]
    · rfl
    · exact h
def bB (a b : ByteArray) : Bool := bl a.data.toList b.data.toList
theorem bB_ord : Ord bB := ⟨fun a => bl_ord.irr _, fun a b c => bl_ord.tr _ _ _, fun a b h1 h2 => ba_ext (bl_ord.tot _ _ h1 h2)⟩
theorem sortB_mem (fs : List ByteArray) (x : List UInt8) : x ∈ sortB fs ↔ ∃ s ∈ fs, s.data.toList = x := by
  unfold sortB rowsOf
  rw [(List.mergeSort_perm _ _).mem_iff, List.mem_map]
theorem sortB_up (fs : List ByteArray) : (sortB fs).Pairwise fun x y => bl y x = false := by
  have h : (sortB fs).Pairwise fun x y => (decide (x ≤ y) = true) := by
    unfold sortB
    refine List.pairwise_mergeSort (le := fun x y => decide (x ≤ y)) ?_ ?_ _
    · intro a b c h1 h2
      rw [le_bl] at h1 h2 ⊢
      rw [Bool.not_eq_true'] at h1 h2 ⊢
      cases h3 : bl c a
      · rfl
      · cases h4 : bl b c
        · have := bl_ord.tot _ _ h4 h2
          subst this
          rw [h3] at h1; cases h1
        · rw [bl_ord.tr _ _ _ h4 h3] at h1; cases h1
    · intro a b
      rw [le_bl, le_bl]
      cases h1 : bl b a
      · rfl
      · rw [bl_ord.asym h1]; rfl
  refine h.imp fun h1 => ?_
  rw [le_bl, Bool.not_eq_true'] at h1
  exact h1
theorem foundB_rise (fs : List ByteArray) : Rise bB (foundB fs) := by
  have h := compact_rise bl_ord (sortB_up fs)
  unfold Rise foundB at *
  rw [List.pairwise_map]
  exact h
theorem foundB_mem (fs : List ByteArray) (x : ByteArray) : x ∈ foundB fs ↔ x ∈ fs := by
  unfold foundB
  rw [List.mem_map]
  constructor
  · rintro ⟨l, hl, rfl⟩
    obtain ⟨s, hs, rfl⟩ := (sortB_mem fs l).1 ((compact_mem _ _).1 hl)
    exact hs
  · intro h
    exact ⟨x.data.toList, (compact_mem _ _).2 ((sortB_mem fs _).2 ⟨x, h, rfl⟩), rfl⟩
theorem foundB_le (fs : List ByteArray) : (foundB fs).length ≤ fs.length := by
  rw [foundB_length]
  exact Nat.le_trans (Lib.compact_length_le _) (Nat.le_of_eq (sortB_length fs))
theorem foundB_of {fs gs : List ByteArray} (h : ∀ x, x ∈ fs ↔ x ∈ gs) : foundB fs = foundB gs :=
  rise_ext bB_ord (foundB_rise fs) (foundB_rise gs) fun x => by rw [foundB_mem, foundB_mem, h]
theorem foundB_one (x : ByteArray) : foundB [x] = [x] :=
  rise_ext bB_ord (foundB_rise [x]) (List.pairwise_singleton _ _) fun y => foundB_mem [x] y
theorem foundB_nil : foundB [] = [] := rise_ext bB_ord (foundB_rise []) List.Pairwise.nil fun y => foundB_mem [] y
theorem mem_group {l : List ByteArray} {d x : ByteArray} : x ∈ groupsOf l d ↔ x ∈ l ∧ x.extract 0 32 = d := by
  unfold groupsOf
  rw [List.mem_filter]
  simp
theorem mem_hits {l : List ByteArray} {b : List Int} {n : Nat} {x : ByteArray} : x ∈ hits l b n ↔ x ∈ l ∧ ∃ i, i < n ∧ x.extract 0 32 = cutAt b i := by
  unfold hits
  rw [List.mem_flatMap]
  constructor
  · rintro ⟨i, hi, h⟩
    obtain ⟨h1, h2⟩ := mem_group.1 h
    exact ⟨h1, i, List.mem_range.1 hi, h2⟩
  · rintro ⟨h1, i, hi, h2⟩
    exact ⟨i, List.mem_range.2 hi, mem_group.2 ⟨h1, h2⟩⟩
/-- Do a text's digits stand in b? -/
def speaks (b : List Int) (x : ByteArray) : Prop := ∃ i, i + 32 ≤ b.length ∧ x.extract 0 32 = cutAt b i
theorem mem_find {b : List Int} {l : List ByteArray} {x : ByteArray} : x ∈ findB b l ↔ x ∈ l ∧ speaks b x := by
  unfold findB speaks
  rw [foundB_mem, mem_hits]
  constructor
  · rintro ⟨h1, i, hi, h2⟩
    exact ⟨h1, i, by omega, h2⟩
  · rintro ⟨h1, i, hi, h2⟩
    exact ⟨h1, i, by omega, h2⟩
theorem find_rise (b : List Int) (l : List ByteArray) : Rise bB (findB b l) := foundB_rise _
end Go.Proofs.YtkmnjekbacdfoaaX
