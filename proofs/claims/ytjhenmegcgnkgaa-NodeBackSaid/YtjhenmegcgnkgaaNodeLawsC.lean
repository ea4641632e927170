/- Node: Check, told the same by both (the end). -/
import Derived.Test.YtjhenmegcgnkgaaNodeLawsB
import Derived.Test.YtjhenmegcgnkgaaNodePlace
set_option linter.unusedVariables false
namespace Go.Proofs.YtjhenmegcgnkgaaX
open Go.RowKit Go.Proofs.Ytjhenmegcgnkgaa.PNode Go.Proofs.YtjhenmegcgnkgaaW.PrintWords Go.Proofs.YtjhenmegcgnkgaaW.PrintLast Go.Proofs.YtjhenmegcgnkgaaW.PrintMore

theorem mem_idx {α : Type} (l : List α) (d : α) (P : α → Prop) : (∀ x ∈ l, P x) ↔ ∀ j : Nat, j < l.length → P (l.getD j d) := by
  constructor
  · intro h j hj
    rw [List.getD_eq_getElem?_getD, List.getElem?_eq_getElem hj]
    exact h _ (List.getElem_mem hj)
  · intro h x hx
    obtain ⟨j, hj, rfl⟩ := List.mem_iff_getElem.1 hx
    have := h j hj
    rw [List.getD_eq_getElem?_getD, List.getElem?_eq_getElem hj] at this
    exact this
theorem any_keys (l : List ByteArray) (p : ByteArray → Bool) : l.any p = false ↔ ∀ j, j < l.length → p (kb l j) = false := by
  rw [List.any_eq_false]
  have := mem_idx l ByteArray.empty (fun x => p x = false)
  constructor
  · intro h j hj
    exact this.1 (fun x hx => Bool.eq_false_iff.2 (h x hx)) j hj
  · intro h x hx
    exact Bool.eq_false_iff.1 (this.2 h x hx)
theorem any_ints (l : List Int) (p : Int → Bool) : l.any p = false ↔ ∀ j : Nat, j < l.length → p (rd l (j : Int)) = false := by
  rw [List.any_eq_false]
  have := mem_idx l 0 (fun x => p x = false)
  constructor
  · intro h j hj
    exact this.1 (fun x hx => Bool.eq_false_iff.2 (h x hx)) j hj
  · intro h x hx
    exact Bool.eq_false_iff.1 (this.2 h x hx)
theorem all_pairs (l : List S42) (q : ByteArray × ByteArray → Bool) : (l.map prOf).all q = true ↔ ∀ j : Nat, j < l.length → q (prOf (rd_T42 l (j : Int))) = true := by
  rw [List.all_eq_true]
  have := mem_idx l z42 (fun x => q (prOf x) = true)
  constructor
  · intro h j hj
    exact this.1 (fun x hx => h _ (List.mem_map.2 ⟨x, hx, rfl⟩)) j hj
  · intro h x hx
    obtain ⟨y, hy, rfl⟩ := List.mem_map.1 hx
    exact this.2 h y hy
theorem kb_map (l : List S42) (j : Nat) (h : j < l.length) : kb (l.map S42.f0) j = (rd_T42 l (j : Int)).f0 := by
  unfold kb rdOf rd_T42
  rw [Int.toNat_natCast, List.getD_eq_getElem?_getD, List.getD_eq_getElem?_getD, List.getElem?_map, List.getElem?_eq_getElem h]
  rfl

theorem leaf_iff {l1 : List S42} {l2 : List ByteArray} {l3 : List Int} (h : Fit l1 l2 l3) (room : Int) :
    (((l1.map prOf).all (pairOk room)) = true ∧ (∀ j, j < (l1.map S42.f0).length → riseAt (l1.map S42.f0) j) ∧ ((l1.map S42.f0).any fun x => longB x room) = false) ↔ ∀ j, j < l1.length → refP room l1 j := by
  have hlen : (l1.map S42.f0).length = l1.length := List.length_map ..
  rw [all_pairs, any_keys, hlen]
  have hn1 := h.n1
  constructor
  · rintro ⟨ha, hr, hl⟩ j hj
    have h1 := ha j hj
    have h2 := hr j hj
    have hp := h.p j hj
    unfold pairOk at h1
    rw [Bool.and_eq_true] at h1
    have e1 : (p1 l1 j : Int) ≤ 255 := of_decide_eq_true h1.1
    have e2 : wrap64 ((p0 l1 j : Int) + (p1 l1 j : Int)) ≤ room := of_decide_eq_true h1.2
    have hks : ks (l1.map S42.f0) j = p0 l1 j := congrArg ByteArray.size (kb_map l1 j hj)
    have h3 := h2.1
    rw [hks] at h3
    refine ⟨fun hc => ?_, by omega, by omega, by omega, fun h0 => ?_⟩
    · have := (toList_nil _).1 hc
      have e : p0 l1 j = 0 := this
      omega
    · have := h2.2 h0
      unfold lessAt at this
      rw [kb_map l1 j hj, kb_map l1 (j - 1) (by omega)] at this
      exact this
  · intro hr
    refine ⟨fun j hj => ?_, fun j hj => ?_, fun j hj => ?_⟩
    · obtain ⟨o1, o2, o3, o4, o5⟩ := hr j hj
      unfold pairOk
      rw [Bool.and_eq_true]
      exact ⟨decide_eq_true (show (p1 l1 j : Int) ≤ 255 by omega), decide_eq_true (show wrap64 ((p0 l1 j : Int) + (p1 l1 j : Int)) ≤ room by omega)⟩
    · obtain ⟨o1, o2, o3, o4, o5⟩ := hr j hj
      have hks : ks (l1.map S42.f0) j = p0 l1 j := congrArg ByteArray.size (kb_map l1 j hj)
      have hz : ¬ p0 l1 j = 0 := fun hc => o1 ((toList_nil _).2 hc)
      refine ⟨by rw [hks]; omega, fun h0 => ?_⟩
      unfold lessAt
      rw [kb_map l1 j hj, kb_map l1 (j - 1) (by omega)]
      exact o5 h0
    · obtain ⟨o1, o2, o3, o4, o5⟩ := hr j hj
      have hp := h.p j hj
      rw [kb_map l1 j hj]
      unfold longB
      have e : wrap64 ((p0 l1 j : Int) + (p1 l1 j : Int)) = (p0 l1 j : Int) + (p1 l1 j : Int) := w64 (by omega) (by omega)
      rw [e] at o4
      exact decide_eq_false (show ¬ (p0 l1 j : Int) > room by omega)
theorem inner_iff {l2 : List ByteArray} (room : Int) :
    ((∀ j, j < l2.length → riseAt l2 j) ∧ (l2.any fun x => longB x room) = false) ↔ ∀ j, j < l2.length → refK room l2 j := by
  rw [any_keys]
  constructor
  · rintro ⟨hr, hl⟩ j hj
    have h2 := hr j hj
    have h3 := h2.1
    have h4 := hl j hj
    unfold longB at h4
    have h5 : ¬ (ks l2 j : Int) > room := of_decide_eq_false h4
    refine ⟨fun hc => ?_, by omega, h5, h2.2⟩
    have e : ks l2 j = 0 := (toList_nil _).1 hc
    omega
  · intro hr
    refine ⟨fun j hj => ?_, fun j hj => ?_⟩
    · obtain ⟨o1, o2, o3, o4⟩ := hr j hj
      have hz : ¬ ks l2 j = 0 := fun hc => o1 ((toList_nil _).2 hc)
      exact ⟨by omega, o4⟩
    · obtain ⟨o1, o2, o3, o4⟩ := hr j hj
      exact decide_eq_false o3
theorem nums_iff {l3 : List Int} : (l3.any fun n => !inB n 1 16777215) = false ↔ ∀ j, j < l3.length → refC l3 j := by
  rw [any_ints]
  constructor
  · intro h j hj
    have h1 := h j hj
    rw [Bool.not_eq_false'] at h1
    unfold inB at h1
    rw [Bool.and_eq_true] at h1
    have e1 := of_decide_eq_true h1.1
    have e2 := of_decide_eq_true h1.2
    exact ⟨by omega, by omega⟩
  · intro h j hj
    obtain ⟨o1, o2⟩ := h j hj
    rw [Bool.not_eq_false']
    unfold inB
    rw [decide_eq_true (by omega), decide_eq_true (by omega)]
    rfl

end Go.Proofs.YtjhenmegcgnkgaaX
