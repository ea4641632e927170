/- Node: Check, told the same by both (the end). -/
import Derived.Test.YtjhenmegcgnkgaaNodeLawsB
import Derived.Test.YtjhenmegcgnkgaaNodePlace
set_option linter.unusedVariables false
namespace Go.Proofs.YtjhenmegcgnkgaaX
open Go.RowKit Go.Proofs.Ytjhenmegcgnkgaa.PNode Go.Proofs.YtjhenmegcgnkgaaW.PrintWords Go.Proofs.YtjhenmegcgnkgaaW.PrintLast Go.Proofs.YtjhenmegcgnkgaaW.PrintMore

theorem mem_idx {α : Type} (l : List α) (d : α) (P : α → Prop) : (∀ x ∈ l, P x) ↔ ∀ j : Nat, j < l.length → P (l.getD j d) := by
  constructor
  · intro h j hj
    rw [List.getD_eq_getElem?_getD, List.getElem?_eq_getElem hj]
    exact h _ (List.getElem_mem hj)
  · intro h x hx
    obtain ⟨j, hj, rfl⟩ := List.mem_iff_getElem.1 hx
    have := h j hj
    rw [List.getD_eq_getElem?_getD, List.getElem?_eq_getElem hj] at this
    exact this
theorem any_keys (l : List ByteArray) (p : ByteArray → Bool) : l.any p = false ↔ ∀ j, j < l.length → p (kb l j) = false := by
  rw [List.any_eq_false]
  have := mem_idx l ByteArray.empty (fun x => p x = false)
  constructor
  · intro h j hj
    exact this.1 (fun x hx => Bool.eq_false_iff.2 (h x hx)) j hj
  · intro h x hx
    exact Bool.eq_false_iff.1 (this.2 h x hx)
theorem any_ints (l : List Int) (p : Int → Bool) : l.any p = false ↔ ∀ j : Nat, j < l.length → p (rd l (j : Int)) = false := by
  rw [List.any_eq_false]
  have := mem_idx l 0 (fun x => p x = false)
  constructor
  · intro h j hj
    exact this.1 (fun x hx => Bool.eq_false_iff.2 (h x hx)) j hj
  · intro h x hx
    exact Bool.eq_false_iff.1 (this.2 h x hx)
theorem all_pairs (l : List S42) (q : ByteArray × ByteArray → Bool) : (l.map prOf).all q = true ↔ ∀ j : Nat, j < l.length → q (prOf (rd_T42 l (j : Int))) = true := by
  rw [List.all_eq_true]
  have := mem_idx l z42 (fun x => q (prOf x) = true)
  constructor
  · intro h j hj
    exact this.1 (fun x hx => h _ (List.mem_map.2 ⟨x, hx, rfl⟩)) j hj
  · intro h x hx
    obtain ⟨y, hy, rfl⟩ := List.mem_map.1 hx
    exact this.2 h y hy
theorem kb_map (l : List S42) (j : Nat) (h : j < l.length) : kb (l.map S42.f0) j = (rd_T42 l (j : Int)).f0 := by
  unfold kb rdOf rd_T42
  rw [Int.toNat_natCast, List.getD_eq_getElem?_getD, List.getD_eq_getElem?_getD, List.getElem?_map, List.getElem?_eq_getElem h]
  rfl

theorem leaf_iff {l1 : List S42} {l2 : List ByteArray} {l3 : List Int} (h : Fit l1 l2 l3) (room : Int) :
    (((l1.map prOf).all (pairOk room)) = true ∧ (∀ j, j < (l1.map S42.f0).length → riseAt (l1.map S42.f0) j) ∧ ((l1.map S42.f0).any fun x => longB x room) = false) ↔ ∀ j, j < l1.length → refP room l1 j := by
  have hlen : (l1.map S42.f0).length = l1.length := List.length_map ..
  rw [all_pairs, any_keys, hlen]
  have hn1 := h.n1
  constructor
  · rintro ⟨ha, hr, hl⟩ j hj
    have h1 := ha j hj
    have h2 := hr j hj
    have hp := h.p j hj
    unfold pairOk at h1
    rw [Bool.and_eq_true] at h1
    have e1 : (p1 l1 j : Int) ≤ 255 := of_decide_eq_true h1.1
    have e2 : wrap64 ((p0 l1 j : Int) + (p1 l1 j : Int)) ≤ room := of_decide_eq_true h1.2
    have hks : ks (l1.map S42.f0) j = p0 l1 j := congrArg ByteArray.size (kb_map l1 j hj)
    have h3 := h2.1
    rw [hks] at h3
    refine ⟨fun hc => ?_, by omega, by omega, by omega, fun h0 => ?_⟩
    · have := (toList_nil _).1 hc
      have e : p0 l1 j = 0 := this
      omega
    · have := h2.2 h0
      unfold lessAt at this
      rw [kb_map l1 j hj, kb_map l1 (j - 1) (by omega)] at this
      exact this
  · intro hr
    refine ⟨fun j hj => ?_, fun j hj => ?_, fun j hj => ?_⟩
    · obtain ⟨o1, o2, o3, o4, o5⟩ := hr j hj
      unfold pairOk
      rw [Bool.and_eq_true]
      exact ⟨decide_eq_true (show (p1 l1 j : Int) ≤ 255 by omega), decide_eq_true (show wrap64 ((p0 l1 j : Int) + (p1 l1 j : Int)) ≤ room by omega)⟩
    · obtain ⟨o1, o2, o3, o4, o5⟩ := hr j hj
      have hks : ks (l1.map S42.f0) j = p0 l1 j := congrArg ByteArray.size (kb_map l1 j hj)
      have hz : ¬ p0 l1 j = 0 := fun hc => o1 ((toList_nil _).2 hc)
      refine ⟨by rw [hks]; omega, fun h0 => ?_⟩
      unfold lessAt
      rw [kb_map l1 j hj, kb_map l1 (j - 1) (by omega)]
      exact o5 h0
    · obtain ⟨o1, o2, o3, o4, o5⟩ := hr j hj
      have hp := h.p j hj
      rw [kb_map l1 j hj]
      unfold longB
      have e : wrap64 ((p0 l1 j : Int) + (p1 l1 j : Int)) = (p0 l1 j : Int) + (p1 l1 j : Int) := w64 (by omega) (by omega)
      rw [e] at o4
      exact decide_eq_false (show ¬ (p0 l1 j : Int) > room by omega)
theorem inner_iff {l2 : List ByteArray} (room : Int) :
    ((∀ j, j < l2.length → riseAt l2 j) ∧ (l2.any fun x => longB x room) = false) ↔ ∀ j, j < l2.length → refK room l2 j := by
  rw [any_keys]
  constructor
  · rintro ⟨hr, hl⟩ j hj
    have h2 := hr j hj
    have h3 := h2.1
    have h4 := hl j hj
    unfold longB at h4
    have h5 : ¬ (ks l2 j : Int) > room := of_decide_eq_false h4
    refine ⟨fun hc => ?_, by omega, h5, h2.2⟩
    have e : ks l2 j = 0 := (toList_nil _).1 hc
    omega
  · intro hr
    refine ⟨fun j hj => ?_, fun j hj => ?_⟩
    · obtain ⟨o1, o2, o3, o4⟩ := hr j hj
      have hz : ¬ ks l2 j = 0 := fun hc => o1 ((toList_nil _).2 hc)
      exact ⟨by omega, o4⟩
    · obtain ⟨o1, o2, o3, o4⟩ := hr j hj
      exact decide_eq_false o3
theorem nums_iff {l3 : List Int} : (l3.any fun n => !inB n 1 16777215) = false ↔ ∀ j, j < l3.length → refC l3 j := by
  rw [any_ints]
  constructor
  · intro h j hj
    have h1 := h j hj
    rw [Bool.not_eq_false'] at h1
    unfold inB at h1
    rw [Bool.and_eq_true] at h1
    have e1 := of_decide_eq_true h1.1
    have e2 := of_decide_eq_true h1.2
    exact ⟨by omega, by omega⟩
  · intro h j hj
    obtain ⟨o1, o2⟩ := h j hj
    rw [Bool.not_eq_false']
    unfold inB
    rw [decide_eq_true (by omega), decide_eq_true (by omega)]
    rfl

theorem check_both (b : Bool) {l1 : List S42} {l2 : List ByteArray} {l3 : List Int} (a1 : Int) (h : Fit l1 l2 l3) :
    ∃ code : Int, Ev (fun k => node_Check.f k b l1 l2 l3 a1) code ∧ Ev (fun k => chandleryref08_Check.f k b l1 l2 l3 a1) code ∧
      (code = 0 → (64 ≤ a1 ∧ a1 ≤ 4096) ∧ (szN l1 l2 l3 : Int) ≤ a1 ∧ (∀ j, j < l3.length → refC l3 j)) ∧ (¬ (64 ≤ a1 ∧ a1 ≤ 4096) → code = 1) := by
  have hn1 := h.n1
  have hn2 := h.n2
  have hn3 := h.n3
  by_cases hin : 64 ≤ a1 ∧ a1 ≤ 4096
  rotate_left
  · refine ⟨1, ?_, ?_, fun hc => absurd hc (by decide), fun _ => rfl⟩
    · exact Ev.congr (f := fun _ => some (1 : Int)) (fun k => by unfold node_Check.f; rw [most_out hin]; rfl) (Ev.now 1)
    · exact Ev.congr (f := fun _ => some (1 : Int)) (fun k => by unfold chandleryref08_Check.f; rw [range_eq, decide_eq_false hin]; rfl) (Ev.now 1)
  have hlim : l1.length ≤ 1000000 ∧ l2.length ≤ 1000000 ∧ l3.length ≤ 1000000 := ⟨by omega, by omega, by omega⟩
  obtain ⟨room, hroom⟩ : ∃ room, roomOf a1 = room := ⟨_, rfl⟩
  have hmost := most_in hin
  rw [hroom] at hmost
  have hrm : chandleryref08_Most.f a1 = some room := by
    unfold chandleryref08_Most.f
    rw [← hroom]
    rfl
  have hno1 : Ev (fun k => chandleryref08_Check.j0 k a1 room true b l1 l2 l3) 1 := Ev.step (f := fun _ => some (1 : Int)) (fun k => by rw [chandleryref08_Check.j0, if_pos rfl]) (Ev.now 1)
  obtain ⟨r3, h3, c3⟩ := refC_ev b a1 h
  obtain ⟨r2, h2, c2⟩ := refK_ev b a1 room h h3
  obtain ⟨r1, h1, c1⟩ := refP_ev b a1 room h h2
  have hyes : Ev (fun k => chandleryref08_Check.j0 k a1 room false b l1 l2 l3) r1 := Ev.step (f := fun k => chandleryref08_Check.l0 k a1 room 0 b l1 l2 l3) (fun k => by rw [chandleryref08_Check.j0, if_neg (by decide)]) h1
  have hsz := nodeSize_ev b h
  cases b
  · -- another node
    obtain ⟨ri, hri, cri⟩ := rise_ev l2 (by omega)
    have hnode : Ev (fun k => node_Check.f k false l1 l2 l3 a1) (checkI a1 room l1 l2 l3 ri (szN l1 l2 l3)) := by
      refine Ev.congr (fun k => ?_) (Ev.bind (f := fun k ri => (node_Size.f k false l1 l2 l3).bind fun sz => some (checkI a1 room l1 l2 l3 ri sz)) hri (Ev.bind (f := fun k sz => some (checkI a1 room l1 l2 l3 ri sz)) hsz (Ev.now (checkI a1 room l1 l2 l3 ri (szN l1 l2 l3)))))
      unfold node_Check.f
      rw [hmost]
      simp only [Option.bind_some, if_true]
      rw [if_pos hlim]
      rfl
    have hri' : ri = true ↔ ∀ j, j < l2.length → riseAt l2 j := by
      rcases cri with ⟨ha, e⟩ | ⟨ha, e⟩
      · exact ⟨fun _ => ha, fun _ => e⟩
      · exact ⟨fun hc => absurd (e.symm.trans hc) (by decide), fun hc => absurd hc ha⟩
    refine ⟨_, hnode, ?_, ?_, fun hc => absurd hin hc⟩
    · by_cases hp0 : l1.length = 0
      · have hP : ∀ j, j < l1.length → refP room l1 j := fun j hj => by omega
        have e1 : r1 = r2 := by
          rcases c1 with ⟨_, e⟩ | ⟨hc, _⟩
          · exact e
          · exact absurd hP hc
        by_cases hcl : l3.length = l2.length + 1
        · have hf : ∀ k, chandleryref08_Check.f k false l1 l2 l3 a1 = chandleryref08_Check.j0 k a1 room false false l1 l2 l3 := fun k => by
            unfold chandleryref08_Check.f
            rw [range_eq, decide_eq_true hin, Option.bind_some, if_pos rfl, hrm, Option.bind_some, if_neg (by decide), if_neg (by omega), w64 (by omega) (by omega)]
            have : ((l3.length : Int) != (l2.length : Int) + 1) = false := bne_eq_false_iff_eq.2 (by omega)
            rw [this]
          refine Ev.congr hf ?_
          have e : checkI a1 room l1 l2 l3 ri (szN l1 l2 l3) = r1 := by
            unfold checkI
            rw [e1]
            by_cases hk : ∀ j, j < l2.length → refK room l2 j
            · have hk' := (inner_iff room).2 hk
              have e2 : r2 = r3 := by
                rcases c2 with ⟨_, e⟩ | ⟨hc, _⟩
                · exact e
                · exact absurd hk hc
              by_cases hc3 : ∀ j, j < l3.length → refC l3 j
              · rw [if_pos ⟨⟨hp0, hcl⟩, hri'.2 hk'.1, hk'.2, nums_iff.2 hc3⟩, e2]
                rcases c3 with ⟨_, e⟩ | ⟨hc, _⟩
                · exact e.symm
                · exact absurd hc3 hc
              · rw [if_neg (fun hc => hc3 (nums_iff.1 hc.2.2.2)), e2]
                rcases c3 with ⟨hc, _⟩ | ⟨_, e⟩
                · exact absurd hc hc3
                · exact e.symm
            · rw [if_neg (fun hc => hk ((inner_iff room).1 ⟨hri'.1 hc.2.1, hc.2.2.1⟩))]
              rcases c2 with ⟨hc, _⟩ | ⟨_, e⟩
              · exact absurd hc hk
              · exact e.symm
          rw [e]
          exact hyes
        · have hf : ∀ k, chandleryref08_Check.f k false l1 l2 l3 a1 = chandleryref08_Check.j0 k a1 room true false l1 l2 l3 := fun k => by
            unfold chandleryref08_Check.f
            rw [range_eq, decide_eq_true hin, Option.bind_some, if_pos rfl, hrm, Option.bind_some, if_neg (by decide), if_neg (by omega), w64 (by omega) (by omega)]
            have : ((l3.length : Int) != (l2.length : Int) + 1) = true := bne_iff_ne.2 (by omega)
            rw [this]
          refine Ev.congr hf ?_
          unfold checkI
          rw [if_neg (fun hc => hcl hc.1.2)]
          exact hno1
      · have hf : ∀ k, chandleryref08_Check.f k false l1 l2 l3 a1 = chandleryref08_Check.j0 k a1 room true false l1 l2 l3 := fun k => by
          unfold chandleryref08_Check.f
          rw [range_eq, decide_eq_true hin, Option.bind_some, if_pos rfl, hrm, Option.bind_some, if_neg (by decide), if_pos (by omega)]
        refine Ev.congr hf ?_
        unfold checkI
        rw [if_neg (fun hc => hp0 hc.1.1)]
        exact hno1
    · intro hc
      unfold checkI at hc
      by_cases hcc : (l1.length = 0 ∧ l3.length = l2.length + 1) ∧ ri = true ∧ (l2.any fun x => longB x room) = false ∧ (l3.any fun n => !inB n 1 16777215) = false
      · rw [if_pos hcc] at hc
        by_cases hs : (szN l1 l2 l3 : Int) > a1
        · rw [if_pos hs] at hc
          cases hc
        · exact ⟨hin, by omega, nums_iff.1 hcc.2.2.2⟩
      · rw [if_neg hcc] at hc
        cases hc
  · -- a leaf
    have hlen : (l1.map S42.f0).length = l1.length := List.length_map ..
    obtain ⟨ri, hri, cri⟩ := rise_ev (l1.map S42.f0) (by rw [hlen]; omega)
    have hnode : Ev (fun k => node_Check.f k true l1 l2 l3 a1) (checkL a1 room l1 l2 l3 ri (szN l1 l2 l3)) := by
      refine Ev.congr (fun k => ?_) (Ev.bind (f := fun k ri => (node_Size.f k true l1 l2 l3).bind fun sz => some (checkL a1 room l1 l2 l3 ri sz)) hri (Ev.bind (f := fun k sz => some (checkL a1 room l1 l2 l3 ri sz)) hsz (Ev.now (checkL a1 room l1 l2 l3 ri (szN l1 l2 l3)))))
      unfold node_Check.f
      rw [hmost]
      simp only [Option.bind_some, if_true]
      rw [if_pos hlim]
    have hri' : ri = true ↔ ∀ j, j < (l1.map S42.f0).length → riseAt (l1.map S42.f0) j := by
      rcases cri with ⟨ha, e⟩ | ⟨ha, e⟩
      · exact ⟨fun _ => ha, fun _ => e⟩
      · exact ⟨fun hc => absurd (e.symm.trans hc) (by decide), fun hc => absurd hc ha⟩
    refine ⟨_, hnode, ?_, ?_, fun hc => absurd hin hc⟩
    · by_cases hz : l3.length + l2.length = 0
      · have hf : ∀ k, chandleryref08_Check.f k true l1 l2 l3 a1 = chandleryref08_Check.j0 k a1 room false true l1 l2 l3 := fun k => by
          unfold chandleryref08_Check.f
          rw [range_eq, decide_eq_true hin, Option.bind_some, if_pos rfl, hrm, Option.bind_some, if_pos rfl, if_neg]
          rw [w64 (by omega) (by omega)]
          omega
        refine Ev.congr hf ?_
        have e : checkL a1 room l1 l2 l3 ri (szN l1 l2 l3) = r1 := by
          unfold checkL
          by_cases hk : ∀ j, j < l1.length → refP room l1 j
          · have hk' := (leaf_iff h room).2 hk
            rw [if_pos ⟨hz, hk'.1, hri'.2 hk'.2.1, hk'.2.2⟩]
            have e1 : r1 = r2 := by
              rcases c1 with ⟨_, e⟩ | ⟨hc, _⟩
              · exact e
              · exact absurd hk hc
            have e2 : r2 = r3 := by
              rcases c2 with ⟨_, e⟩ | ⟨hc, _⟩
              · exact e
              · exact absurd (fun j hj => by omega) hc
            rw [e1, e2]
            rcases c3 with ⟨_, e⟩ | ⟨hc, _⟩
            · exact e.symm
            · exact absurd (fun j hj => by omega) hc
          · rw [if_neg (fun hc => hk ((leaf_iff h room).1 ⟨hc.2.1, hri'.1 hc.2.2.1, hc.2.2.2⟩))]
            rcases c1 with ⟨hc, _⟩ | ⟨_, e⟩
            · exact absurd hc hk
            · exact e.symm
        rw [e]
        exact hyes
      · have hf : ∀ k, chandleryref08_Check.f k true l1 l2 l3 a1 = chandleryref08_Check.j0 k a1 room true true l1 l2 l3 := fun k => by
          unfold chandleryref08_Check.f
          rw [range_eq, decide_eq_true hin, Option.bind_some, if_pos rfl, hrm, Option.bind_some, if_pos rfl, if_pos]
          rw [w64 (by omega) (by omega)]
          omega
        refine Ev.congr hf ?_
        unfold checkL
        rw [if_neg (fun hc => hz hc.1)]
        exact hno1
    · intro hc
      unfold checkL at hc
      by_cases hcc : l3.length + l2.length = 0 ∧ ((l1.map prOf).all (pairOk room)) = true ∧ ri = true ∧ ((l1.map S42.f0).any fun x => longB x room) = false
      · rw [if_pos hcc] at hc
        by_cases hs : (szN l1 l2 l3 : Int) > a1
        · rw [if_pos hs] at hc
          cases hc
        · exact ⟨hin, by omega, fun j hj => by omega⟩
      · rw [if_neg hcc] at hc
        cases hc
end Go.Proofs.YtjhenmegcgnkgaaX
