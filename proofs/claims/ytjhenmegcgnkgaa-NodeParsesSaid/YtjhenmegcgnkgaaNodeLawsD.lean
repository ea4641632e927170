import Derived.Test.YtjhenmegcgnkgaaQNodex6
import Derived.Test.YtjhenmegcgnkgaaNodeLaws
import Derived.Test.YtjhenmegcgnkgaaNodePlace
import Derived.Test.YtjhenmegcgnkgaaQNodex3
import Derived.Test.YtjhenmegcgnkgaaQNodex7
set_option linter.unusedVariables false
/- Node: Check, told the same by both. -/
namespace Go.Proofs.YtjhenmegcgnkgaaX
open Go.RowKit Go.Proofs.Ytjhenmegcgnkgaa.PNode Go.Proofs.YtjhenmegcgnkgaaW.PrintWords Go.Proofs.YtjhenmegcgnkgaaW.PrintLast Go.Proofs.YtjhenmegcgnkgaaW.PrintMore
theorem ev_both {α : Type} (G : Nat → Nat → Option α) (n : Nat) (ok : Nat → Prop) {v bad : α} (hgo : ∀ i, i < n → ok i → ∀ k, G i (k + 1) = G (i + 1) k) (hbad : ∀ i, i < n → ¬ ok i → ∀ k, G i (k + 1) = some bad) (hend : Ev (G n) v) :
    ∃ r, Ev (G 0) r ∧ (((∀ j, j < n → ok j) ∧ r = v) ∨ (¬ (∀ j, j < n → ok j) ∧ r = bad)) := by
  rcases ev_all G n ok hgo hbad hend with ⟨h, e⟩ | ⟨⟨j, hj, hn⟩, e⟩
  · exact ⟨v, e, .inl ⟨h, rfl⟩⟩
  · exact ⟨bad, e, .inr ⟨fun hc => hn (hc j hj), rfl⟩⟩
abbrev kb (l : List ByteArray) (j : Nat) : ByteArray := rdOf ByteArray.empty l (j : Int)
abbrev lessAt (l : List ByteArray) (j : Nat) : Prop := Op.bytesLess (kb l (j - 1)).toList (kb l j).toList = true
theorem w1m {i : Nat} (h : 0 < i) (hn : i ≤ 9223372036854775807) : wrap64 ((i : Int) - 1) = ((i - 1 : Nat) : Int) := by
  rw [w64 (by omega) (by omega)]
  omega
theorem toList_nil (a : ByteArray) : a.toList = ([] : List UInt8) ↔ a.size = 0 := by
  rw [ba_toList, ba_size]
  exact List.length_eq_zero_iff.symm
def riseAt (l : List ByteArray) (j : Nat) : Prop := (1 ≤ ks l j ∧ ks l j ≤ 255) ∧ (0 < j → lessAt l j)
theorem rise_ev (l : List ByteArray) (h : l.length ≤ 1000000) : ∃ r, Ev (fun k => node_rise.f k l) r ∧ (((∀ j, j < l.length → riseAt l j) ∧ r = true) ∨ (¬ (∀ j, j < l.length → riseAt l j) ∧ r = false)) := by
  have hw : ∀ i : Nat, (node_within.f ((rdOf ByteArray.empty l (i : Int)).size : Int) 1 255) = some (decide (1 ≤ ks l i ∧ ks l i ≤ 255)) := by
    intro i
    unfold node_within.f
    show _ = some (decide (1 ≤ (rdOf ByteArray.empty l (i : Int)).size ∧ (rdOf ByteArray.empty l (i : Int)).size ≤ 255))
    by_cases h1 : ((rdOf ByteArray.empty l (i : Int)).size : Int) ≥ 1
    · rw [if_pos h1]
      congr 1
      rw [decide_eq_decide]
      omega
    · rw [if_neg h1]
      congr 1
      symm
      rw [decide_eq_false_iff_not]
      omega
  refine ev_both (fun i k => node_rise.l0 k l l (l.length : Int) (i : Int)) l.length (riseAt l) (v := true) (bad := false) ?_ ?_ (Ev.step (f := fun _ => some true) (fun k => by rw [node_rise.l0, if_neg (by omega)]) (Ev.now true))
  · intro i hi ho k
    rw [node_rise.l0, if_pos (by omega), if_pos (by omega), if_pos (by omega), hw i, decide_eq_true ho.1]
    simp only [Option.bind_some, if_true]
    by_cases h0 : i = 0
    · subst h0
      rw [if_neg (by omega), w1 hi (by omega)]
    · rw [if_pos (by omega), w1m (by omega) (by omega), if_pos (by omega), if_pos (by omega), if_pos (ho.2 (by omega)), w1 hi (by omega)]
  · intro i hi ho k
    rw [node_rise.l0, if_pos (by omega), if_pos (by omega), if_pos (by omega), hw i]
    simp only [Option.bind_some]
    by_cases h1 : 1 ≤ ks l i ∧ ks l i ≤ 255
    · rw [decide_eq_true h1, if_pos rfl]
      have h2 : ¬ (0 < i → lessAt l i) := fun hc => ho ⟨h1, hc⟩
      have h3 : 0 < i := Classical.byContradiction fun hc => h2 fun h => absurd h hc
      rw [if_pos (by omega), w1m h3 (by omega), if_pos (by omega), if_pos (by omega), if_neg (fun hc => h2 fun _ => hc)]
    · rw [decide_eq_false h1, if_neg (by decide)]
def roomOf (a1 : Int) : Int := wrap64 ((wrap64 (Int.tdiv (wrap64 (a1 - 16)) 4)) - 4)
theorem most_in {a1 : Int} (h : 64 ≤ a1 ∧ a1 ≤ 4096) : node_Most.f a1 = some (roomOf a1, 0) := by
  unfold node_Most.f node_within.f
  rw [if_pos h.1, decide_eq_true h.2]
  rfl
theorem most_out {a1 : Int} (h : ¬ (64 ≤ a1 ∧ a1 ≤ 4096)) : node_Most.f a1 = some (0, 1) := by
  unfold node_Most.f node_within.f
  by_cases h1 : a1 ≥ 64
  · rw [if_pos h1, decide_eq_false (fun hc => h ⟨h1, hc⟩)]
    rfl
  · rw [if_neg h1]
    rfl
theorem range_eq (a1 : Int) : chandleryref08_Range.f a1 = some (decide (64 ≤ a1 ∧ a1 ≤ 4096)) := by
  unfold chandleryref08_Range.f
  by_cases h1 : a1 ≥ 64
  · rw [if_pos h1]
    congr 1
    rw [decide_eq_decide]
    omega
  · rw [if_neg h1]
    congr 1
    symm
    rw [decide_eq_false_iff_not]
    omega
def refC (l : List Int) (j : Nat) : Prop := ¬ rd l (j : Int) < 1 ∧ ¬ rd l (j : Int) > 16777215
def refK (room : Int) (l : List ByteArray) (j : Nat) : Prop := ¬ (kb l j).toList = [] ∧ ¬ (ks l j : Int) > 255 ∧ ¬ (ks l j : Int) > room ∧ (0 < j → lessAt l j)
def refP (room : Int) (l : List S42) (j : Nat) : Prop := ¬ (rd_T42 l (j : Int)).f0.toList = [] ∧ ¬ (p0 l j : Int) > 255 ∧ ¬ (p1 l j : Int) > 255 ∧ ¬ wrap64 ((p0 l j : Int) + (p1 l j : Int)) > room ∧ (0 < j → Op.bytesLess (rd_T42 l ((j - 1 : Nat) : Int)).f0.toList (rd_T42 l (j : Int)).f0.toList = true)
section
variable (b : Bool) {l1 : List S42} {l2 : List ByteArray} {l3 : List Int} (a1 room : Int)
theorem refC_ev (h : Fit l1 l2 l3) : ∃ r, Ev (fun k => chandleryref08_Check.l2 k a1 0 b l1 l2 l3) r ∧ (((∀ j, j < l3.length → refC l3 j) ∧ r = if (szN l1 l2 l3 : Int) > a1 then 2 else 0) ∨ (¬ (∀ j, j < l3.length → refC l3 j) ∧ r = 1)) := by
  have hn3 := h.n3
  refine ev_both (fun i k => chandleryref08_Check.l2 k a1 (i : Int) b l1 l2 l3) l3.length (refC l3) ?_ ?_ ?_
  · intro i hi ho k
    rw [chandleryref08_Check.l2, if_pos (by omega), if_pos (by omega), if_neg ho.1, if_neg ho.2, w1 hi (by omega)]
  · intro i hi ho k
    rw [chandleryref08_Check.l2, if_pos (by omega), if_pos (by omega)]
    by_cases h1 : rd l3 (i : Int) < 1
    · rw [if_pos h1]
    · rw [if_neg h1, if_pos (Classical.byContradiction fun hc => ho ⟨h1, hc⟩)]
  · refine Ev.step (f := fun k => (chandleryref08_Size.f k b l1 l2 l3).bind fun t => if t > a1 then some 2 else some 0) (fun k => by rw [chandleryref08_Check.l2, if_neg (by omega)]) (Ev.bind (refSize_ev b h) ?_)
    by_cases hs : (szN l1 l2 l3 : Int) > a1
    · rw [show (if (szN l1 l2 l3 : Int) > a1 then (2 : Int) else 0) = 2 from if_pos hs]
      exact Ev.congr (f := fun _ => some (2 : Int)) (fun k => by simp only [if_pos hs]) (Ev.now (2 : Int))
    · rw [show (if (szN l1 l2 l3 : Int) > a1 then (2 : Int) else 0) = 0 from if_neg hs]
      exact Ev.congr (f := fun _ => some (0 : Int)) (fun k => by simp only [if_neg hs]) (Ev.now (0 : Int))
theorem refK_ev (h : Fit l1 l2 l3) {v : Int} (hv : Ev (fun k => chandleryref08_Check.l2 k a1 0 b l1 l2 l3) v) : ∃ r, Ev (fun k => chandleryref08_Check.l1 k a1 room 0 b l1 l2 l3) r ∧ (((∀ j, j < l2.length → refK room l2 j) ∧ r = v) ∨ (¬ (∀ j, j < l2.length → refK room l2 j) ∧ r = 1)) := by
  have hn2 := h.n2
  refine ev_both (fun i k => chandleryref08_Check.l1 k a1 room (i : Int) b l1 l2 l3) l2.length (refK room l2) ?_ ?_ (Ev.step (f := fun k => chandleryref08_Check.l2 k a1 0 b l1 l2 l3) (fun k => by rw [chandleryref08_Check.l1, if_neg (by omega)]) hv)
  · intro i hi ho k
    obtain ⟨o1, o2, o3, o4⟩ := ho
    rw [chandleryref08_Check.l1, if_pos (by omega), if_pos (by omega), if_neg o1, if_neg o2, if_neg o3]
    by_cases h0 : i = 0
    · subst h0
      rw [if_neg (by omega), w1 hi (by omega)]
    · rw [if_pos (by omega), w1m (by omega) (by omega), if_pos (by omega), if_pos (by omega), if_pos (o4 (by omega)), w1 hi (by omega)]
  · intro i hi ho k
    rw [chandleryref08_Check.l1, if_pos (by omega), if_pos (by omega)]
    by_cases o1 : (kb l2 i).toList = []
    · rw [if_pos o1]
    rw [if_neg o1]
    by_cases o2 : (ks l2 i : Int) > 255
    · rw [if_pos o2]
    rw [if_neg o2]
    by_cases o3 : (ks l2 i : Int) > room
    · rw [if_pos o3]
    rw [if_neg o3]
    have o4 : ¬ (0 < i → lessAt l2 i) := fun hc => ho ⟨o1, o2, o3, hc⟩
    have h3 : 0 < i := Classical.byContradiction fun hc => o4 fun h => absurd h hc
    rw [if_pos (by omega), w1m h3 (by omega), if_pos (by omega), if_pos (by omega), if_neg (fun hc => o4 fun _ => hc)]
theorem refP_ev (h : Fit l1 l2 l3) {v : Int} (hv : Ev (fun k => chandleryref08_Check.l1 k a1 room 0 b l1 l2 l3) v) : ∃ r, Ev (fun k => chandleryref08_Check.l0 k a1 room 0 b l1 l2 l3) r ∧ (((∀ j, j < l1.length → refP room l1 j) ∧ r = v) ∨ (¬ (∀ j, j < l1.length → refP room l1 j) ∧ r = 1)) := by
  have hn1 := h.n1
  refine ev_both (fun i k => chandleryref08_Check.l0 k a1 room (i : Int) b l1 l2 l3) l1.length (refP room l1) ?_ ?_ (Ev.step (f := fun k => chandleryref08_Check.l1 k a1 room 0 b l1 l2 l3) (fun k => by rw [chandleryref08_Check.l0, if_neg (by omega)]) hv)
  · intro i hi ho k
    obtain ⟨o1, o2, o3, o4, o5⟩ := ho
    rw [chandleryref08_Check.l0, if_pos (by omega), if_pos (by omega), if_neg o1, if_neg o2, if_neg o3, if_neg o4]
    by_cases h0 : i = 0
    · subst h0
      rw [if_neg (by omega), w1 hi (by omega)]
    · rw [if_pos (by omega), w1m (by omega) (by omega), if_pos (by omega), if_pos (by omega), if_pos (o5 (by omega)), w1 hi (by omega)]
  · intro i hi ho k
    rw [chandleryref08_Check.l0, if_pos (by omega), if_pos (by omega)]
    by_cases o1 : (rd_T42 l1 (i : Int)).f0.toList = []
    · rw [if_pos o1]
    rw [if_neg o1]
    by_cases o2 : (p0 l1 i : Int) > 255
    · rw [if_pos o2]
    rw [if_neg o2]
    by_cases o3 : (p1 l1 i : Int) > 255
    · rw [if_pos o3]
    rw [if_neg o3]
    by_cases o4 : wrap64 ((p0 l1 i : Int) + (p1 l1 i : Int)) > room
    · rw [if_pos o4]
    rw [if_neg o4]
    have o5 : ¬ (0 < i → Op.bytesLess (rd_T42 l1 ((i - 1 : Nat) : Int)).f0.toList (rd_T42 l1 (i : Int)).f0.toList = true) := fun hc => ho ⟨o1, o2, o3, o4, hc⟩
    have h3 : 0 < i := Classical.byContradiction fun hc => o5 fun h => absurd h hc
    rw [if_pos (by omega), w1m h3 (by omega), if_pos (by omega), if_pos (by omega), if_neg (fun hc => o5 fun _ => hc)]
end
end Go.Proofs.YtjhenmegcgnkgaaX
/- Node: Check, told the same by both (the end). -/
namespace Go.Proofs.YtjhenmegcgnkgaaX
open Go.RowKit Go.Proofs.Ytjhenmegcgnkgaa.PNode Go.Proofs.YtjhenmegcgnkgaaW.PrintWords Go.Proofs.YtjhenmegcgnkgaaW.PrintLast Go.Proofs.YtjhenmegcgnkgaaW.PrintMore
theorem mem_idx {α : Type} (l : List α) (d : α) (P : α → Prop) : (∀ x ∈ l, P x) ↔ ∀ j : Nat, j < l.length → P (l.getD j d) := by
  constructor
  · intro h j hj
    rw [List.getD_eq_getElem?_getD, List.getElem?_eq_getElem hj]
    exact h _ (List.getElem_mem hj)
  · intro h x hx
    obtain ⟨j, hj, rfl⟩ := List.mem_iff_getElem.1 hx
    have := h j hj
    rw [List.getD_eq_getElem?_getD, List.getElem?_eq_getElem hj] at this
    exact this
theorem any_keys (l : List ByteArray) (p : ByteArray → Bool) : l.any p = false ↔ ∀ j, j < l.length → p (kb l j) = false := by
  rw [List.any_eq_false]
  have := mem_idx l ByteArray.empty (fun x => p x = false)
  constructor
  · intro h j hj
    exact this.1 (fun x hx => Bool.eq_false_iff.2 (h x hx)) j hj
  · intro h x hx
    exact Bool.eq_false_iff.1 (this.2 h x hx)
theorem any_ints (l : List Int) (p : Int → Bool) : l.any p = false ↔ ∀ j : Nat, j < l.length → p (rd l (j : Int)) = false := by
  rw [List.any_eq_false]
  have := mem_idx l 0 (fun x => p x = false)
  constructor
  · intro h j hj
    exact this.1 (fun x hx => Bool.eq_false_iff.2 (h x hx)) j hj
  · intro h x hx
    exact Bool.eq_false_iff.1 (this.2 h x hx)
theorem all_pairs (l : List S42) (q : ByteArray × ByteArray → Bool) : (l.map prOf).all q = true ↔ ∀ j : Nat, j < l.length → q (prOf (rd_T42 l (j : Int))) = true := by
  rw [List.all_eq_true]
  have := mem_idx l z42 (fun x => q (prOf x) = true)
  constructor
  · intro h j hj
    exact this.1 (fun x hx => h _ (List.mem_map.2 ⟨x, hx, rfl⟩)) j hj
  · intro h x hx
    obtain ⟨y, hy, rfl⟩ := List.mem_map.1 hx
    exact this.2 h y hy
theorem kb_map (l : List S42) (j : Nat) (h : j < l.length) : kb (l.map S42.f0) j = (rd_T42 l (j : Int)).f0 := by
  unfold kb rdOf rd_T42
  rw [Int.toNat_natCast, List.getD_eq_getElem?_getD, List.getD_eq_getElem?_getD, List.getElem?_map, List.getElem?_eq_getElem h]
  rfl
theorem leaf_iff {l1 : List S42} {l2 : List ByteArray} {l3 : List Int} (h : Fit l1 l2 l3) (room : Int) :
    (((l1.map prOf).all (pairOk room)) = true ∧ (∀ j, j < (l1.map S42.f0).length → riseAt (l1.map S42.f0) j) ∧ ((l1.map S42.f0).any fun x => longB x room) = false) ↔ ∀ j, j < l1.length → refP room l1 j := by
  have hlen : (l1.map S42.f0).length = l1.length := List.length_map ..
  rw [all_pairs, any_keys, hlen]
  have hn1 := h.n1
  constructor
  · rintro ⟨ha, hr, hl⟩ j hj
    have h1 := ha j hj
    have h2 := hr j hj
    have hp := h.p j hj
    unfold pairOk at h1
    rw [Bool.and_eq_true] at h1
    have e1 : (p1 l1 j : Int) ≤ 255 := of_decide_eq_true h1.1
    have e2 : wrap64 ((p0 l1 j : Int) + (p1 l1 j : Int)) ≤ room := of_decide_eq_true h1.2
    have hks : ks (l1.map S42.f0) j = p0 l1 j := congrArg ByteArray.size (kb_map l1 j hj)
    have h3 := h2.1
    rw [hks] at h3
    refine ⟨fun hc => ?_, by omega, by omega, by omega, fun h0 => ?_⟩
    · have := (toList_nil _).1 hc
      have e : p0 l1 j = 0 := this
      omega
    · have := h2.2 h0
      unfold lessAt at this
      rw [kb_map l1 j hj, kb_map l1 (j - 1) (by omega)] at this
      exact this
  · intro hr
    refine ⟨fun j hj => ?_, fun j hj => ?_, fun j hj => ?_⟩
    · obtain ⟨o1, o2, o3, o4, o5⟩ := hr j hj
      unfold pairOk
      rw [Bool.and_eq_true]
      exact ⟨decide_eq_true (show (p1 l1 j : Int) ≤ 255 by omega), decide_eq_true (show wrap64 ((p0 l1 j : Int) + (p1 l1 j : Int)) ≤ room by omega)⟩
    · obtain ⟨o1, o2, o3, o4, o5⟩ := hr j hj
      have hks : ks (l1.map S42.f0) j = p0 l1 j := congrArg ByteArray.size (kb_map l1 j hj)
      have hz : ¬ p0 l1 j = 0 := fun hc => o1 ((toList_nil _).2 hc)
      refine ⟨by rw [hks]; omega, fun h0 => ?_⟩
      unfold lessAt
      rw [kb_map l1 j hj, kb_map l1 (j - 1) (by omega)]
      exact o5 h0
    · obtain ⟨o1, o2, o3, o4, o5⟩ := hr j hj
      have hp := h.p j hj
      rw [kb_map l1 j hj]
      unfold longB
      have e : wrap64 ((p0 l1 j : Int) + (p1 l1 j : Int)) = (p0 l1 j : Int) + (p1 l1 j : Int) := w64 (by omega) (by omega)
      rw [e] at o4
      exact decide_eq_false (show ¬ (p0 l1 j : Int) > room by omega)
theorem inner_iff {l2 : List ByteArray} (room : Int) :
    ((∀ j, j < l2.length → riseAt l2 j) ∧ (l2.any fun x => longB x room) = false) ↔ ∀ j, j < l2.length → refK room l2 j := by
  rw [any_keys]
  constructor
  · rintro ⟨hr, hl⟩ j hj
    have h2 := hr j hj
    have h3 := h2.1
    have h4 := hl j hj
    unfold longB at h4
    have h5 : ¬ (ks l2 j : Int) > room := of_decide_eq_false h4
    refine ⟨fun hc => ?_, by omega, h5, h2.2⟩
    have e : ks l2 j = 0 := (toList_nil _).1 hc
    omega
  · intro hr
    refine ⟨fun j hj => ?_, fun j hj => ?_⟩
    · obtain ⟨o1, o2, o3, o4⟩ := hr j hj
      have hz : ¬ ks l2 j = 0 := fun hc => o1 ((toList_nil _).2 hc)
      exact ⟨by omega, o4⟩
    · obtain ⟨o1, o2, o3, o4⟩ := hr j hj
      exact decide_eq_false o3
theorem nums_iff {l3 : List Int} : (l3.any fun n => !inB n 1 16777215) = false ↔ ∀ j, j < l3.length → refC l3 j := by
  rw [any_ints]
  constructor
  · intro h j hj
    have h1 := h j hj
    rw [Bool.not_eq_false'] at h1
    unfold inB at h1
    rw [Bool.and_eq_true] at h1
    have e1 := of_decide_eq_true h1.1
    have e2 := of_decide_eq_true h1.2
    exact ⟨by omega, by omega⟩
  · intro h j hj
    obtain ⟨o1, o2⟩ := h j hj
    rw [Bool.not_eq_false']
    unfold inB
    rw [decide_eq_true (by omega), decide_eq_true (by omega)]
    rfl
theorem check_both (b : Bool) {l1 : List S42} {l2 : List ByteArray} {l3 : List Int} (a1 : Int) (h : Fit l1 l2 l3) :
    ∃ code : Int, Ev (fun k => node_Check.f k b l1 l2 l3 a1) code ∧ Ev (fun k => chandleryref08_Check.f k b l1 l2 l3 a1) code ∧
      (code = 0 → (64 ≤ a1 ∧ a1 ≤ 4096) ∧ (szN l1 l2 l3 : Int) ≤ a1 ∧ (∀ j, j < l3.length → refC l3 j)) ∧ (¬ (64 ≤ a1 ∧ a1 ≤ 4096) → code = 1) := by
  have hn1 := h.n1
  have hn2 := h.n2
  have hn3 := h.n3
  by_cases hin : 64 ≤ a1 ∧ a1 ≤ 4096
  rotate_left
  · refine ⟨1, ?_, ?_, fun hc => absurd hc (by decide), fun _ => rfl⟩
    · exact Ev.congr (f := fun _ => some (1 : Int)) (fun k => by unfold node_Check.f; rw [most_out hin]; rfl) (Ev.now 1)
    · exact Ev.congr (f := fun _ => some (1 : Int)) (fun k => by unfold chandleryref08_Check.f; rw [range_eq, decide_eq_false hin]; rfl) (Ev.now 1)
  have hlim : l1.length ≤ 1000000 ∧ l2.length ≤ 1000000 ∧ l3.length ≤ 1000000 := ⟨by omega, by omega, by omega⟩
  obtain ⟨room, hroom⟩ : ∃ room, roomOf a1 = room := ⟨_, rfl⟩
  have hmost := most_in hin
  rw [hroom] at hmost
  have hrm : chandleryref08_Most.f a1 = some room := by
    unfold chandleryref08_Most.f
    rw [← hroom]
    rfl
  have hno1 : Ev (fun k => chandleryref08_Check.j0 k a1 room true b l1 l2 l3) 1 := Ev.step (f := fun _ => some (1 : Int)) (fun k => by rw [chandleryref08_Check.j0, if_pos rfl]) (Ev.now 1)
  obtain ⟨r3, h3, c3⟩ := refC_ev b a1 h
  obtain ⟨r2, h2, c2⟩ := refK_ev b a1 room h h3
  obtain ⟨r1, h1, c1⟩ := refP_ev b a1 room h h2
  have hyes : Ev (fun k => chandleryref08_Check.j0 k a1 room false b l1 l2 l3) r1 := Ev.step (f := fun k => chandleryref08_Check.l0 k a1 room 0 b l1 l2 l3) (fun k => by rw [chandleryref08_Check.j0, if_neg (by decide)]) h1
  have hsz := nodeSize_ev b h
  cases b
  · -- another node
    obtain ⟨ri, hri, cri⟩ := rise_ev l2 (by omega)
    have hnode : Ev (fun k => node_Check.f k false l1 l2 l3 a1) (checkI a1 room l1 l2 l3 ri (szN l1 l2 l3)) := by
      refine Ev.congr (fun k => ?_) (Ev.bind (f := fun k ri => (node_Size.f k false l1 l2 l3).bind fun sz => some (checkI a1 room l1 l2 l3 ri sz)) hri (Ev.bind (f := fun k sz => some (checkI a1 room l1 l2 l3 ri sz)) hsz (Ev.now (checkI a1 room l1 l2 l3 ri (szN l1 l2 l3)))))
      unfold node_Check.f
      rw [hmost]
      simp only [Option.bind_some, if_true]
      rw [if_pos hlim]
      rfl
    have hri' : ri = true ↔ ∀ j, j < l2.length → riseAt l2 j := by
      rcases cri with ⟨ha, e⟩ | ⟨ha, e⟩
      · exact ⟨fun _ => ha, fun _ => e⟩
      · exact ⟨fun hc => absurd (e.symm.trans hc) (by decide), fun hc => absurd hc ha⟩
    refine ⟨_, hnode, ?_, ?_, fun hc => absurd hin hc⟩
    · by_cases hp0 : l1.length = 0
      · have hP : ∀ j, j < l1.length → refP room l1 j := fun j hj => by omega
        have e1 : r1 = r2 := by
          rcases c1 with ⟨_, e⟩ | ⟨hc, _⟩
          · exact e
          · exact absurd hP hc
        by_cases hcl : l3.length = l2.length + 1
        · have hf : ∀ k, chandleryref08_Check.f k false l1 l2 l3 a1 = chandleryref08_Check.j0 k a1 room false false l1 l2 l3 := fun k => by
            unfold chandleryref08_Check.f
            rw [range_eq, decide_eq_true hin, Option.bind_some, if_pos rfl, hrm, Option.bind_some, if_neg (by decide), if_neg (by omega), w64 (by omega) (by omega)]
            have : ((l3.length : Int) != (l2.length : Int) + 1) = false := bne_eq_false_iff_eq.2 (by omega)
            rw [this]
          refine Ev.congr hf ?_
          have e : checkI a1 room l1 l2 l3 ri (szN l1 l2 l3) = r1 := by
            unfold checkI
            rw [e1]
            by_cases hk : ∀ j, j < l2.length → refK room l2 j
            · have hk' := (inner_iff room).2 hk
              have e2 : r2 = r3 := by
                rcases c2 with ⟨_, e⟩ | ⟨hc, _⟩
                · exact e
                · exact absurd hk hc
              by_cases hc3 : ∀ j, j < l3.length → refC l3 j
              · rw [if_pos ⟨⟨hp0, hcl⟩, hri'.2 hk'.1, hk'.2, nums_iff.2 hc3⟩, e2]
                rcases c3 with ⟨_, e⟩ | ⟨hc, _⟩
                · exact e.symm
                · exact absurd hc3 hc
              · rw [if_neg (fun hc => hc3 (nums_iff.1 hc.2.2.2)), e2]
                rcases c3 with ⟨hc, _⟩ | ⟨_, e⟩
                · exact absurd hc hc3
                · exact e.symm
            · rw [if_neg (fun hc => hk ((inner_iff room).1 ⟨hri'.1 hc.2.1, hc.2.2.1⟩))]
              rcases c2 with ⟨hc, _⟩ | ⟨_, e⟩
              · exact absurd hc hk
              · exact e.symm
          rw [e]
          exact hyes
        · have hf : ∀ k, chandleryref08_Check.f k false l1 l2 l3 a1 = chandleryref08_Check.j0 k a1 room true false l1 l2 l3 := fun k => by
            unfold chandleryref08_Check.f
            rw [range_eq, decide_eq_true hin, Option.bind_some, if_pos rfl, hrm, Option.bind_some, if_neg (by decide), if_neg (by omega), w64 (by omega) (by omega)]
            have : ((l3.length : Int) != (l2.length : Int) + 1) = true := bne_iff_ne.2 (by omega)
            rw [this]
          refine Ev.congr hf ?_
          unfold checkI
          rw [if_neg (fun hc => hcl hc.1.2)]
          exact hno1
      · have hf : ∀ k, chandleryref08_Check.f k false l1 l2 l3 a1 = chandleryref08_Check.j0 k a1 room true false l1 l2 l3 := fun k => by
          unfold chandleryref08_Check.f
          rw [range_eq, decide_eq_true hin, Option.bind_some, if_pos rfl, hrm, Option.bind_some, if_neg (by decide), if_pos (by omega)]
        refine Ev.congr hf ?_
        unfold checkI
        rw [if_neg (fun hc => hp0 hc.1.1)]
        exact hno1
    · intro hc
      unfold checkI at hc
      by_cases hcc : (l1.length = 0 ∧ l3.length = l2.length + 1) ∧ ri = true ∧ (l2.any fun x => longB x room) = false ∧ (l3.any fun n => !inB n 1 16777215) = false
      · rw [if_pos hcc] at hc
        by_cases hs : (szN l1 l2 l3 : Int) > a1
        · rw [if_pos hs] at hc
          cases hc
        · exact ⟨hin, by omega, nums_iff.1 hcc.2.2.2⟩
      · rw [if_neg hcc] at hc
        cases hc
  · -- a leaf
    have hlen : (l1.map S42.f0).length = l1.length := List.length_map ..
    obtain ⟨ri, hri, cri⟩ := rise_ev (l1.map S42.f0) (by rw [hlen]; omega)
    have hnode : Ev (fun k => node_Check.f k true l1 l2 l3 a1) (checkL a1 room l1 l2 l3 ri (szN l1 l2 l3)) := by
      refine Ev.congr (fun k => ?_) (Ev.bind (f := fun k ri => (node_Size.f k true l1 l2 l3).bind fun sz => some (checkL a1 room l1 l2 l3 ri sz)) hri (Ev.bind (f := fun k sz => some (checkL a1 room l1 l2 l3 ri sz)) hsz (Ev.now (checkL a1 room l1 l2 l3 ri (szN l1 l2 l3)))))
      unfold node_Check.f
      rw [hmost]
      simp only [Option.bind_some, if_true]
      rw [if_pos hlim]
    have hri' : ri = true ↔ ∀ j, j < (l1.map S42.f0).length → riseAt (l1.map S42.f0) j := by
      rcases cri with ⟨ha, e⟩ | ⟨ha, e⟩
      · exact ⟨fun _ => ha, fun _ => e⟩
      · exact ⟨fun hc => absurd (e.symm.trans hc) (by decide), fun hc => absurd hc ha⟩
    refine ⟨_, hnode, ?_, ?_, fun hc => absurd hin hc⟩
    · by_cases hz : l3.length + l2.length = 0
      · have hf : ∀ k, chandleryref08_Check.f k true l1 l2 l3 a1 = chandleryref08_Check.j0 k a1 room false true l1 l2 l3 := fun k => by
          unfold chandleryref08_Check.f
          rw [range_eq, decide_eq_true hin, Option.bind_some, if_pos rfl, hrm, Option.bind_some, if_pos rfl, if_neg]
          rw [w64 (by omega) (by omega)]
          omega
        refine Ev.congr hf ?_
        have e : checkL a1 room l1 l2 l3 ri (szN l1 l2 l3) = r1 := by
          unfold checkL
          by_cases hk : ∀ j, j < l1.length → refP room l1 j
          · have hk' := (leaf_iff h room).2 hk
            rw [if_pos ⟨hz, hk'.1, hri'.2 hk'.2.1, hk'.2.2⟩]
            have e1 : r1 = r2 := by
              rcases c1 with ⟨_, e⟩ | ⟨hc, _⟩
              · exact e
              · exact absurd hk hc
            have e2 : r2 = r3 := by
              rcases c2 with ⟨_, e⟩ | ⟨hc, _⟩
              · exact e
              · exact absurd (fun j hj => by omega) hc
            rw [e1, e2]
            rcases c3 with ⟨_, e⟩ | ⟨hc, _⟩
            · exact e.symm
            · exact absurd (fun j hj => by omega) hc
          · rw [if_neg (fun hc => hk ((leaf_iff h room).1 ⟨hc.2.1, hri'.1 hc.2.2.1, hc.2.2.2⟩))]
            rcases c1 with ⟨hc, _⟩ | ⟨_, e⟩
            · exact absurd hc hk
            · exact e.symm
        rw [e]
        exact hyes
      · have hf : ∀ k, chandleryref08_Check.f k true l1 l2 l3 a1 = chandleryref08_Check.j0 k a1 room true true l1 l2 l3 := fun k => by
          unfold chandleryref08_Check.f
          rw [range_eq, decide_eq_true hin, Option.bind_some, if_pos rfl, hrm, Option.bind_some, if_pos rfl, if_pos]
          rw [w64 (by omega) (by omega)]
          omega
        refine Ev.congr hf ?_
        unfold checkL
        rw [if_neg (fun hc => hz hc.1)]
        exact hno1
    · intro hc
      unfold checkL at hc
      by_cases hcc : l3.length + l2.length = 0 ∧ ((l1.map prOf).all (pairOk room)) = true ∧ ri = true ∧ ((l1.map S42.f0).any fun x => longB x room) = false
      · rw [if_pos hcc] at hc
        by_cases hs : (szN l1 l2 l3 : Int) > a1
        · rw [if_pos hs] at hc
          cases hc
        · exact ⟨hin, by omega, fun j hj => by omega⟩
      · rw [if_neg hcc] at hc
        cases hc
end Go.Proofs.YtjhenmegcgnkgaaX
/- Node: Bytes, told the same by both. -/
namespace Go.Proofs.YtjhenmegcgnkgaaX
open Go.RowKit Go.Proofs.Ytjhenmegcgnkgaa.PNode Go.Proofs.YtjhenmegcgnkgaaW.PrintWords Go.Proofs.YtjhenmegcgnkgaaW.PrintLast Go.Proofs.YtjhenmegcgnkgaaW.PrintMore
def tx (s : ByteArray) : List Int := ((s.size : Int) % 256) :: bytesOf s
theorem tx_len (s : ByteArray) : (tx s).length = 1 + s.size := by
  unfold tx
  rw [List.length_cons, bytesOf_length]
  omega
def ch (c : Int) : List Int := [(c / 65536) % 256, (c / 256) % 256, c % 256]
def oP (l : List S42) (H : List Int) : Nat → List Int
  | 0 => H
  | j + 1 => (oP l H j ++ tx (rd_T42 l (j : Int)).f0) ++ tx (rd_T42 l (j : Int)).f1
def oC (l : List Int) (H : List Int) : Nat → List Int
  | 0 => H
  | j + 1 => oC l H j ++ ch (rd l (j : Int))
def oK (l : List ByteArray) (H : List Int) : Nat → List Int
  | 0 => H
  | j + 1 => oK l H j ++ tx (kb l j)
theorem oP_len (l : List S42) (H : List Int) : ∀ j, (oP l H j).length = H.length + sP l j
  | 0 => rfl
  | j + 1 => by
    show ((oP l H j ++ tx (rd_T42 l (j : Int)).f0) ++ tx (rd_T42 l (j : Int)).f1).length = H.length + (sP l j + (2 + (rd_T42 l (j : Int)).f0.size + (rd_T42 l (j : Int)).f1.size))
    rw [List.length_append, List.length_append, oP_len l H j, tx_len, tx_len]
    omega
theorem oC_len (l : List Int) (H : List Int) : ∀ j, (oC l H j).length = H.length + 3 * j
  | 0 => rfl
  | j + 1 => by
    show (oC l H j ++ ch (rd l (j : Int))).length = H.length + 3 * (j + 1)
    rw [List.length_append, oC_len l H j]
    show H.length + 3 * j + 3 = _
    omega
theorem oK_len (l : List ByteArray) (H : List Int) : ∀ j, (oK l H j).length = H.length + sK l j
  | 0 => rfl
  | j + 1 => by
    show (oK l H j ++ tx (kb l j)).length = H.length + (sK l j + (1 + ks l j))
    rw [List.length_append, oK_len l H j, tx_len]
    show _ + (1 + ks l j) = _
    omega
def hd (kind cnt : Int) : List Int := [kind % 256, (cnt / 256) % 256, cnt % 256]
def outN (l1 : List S42) (l2 : List ByteArray) (l3 : List Int) (kind cnt : Int) : List Int := oK l2 (oC l3 (oP l1 (hd kind cnt) l1.length) l3.length) l2.length
theorem outN_len (l1 : List S42) (l2 : List ByteArray) (l3 : List Int) (kind cnt : Int) : (outN l1 l2 l3 kind cnt).length = szN l1 l2 l3 := by
  unfold outN szN
  rw [oK_len, oC_len, oP_len]
  show 3 + _ + _ + _ = _
  omega
def outB (l1 : List S42) (l2 : List ByteArray) (l3 : List Int) (kind cnt : Int) (a1 : Int) : List Int := outN l1 l2 l3 kind cnt ++ List.replicate (a1.toNat - szN l1 l2 l3) 0
theorem text_eq {L : List Int} {s : ByteArray} (h : L.length + 1 + s.size < 140737488355328) : node_text.f L s = some (L ++ tx s) := by
  unfold node_text.f
  rw [if_pos (by omega), Option.bind_some, if_pos (by rw [List.length_append]; show L.length + 1 + _ < _; omega)]
  unfold tx
  rw [List.append_assoc]
  rfl
section
variable (b : Bool) {l1 : List S42} {l2 : List ByteArray} {l3 : List Int} (a1 kind cnt : Int)
theorem nodeK_ev (h : Fit l1 l2 l3) (X : List Int) (hX : X.length ≤ 12000000) (ha : (X.length : Int) + sK l2 l2.length ≤ a1) (ha1 : a1 ≤ 4096) :
    Ev (fun k => node_Bytes.l2 k a1 X l2 (l2.length : Int) 0) (oK l2 X l2.length ++ List.replicate (a1.toNat - (X.length + sK l2 l2.length)) 0, 0) := by
  have hn2 := h.n2
  have hb := sK_le h.k
  refine ev_go (fun i k => node_Bytes.l2 k a1 (oK l2 X i) l2 (l2.length : Int) (i : Int)) l2.length (fun i hi k => ?_) (Ev.step (f := fun _ => some (oK l2 X l2.length ++ List.replicate (a1.toNat - (X.length + sK l2 l2.length)) 0, 0)) (fun k => ?_) (Ev.now _))
  · have h1 := hb i (by omega)
    have h2 := h.k i hi
    have h3 := oK_len l2 X i
    rw [node_Bytes.l2, if_pos (by omega), if_pos (by omega), if_pos (by omega), text_eq (by rw [h3]; have : (rdOf ByteArray.empty l2 (i : Int)).size ≤ 2000 := h2; omega), Option.bind_some, w1 hi (by omega)]
    rfl
  · have h3 := oK_len l2 X l2.length
    have e : wrap64 (a1 - ((oK l2 X l2.length).length : Int)) = a1 - ((X.length + sK l2 l2.length : Nat) : Int) := by
      rw [h3, w64 (by omega) (by omega)]
    have e2 : (a1 - ((X.length + sK l2 l2.length : Nat) : Int)).toNat = a1.toNat - (X.length + sK l2 l2.length) := by omega
    rw [node_Bytes.l2, if_neg (by omega), e, if_pos (by omega), e2, if_pos (by rw [h3]; omega)]
theorem nodeC_ev (h : Fit l1 l2 l3) (X : List Int) (hX : X.length ≤ 11000000) {v : List Int × Int} (hv : Ev (fun k => node_Bytes.l2 k a1 (oC l3 X l3.length) l2 (l2.length : Int) 0) v) :
    Ev (fun k => node_Bytes.l1 k a1 X l3 (l3.length : Int) 0 b l1 l2 l3) v := by
  have hn3 := h.n3
  refine ev_go (fun i k => node_Bytes.l1 k a1 (oC l3 X i) l3 (l3.length : Int) (i : Int) b l1 l2 l3) l3.length (fun i hi k => ?_) (Ev.step (f := fun k => node_Bytes.l2 k a1 (oC l3 X l3.length) l2 (l2.length : Int) 0) (fun k => by rw [node_Bytes.l1, if_neg (by omega)]) hv)
  have h3 := oC_len l3 X i
  rw [node_Bytes.l1, if_pos (by omega), if_pos (by omega), if_pos (by omega), Option.bind_some, if_pos (by rw [h3]; show _ + 3 < _; omega), w1 hi (by omega)]
  rfl
theorem nodeP_ev (h : Fit l1 l2 l3) (X : List Int) (hX : X.length ≤ 1000000) {v : List Int × Int} (hv : Ev (fun k => node_Bytes.l1 k a1 (oP l1 X l1.length) l3 (l3.length : Int) 0 b l1 l2 l3) v) :
    Ev (fun k => node_Bytes.l0 k a1 X l1 (l1.length : Int) 0 b l1 l2 l3) v := by
  have hn1 := h.n1
  have hb := sP_le h.p
  refine ev_go (fun i k => node_Bytes.l0 k a1 (oP l1 X i) l1 (l1.length : Int) (i : Int) b l1 l2 l3) l1.length (fun i hi k => ?_) (Ev.step (f := fun k => node_Bytes.l1 k a1 (oP l1 X l1.length) l3 (l3.length : Int) 0 b l1 l2 l3) (fun k => by rw [node_Bytes.l0, if_neg (by omega)]) hv)
  have h1 := hb i (by omega)
  have h2 : (rd_T42 l1 (i : Int)).f0.size + (rd_T42 l1 (i : Int)).f1.size ≤ 2000 := h.p i hi
  have h3 := oP_len l1 X i
  rw [node_Bytes.l0, if_pos (by omega), if_pos (by omega), if_pos (by omega), text_eq (by rw [h3]; omega), Option.bind_some, text_eq (by rw [List.length_append, tx_len, h3]; omega), Option.bind_some, w1 hi (by omega)]
  rfl
theorem nodeJ_ev (h : Fit l1 l2 l3) (hin : 64 ≤ a1 ∧ a1 ≤ 4096) (hs : (szN l1 l2 l3 : Int) ≤ a1) : Ev (fun k => node_Bytes.j0 k a1 kind cnt b l1 l2 l3) (outB l1 l2 l3 kind cnt a1, 0) := by
  have hb1 := sP_le h.p l1.length (Nat.le_refl _)
  have hn1 := h.n1
  have hn3 := h.n3
  have hsz : szN l1 l2 l3 = 3 + 3 * l3.length + sP l1 l1.length + sK l2 l2.length := rfl
  have e1 : (oP l1 (hd kind cnt) l1.length).length = 3 + sP l1 l1.length := oP_len _ _ _
  have e2 : (oC l3 (oP l1 (hd kind cnt) l1.length) l3.length).length = 3 + sP l1 l1.length + 3 * l3.length := by rw [oC_len, e1]
  have h2 := nodeK_ev a1 h (oC l3 (oP l1 (hd kind cnt) l1.length) l3.length) (by rw [e2]; omega) (by rw [e2]; omega) hin.2
  have e3 : a1.toNat - ((oC l3 (oP l1 (hd kind cnt) l1.length) l3.length).length + sK l2 l2.length) = a1.toNat - szN l1 l2 l3 := by rw [e2]; omega
  rw [e3] at h2
  have h1 := nodeC_ev b a1 h (oP l1 (hd kind cnt) l1.length) (by rw [e1]; omega) h2
  have h0 := nodeP_ev b a1 h (hd kind cnt) (show 3 ≤ _ by omega) h1
  refine Ev.step (f := fun k => node_Bytes.l0 k a1 (hd kind cnt) l1 (l1.length : Int) 0 b l1 l2 l3) (fun k => ?_) h0
  rw [node_Bytes.j0, if_pos (by omega), if_pos (by omega), Option.bind_some, Option.bind_some, if_pos (show (List.replicate 0 (0 : Int)).length + ([kind % 256, (cnt / 256) % 256, cnt % 256] : List Int).length < 140737488355328 from (show (0 + 3 : Nat) < 140737488355328 by omega))]
  rfl
theorem ch_eq {c : Int} (h : 1 ≤ c ∧ c ≤ 16777215) : ([(wrap64 (Int.tdiv c 65536)) % 256, (Int.tmod (wrap64 (Int.tdiv c 256)) 256) % 256, (Int.tmod c 256) % 256] : List Int) = ch c := by
  have e1 : Int.tdiv c 65536 = c / 65536 := Int.tdiv_eq_ediv_of_nonneg (by omega)
  have e2 : Int.tdiv c 256 = c / 256 := Int.tdiv_eq_ediv_of_nonneg (by omega)
  have e3 : Int.tmod c 256 = c % 256 := Int.tmod_eq_emod_of_nonneg (by omega)
  have e4 : wrap64 (c / 65536) = c / 65536 := w64 (by omega) (by omega)
  have e5 : wrap64 (c / 256) = c / 256 := w64 (by omega) (by omega)
  have e6 : Int.tmod (c / 256) 256 = (c / 256) % 256 := Int.tmod_eq_emod_of_nonneg (by omega)
  rw [e1, e2, e3, e4, e5, e6]
  unfold ch
  congr 2
  · omega
  · congr 1
    omega
theorem hd_eq {kind cnt : Int} (h : 0 ≤ cnt ∧ cnt ≤ 100000) : ([kind % 256, (wrap64 (Int.tdiv cnt 256)) % 256, (Int.tmod cnt 256) % 256] : List Int) = hd kind cnt := by
  have e2 : Int.tdiv cnt 256 = cnt / 256 := Int.tdiv_eq_ediv_of_nonneg (by omega)
  have e3 : Int.tmod cnt 256 = cnt % 256 := Int.tmod_eq_emod_of_nonneg (by omega)
  have e5 : wrap64 (cnt / 256) = cnt / 256 := w64 (by omega) (by omega)
  rw [e2, e3, e5]
  unfold hd
  congr 2
  congr 1
  omega
theorem refZ_ev (X : List Int) (hX : (X.length : Int) ≤ a1) (ha1 : a1 ≤ 4096) : Ev (fun k => chandleryref08_Bytes.l3 k a1 X) (X ++ List.replicate (a1.toNat - X.length) 0) := by
  have h := ev_go (fun i k => chandleryref08_Bytes.l3 k a1 (X ++ List.replicate i 0)) (a1.toNat - X.length) (v := X ++ List.replicate (a1.toNat - X.length) 0) (fun i hi k => ?_) (Ev.step (f := fun _ => some (X ++ List.replicate (a1.toNat - X.length) 0)) (fun k => ?_) (Ev.now _))
  · exact Ev.congr (fun k => by show _ = chandleryref08_Bytes.l3 k a1 (X ++ []); rw [List.append_nil]) h
  · have e : (X ++ List.replicate i (0 : Int)).length = X.length + i := by rw [List.length_append, List.length_replicate]
    rw [chandleryref08_Bytes.l3, if_pos (by rw [e]; omega), if_pos (by rw [e]; omega), List.append_assoc, ← List.replicate_succ']
  · have e : (X ++ List.replicate (a1.toNat - X.length) (0 : Int)).length = X.length + (a1.toNat - X.length) := by rw [List.length_append, List.length_replicate]
    rw [chandleryref08_Bytes.l3, if_neg (by rw [e]; omega)]
theorem refBK_ev (h : Fit l1 l2 l3) (X : List Int) (hX : X.length ≤ 12000000) {v : List Int} (hv : Ev (fun k => chandleryref08_Bytes.l3 k a1 (oK l2 X l2.length)) v) :
    Ev (fun k => chandleryref08_Bytes.l2 k a1 X 0 b l1 l2 l3) v := by
  have hn2 := h.n2
  have hb := sK_le h.k
  refine ev_go (fun i k => chandleryref08_Bytes.l2 k a1 (oK l2 X i) (i : Int) b l1 l2 l3) l2.length (fun i hi k => ?_) (Ev.step (f := fun k => chandleryref08_Bytes.l3 k a1 (oK l2 X l2.length)) (fun k => by rw [chandleryref08_Bytes.l2, if_neg (by omega)]) hv)
  have h1 := hb i (by omega)
  have h2 : (rdOf ByteArray.empty l2 (i : Int)).size ≤ 2000 := h.k i hi
  have h3 := oK_len l2 X i
  rw [chandleryref08_Bytes.l2, if_pos (by omega), if_pos (by omega), if_pos (by omega), Option.bind_some, if_pos (by rw [List.length_append, h3]; show _ + 1 + _ < _; omega), w1 hi (by omega), List.append_assoc]
  rfl
theorem refBC_ev (h : Fit l1 l2 l3) (hc : ∀ j, j < l3.length → refC l3 j) (X : List Int) (hX : X.length ≤ 11000000) {v : List Int} (hv : Ev (fun k => chandleryref08_Bytes.l2 k a1 (oC l3 X l3.length) 0 b l1 l2 l3) v) :
    Ev (fun k => chandleryref08_Bytes.l1 k a1 X 0 b l1 l2 l3) v := by
  have hn3 := h.n3
  refine ev_go (fun i k => chandleryref08_Bytes.l1 k a1 (oC l3 X i) (i : Int) b l1 l2 l3) l3.length (fun i hi k => ?_) (Ev.step (f := fun k => chandleryref08_Bytes.l2 k a1 (oC l3 X l3.length) 0 b l1 l2 l3) (fun k => by rw [chandleryref08_Bytes.l1, if_neg (by omega)]) hv)
  have h3 := oC_len l3 X i
  obtain ⟨o1, o2⟩ := hc i hi
  rw [chandleryref08_Bytes.l1, if_pos (by omega), if_pos (by omega), Option.bind_some, if_pos (by rw [h3]; show _ + 3 < _; omega), w1 hi (by omega), ch_eq ⟨by omega, by omega⟩]
  rfl
theorem refBP_ev (h : Fit l1 l2 l3) (X : List Int) (hX : X.length ≤ 1000000) {v : List Int} (hv : Ev (fun k => chandleryref08_Bytes.l1 k a1 (oP l1 X l1.length) 0 b l1 l2 l3) v) :
    Ev (fun k => chandleryref08_Bytes.l0 k a1 X 0 b l1 l2 l3) v := by
  have hn1 := h.n1
  have hb := sP_le h.p
  refine ev_go (fun i k => chandleryref08_Bytes.l0 k a1 (oP l1 X i) (i : Int) b l1 l2 l3) l1.length (fun i hi k => ?_) (Ev.step (f := fun k => chandleryref08_Bytes.l1 k a1 (oP l1 X l1.length) 0 b l1 l2 l3) (fun k => by rw [chandleryref08_Bytes.l0, if_neg (by omega)]) hv)
  have h1 := hb i (by omega)
  have h2 : (rd_T42 l1 (i : Int)).f0.size + (rd_T42 l1 (i : Int)).f1.size ≤ 2000 := h.p i hi
  have h3 := oP_len l1 X i
  have h4 : ∀ L : List Int, ∀ y : Int, (L ++ [y]).length = L.length + 1 := fun L y => by rw [List.length_append]; rfl
  rw [chandleryref08_Bytes.l0, if_pos (by omega), if_pos (by omega), if_pos (by omega), Option.bind_some, if_pos (by rw [h4, h3]; omega), Option.bind_some, if_pos (by rw [List.length_append, bytesOf_length, h4, h3]; omega), Option.bind_some, if_pos (by rw [h4, List.length_append, bytesOf_length, h4, h3]; omega), w1 hi (by omega)]
  show chandleryref08_Bytes.l0 k a1 _ _ b l1 l2 l3 = chandleryref08_Bytes.l0 k a1 ((oP l1 X i ++ tx (rd_T42 l1 (i : Int)).f0) ++ tx (rd_T42 l1 (i : Int)).f1) _ b l1 l2 l3
  congr 1
  unfold tx
  simp only [List.append_assoc, List.cons_append, List.nil_append]
theorem refJ_ev (h : Fit l1 l2 l3) (hin : 64 ≤ a1 ∧ a1 ≤ 4096) (hs : (szN l1 l2 l3 : Int) ≤ a1) (hc : ∀ j, j < l3.length → refC l3 j) (hcnt : 0 ≤ cnt ∧ cnt ≤ 100000) : Ev (fun k => chandleryref08_Bytes.j0 k a1 kind cnt b l1 l2 l3) (outB l1 l2 l3 kind cnt a1) := by
  have hb1 := sP_le h.p l1.length (Nat.le_refl _)
  have hn1 := h.n1
  have hn3 := h.n3
  have hlen := outN_len l1 l2 l3 kind cnt
  have e1 : (oP l1 (hd kind cnt) l1.length).length = 3 + sP l1 l1.length := oP_len _ _ _
  have e2 : (oC l3 (oP l1 (hd kind cnt) l1.length) l3.length).length = 3 + sP l1 l1.length + 3 * l3.length := by rw [oC_len, e1]
  have h3 := refZ_ev a1 (outN l1 l2 l3 kind cnt) (by rw [hlen]; exact hs) hin.2
  rw [hlen] at h3
  have h2 := refBK_ev b a1 h (oC l3 (oP l1 (hd kind cnt) l1.length) l3.length) (by rw [e2]; omega) h3
  have h1 := refBC_ev b a1 h hc (oP l1 (hd kind cnt) l1.length) (by rw [e1]; omega) h2
  have h0 := refBP_ev b a1 h (hd kind cnt) (show 3 ≤ _ by omega) h1
  refine Ev.step (f := fun k => chandleryref08_Bytes.l0 k a1 (hd kind cnt) 0 b l1 l2 l3) (fun k => ?_) h0
  rw [chandleryref08_Bytes.j0, hd_eq hcnt]
end
theorem bytes_both (b : Bool) {l1 : List S42} {l2 : List ByteArray} {l3 : List Int} (a1 : Int) (h : Fit l1 l2 l3) {code : Int} (hc : Ev (fun k => node_Check.f k b l1 l2 l3 a1) code) :
    (code ≠ 0 → Ev (fun k => node_Bytes.f k b l1 l2 l3 a1) ([], code)) ∧
    (code = 0 → (64 ≤ a1 ∧ a1 ≤ 4096) → (szN l1 l2 l3 : Int) ≤ a1 → (∀ j, j < l3.length → refC l3 j) → ∃ out, Ev (fun k => node_Bytes.f k b l1 l2 l3 a1) (out, 0) ∧ Ev (fun k => chandleryref08_Bytes.f k b l1 l2 l3 a1) out ∧ (out.length : Int) = a1 ∧
      out = outB l1 l2 l3 (if b = true then 1 else 2) (if b = true then (l1.length : Int) else (l2.length : Int)) a1) := by
  have hn1 := h.n1
  have hn2 := h.n2
  refine ⟨fun hne => ?_, fun h0 hin hs hcc => ?_⟩
  · refine Ev.congr (g := fun k => node_Bytes.f k b l1 l2 l3 a1) (f := fun k => (node_Check.f k b l1 l2 l3 a1).bind fun t => if t = 0 then (if b = true then node_Bytes.j0 k a1 1 (l1.length : Int) b l1 l2 l3 else node_Bytes.j0 k a1 2 (l2.length : Int) b l1 l2 l3) else some ([], t)) (fun k => rfl) (Ev.bind (f := fun k t => if t = 0 then (if b = true then node_Bytes.j0 k a1 1 (l1.length : Int) b l1 l2 l3 else node_Bytes.j0 k a1 2 (l2.length : Int) b l1 l2 l3) else some ([], t)) hc ?_)
    exact Ev.congr (f := fun _ => some (([] : List Int), code)) (fun k => if_neg hne) (Ev.now _)
  · have hlen : ∀ kind cnt, ((outB l1 l2 l3 kind cnt a1).length : Int) = a1 := by
      intro kind cnt
      unfold outB
      rw [List.length_append, outN_len, List.length_replicate]
      omega
    have hb : ∀ {v}, Ev (fun k => if b = true then node_Bytes.j0 k a1 1 (l1.length : Int) b l1 l2 l3 else node_Bytes.j0 k a1 2 (l2.length : Int) b l1 l2 l3) v → Ev (fun k => node_Bytes.f k b l1 l2 l3 a1) v := fun hv =>
      Ev.congr (g := fun k => node_Bytes.f k b l1 l2 l3 a1) (f := fun k => (node_Check.f k b l1 l2 l3 a1).bind fun t => if t = 0 then (if b = true then node_Bytes.j0 k a1 1 (l1.length : Int) b l1 l2 l3 else node_Bytes.j0 k a1 2 (l2.length : Int) b l1 l2 l3) else some ([], t)) (fun k => rfl) (Ev.bind (f := fun k t => if t = 0 then (if b = true then node_Bytes.j0 k a1 1 (l1.length : Int) b l1 l2 l3 else node_Bytes.j0 k a1 2 (l2.length : Int) b l1 l2 l3) else some ([], t)) hc (Ev.congr (fun k => if_pos h0) hv))
    cases b
    · refine ⟨_, hb (Ev.congr (fun k => if_neg (by decide)) (nodeJ_ev false a1 2 (l2.length : Int) h hin hs)), ?_, hlen _ _, rfl⟩
      exact Ev.congr (fun k => by unfold chandleryref08_Bytes.f; rw [if_neg (by decide)]) (refJ_ev false a1 2 (l2.length : Int) h hin hs hcc ⟨by omega, by omega⟩)
    · refine ⟨_, hb (Ev.congr (fun k => if_pos rfl) (nodeJ_ev true a1 1 (l1.length : Int) h hin hs)), ?_, hlen _ _, rfl⟩
      exact Ev.congr (fun k => by unfold chandleryref08_Bytes.f; rw [if_pos rfl]) (refJ_ev true a1 1 (l1.length : Int) h hin hs hcc ⟨by omega, by omega⟩)
end Go.Proofs.YtjhenmegcgnkgaaX
