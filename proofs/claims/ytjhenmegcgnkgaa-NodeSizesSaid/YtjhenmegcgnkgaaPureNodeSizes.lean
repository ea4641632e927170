/- NodeSizes: the plain statement. Conditions: none but what the row tells of sizes. -/
import Derived.Test.YtjhenmegcgnkgaaQNodex11
import Derived.Test.YtjhenmegcgnkgaaNodeFit
import Derived.Test.YtjhenmegcgnkgaaNodeAwake
set_option linter.unusedVariables false
namespace Go.Proofs.Ytjhenmegcgnkgaa.Pure
open Go.RowKit Go.Proofs.Ytjhenmegcgnkgaa.PNode Go.Proofs.YtjhenmegcgnkgaaW.PrintWords Go.Proofs.YtjhenmegcgnkgaaW.PrintLast Go.Proofs.YtjhenmegcgnkgaaW.PrintMore Go.Proofs.YtjhenmegcgnkgaaX

theorem rd_app (l : List S42) (p : S42) (j : Nat) (h : j < l.length) : rd_T42 (l ++ [p]) (j : Int) = rd_T42 l (j : Int) := by
  unfold rd_T42
  rw [Int.toNat_natCast, List.getD_eq_getElem?_getD, List.getD_eq_getElem?_getD, List.getElem?_append_left h]
theorem rd_end (l : List S42) (p : S42) : rd_T42 (l ++ [p]) (l.length : Int) = p := by
  unfold rd_T42
  rw [Int.toNat_natCast, List.getD_eq_getElem?_getD, List.getElem?_append_right (Nat.le_refl _)]
  simp
theorem kd_app (l : List ByteArray) (p : ByteArray) (j : Nat) (h : j < l.length) : rdOf ByteArray.empty (l ++ [p]) (j : Int) = rdOf ByteArray.empty l (j : Int) := by
  unfold rdOf
  rw [Int.toNat_natCast, List.getD_eq_getElem?_getD, List.getD_eq_getElem?_getD, List.getElem?_append_left h]
theorem kd_end (l : List ByteArray) (p : ByteArray) : rdOf ByteArray.empty (l ++ [p]) (l.length : Int) = p := by
  unfold rdOf
  rw [Int.toNat_natCast, List.getD_eq_getElem?_getD, List.getElem?_append_right (Nat.le_refl _)]
  simp
theorem sP_app (l : List S42) (p : S42) : ∀ j, j ≤ l.length → sP (l ++ [p]) j = sP l j
  | 0, _ => rfl
  | j + 1, h => by
    show sP (l ++ [p]) j + (2 + (rd_T42 (l ++ [p]) (j : Int)).f0.size + (rd_T42 (l ++ [p]) (j : Int)).f1.size) = sP l j + (2 + (rd_T42 l (j : Int)).f0.size + (rd_T42 l (j : Int)).f1.size)
    rw [sP_app l p j (by omega), rd_app l p j (by omega)]
theorem sK_app (l : List ByteArray) (p : ByteArray) : ∀ j, j ≤ l.length → sK (l ++ [p]) j = sK l j
  | 0, _ => rfl
  | j + 1, h => by
    show sK (l ++ [p]) j + (1 + (rdOf ByteArray.empty (l ++ [p]) (j : Int)).size) = sK l j + (1 + (rdOf ByteArray.empty l (j : Int)).size)
    rw [sK_app l p j (by omega), kd_app l p j (by omega)]
theorem sP_more (l : List S42) (p : S42) : sP (l ++ [p]) (l ++ [p]).length = sP l l.length + (2 + p.f0.size + p.f1.size) := by
  rw [List.length_append]
  show sP (l ++ [p]) l.length + (2 + (rd_T42 (l ++ [p]) (l.length : Int)).f0.size + (rd_T42 (l ++ [p]) (l.length : Int)).f1.size) = _
  rw [sP_app l p l.length (Nat.le_refl _), rd_end]
theorem sK_more (l : List ByteArray) (p : ByteArray) : sK (l ++ [p]) (l ++ [p]).length = sK l l.length + (1 + p.size) := by
  rw [List.length_append]
  show sK (l ++ [p]) l.length + (1 + (rdOf ByteArray.empty (l ++ [p]) (l.length : Int)).size) = _
  rw [sK_app l p l.length (Nat.le_refl _), kd_end]

theorem nodeSizes (b : Bool) (l1 : List S42) (l2 : List ByteArray) (l3 : List Int) (x1 x2 : ByteArray) (x3 : Int) (s1 : ∀ p ∈ l1, p.f0.size ≤ reachBytes ∧ p.f1.size ≤ reachBytes) (h1 : x1.size ≤ reachBytes) (h2 : x2.size ≤ reachBytes) :
    ∃ f, chandlerylaw08_NodeSizes.f f b l1 l2 l3 x1 x2 x3 = some true := by
  obtain ⟨r, hr, hfew⟩ := few_ev b l1 l2 l3
  refine Ev.rounds (g := fun k => chandlerylaw08_NodeSizes.f k b l1 l2 l3 x1 x2 x3) ?_
  have hlet : Ev (fun k => chandlerylaw08_NodeSizes.j0 k x1 x2 x3 true b l1 l2 l3) true := Ev.step (f := fun _ => some true) (fun k => by rw [chandlerylaw08_NodeSizes.j0, if_pos rfl]) (Ev.now true)
  cases r
  · refine Ev.bind (f := fun k t => _) hr ?_
    exact Ev.congr (fun k => if_neg (by decide)) hlet
  have few := hfew rfl
  have h := fit_of few s1
  have n1 := few.n1
  have n2 := few.n2
  have n3 := few.n3
  have hrb : reachBytes ≤ 140737488355328 := by decide
  refine Ev.bind (f := fun k t => _) hr ?_
  refine Ev.congr (fun k => if_pos rfl) ?_
  by_cases hg : wrap64 ((x1.size : Int) + (x2.size : Int)) > 2000
  · rw [decide_eq_true hg]
    exact hlet
  rw [decide_eq_false hg]
  rw [w64 (by omega) (by omega)] at hg
  have hP : Fit (l1 ++ [(⟨x1, x2⟩ : S42)]) l2 l3 := by
    have hl : (l1 ++ [(⟨x1, x2⟩ : S42)]).length = l1.length + 1 := by simp
    refine ⟨by rw [hl]; omega, h.n2, h.n3, fun j hj => ?_, h.k⟩
    rw [hl] at hj
    by_cases hjl : j < l1.length
    · have := h.p j hjl
      show (rd_T42 (l1 ++ [(⟨x1, x2⟩ : S42)]) (j : Int)).f0.size + (rd_T42 (l1 ++ [(⟨x1, x2⟩ : S42)]) (j : Int)).f1.size ≤ 2000
      rw [rd_app l1 _ j hjl]
      exact this
    · have hjn : j = l1.length := by omega
      subst hjn
      show (rd_T42 (l1 ++ [(⟨x1, x2⟩ : S42)]) (l1.length : Int)).f0.size + (rd_T42 (l1 ++ [(⟨x1, x2⟩ : S42)]) (l1.length : Int)).f1.size ≤ 2000
      rw [rd_end]
      show x1.size + x2.size ≤ 2000
      omega
  have hK : Fit l1 (l2 ++ [x1]) (l3 ++ [x3]) := by
    have hl : (l2 ++ [x1]).length = l2.length + 1 := by simp
    have hl3 : (l3 ++ [x3]).length = l3.length + 1 := by simp
    refine ⟨h.n1, by rw [hl]; omega, by rw [hl3]; omega, h.p, fun j hj => ?_⟩
    rw [hl] at hj
    by_cases hjl : j < l2.length
    · have := h.k j hjl
      show (rdOf ByteArray.empty (l2 ++ [x1]) (j : Int)).size ≤ 2000
      rw [kd_app l2 _ j hjl]
      exact this
    · have hjn : j = l2.length := by omega
      subst hjn
      show (rdOf ByteArray.empty (l2 ++ [x1]) (l2.length : Int)).size ≤ 2000
      rw [kd_end]
      omega
  have h0 : Fit [] [] [] := ⟨by decide, by decide, by decide, fun j hj => absurd hj (Nat.not_lt_zero j), fun j hj => absurd hj (Nat.not_lt_zero j)⟩
  have e1 := nodeSize_ev b h
  have e2 := nodeSize_ev b hP
  have e3 := nodeSize_ev b hK
  have e4 := nodeSize_ev false h0
  have hsz : szN l1 l2 l3 ≤ 10000000 := by
    have := sP_le h.p l1.length (Nat.le_refl _)
    have := sK_le h.k l2.length (Nat.le_refl _)
    unfold szN
    omega
  have q2 : szN (l1 ++ [(⟨x1, x2⟩ : S42)]) l2 l3 = szN l1 l2 l3 + 2 + x1.size + x2.size := by
    unfold szN
    rw [sP_more]
    show 3 + 3 * l3.length + (sP l1 l1.length + (2 + x1.size + x2.size)) + _ = _
    omega
  have q3 : szN l1 (l2 ++ [x1]) (l3 ++ [x3]) = szN l1 l2 l3 + 4 + x1.size := by
    unfold szN
    rw [sK_more, List.length_append]
    show 3 + 3 * (l3.length + 1) + _ + (_ + (1 + x1.size)) = _
    omega
  have w2 : (szN (l1 ++ [(⟨x1, x2⟩ : S42)]) l2 l3 : Int) = wrap64 ((wrap64 ((wrap64 ((szN l1 l2 l3 : Int) + 2)) + (x1.size : Int))) + (x2.size : Int)) := by
    rw [q2, w64 (x := (szN l1 l2 l3 : Int) + 2) (by omega) (by omega), w64 (x := (szN l1 l2 l3 : Int) + 2 + (x1.size : Int)) (by omega) (by omega), w64 (by omega) (by omega)]
    omega
  have w3 : (szN l1 (l2 ++ [x1]) (l3 ++ [x3]) : Int) = wrap64 ((wrap64 ((szN l1 l2 l3 : Int) + 4)) + (x1.size : Int)) := by
    rw [q3, w64 (x := (szN l1 l2 l3 : Int) + 4) (by omega) (by omega), w64 (by omega) (by omega)]
    omega
  refine Ev.step (f := fun k => (node_Size.f k b l1 l2 l3).bind fun t305 => (chandlerylaw08_awake.f k).bind fun t306 => if t306 = true then (node_Size.f k b (l1 ++ [(⟨x1, x2⟩ : S42)]) l2 l3).bind fun t307 => if t307 = wrap64 ((wrap64 ((wrap64 (t305 + 2)) + (x1.size : Int))) + (x2.size : Int)) then (node_Size.f k b l1 (l2 ++ [x1]) (l3 ++ [x3])).bind fun t308 => if t308 = wrap64 ((wrap64 (t305 + 4)) + (x1.size : Int)) then (node_Size.f k false [] [] []).bind fun t309 => some (t309 == 3) else some false else some false else some false) (fun k => ?_) ?_
  · rw [chandlerylaw08_NodeSizes.j0, if_neg (by decide), Option.bind_some, if_pos (show ([] : List S42).length + l1.length < 4398046511104 by show 0 + l1.length < _; omega), Option.bind_some, if_pos (by show ([] ++ l1).length < _; rw [List.nil_append]; omega), Option.bind_some, if_pos (show ([] : List ByteArray).length + l2.length < 8796093022208 by show 0 + l2.length < _; omega), Option.bind_some, if_pos (by show ([] ++ l2).length < _; rw [List.nil_append]; omega), Option.bind_some, if_pos (show ([] : List Int).length + l3.length < 17592186044416 by show 0 + l3.length < _; omega), Option.bind_some, if_pos (by show ([] ++ l3).length < _; rw [List.nil_append]; omega)]
    rfl
  refine Ev.bind (f := fun k t => _) e1 ?_
  refine Ev.bind (f := fun k t => _) awake_ev ?_
  refine Ev.congr (fun k => if_pos rfl) ?_
  refine Ev.bind (f := fun k t => _) e2 ?_
  refine Ev.congr (fun k => if_pos w2) ?_
  refine Ev.bind (f := fun k t => _) e3 ?_
  refine Ev.congr (fun k => if_pos w3) ?_
  refine Ev.bind (f := fun k t => _) e4 ?_
  exact Ev.now true
end Go.Proofs.Ytjhenmegcgnkgaa.Pure
