/- Node: what node.Bytes lays down, node.Parse reads as itself; what node.Parse reads, node.Bytes lays down again. No walk. -/
import Derived.Test.YtjhenmegcgnkgaaQNodex5
import Derived.Test.YtjhenmegcgnkgaaNodeTrip
import Derived.Test.YtjhenmegcgnkgaaEv
set_option linter.unusedVariables false
namespace Go.Proofs.YtjhenmegcgnkgaaX
open Go.RowKit Go.Proofs.Ytjhenmegcgnkgaa.PNode Go.Proofs.YtjhenmegcgnkgaaW.PrintWords Go.Proofs.YtjhenmegcgnkgaaW.PrintLast Go.Proofs.YtjhenmegcgnkgaaW.PrintMore

def Good (b : Bool) (l1 : List S42) (l2 : List ByteArray) (l3 : List Int) (a1 : Int) : Prop :=
  (64 ≤ a1 ∧ a1 ≤ 4096) ∧ (szN l1 l2 l3 : Int) ≤ a1 ∧ ((b = true ∧ l2 = [] ∧ l3 = [] ∧ ∀ p ∈ l1, p.f0.size ≤ 255 ∧ p.f1.size ≤ 255) ∨ (b = false ∧ l1 = [] ∧ l3.length = l2.length + 1 ∧ (∀ p ∈ l2, p.size ≤ 255) ∧ ∀ c ∈ l3, 0 ≤ c ∧ c ≤ 16777215))
theorem check_node (b : Bool) {l1 : List S42} {l2 : List ByteArray} {l3 : List Int} (a1 : Int) (h : Fit l1 l2 l3) : ∃ code : Int, Ev (fun k => node_Check.f k b l1 l2 l3 a1) code ∧ (code = 0 → Good b l1 l2 l3 a1) := by
  have hn1 := h.n1
  have hn2 := h.n2
  have hn3 := h.n3
  by_cases hin : 64 ≤ a1 ∧ a1 ≤ 4096
  rotate_left
  · exact ⟨1, Ev.congr (f := fun _ => some (1 : Int)) (fun k => by unfold node_Check.f; rw [most_out hin]; rfl) (Ev.now 1), fun hc => absurd hc (by decide)⟩
  have hlim : l1.length ≤ 1000000 ∧ l2.length ≤ 1000000 ∧ l3.length ≤ 1000000 := ⟨by omega, by omega, by omega⟩
  obtain ⟨room, hroom⟩ : ∃ room, roomOf a1 = room := ⟨_, rfl⟩
  have hmost := most_in hin
  rw [hroom] at hmost
  have hsz := nodeSize_ev b h
  cases b
  · obtain ⟨ri, hri, cri⟩ := rise_ev l2 (by omega)
    refine ⟨checkI a1 room l1 l2 l3 ri (szN l1 l2 l3), ?_, fun hc => ?_⟩
    · refine Ev.congr (fun k => ?_) (Ev.bind (f := fun k ri => (node_Size.f k false l1 l2 l3).bind fun sz => some (checkI a1 room l1 l2 l3 ri sz)) hri (Ev.bind (f := fun k sz => some (checkI a1 room l1 l2 l3 ri sz)) hsz (Ev.now (checkI a1 room l1 l2 l3 ri (szN l1 l2 l3)))))
      unfold node_Check.f
      rw [hmost]
      simp only [Option.bind_some, if_true]
      rw [if_pos hlim]
      rfl
    · unfold checkI at hc
      by_cases h1 : (l1.length = 0 ∧ l3.length = l2.length + 1) ∧ ri = true ∧ (l2.any fun x => longB x room) = false ∧ (l3.any fun n => !inB n 1 16777215) = false
      · rw [if_pos h1] at hc
        by_cases hs : (szN l1 l2 l3 : Int) > a1
        · rw [if_pos hs] at hc
          cases hc
        obtain ⟨⟨g1, g2⟩, g3, g4, g5⟩ := h1
        have hr : ∀ j, j < l2.length → riseAt l2 j := by
          rcases cri with ⟨ha, _⟩ | ⟨_, e⟩
          · exact ha
          · rw [e] at g3
            cases g3
        refine ⟨hin, by omega, .inr ⟨rfl, List.length_eq_zero_iff.1 g1, g2, ?_, ?_⟩⟩
        · exact (mem_idx l2 ByteArray.empty (fun p => p.size ≤ 255)).2 fun j hj => (hr j hj).1.2
        · intro c hcm
          have := List.any_eq_false.1 g5 c hcm
          rw [Bool.not_eq_true, Bool.not_eq_false'] at this
          unfold inB at this
          rw [Bool.and_eq_true] at this
          have e1 : (1 : Int) ≤ c := of_decide_eq_true this.1
          have e2 : c ≤ 16777215 := of_decide_eq_true this.2
          exact ⟨by omega, e2⟩
      · rw [if_neg h1] at hc
        cases hc
  · obtain ⟨ri, hri, cri⟩ := rise_ev (l1.map S42.f0) (by rw [List.length_map]; omega)
    refine ⟨checkL a1 room l1 l2 l3 ri (szN l1 l2 l3), ?_, fun hc => ?_⟩
    · refine Ev.congr (fun k => ?_) (Ev.bind (f := fun k ri => (node_Size.f k true l1 l2 l3).bind fun sz => some (checkL a1 room l1 l2 l3 ri sz)) hri (Ev.bind (f := fun k sz => some (checkL a1 room l1 l2 l3 ri sz)) hsz (Ev.now (checkL a1 room l1 l2 l3 ri (szN l1 l2 l3)))))
      unfold node_Check.f
      rw [hmost]
      simp only [Option.bind_some, if_true]
      rw [if_pos hlim]
    · unfold checkL at hc
      by_cases h1 : l3.length + l2.length = 0 ∧ ((l1.map prOf).all (pairOk room)) = true ∧ ri = true ∧ ((l1.map S42.f0).any fun x => longB x room) = false
      · rw [if_pos h1] at hc
        by_cases hs : (szN l1 l2 l3 : Int) > a1
        · rw [if_pos hs] at hc
          cases hc
        obtain ⟨g1, g2, g3, g4⟩ := h1
        have hr : ∀ j, j < (l1.map S42.f0).length → riseAt (l1.map S42.f0) j := by
          rcases cri with ⟨ha, _⟩ | ⟨_, e⟩
          · exact ha
          · rw [e] at g3
            cases g3
        refine ⟨hin, by omega, .inl ⟨rfl, List.length_eq_zero_iff.1 (by omega), List.length_eq_zero_iff.1 (by omega), ?_⟩⟩
        intro p hp
        have h2 := (mem_idx (l1.map S42.f0) ByteArray.empty (fun p => p.size ≤ 255)).2 (fun j hj => (hr j hj).1.2) p.f0 (List.mem_map.2 ⟨p, hp, rfl⟩)
        have h3 := List.all_eq_true.1 g2 (prOf p) (List.mem_map.2 ⟨p, hp, rfl⟩)
        unfold pairOk at h3
        rw [Bool.and_eq_true] at h3
        have e1 : (p.f1.size : Int) ≤ 255 := of_decide_eq_true h3.1
        exact ⟨h2, by omega⟩
      · rw [if_neg h1] at hc
        cases hc

abbrev kindOf (b : Bool) : Int := if b = true then 1 else 2
abbrev cntOf (b : Bool) (l1 : List S42) (l2 : List ByteArray) : Int := if b = true then (l1.length : Int) else (l2.length : Int)
theorem bytes_node (b : Bool) {l1 : List S42} {l2 : List ByteArray} {l3 : List Int} (a1 : Int) (h : Fit l1 l2 l3) :
    ∃ (out : List Int) (code : Int), Ev (fun k => node_Bytes.f k b l1 l2 l3 a1) (out, code) ∧ (code = 0 → Good b l1 l2 l3 a1 ∧ out = outB l1 l2 l3 (kindOf b) (cntOf b l1 l2) a1) := by
  obtain ⟨code, hc, hg⟩ := check_node b a1 h
  have hb : ∀ {v}, Ev (fun k => if code = 0 then (if b = true then node_Bytes.j0 k a1 1 (l1.length : Int) b l1 l2 l3 else node_Bytes.j0 k a1 2 (l2.length : Int) b l1 l2 l3) else some ([], code)) v → Ev (fun k => node_Bytes.f k b l1 l2 l3 a1) v := fun hv =>
    Ev.congr (g := fun k => node_Bytes.f k b l1 l2 l3 a1) (f := fun k => (node_Check.f k b l1 l2 l3 a1).bind fun t => if t = 0 then (if b = true then node_Bytes.j0 k a1 1 (l1.length : Int) b l1 l2 l3 else node_Bytes.j0 k a1 2 (l2.length : Int) b l1 l2 l3) else some ([], t)) (fun k => rfl) (Ev.bind (f := fun k t => if t = 0 then (if b = true then node_Bytes.j0 k a1 1 (l1.length : Int) b l1 l2 l3 else node_Bytes.j0 k a1 2 (l2.length : Int) b l1 l2 l3) else some ([], t)) hc hv)
  by_cases h0 : code = 0
  · obtain ⟨hin, hs, hk⟩ := hg h0
    refine ⟨_, code, ?_, fun _ => ⟨⟨hin, hs, hk⟩, rfl⟩⟩
    refine hb (Ev.congr (fun k => if_pos h0) ?_)
    rw [h0]
    cases b
    · exact Ev.congr (fun k => if_neg (by decide)) (nodeJ_ev false a1 2 (l2.length : Int) h hin hs)
    · exact Ev.congr (fun k => if_pos rfl) (nodeJ_ev true a1 1 (l1.length : Int) h hin hs)
  · exact ⟨[], code, hb (Ev.congr (f := fun _ => some (([] : List Int), code)) (fun k => if_neg h0) (Ev.now _)), fun hc => absurd hc h0⟩
theorem outB_len {l1 : List S42} {l2 : List ByteArray} {l3 : List Int} {kind cnt a1 : Int} (h : (szN l1 l2 l3 : Int) ≤ a1) : ((outB l1 l2 l3 kind cnt a1).length : Int) = a1 := by
  unfold outB
  rw [List.length_append, outN_len, List.length_replicate]
  omega
theorem outB_flat (l1 : List S42) (l2 : List ByteArray) (l3 : List Int) (kind cnt a1 : Int) : outB l1 l2 l3 kind cnt a1 = hd kind cnt ++ (flatP l1 ++ (flatC l3 ++ (flatK l2 ++ List.replicate (a1.toNat - szN l1 l2 l3) 0))) := by
  unfold outB outN
  rw [oK_flat l2 _ l2.length (Nat.le_refl _), oC_flat l3 _ l3.length (Nat.le_refl _), oP_flat l1 _ l1.length (Nat.le_refl _), List.take_length, List.take_length, List.take_length]
  simp only [List.append_assoc]
theorem outB_oct (l1 : List S42) (l2 : List ByteArray) (l3 : List Int) (kind cnt a1 : Int) : octB (outB l1 l2 l3 kind cnt a1) = true := by
  have ho : Oct (outB l1 l2 l3 kind cnt a1) := by
    rw [outB_flat]
    refine oct_append (fun x hx => ?_) (oct_append (flatP_oct _) (oct_append (flatC_oct _) (oct_append (flatK_oct _) (zero_oct _))))
    unfold hd at hx
    simp only [List.mem_cons, List.not_mem_nil, or_false] at hx
    rcases hx with rfl | rfl | rfl <;> exact mod_oct _
  exact List.all_eq_true.2 fun x hx => by
    have := ho x hx
    rw [Bool.and_eq_true]
    exact ⟨decide_eq_true this.1, decide_eq_true this.2⟩
theorem equal_eq (a b : List Int) : bytes_Equal.f a b = some (decide ((strOfNums a).toList = (strOfNums b).toList)) := by
  unfold bytes_Equal.f
  congr 1
  by_cases h : (strOfNums a).toList = (strOfNums b).toList
  · rw [h, beq_self_eq_true, decide_eq_true rfl]
  · rw [decide_eq_false h]
    exact beq_eq_false_iff_ne.2 h

theorem parse_trip {b : Bool} {l1 : List S42} {l2 : List ByteArray} {l3 : List Int} {a1 : Int} (h : Fit l1 l2 l3) (hg : Good b l1 l2 l3 a1) (hb : Ev (fun k => node_Bytes.f k b l1 l2 l3 a1) (outB l1 l2 l3 (kindOf b) (cntOf b l1 l2) a1, 0)) :
    Ev (fun k => node_Parse.f k (outB l1 l2 l3 (kindOf b) (cntOf b l1 l2) a1)) (b, l1, l2, l3, 0) := by
  obtain ⟨hin, hs, hk⟩ := hg
  have hn1 := h.n1
  have hn2 := h.n2
  have hn3 := h.n3
  have hlen := outB_len (kind := kindOf b) (cnt := cntOf b l1 l2) hs
  have hoct := outB_oct l1 l2 l3 (kindOf b) (cntOf b l1 l2) a1
  have hfl := outB_flat l1 l2 l3 (kindOf b) (cntOf b l1 l2) a1
  obtain ⟨out, ho⟩ : ∃ out, outB l1 l2 l3 (kindOf b) (cntOf b l1 l2) a1 = out := ⟨_, rfl⟩
  rw [ho] at hlen hoct hfl hb ⊢
  have hr : 64 ≤ out.length ∧ out.length ≤ 4096 := ⟨by omega, by omega⟩
  have hd3 : out.drop 3 = flatP l1 ++ (flatC l3 ++ (flatK l2 ++ List.replicate (a1.toNat - szN l1 l2 l3) 0)) := by rw [hfl]; rfl
  have r0 : rd out 0 = kindOf b % 256 := by rw [hfl]; rfl
  have r1 : rd out 1 = (cntOf b l1 l2 / 256) % 256 := by rw [hfl]; rfl
  have r2 : rd out 2 = cntOf b l1 l2 % 256 := by rw [hfl]; rfl
  have hlen2 : (out.length : Int) = a1 := hlen
  rcases hk with ⟨rfl, rfl, rfl, hp⟩ | ⟨rfl, rfl, hc, hp, hq⟩
  · have hcnt : (rd out 1 * 256 + rd out 2).toNat = l1.length := by
      rw [r1, r2]
      show ((l1.length : Int) / 256 % 256 * 256 + (l1.length : Int) % 256).toNat = _
      omega
    have hlo : leafOf out = (l1, flatC [] ++ (flatK [] ++ List.replicate (a1.toNat - szN l1 [] []) 0), false) := by
      unfold leafOf
      rw [hcnt, hd3]
      exact leaf_trip l1 [] _ hp
    refine Ev.congr (f := fun k => (node_Bytes.f k true (leafOf out).1 [] [] (out.length : Int)).bind fun b => (bytes_Equal.f b.1 out).bind fun q => (if (leafOf out).2.2 = false ∧ b.2 = 0 ∧ q = true then some (true, (leafOf out).1, [], [], 0) else some (false, [], [], [], 4))) (fun k => by unfold node_Parse.f; rw [if_pos hoct, if_pos hr, if_pos (show rd out 0 = 1 from r0.trans rfl)]) ?_
    rw [hlo, hlen2]
    refine Ev.bind (f := fun k t => _) hb ?_
    exact Ev.congr (f := fun _ => some (true, l1, [], [], 0)) (fun k => by rw [equal_eq, Option.bind_some, decide_eq_true rfl]; exact if_pos ⟨rfl, rfl, rfl⟩) (Ev.now _)
  · have hcnt : (rd out 1 * 256 + rd out 2).toNat = l2.length := by
      rw [r1, r2]
      show ((l2.length : Int) / 256 % 256 * 256 + (l2.length : Int) % 256).toNat = _
      omega
    have hko : kidsOf out = (l3, flatK l2 ++ List.replicate (a1.toNat - szN [] l2 l3) 0, false) := by
      unfold kidsOf
      rw [hcnt, hd3, ← hc]
      exact kids_trip l3 [] _ hq
    have hyo : keysOf out = (l2, List.replicate (a1.toNat - szN [] l2 l3) 0, false) := by
      unfold keysOf
      rw [hcnt, hko]
      exact keys_trip l2 [] _ hp
    refine Ev.congr (f := fun k => (node_Bytes.f k false [] (keysOf out).1 (kidsOf out).1 (out.length : Int)).bind fun b => (bytes_Equal.f b.1 out).bind fun q => (if (keysOf out).2.2 = false ∧ b.2 = 0 ∧ q = true then some (false, [], (keysOf out).1, (kidsOf out).1, 0) else some (false, [], [], [], 4))) (fun k => by unfold node_Parse.f; rw [if_pos hoct, if_pos hr, if_neg (show ¬ rd out 0 = 1 by rw [r0]; decide), if_pos (show rd out 0 = 2 from r0.trans rfl)]) ?_
    rw [hko, hyo, hlen2]
    refine Ev.bind (f := fun k t => _) hb ?_
    exact Ev.congr (f := fun _ => some (false, [], l2, l3, 0)) (fun k => by rw [equal_eq, Option.bind_some, decide_eq_true rfl]; exact if_pos ⟨rfl, rfl, rfl⟩) (Ev.now _)

abbrev NR := Bool × (List S42) × List ByteArray × List Int × Int
theorem oct_of {l : List Int} (h : octB l = true) : Oct l := fun x hx => by
  have := List.all_eq_true.1 h x hx
  rw [Bool.and_eq_true] at this
  exact ⟨of_decide_eq_true this.1, of_decide_eq_true this.2⟩
theorem fit_leaf {l : List S42} (hl : l.length ≤ 5000) (h : ∀ p ∈ l, p.f0.size ≤ 255 ∧ p.f1.size ≤ 255) : Fit l [] [] := by
  refine ⟨hl, by decide, by decide, fun j hj => ?_, fun j hj => absurd hj (Nat.not_lt_zero j)⟩
  have := (mem_idx l z42 (fun p => p.f0.size ≤ 255 ∧ p.f1.size ≤ 255)).1 h j hj
  have e1 : p0 l j ≤ 255 := this.1
  have e2 : p1 l j ≤ 255 := this.2
  omega
theorem fit_inner {l2 : List ByteArray} {cs : List Int} (hl : l2.length ≤ 5000) (hc : cs.length ≤ 5000) (h : ∀ p ∈ l2, p.size ≤ 255) : Fit [] l2 cs := by
  refine ⟨by decide, hl, hc, fun j hj => absurd hj (Nat.not_lt_zero j), fun j hj => ?_⟩
  have := (mem_idx l2 ByteArray.empty (fun p => p.size ≤ 255)).1 h j hj
  have e1 : ks l2 j ≤ 255 := this
  omega
theorem parse_any (l : List Int) (ho : octB l = true) : ∃ N : NR, Ev (fun k => node_Parse.f k l) N ∧ (N.2.2.2.2 = 0 → ∃ want : List Int, Ev (fun k => node_Bytes.f k N.1 N.2.1 N.2.2.1 N.2.2.2.1 (l.length : Int)) (want, 0) ∧ (strOfNums want).toList = (strOfNums l).toList) := by
  have hoct := oct_of ho
  have hbad : ∀ {f : Nat → Option NR}, (∀ k, f k = some (false, [], [], [], 4)) → ∃ N : NR, Ev f N ∧ (N.2.2.2.2 = 0 → ∃ want : List Int, Ev (fun k => node_Bytes.f k N.1 N.2.1 N.2.2.1 N.2.2.2.1 (l.length : Int)) (want, 0) ∧ (strOfNums want).toList = (strOfNums l).toList) := fun h => ⟨(false, [], [], [], 4), Ev.congr h (Ev.now _), fun hc => absurd hc (by decide)⟩
  by_cases hr : 64 ≤ l.length ∧ l.length ≤ 4096
  rotate_left
  · exact hbad fun k => by unfold node_Parse.f; rw [if_pos ho, if_neg hr]
  have o1 := octB_rd ho 1
  have o2 := octB_rd ho 2
  have hdl : (l.drop 3).length ≤ 4093 := by rw [List.length_drop]; omega
  have hod : Oct (l.drop 3) := fun x hx => hoct x (List.mem_of_mem_drop hx)
  by_cases h1 : rd l 0 = 1
  · have hlen := leafR_len (rd l 1 * 256 + rd l 2).toNat (l.drop 3) false [] hod
    have hps : (leafOf l).1.length ≤ 5000 := by have h' := hlen.1; rw [List.length_nil] at h'; unfold leafOf; omega
    obtain ⟨want, code, n1, _⟩ := bytes_node true (l.length : Int) (fit_leaf hps (hlen.2 (fun p hp => by cases hp)))
    have hf : ∀ r : NR, (if (leafOf l).2.2 = false ∧ code = 0 ∧ decide ((strOfNums want).toList = (strOfNums l).toList) = true then some (true, (leafOf l).1, ([] : List ByteArray), ([] : List Int), (0 : Int)) else some (false, [], [], [], 4)) = some r → Ev (fun k => node_Parse.f k l) r := fun r hr2 => by
      refine Ev.congr (f := fun k => (node_Bytes.f k true (leafOf l).1 [] [] (l.length : Int)).bind fun b => (bytes_Equal.f b.1 l).bind fun q => (if (leafOf l).2.2 = false ∧ b.2 = 0 ∧ q = true then some (true, (leafOf l).1, [], [], 0) else some (false, [], [], [], 4))) (fun k => by unfold node_Parse.f; rw [if_pos ho, if_pos hr, if_pos h1]) ?_
      refine Ev.bind (f := fun k t => _) n1 ?_
      exact Ev.congr (f := fun _ => some r) (fun k => by rw [equal_eq, Option.bind_some]; exact hr2) (Ev.now r)
    by_cases hk : (leafOf l).2.2 = false ∧ code = 0 ∧ decide ((strOfNums want).toList = (strOfNums l).toList) = true
    · exact ⟨_, hf _ (if_pos hk), fun _ => ⟨want, by rw [← hk.2.1]; exact n1, of_decide_eq_true hk.2.2⟩⟩
    · exact ⟨_, hf _ (if_neg hk), fun hc => absurd hc (by decide)⟩
  · by_cases h2 : rd l 0 = 2
    · have hkl := kidsR_len ((rd l 1 * 256 + rd l 2).toNat + 1) (l.drop 3) false []
      have hyl := keysR_len (rd l 1 * 256 + rd l 2).toNat (kidsOf l).2.1 (kidsOf l).2.2 [] (hkl.2.1 hod)
      have hcs : (kidsOf l).1.length ≤ 5000 := by have h' := hkl.1; rw [List.length_nil] at h'; unfold kidsOf; omega
      have hks : (keysOf l).1.length ≤ 5000 := by
        have h' := hyl.1
        have h2' : (kidsOf l).2.1.length ≤ (l.drop 3).length := hkl.2.2
        rw [List.length_nil] at h'
        unfold keysOf
        omega
      obtain ⟨want, code, n1, _⟩ := bytes_node false (l.length : Int) (fit_inner hks hcs (hyl.2 (fun p hp => by cases hp)))
      have hf : ∀ r : NR, (if (keysOf l).2.2 = false ∧ code = 0 ∧ decide ((strOfNums want).toList = (strOfNums l).toList) = true then some (false, ([] : List S42), (keysOf l).1, (kidsOf l).1, (0 : Int)) else some (false, [], [], [], 4)) = some r → Ev (fun k => node_Parse.f k l) r := fun r hr2 => by
        refine Ev.congr (f := fun k => (node_Bytes.f k false [] (keysOf l).1 (kidsOf l).1 (l.length : Int)).bind fun b => (bytes_Equal.f b.1 l).bind fun q => (if (keysOf l).2.2 = false ∧ b.2 = 0 ∧ q = true then some (false, [], (keysOf l).1, (kidsOf l).1, 0) else some (false, [], [], [], 4))) (fun k => by unfold node_Parse.f; rw [if_pos ho, if_pos hr, if_neg h1, if_pos h2]) ?_
        refine Ev.bind (f := fun k t => _) n1 ?_
        exact Ev.congr (f := fun _ => some r) (fun k => by rw [equal_eq, Option.bind_some]; exact hr2) (Ev.now r)
      by_cases hk : (keysOf l).2.2 = false ∧ code = 0 ∧ decide ((strOfNums want).toList = (strOfNums l).toList) = true
      · exact ⟨_, hf _ (if_pos hk), fun _ => ⟨want, by rw [← hk.2.1]; exact n1, of_decide_eq_true hk.2.2⟩⟩
      · exact ⟨_, hf _ (if_neg hk), fun hc => absurd hc (by decide)⟩
    · exact hbad fun k => by unfold node_Parse.f; rw [if_pos ho, if_pos hr, if_neg h1, if_neg h2]
end Go.Proofs.YtjhenmegcgnkgaaX
