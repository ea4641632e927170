/- The reference's names, and what stands in bytes: plain laws, no walk. -/
import Derived.Test.YtkmnjekbacdfoaaEvFind
import Derived.Test.YtkmnjekbacdfoaaQScanLx2
import Derived.Test.YtkmnjekbacdfoaaScanPlain
set_option linter.unusedVariables false
set_option linter.unusedSimpArgs false
namespace Go.Proofs.YtkmnjekbacdfoaaX
open Go.RowKit Go.Proofs.Ytkmnjekbacdfoaa.PScanL Go.Proofs.YtkmnjekbacdfoaaW.PrintWords Go.Proofs.YtkmnjekbacdfoaaW.PrintLast Go.Proofs.YtkmnjekbacdfoaaW.PrintMore

theorem few_ev (b : List Int) (l : List ByteArray) : ∃ r, Ev (fun k => chandlerylaw20_few.f k b l) r ∧ (r = true → b.length ≤ 2000 ∧ l.length ≤ 40 ∧ ∀ s ∈ l, s.size ≤ 200) := by
  have hno : Ev (fun k => chandlerylaw20_few.j0 k l true) false := Ev.step (f := fun _ => some false) (fun k => by rw [chandlerylaw20_few.j0, if_pos rfl]) (Ev.now _)
  by_cases hb : b.length ≤ 2000
  case neg => exact ⟨false, Ev.congr (fun k => by unfold chandlerylaw20_few.f; rw [if_pos (by omega)]) hno, fun h => by cases h⟩
  by_cases hlen : l.length ≤ 40
  case neg => exact ⟨false, Ev.congr (fun k => by unfold chandlerylaw20_few.f; rw [if_neg (by omega), decide_eq_true (by omega)]) hno, fun h => by cases h⟩
  have hf : ∀ k, chandlerylaw20_few.f k b l = chandlerylaw20_few.j0 k l false := fun k => by unfold chandlerylaw20_few.f; rw [if_neg (by omega), decide_eq_false (by omega)]
  have hj : ∀ r, Ev (fun k => chandlerylaw20_few.l0 k l ((0 : Nat) : Int)) r → Ev (fun k => chandlerylaw20_few.f k b l) r := fun r h => Ev.congr hf (Ev.step (fun k => by rw [chandlerylaw20_few.j0, if_neg Bool.false_ne_true]; rfl) h)
  have hgo : ∀ i, i < l.length → (fun i => decide (200 < (l.getD i ByteArray.empty).size)) i = false → ∀ v, Ev (fun k => chandlerylaw20_few.l0 k l ((i + 1 : Nat) : Int)) v → Ev (fun k => chandlerylaw20_few.l0 k l (i : Int)) v := fun i hi hh v hv => by
    have h2 := of_decide_eq_false hh
    rw [List.getD_eq_getElem?_getD, List.getElem?_eq_getElem hi] at h2
    have h3 : ¬ 200 < l[i].size := h2
    exact Ev.step (fun k => by
      show chandlerylaw20_few.l0 (k + 1) _ _ = _
      rw [chandlerylaw20_few.l0, if_pos (by omega), if_pos (by omega), rdB_get l i hi, if_neg (by omega), w1 hi (by omega)]) hv
  have hstop : ∀ i, i < l.length → (fun i => decide (200 < (l.getD i ByteArray.empty).size)) i = true → Ev (fun k => chandlerylaw20_few.l0 k l (i : Int)) false := fun i hi hh => by
    have h2 := of_decide_eq_true hh
    rw [List.getD_eq_getElem?_getD, List.getElem?_eq_getElem hi] at h2
    have h3 : 200 < l[i].size := h2
    exact Ev.step (f := fun _ => some false) (fun k => by
      show chandlerylaw20_few.l0 (k + 1) _ _ = _
      rw [chandlerylaw20_few.l0, if_pos (by omega), if_pos (by omega), rdB_get l i hi, if_pos (by omega)]) (Ev.now _)
  have hend : Ev (fun k => chandlerylaw20_few.l0 k l ((l.length : Nat) : Int)) true := Ev.step (f := fun _ => some true) (fun k => by
      show chandlerylaw20_few.l0 (k + 1) _ _ = _
      rw [chandlerylaw20_few.l0, if_neg (by omega)]) (Ev.now _)
  rcases ev_search (fun i k => chandlerylaw20_few.l0 k l (i : Int)) l.length (fun i => decide (200 < (l.getD i ByteArray.empty).size)) hgo hstop hend with ⟨_, h⟩ | ⟨h1, h⟩
  · exact ⟨false, hj _ h, fun h => by cases h⟩
  · refine ⟨true, hj _ h, fun _ => ⟨hb, hlen, fun s hs => ?_⟩⟩
    obtain ⟨i, hi, rfl⟩ := List.mem_iff_getElem.1 hs
    have := of_decide_eq_false (h1 i hi)
    rw [List.getD_eq_getElem?_getD, List.getElem?_eq_getElem hi] at this
    have h2 : ¬ 200 < l[i].size := this
    omega
theorem in_ev (c : UInt8) (all : ByteArray) (ha : all.size ≤ 1000000) : Ev (fun k => chandleryref19_in.f k (c.toNat : Int) all) (decide (c ∈ all.data.toList)) := by
  have hl : all.data.toList.length = all.size := (ba_size all).symm
  have h := ev_any (fun i k => chandleryref19_in.l0 k (c.toNat : Int) all (i : Int)) all.size (fun i => all.data.toList[i]? == some c) (yes := true) (no := false) (fun i hi hh v hv => ?_) (fun i hi hh => ?_) ?_ (decide (c ∈ all.data.toList)) ?_
  · refine Ev.congr (f := fun k => chandleryref19_in.l0 k (c.toNat : Int) all ((0 : Nat) : Int)) (fun k => rfl) ?_
    cases hd : decide (c ∈ all.data.toList)
    · rw [hd] at h; exact h
    · rw [hd] at h; exact h
  · have hne : all.data.toList[i]'(by omega) ≠ c := by
      rw [List.getElem?_eq_getElem (by omega)] at hh
      simpa using hh
    refine Ev.step (fun k => ?_) hv
    show chandleryref19_in.l0 (k + 1) _ _ _ = _
    rw [chandleryref19_in.l0, if_pos (by omega), if_pos (by omega), bt_list all i (by omega), if_neg, w1 hi (by omega)]
    intro he
    exact hne (UInt8.toNat_inj.1 (by omega))
  · have heq : all.data.toList[i]'(by omega) = c := by
      rw [List.getElem?_eq_getElem (by omega)] at hh
      simpa using hh
    refine Ev.step (f := fun _ => some true) (fun k => ?_) (Ev.now _)
    show chandleryref19_in.l0 (k + 1) _ _ _ = _
    rw [chandleryref19_in.l0, if_pos (by omega), if_pos (by omega), bt_list all i (by omega), heq, if_pos rfl]
  · refine Ev.step (f := fun _ => some false) (fun k => ?_) (Ev.now _)
    show chandleryref19_in.l0 (k + 1) _ _ _ = _
    rw [chandleryref19_in.l0, if_neg (by omega)]
  · rw [decide_eq_true_iff, List.mem_iff_getElem?]
    constructor
    · rintro ⟨i, hi⟩
      have := (List.getElem?_eq_some_iff.1 hi).1
      exact ⟨i, by omega, by rw [hi]; simp⟩
    · rintro ⟨i, _, hi⟩
      exact ⟨i, by simpa using hi⟩
theorem every_ev (s all : ByteArray) (hs : s.size ≤ 1000000) (ha : all.size ≤ 1000000) : Ev (fun k => chandleryref19_every.f k s all) (s.data.toList.all fun c => decide (c ∈ all.data.toList)) := by
  have hl : s.data.toList.length = s.size := (ba_size s).symm
  have hin : ∀ i (hi : i < s.size), Ev (fun k => chandleryref19_in.f k (bt s (i : Int)) all) (decide (s.data.toList[i]'(by omega) ∈ all.data.toList)) := fun i hi => by
    rw [bt_list s i (by omega)]
    exact in_ev _ all ha
  have h := ev_any (fun i k => chandleryref19_every.l0 k s all (i : Int)) s.size (fun i => match s.data.toList[i]? with | some c => !decide (c ∈ all.data.toList) | none => false) (yes := false) (no := true) (fun i hi hh v hv => ?_) (fun i hi hh => ?_) ?_ (!(s.data.toList.all fun c => decide (c ∈ all.data.toList))) ?_
  · refine Ev.congr (f := fun k => chandleryref19_every.l0 k s all ((0 : Nat) : Int)) (fun k => rfl) ?_
    cases hd : s.data.toList.all fun c => decide (c ∈ all.data.toList)
    · rw [hd] at h; exact h
    · rw [hd] at h; exact h
  · have hy : decide (s.data.toList[i]'(by omega) ∈ all.data.toList) = true := by
      rw [List.getElem?_eq_getElem (by omega)] at hh
      simpa using hh
    have h1 := hin i hi
    rw [hy] at h1
    refine Ev.step (f := fun k => (chandleryref19_in.f k (bt s (i : Int)) all).bind fun t102 => if t102 = true then chandleryref19_every.l0 k s all ((i + 1 : Nat) : Int) else some false) (fun k => ?_) (Ev.bind (f := fun k t => if t = true then chandleryref19_every.l0 k s all ((i + 1 : Nat) : Int) else some false) h1 (Ev.congr (fun k => if_pos rfl) hv))
    show chandleryref19_every.l0 (k + 1) _ _ _ = _
    rw [chandleryref19_every.l0, if_pos (by omega), if_pos (by omega), w1 hi (by omega)]
  · have hy : decide (s.data.toList[i]'(by omega) ∈ all.data.toList) = false := by
      rw [List.getElem?_eq_getElem (by omega)] at hh
      simpa using hh
    have h1 := hin i hi
    rw [hy] at h1
    refine Ev.step (f := fun k => (chandleryref19_in.f k (bt s (i : Int)) all).bind fun t102 => if t102 = true then chandleryref19_every.l0 k s all ((i + 1 : Nat) : Int) else some false) (fun k => ?_) (Ev.bind (f := fun k t => if t = true then chandleryref19_every.l0 k s all ((i + 1 : Nat) : Int) else some false) h1 (Ev.congr (fun k => if_neg Bool.false_ne_true) (Ev.now _)))
    show chandleryref19_every.l0 (k + 1) _ _ _ = _
    rw [chandleryref19_every.l0, if_pos (by omega), if_pos (by omega), w1 hi (by omega)]
  · refine Ev.step (f := fun _ => some true) (fun k => ?_) (Ev.now _)
    show chandleryref19_every.l0 (k + 1) _ _ _ = _
    rw [chandleryref19_every.l0, if_neg (by omega)]
  · rw [Bool.not_eq_true', List.all_eq_false]
    constructor
    · rintro ⟨c, hc, hn⟩
      obtain ⟨i, hi, rfl⟩ := List.mem_iff_getElem.1 hc
      exact ⟨i, by omega, by rw [List.getElem?_eq_getElem hi]; simpa using hn⟩
    · rintro ⟨i, hi, h⟩
      have hi2 : i < s.data.toList.length := by omega
      rw [List.getElem?_eq_getElem hi2] at h
      exact ⟨_, List.getElem_mem hi2, by simpa using h⟩
def alphB : ByteArray := ⟨#[97, 98, 99, 100, 101, 102, 103, 104, 105, 106, 107, 108, 109, 110, 111, 112, 113, 114, 115, 116, 117, 118, 119, 120, 121, 122, 65, 66, 67, 68, 69, 70, 71, 72, 73, 74, 75, 76, 77, 78, 79, 80, 81, 82, 83, 84, 85, 86, 87, 88, 89, 90, 48, 49, 50, 51, 52, 53, 54, 55, 56, 57, 43, 45, 46, 95, 63, 61]⟩
theorem u8_all {p : UInt8 → Bool} (h : (List.range 256).all (fun n => p (UInt8.ofNat n)) = true) (c : UInt8) : p c = true := by
  have := List.all_eq_true.1 h c.toNat (List.mem_range.2 c.toNat_lt)
  simpa using this
theorem alph_ok (c : UInt8) : byteOK c = decide (c ∈ alphB.data.toList) := by
  have := u8_all (p := fun c => byteOK c == decide (c ∈ alphB.data.toList)) (by decide +kernel) c
  simpa using this
theorem dig_ok (c : UInt8) : digOK c = decide (c ∈ digitsB.data.toList) := by
  have := u8_all (p := fun c => digOK c == decide (c ∈ digitsB.data.toList)) (by decide +kernel) c
  simpa using this
theorem base_ev (s : ByteArray) (hs : s.size ≤ 1000000) : Ev (fun k => chandleryref19_Base.f k s) (baseB s) := by
  have hl : s.data.toList.length = s.size := (ba_size s).symm
  unfold baseB
  by_cases h1 : 1 ≤ s.size
  case neg => rw [decide_eq_false h1]; exact Ev.congr (f := fun _ => some _) (fun k => by unfold chandleryref19_Base.f; rw [if_neg (by omega)]; rfl) (Ev.now _)
  rw [decide_eq_true h1]
  by_cases h2 : s.size ≤ 31
  case neg => rw [decide_eq_false h2]; exact Ev.congr (f := fun _ => some _) (fun k => by unfold chandleryref19_Base.f; rw [if_pos (by omega), if_neg (by omega)]; rfl) (Ev.now _)
  rw [decide_eq_true h2]
  have h0 : bt s 0 = ((s.data.toList[0]'(by omega)).toNat : Int) := bt_list s 0 (by omega)
  have hh : s.data.toList.head? = some (s.data.toList[0]'(by omega)) := by rw [List.head?_eq_getElem?, List.getElem?_eq_getElem]
  rw [hh]
  by_cases h3 : s.data.toList[0]'(by omega) = 46
  · rw [h3]
    refine Ev.congr (f := fun _ => some _) (fun k => ?_) (Ev.now _)
    unfold chandleryref19_Base.f
    rw [if_pos (by omega), if_pos (by omega), if_pos (by omega), h0, h3, if_pos (by rfl)]
    rfl
  · rw [show (some (s.data.toList[0]'(by omega)) == some (46 : UInt8)) = false by simpa using h3]
    have he := every_ev s alphB hs (by decide)
    refine Ev.congr (f := fun k => (chandleryref19_every.f k s alphB).bind fun t => some t) (fun k => ?_) (Ev.bind (f := fun k t => some t) he ?_)
    · unfold chandleryref19_Base.f
      rw [if_pos (by omega), if_pos (by omega), if_pos (by omega), h0, if_neg]
      · rfl
      · intro h4
        exact h3 (UInt8.toNat_inj.1 (by show _ = 46; omega))
    · have e1 : (s.data.toList.all fun c => decide (c ∈ alphB.data.toList)) = s.data.toList.all byteOK := by
        congr 1
        funext c
        exact (alph_ok c).symm
      rw [e1]
      exact Ev.now _
theorem name_ev (s : ByteArray) (hs : s.size ≤ 1000000) : Ev (fun k => chandleryref19_Name.f k s) (nameB s) := by
  have hl : s.data.toList.length = s.size := (ba_size s).symm
  by_cases h1 : 33 < s.size
  case neg =>
    refine Ev.congr (f := fun _ => some _) (fun k => ?_) (Ev.now _)
    unfold chandleryref19_Name.f nameB
    rw [if_neg (by omega), decide_eq_false h1]
    rfl
  have hd := every_ev (s.extract 0 32) digitsB (by rw [ByteArray.size_extract]; omega) (by decide)
  have e1 : ((s.extract 0 32).data.toList.all fun c => decide (c ∈ digitsB.data.toList)) = allDig (s.extract 0 32) := by
    unfold allDig
    congr 1
    funext c
    exact (dig_ok c).symm
  rw [e1] at hd
  refine Ev.congr (f := fun k => (chandleryref19_every.f k (s.extract 0 32) digitsB).bind fun t104 => (if t104 = true then (if 32 < (s.size : Int) then (if (bt s 32) = 45 then (if 33 ≤ (s.size : Int) then ((chandleryref19_Base.f k (s.extract 33 s.size)).bind fun t105 => (some t105)) else (none)) else (some false)) else (none)) else (some false))) (fun k => ?_) (Ev.bind (f := fun k t104 => (if t104 = true then (if 32 < (s.size : Int) then (if (bt s 32) = 45 then (if 33 ≤ (s.size : Int) then ((chandleryref19_Base.f k (s.extract 33 s.size)).bind fun t105 => (some t105)) else (none)) else (some false)) else (none)) else (some false))) hd ?_)
  · unfold chandleryref19_Name.f
    rw [if_pos (by omega), if_pos (by decide), if_pos (by omega)]
    rfl
  · have hn : nameB s = ((s.data.toList[32]? == some 45) && baseB (s.extract 33 s.size) && allDig (s.extract 0 32)) := by
      unfold nameB
      rw [decide_eq_true h1, Bool.true_and]
    rw [hn]
    cases h2 : allDig (s.extract 0 32)
    · rw [Bool.and_false]
      exact Ev.congr (fun k => if_neg Bool.false_ne_true) (Ev.now _)
    · rw [Bool.and_true]
      refine Ev.congr (fun k => if_pos rfl) (Ev.congr (fun k => if_pos (by omega)) ?_)
      have h0 : bt s 32 = ((s.data.toList[32]'(by omega)).toNat : Int) := bt_list s 32 (by omega)
      rw [List.getElem?_eq_getElem (by omega), h0]
      by_cases h3 : s.data.toList[32]'(by omega) = 45
      · rw [h3]
        refine Ev.congr (fun k => if_pos (by rfl)) (Ev.congr (fun k => if_pos (by omega)) (Ev.bind (f := fun k t => some t) (base_ev (s.extract 33 s.size) (by rw [ByteArray.size_extract]; omega)) ?_))
        rw [show (some (45 : UInt8) == some 45) = true from rfl, Bool.true_and]
        exact Ev.now _
      · rw [show (some (s.data.toList[32]'(by omega)) == some (45 : UInt8)) = false by simpa using h3, Bool.false_and]
        refine Ev.congr (fun k => if_neg ?_) (Ev.now _)
        intro h4
        exact h3 (UInt8.toNat_inj.1 (by show _ = 45; omega))
end Go.Proofs.YtkmnjekbacdfoaaX
