import Derived.Test.YthnchdbkgenjhaaDoorInfoLay
import Derived.Test.YthnchdbkgenjhaaDoorQInfoAx2
import Derived.Test.YthnchdbkgenjhaaDoorQInfoAx5
import Derived.Test.YthnchdbkgenjhaaDoorQInfoAx3
set_option linter.unusedVariables false
set_option linter.unusedSimpArgs false
/- The reference's Base and Name: plain laws, no walk. -/
namespace Go.Proofs.YthnchdbkgenjhaaDoorX
open Go.RowKit Go.Proofs.YthnchdbkgenjhaaDoor.PInfoA Go.Proofs.YthnchdbkgenjhaaDoorW.PrintWords Go.Proofs.YthnchdbkgenjhaaDoorW.PrintLast Go.Proofs.YthnchdbkgenjhaaDoorW.PrintMore
theorem in_ev (c : UInt8) (all : ByteArray) (ha : all.size ≤ 1000000) : Ev (fun k => chandleryref19_in.f k (c.toNat : Int) all) (decide (c ∈ all.data.toList)) := by
  have hl : all.data.toList.length = all.size := (ba_size all).symm
  have h := ev_any (fun i k => chandleryref19_in.l0 k (c.toNat : Int) all (i : Int)) all.size (fun i => all.data.toList[i]? == some c) (yes := true) (no := false) (fun i hi hh v hv => ?_) (fun i hi hh => ?_) ?_ (decide (c ∈ all.data.toList)) ?_
  · refine Ev.congr (f := fun k => chandleryref19_in.l0 k (c.toNat : Int) all ((0 : Nat) : Int)) (fun k => rfl) ?_
    cases hd : decide (c ∈ all.data.toList)
    · rw [hd] at h; exact h
    · rw [hd] at h; exact h
  · have hne : all.data.toList[i]'(by omega) ≠ c := by
      rw [List.getElem?_eq_getElem (by omega)] at hh
      simpa using hh
    refine Ev.step (fun k => ?_) hv
    show chandleryref19_in.l0 (k + 1) _ _ _ = _
    rw [chandleryref19_in.l0, if_pos (by omega), if_pos (by omega), bt_list all i (by omega), if_neg, w1 hi (by omega)]
    intro he
    exact hne (UInt8.toNat_inj.1 (by omega))
  · have heq : all.data.toList[i]'(by omega) = c := by
      rw [List.getElem?_eq_getElem (by omega)] at hh
      simpa using hh
    refine Ev.step (f := fun _ => some true) (fun k => ?_) (Ev.now _)
    show chandleryref19_in.l0 (k + 1) _ _ _ = _
    rw [chandleryref19_in.l0, if_pos (by omega), if_pos (by omega), bt_list all i (by omega), heq, if_pos rfl]
  · refine Ev.step (f := fun _ => some false) (fun k => ?_) (Ev.now _)
    show chandleryref19_in.l0 (k + 1) _ _ _ = _
    rw [chandleryref19_in.l0, if_neg (by omega)]
  · rw [decide_eq_true_iff, List.mem_iff_getElem?]
    constructor
    · rintro ⟨i, hi⟩
      have := (List.getElem?_eq_some_iff.1 hi).1
      exact ⟨i, by omega, by rw [hi]; simp⟩
    · rintro ⟨i, _, hi⟩
      exact ⟨i, by simpa using hi⟩
theorem every_ev (s all : ByteArray) (hs : s.size ≤ 1000000) (ha : all.size ≤ 1000000) : Ev (fun k => chandleryref19_every.f k s all) (s.data.toList.all fun c => decide (c ∈ all.data.toList)) := by
  have hl : s.data.toList.length = s.size := (ba_size s).symm
  have hin : ∀ i (hi : i < s.size), Ev (fun k => chandleryref19_in.f k (bt s (i : Int)) all) (decide (s.data.toList[i]'(by omega) ∈ all.data.toList)) := fun i hi => by
    rw [bt_list s i (by omega)]
    exact in_ev _ all ha
  have h := ev_any (fun i k => chandleryref19_every.l0 k s all (i : Int)) s.size (fun i => match s.data.toList[i]? with | some c => !decide (c ∈ all.data.toList) | none => false) (yes := false) (no := true) (fun i hi hh v hv => ?_) (fun i hi hh => ?_) ?_ (!(s.data.toList.all fun c => decide (c ∈ all.data.toList))) ?_
  · refine Ev.congr (f := fun k => chandleryref19_every.l0 k s all ((0 : Nat) : Int)) (fun k => rfl) ?_
    cases hd : s.data.toList.all fun c => decide (c ∈ all.data.toList)
    · rw [hd] at h; exact h
    · rw [hd] at h; exact h
  · have hy : decide (s.data.toList[i]'(by omega) ∈ all.data.toList) = true := by
      rw [List.getElem?_eq_getElem (by omega)] at hh
      simpa using hh
    have h1 := hin i hi
    rw [hy] at h1
    refine Ev.step (f := fun k => (chandleryref19_in.f k (bt s (i : Int)) all).bind fun t102 => if t102 = true then chandleryref19_every.l0 k s all ((i + 1 : Nat) : Int) else some false) (fun k => ?_) (Ev.bind (f := fun k t => if t = true then chandleryref19_every.l0 k s all ((i + 1 : Nat) : Int) else some false) h1 (Ev.congr (fun k => if_pos rfl) hv))
    show chandleryref19_every.l0 (k + 1) _ _ _ = _
    rw [chandleryref19_every.l0, if_pos (by omega), if_pos (by omega), w1 hi (by omega)]
  · have hy : decide (s.data.toList[i]'(by omega) ∈ all.data.toList) = false := by
      rw [List.getElem?_eq_getElem (by omega)] at hh
      simpa using hh
    have h1 := hin i hi
    rw [hy] at h1
    refine Ev.step (f := fun k => (chandleryref19_in.f k (bt s (i : Int)) all).bind fun t102 => if t102 = true then chandleryref19_every.l0 k s all ((i + 1 : Nat) : Int) else some false) (fun k => ?_) (Ev.bind (f := fun k t => if t = true then chandleryref19_every.l0 k s all ((i + 1 : Nat) : Int) else some false) h1 (Ev.congr (fun k => if_neg Bool.false_ne_true) (Ev.now _)))
    show chandleryref19_every.l0 (k + 1) _ _ _ = _
    rw [chandleryref19_every.l0, if_pos (by omega), if_pos (by omega), w1 hi (by omega)]
  · refine Ev.step (f := fun _ => some true) (fun k => ?_) (Ev.now _)
    show chandleryref19_every.l0 (k + 1) _ _ _ = _
    rw [chandleryref19_every.l0, if_neg (by omega)]
  · rw [Bool.not_eq_true', List.all_eq_false]
    constructor
    · rintro ⟨c, hc, hn⟩
      obtain ⟨i, hi, rfl⟩ := List.mem_iff_getElem.1 hc
      exact ⟨i, by omega, by rw [List.getElem?_eq_getElem hi]; simpa using hn⟩
    · rintro ⟨i, hi, h⟩
      have hi2 : i < s.data.toList.length := by omega
      rw [List.getElem?_eq_getElem hi2] at h
      exact ⟨_, List.getElem_mem hi2, by simpa using h⟩
def alphB : ByteArray := ⟨#[97, 98, 99, 100, 101, 102, 103, 104, 105, 106, 107, 108, 109, 110, 111, 112, 113, 114, 115, 116, 117, 118, 119, 120, 121, 122, 65, 66, 67, 68, 69, 70, 71, 72, 73, 74, 75, 76, 77, 78, 79, 80, 81, 82, 83, 84, 85, 86, 87, 88, 89, 90, 48, 49, 50, 51, 52, 53, 54, 55, 56, 57, 43, 45, 46, 95, 63, 61]⟩
theorem u8_all {p : UInt8 → Bool} (h : (List.range 256).all (fun n => p (UInt8.ofNat n)) = true) (c : UInt8) : p c = true := by
  have := List.all_eq_true.1 h c.toNat (List.mem_range.2 c.toNat_lt)
  simpa using this
theorem alph_ok (c : UInt8) : byteOK c = decide (c ∈ alphB.data.toList) := by
  have := u8_all (p := fun c => byteOK c == decide (c ∈ alphB.data.toList)) (by decide +kernel) c
  simpa using this
theorem dig_ok (c : UInt8) : digOK c = decide (c ∈ digitsB.data.toList) := by
  have := u8_all (p := fun c => digOK c == decide (c ∈ digitsB.data.toList)) (by decide +kernel) c
  simpa using this
theorem base_ev (s : ByteArray) (hs : s.size ≤ 1000000) : Ev (fun k => chandleryref19_Base.f k s) (baseB s) := by
  have hl : s.data.toList.length = s.size := (ba_size s).symm
  unfold baseB
  by_cases h1 : 1 ≤ s.size
  case neg => rw [decide_eq_false h1]; exact Ev.congr (f := fun _ => some _) (fun k => by unfold chandleryref19_Base.f; rw [if_neg (by omega)]; rfl) (Ev.now _)
  rw [decide_eq_true h1]
  by_cases h2 : s.size ≤ 31
  case neg => rw [decide_eq_false h2]; exact Ev.congr (f := fun _ => some _) (fun k => by unfold chandleryref19_Base.f; rw [if_pos (by omega), if_neg (by omega)]; rfl) (Ev.now _)
  rw [decide_eq_true h2]
  have h0 : bt s 0 = ((s.data.toList[0]'(by omega)).toNat : Int) := bt_list s 0 (by omega)
  have hh : s.data.toList.head? = some (s.data.toList[0]'(by omega)) := by rw [List.head?_eq_getElem?, List.getElem?_eq_getElem]
  rw [hh]
  by_cases h3 : s.data.toList[0]'(by omega) = 46
  · rw [h3]
    refine Ev.congr (f := fun _ => some _) (fun k => ?_) (Ev.now _)
    unfold chandleryref19_Base.f
    rw [if_pos (by omega), if_pos (by omega), if_pos (by omega), h0, h3, if_pos (by rfl)]
    rfl
  · rw [show (some (s.data.toList[0]'(by omega)) == some (46 : UInt8)) = false by simpa using h3]
    have he := every_ev s alphB hs (by decide)
    refine Ev.congr (f := fun k => (chandleryref19_every.f k s alphB).bind fun t => some t) (fun k => ?_) (Ev.bind (f := fun k t => some t) he ?_)
    · unfold chandleryref19_Base.f
      rw [if_pos (by omega), if_pos (by omega), if_pos (by omega), h0, if_neg]
      · rfl
      · intro h4
        exact h3 (UInt8.toNat_inj.1 (by show _ = 46; omega))
    · have e1 : (s.data.toList.all fun c => decide (c ∈ alphB.data.toList)) = s.data.toList.all byteOK := by
        congr 1
        funext c
        exact (alph_ok c).symm
      rw [e1]
      exact Ev.now _
theorem name_ev (s : ByteArray) (hs : s.size ≤ 1000000) : Ev (fun k => chandleryref19_Name.f k s) (nameB s) := by
  have hl : s.data.toList.length = s.size := (ba_size s).symm
  by_cases h1 : 33 < s.size
  case neg =>
    refine Ev.congr (f := fun _ => some _) (fun k => ?_) (Ev.now _)
    unfold chandleryref19_Name.f nameB
    rw [if_neg (by omega), decide_eq_false h1]
    rfl
  have hd := every_ev (s.extract 0 32) digitsB (by rw [ByteArray.size_extract]; omega) (by decide)
  have e1 : ((s.extract 0 32).data.toList.all fun c => decide (c ∈ digitsB.data.toList)) = allDig (s.extract 0 32) := by
    unfold allDig
    congr 1
    funext c
    exact (dig_ok c).symm
  rw [e1] at hd
  refine Ev.congr (f := fun k => (chandleryref19_every.f k (s.extract 0 32) digitsB).bind fun t104 => (if t104 = true then (if 32 < (s.size : Int) then (if (bt s 32) = 45 then (if 33 ≤ (s.size : Int) then ((chandleryref19_Base.f k (s.extract 33 s.size)).bind fun t105 => (some t105)) else (none)) else (some false)) else (none)) else (some false))) (fun k => ?_) (Ev.bind (f := fun k t104 => (if t104 = true then (if 32 < (s.size : Int) then (if (bt s 32) = 45 then (if 33 ≤ (s.size : Int) then ((chandleryref19_Base.f k (s.extract 33 s.size)).bind fun t105 => (some t105)) else (none)) else (some false)) else (none)) else (some false))) hd ?_)
  · unfold chandleryref19_Name.f
    rw [if_pos (by omega), if_pos (by decide), if_pos (by omega)]
    rfl
  · have hn : nameB s = ((s.data.toList[32]? == some 45) && baseB (s.extract 33 s.size) && allDig (s.extract 0 32)) := by
      unfold nameB
      rw [decide_eq_true h1, Bool.true_and]
    rw [hn]
    cases h2 : allDig (s.extract 0 32)
    · rw [Bool.and_false]
      exact Ev.congr (fun k => if_neg Bool.false_ne_true) (Ev.now _)
    · rw [Bool.and_true]
      refine Ev.congr (fun k => if_pos rfl) (Ev.congr (fun k => if_pos (by omega)) ?_)
      have h0 : bt s 32 = ((s.data.toList[32]'(by omega)).toNat : Int) := bt_list s 32 (by omega)
      rw [List.getElem?_eq_getElem (by omega), h0]
      by_cases h3 : s.data.toList[32]'(by omega) = 45
      · rw [h3]
        refine Ev.congr (fun k => if_pos (by rfl)) (Ev.congr (fun k => if_pos (by omega)) (Ev.bind (f := fun k t => some t) (base_ev (s.extract 33 s.size) (by rw [ByteArray.size_extract]; omega)) ?_))
        rw [show (some (45 : UInt8) == some 45) = true from rfl, Bool.true_and]
        exact Ev.now _
      · rw [show (some (s.data.toList[32]'(by omega)) == some (45 : UInt8)) = false by simpa using h3, Bool.false_and]
        refine Ev.congr (fun k => if_neg ?_) (Ev.now _)
        intro h4
        exact h3 (UInt8.toNat_inj.1 (by show _ = 45; omega))
end Go.Proofs.YthnchdbkgenjhaaDoorX
/- What an info is laid down as, by the document: plain laws, no walk. -/
namespace Go.Proofs.YthnchdbkgenjhaaDoorX
open Go.RowKit Go.Proofs.YthnchdbkgenjhaaDoor.PInfoA Go.Proofs.YthnchdbkgenjhaaDoorW.PrintWords Go.Proofs.YthnchdbkgenjhaaDoorW.PrintLast Go.Proofs.YthnchdbkgenjhaaDoorW.PrintMore
theorem number_ev (n : Nat) (hn : n ≤ 2147483647) : Ev (fun k => chandleryref01_Number.f k (n : Int)) (num8 n) := by
  have hnum : ∀ m i, i + m = 8 → Ev (fun k => chandleryref01_Number.l0 k ((n / 256 ^ i : Nat) : Int) ((List.range i).map fun j : Nat => ((n / 256 ^ j % 256 : Nat) : Int)) (i : Int)) (num8 n) := by
    intro m
    induction m with
    | zero =>
      intro i hi
      obtain rfl : i = 8 := by omega
      refine Ev.step (f := fun _ => some (num8 n)) (fun k => ?_) (Ev.now _)
      rw [chandleryref01_Number.l0, if_neg (by decide)]
      rfl
    | succ m ih =>
      intro i hi
      have h := ih (i + 1) (by omega)
      refine Ev.step (fun k => ?_) h
      have hle : n / 256 ^ i ≤ n := Nat.div_le_self _ _
      have e3 : n / 256 ^ (i + 1) = n / 256 ^ i / 256 := by rw [Nat.pow_succ, Nat.div_div_eq_div_mul]
      rw [chandleryref01_Number.l0, if_pos (by omega), if_pos (by simp; omega), w1 (n := 8) (by omega) (by omega), List.range_succ, List.map_append, e3]
      show _ = chandleryref01_Number.l0 k ((n / 256 ^ i / 256 : Nat) : Int) (_ ++ [((n / 256 ^ i % 256 : Nat) : Int)]) _
      generalize n / 256 ^ i = q at hle
      have e1 : Int.tdiv ((q : Nat) : Int) 256 = ((q / 256 : Nat) : Int) := by
        rw [Int.tdiv_eq_ediv_of_nonneg (by omega)]
        omega
      have e2 : Int.tmod ((q : Nat) : Int) 256 % 256 = ((q % 256 : Nat) : Int) := by
        rw [Int.tmod_eq_emod_of_nonneg (by omega)]
        omega
      rw [e1, e2, w64 (by omega) (by omega)]
  have h := hnum 8 0 rfl
  rw [show (n / 256 ^ 0 : Nat) = n by simp] at h
  exact h
theorem rtext_ev (s : ByteArray) (hs : s.size ≤ 100000000) : Ev (fun k => chandleryref01_Text.f k s) (textOf s) := by
  have hpad : ∀ m (acc : List Int), (acc.length + m) % 8 = 0 → m < 8 → acc.length ≤ 1000000000 → Ev (fun k => chandleryref01_Text.l0 k acc) (acc ++ List.replicate m 0) := by
    intro m
    induction m with
    | zero =>
      intro acc ha _ _
      refine Ev.step (f := fun _ => some (acc ++ List.replicate 0 0)) (fun k => ?_) (Ev.now _)
      rw [chandleryref01_Text.l0, if_pos (by omega)]
      simp
    | succ m ih =>
      intro acc ha hm hl
      have h := ih (acc ++ [0]) (by simp; omega) (by omega) (by simp; omega)
      rw [List.append_assoc, show [0] ++ List.replicate m (0 : Int) = List.replicate (m + 1) 0 from rfl] at h
      refine Ev.step (fun k => ?_) h
      rw [chandleryref01_Text.l0, if_neg (by omega), if_pos (by omega)]
  have hr := number_ev s.size (by omega)
  have hrl := num8_len s.size
  refine Ev.bind (f := fun k t => _) hr ?_
  refine Ev.congr (fun k => if_pos (by omega)) ?_
  exact hpad _ _ (by rw [List.length_append, bytesOf_length, hrl]; omega) (by omega) (by rw [List.length_append, bytesOf_length, hrl]; omega)
theorem rtexts1_ev (h : ByteArray) (n : Int) (refs : List ByteArray) (name : ByteArray) : ∀ m i (acc : List Int), i + m = refs.length → acc.length + (textsOf (refs.drop i)).length ≤ 1000000 → (∀ s ∈ refs, s.size ≤ 1000000) → refs.length ≤ 1000000 → Ev (fun k => chandleryref22_Bytes.l1 k acc (i : Int) h n refs) (acc ++ textsOf (refs.drop i))
  | 0, i, acc, hi, ha, hs, hrl => by
    refine Ev.step (f := fun _ => some (acc ++ textsOf (refs.drop i))) (fun k => ?_) (Ev.now _)
    rw [chandleryref22_Bytes.l1, if_neg (by omega), List.drop_of_length_le (by omega), textsOf, List.append_nil]
  | m + 1, i, acc, hi, ha, hs, hrl => by
    have hlt : i < refs.length := by omega
    rw [List.drop_eq_getElem_cons hlt, textsOf, List.length_append] at ha
    have hp := rtext_ev refs[i] (by have := hs _ (List.getElem_mem hlt); omega)
    have hpl := textOf_len refs[i]
    have hr := rtexts1_ev h n refs name m (i + 1) (acc ++ textOf refs[i]) (by omega) (by rw [List.length_append]; omega) hs hrl
    rw [List.append_assoc] at hr
    rw [List.drop_eq_getElem_cons hlt, textsOf]
    refine Ev.step (f := fun k => (chandleryref01_Text.f k refs[i]).bind fun t => if acc.length + t.length < 140737488355328 then chandleryref22_Bytes.l1 k (acc ++ t) ((i + 1 : Nat) : Int) h n refs else none) (fun k => ?_) (Ev.bind (f := fun k t => _) hp (Ev.congr (fun k => if_pos (by omega)) hr))
    rw [chandleryref22_Bytes.l1, if_pos (by omega), if_pos (by omega), rdB_get refs i hlt, w1 hlt (by omega)]
theorem rtexts0_ev (h : ByteArray) (n : Int) (refs ts : List ByteArray) (r : List Int) (B : Nat) (hB : B ≤ 1000000) (hts : ts.length ≤ 10) (hs : ∀ s ∈ ts, s.size ≤ 1000000) (hend : ∀ acc : List Int, acc.length ≤ B → Ev (fun k => chandleryref22_Bytes.l0 k acc ts (ts.length : Int) h n refs) (acc ++ r)) : ∀ m i (acc : List Int), i + m = ts.length → acc.length + (textsOf (ts.drop i)).length ≤ B → Ev (fun k => chandleryref22_Bytes.l0 k acc ts (i : Int) h n refs) (acc ++ textsOf (ts.drop i) ++ r)
  | 0, i, acc, hi, ha => by
    have e : i = ts.length := by omega
    subst e
    rw [List.drop_of_length_le (Nat.le_refl _), textsOf, List.append_nil]
    exact hend acc (by omega)
  | m + 1, i, acc, hi, ha => by
    have hlt : i < ts.length := by omega
    rw [List.drop_eq_getElem_cons hlt, textsOf, List.length_append] at ha
    have hp := rtext_ev ts[i] (by have := hs _ (List.getElem_mem hlt); omega)
    have hpl := textOf_len ts[i]
    have hr := rtexts0_ev h n refs ts r B hB hts hs hend m (i + 1) (acc ++ textOf ts[i]) (by omega) (by rw [List.length_append]; omega)
    rw [List.drop_eq_getElem_cons hlt, textsOf]
    simp only [List.append_assoc] at hr ⊢
    refine Ev.step (f := fun k => (chandleryref01_Text.f k ts[i]).bind fun t => if acc.length + t.length < 140737488355328 then chandleryref22_Bytes.l0 k (acc ++ t) ts ((i + 1 : Nat) : Int) h n refs else none) (fun k => ?_) (Ev.bind (f := fun k t => _) hp (Ev.congr (fun k => if_pos (by omega)) hr))
    rw [chandleryref22_Bytes.l0, if_pos (by omega), if_pos (by omega), rdB_get ts i hlt, w1 hlt (by omega)]
theorem rbytes_ev (name h : ByteArray) (n : Nat) (refs : List ByteArray) (hn : n ≤ 2147483647) (hh : h.size ≤ 100000) (hnm : name.size ≤ 1000000) (hs : ∀ s ∈ refs, s.size ≤ 1000000) (hr : refs.length ≤ 1000000) (hl : (layI name (hexT h) n refs).length ≤ 900000) : Ev (fun k => chandleryref22_Bytes.f k name h (n : Int) refs) (layI name (hexT h) n refs) := by
  have hx : Ev (fun k => convS h (chandleryref02_Hex.f k)) (hexT h) := by
    have h1 := rhex_f (bytesOf h) (okB_bytes h) (by rw [bytesOf_length]; omega)
    refine Ev.congr (fun k => ?_) h1
    unfold convS
    rw [if_pos (by omega)]
  have hxs := hexT_size h
  refine Ev.bind (f := fun k t => _) hx ?_
  unfold layI at hl
  simp only [List.length_append, num8_len] at hl
  obtain ⟨B, hB⟩ : ∃ B, (textOf tPath).length + ((textOf name).length + ((textOf tHash).length + ((textOf (hexT h)).length + (textOf tSize).length))) = B := ⟨_, rfl⟩
  have hend : ∀ acc : List Int, acc.length ≤ B → Ev (fun k => chandleryref22_Bytes.l0 k acc [tPath, name, tHash, hexT h, tSize] (([tPath, name, tHash, hexT h, tSize] : List ByteArray).length : Int) h (n : Int) refs) (acc ++ (num8 n ++ (textOf tRefs ++ (num8 refs.length ++ textsOf refs)))) := fun acc ha => by
    have e2 := textOf_len tRefs
    have e3 : len8 tRefs.size = 16 := rfl
    have q1 := number_ev n hn
    have q2 := rtext_ev tRefs (by decide)
    have q3 := number_ev refs.length (by omega)
    have q4 := rtexts1_ev h (n : Int) refs name refs.length 0 (acc ++ num8 n ++ textOf tRefs ++ num8 refs.length) (by omega) (by simp only [List.drop_zero, List.length_append, num8_len]; omega) hs hr
    rw [List.drop_zero] at q4
    have s3 : Ev (fun k => (chandleryref01_Number.f k (refs.length : Int)).bind fun t243 => (if (acc ++ num8 n ++ textOf tRefs).length + t243.length < 140737488355328 then (chandleryref22_Bytes.l1 k (acc ++ num8 n ++ textOf tRefs ++ t243) 0 h (n : Int) refs) else (none))) (acc ++ num8 n ++ textOf tRefs ++ num8 refs.length ++ textsOf refs) := Ev.bind (f := fun k t => _) q3 (Ev.congr (fun k => if_pos (by simp only [List.length_append, num8_len]; omega)) q4)
    have s2 : Ev (fun k => (chandleryref01_Text.f k tRefs).bind fun t237 => (if (acc ++ num8 n).length + t237.length < 140737488355328 then ((some (acc ++ num8 n ++ t237 : List Int)).bind fun y240 => ((chandleryref01_Number.f k (refs.length : Int)).bind fun t243 => (if y240.length + t243.length < 140737488355328 then (chandleryref22_Bytes.l1 k (y240 ++ t243) 0 h (n : Int) refs) else (none)))) else (none))) (acc ++ num8 n ++ textOf tRefs ++ num8 refs.length ++ textsOf refs) := Ev.bind (f := fun k t => _) q2 (Ev.congr (fun k => by rw [if_pos (by simp only [List.length_append, num8_len]; omega), Option.bind_some]) s3)
    have s1 : Ev (fun k => (chandleryref01_Number.f k (n : Int)).bind fun t231 => (if acc.length + t231.length < 140737488355328 then ((some (acc ++ t231 : List Int)).bind fun y234 => ((chandleryref01_Text.f k tRefs).bind fun t237 => (if y234.length + t237.length < 140737488355328 then ((some (y234 ++ t237 : List Int)).bind fun y240 => ((chandleryref01_Number.f k (refs.length : Int)).bind fun t243 => (if y240.length + t243.length < 140737488355328 then (chandleryref22_Bytes.l1 k (y240 ++ t243) 0 h (n : Int) refs) else (none)))) else (none)))) else (none))) (acc ++ num8 n ++ textOf tRefs ++ num8 refs.length ++ textsOf refs) := Ev.bind (f := fun k t => _) q1 (Ev.congr (fun k => by rw [if_pos (by simp only [num8_len]; omega), Option.bind_some]) s2)
    have s0 : Ev (fun k => chandleryref22_Bytes.l0 k acc [tPath, name, tHash, hexT h, tSize] (([tPath, name, tHash, hexT h, tSize] : List ByteArray).length : Int) h (n : Int) refs) (acc ++ num8 n ++ textOf tRefs ++ num8 refs.length ++ textsOf refs) := Ev.step (fun k => by
      rw [chandleryref22_Bytes.l0, if_neg (by omega)]
      rfl) s1
    simp only [List.append_assoc] at s0
    exact s0
  have h5 := rtexts0_ev h (n : Int) refs [tPath, name, tHash, hexT h, tSize] (num8 n ++ (textOf tRefs ++ (num8 refs.length ++ textsOf refs))) B (by omega) (by simp) (fun s hs => by
      simp only [List.mem_cons, List.not_mem_nil, or_false] at hs
      rcases hs with rfl | rfl | rfl | rfl | rfl
      · decide
      · exact hnm
      · decide
      · omega
      · decide) hend 5 0 [] rfl (by simp only [List.drop_zero, textsOf, List.length_append, List.length_nil]; omega)
  have e : layI name (hexT h) n refs = ([] : List Int) ++ textsOf (([tPath, name, tHash, hexT h, tSize] : List ByteArray).drop 0) ++ (num8 n ++ (textOf tRefs ++ (num8 refs.length ++ textsOf refs))) := by
    unfold layI
    simp only [List.drop_zero, textsOf, List.nil_append, List.append_nil, List.append_assoc]
  rw [e]
  exact h5
end Go.Proofs.YthnchdbkgenjhaaDoorX
/- The reference's Check of an info: a plain law. -/
namespace Go.Proofs.YthnchdbkgenjhaaDoorX
open Go.RowKit Go.Proofs.YthnchdbkgenjhaaDoor.PInfoA Go.Proofs.YthnchdbkgenjhaaDoorW.PrintWords Go.Proofs.YthnchdbkgenjhaaDoorW.PrintLast Go.Proofs.YthnchdbkgenjhaaDoorW.PrintMore
theorem rplain_f (h : ByteArray) (n : Int) (refs : List ByteArray) : chandleryref22_Plain.f h n refs = some (plainB h n) := by
  unfold chandleryref22_Plain.f plainB
  by_cases h1 : h.size = 32
  · rw [if_pos (by omega), decide_eq_true h1, Bool.true_and]
    by_cases h2 : 0 ≤ n
    · rw [if_pos h2, decide_eq_true h2, Bool.true_and]
    · rw [if_neg h2, decide_eq_false h2, Bool.false_and]
  · rw [if_neg (by omega), decide_eq_false h1, Bool.false_and]
/-- Is the i-th text a name, and behind the one ahead of it? -/
def stepB (refs : List ByteArray) (i : Nat) : Bool := match refs[i]? with
  | some s => nameB s && (match i with | 0 => true | j + 1 => (match refs[j]? with | some t => bB t s | none => false))
  | none => false
def mayB (h : ByteArray) (n : Int) (refs : List ByteArray) : Bool := (List.range refs.length).all (stepB refs) && (plainB h n && decide (refs.length ≤ 32))
theorem may_ev (h : ByteArray) (n : Int) (refs : List ByteArray) (hr : refs.length ≤ 1000000) (hs : ∀ s ∈ refs, s.size ≤ 1000000) : Ev (fun k => chandleryref22_May.f k h n refs) (mayB h n refs) := by
  have hend : Ev (fun k => chandleryref22_May.l0 k ((refs.length : Nat) : Int) h n refs) (plainB h n && decide (refs.length ≤ 32)) := Ev.step (f := fun _ => some (plainB h n && decide (refs.length ≤ 32))) (fun k => by
    rw [chandleryref22_May.l0, if_neg (by omega), rplain_f, Option.bind_some]
    cases plainB h n
    · rw [if_neg Bool.false_ne_true, Bool.false_and]
    · rw [if_pos rfl, Bool.true_and]
      congr 2
      exact propext ⟨fun h => by omega, fun h => by omega⟩) (Ev.now _)
  have hgo : ∀ i, i < refs.length → ∀ v, (stepB refs i = true → Ev (fun k => chandleryref22_May.l0 k ((i + 1 : Nat) : Int) h n refs) v) → (stepB refs i = false → v = false) → Ev (fun k => chandleryref22_May.l0 k (i : Int) h n refs) v := fun i hi v h1 h2 => by
    have hnm := name_ev refs[i] (hs _ (List.getElem_mem hi))
    unfold stepB at h1 h2
    rw [List.getElem?_eq_getElem hi] at h1 h2
    dsimp only at h1 h2
    refine Ev.step (f := fun k => (chandleryref19_Name.f k refs[i]).bind fun t173 => (if t173 = true then (if (i : Int) > 0 then (if 0 ≤ (wrap64 ((i : Int) - 1)) then (if (wrap64 ((i : Int) - 1)) < (refs.length : Int) then (if ((Op.bytesLess ((rdOf ByteArray.empty refs (wrap64 ((i : Int) - 1))).toList) ((rdOf ByteArray.empty refs (i : Int)).toList)) = true) then (chandleryref22_May.l0 k ((i + 1 : Nat) : Int) h n refs) else (some false)) else (none)) else (none)) else (chandleryref22_May.l0 k ((i + 1 : Nat) : Int) h n refs)) else (some false))) (fun k => ?_) (Ev.bind (f := fun k t => _) hnm ?_)
    · rw [chandleryref22_May.l0, if_pos (by omega), if_pos (by omega), rdB_get refs i hi, w1 hi (by omega)]
    · cases hb : nameB refs[i]
      · rw [h2 (by rw [hb]; rfl)]
        exact Ev.congr (fun k => if_neg Bool.false_ne_true) (Ev.now _)
      · rw [hb] at h1 h2
        refine Ev.congr (fun k => if_pos rfl) ?_
        match i, hi with
        | 0, hi =>
          exact Ev.congr (fun k => if_neg (by omega)) (h1 rfl)
        | j + 1, hi =>
          have e1 : wrap64 (((j + 1 : Nat) : Int) - 1) = (j : Int) := by rw [w64 (by omega) (by omega)]; omega
          dsimp only at h1 h2
          rw [List.getElem?_eq_getElem (show j < refs.length by omega)] at h1 h2
          dsimp only at h1 h2
          rw [Bool.true_and] at h1 h2
          have e2 : Op.bytesLess (refs[j]'(by omega)).toList (refs[j + 1]).toList = bB (refs[j]'(by omega)) refs[j + 1] := by
            rw [bl_less, ba_toList, ba_toList]
            rfl
          refine Ev.congr (fun k => by rw [if_pos (by omega), e1, if_pos (by omega), if_pos (by omega), rdB_get refs j (by omega), rdB_get refs (j + 1) hi, e2]) ?_
          cases hc : bB (refs[j]'(by omega)) refs[j + 1]
          · rw [h2 hc]
            exact Ev.congr (fun k => if_neg Bool.false_ne_true) (Ev.now _)
          · exact Ev.congr (fun k => if_pos rfl) (h1 hc)
  have key : ∀ m i, i + m = refs.length → Ev (fun k => chandleryref22_May.l0 k (i : Int) h n refs) ((List.range' i m).all (stepB refs) && (plainB h n && decide (refs.length ≤ 32))) := by
    intro m
    induction m with
    | zero =>
      intro i hi
      have e : i = refs.length := by omega
      subst e
      exact hend
    | succ m ih =>
      intro i hi
      have h1 := ih (i + 1) (by omega)
      refine hgo i (by omega) _ (fun h2 => ?_) (fun h2 => ?_)
      · rw [List.range'_succ, List.all_cons, h2, Bool.true_and]
        exact h1
      · rw [List.range'_succ, List.all_cons, h2, Bool.false_and, Bool.false_and]
  have h0 := key refs.length 0 (by omega)
  rw [← List.range_eq_range'] at h0
  exact h0
theorem rise_steps : ∀ (l : List ByteArray), (∀ i, i + 1 < l.length → ∀ (h : i + 1 < l.length), bB (l[i]'(by omega)) l[i + 1] = true) → Rise bB l
  | [], _ => List.Pairwise.nil
  | [x], _ => List.pairwise_singleton _ _
  | x :: y :: l, h => by
    have h1 := rise_steps (y :: l) fun i hi h2 => by
      have := h (i + 1) (by simp at hi ⊢; omega) (by simp at hi ⊢; omega)
      simpa using this
    have h2 : bB x y = true := by
      have := h 0 (by simp) (by simp)
      simpa using this
    refine List.pairwise_cons.2 ⟨fun z hz => ?_, h1⟩
    rcases List.mem_cons.1 hz with rfl | hz
    · exact h2
    · exact bB_ord.tr _ _ _ h2 ((List.pairwise_cons.1 h1).1 z hz)
theorem refs_iff (refs : List ByteArray) : refsB refs = (refs, 0) ↔ ((List.range refs.length).all (stepB refs) = true ∧ refs.length ≤ 32) := by
  constructor
  · intro h
    unfold refsB at h
    by_cases h2 : refs.all nameB = true
    · rw [if_pos h2] at h
      by_cases h3 : (foundB refs).length ≤ 32
      · rw [if_pos h3] at h
        have e : foundB refs = refs := congrArg Prod.fst h
        have hrise : Rise bB refs := by rw [← e]; exact foundB_rise refs
        rw [e] at h3
        refine ⟨List.all_eq_true.2 fun i hi => ?_, h3⟩
        have hlt := List.mem_range.1 hi
        unfold stepB
        rw [List.getElem?_eq_getElem hlt]
        dsimp only
        rw [List.all_eq_true.1 h2 _ (List.getElem_mem hlt), Bool.true_and]
        match i, hlt with
        | 0, hlt => rfl
        | j + 1, hlt =>
          dsimp only
          rw [List.getElem?_eq_getElem (show j < refs.length by omega)]
          exact List.pairwise_iff_getElem.1 hrise j (j + 1) (by omega) hlt (by omega)
      · rw [if_neg h3] at h
        have := congrArg Prod.snd h
        cases this
    · rw [if_neg h2] at h
      have := congrArg Prod.snd h
      cases this
  · rintro ⟨h1, h2⟩
    have hst : ∀ i, i < refs.length → stepB refs i = true := fun i hi => List.all_eq_true.1 h1 i (List.mem_range.2 hi)
    have hall : refs.all nameB = true := List.all_eq_true.2 fun s hs => by
      obtain ⟨i, hi, rfl⟩ := List.mem_iff_getElem.1 hs
      have := hst i hi
      unfold stepB at this
      rw [List.getElem?_eq_getElem hi] at this
      exact (Bool.and_eq_true _ _ ▸ this : _ ∧ _).1
    have hrise : Rise bB refs := rise_steps refs fun i hi h3 => by
      have := hst (i + 1) hi
      unfold stepB at this
      rw [List.getElem?_eq_getElem hi] at this
      dsimp only at this
      rw [List.getElem?_eq_getElem (show i < refs.length by omega)] at this
      exact (Bool.and_eq_true _ _ ▸ this : _ ∧ _).2
    have e : foundB refs = refs := rise_ext bB_ord (foundB_rise refs) hrise (foundB_mem refs)
    unfold refsB
    rw [if_pos hall, e, if_pos h2]
theorem may_is (h : ByteArray) (n : Int) (refs : List ByteArray) : mayB h n refs = true ↔ plainB h n = true ∧ refsB refs = (refs, 0) := by
  rw [refs_iff]
  unfold mayB
  simp only [Bool.and_eq_true, decide_eq_true_eq]
  exact ⟨fun hh => ⟨hh.2.1, hh.1, hh.2.2⟩, fun hh => ⟨hh.2.1, hh.1, hh.2.2⟩⟩
theorem rcheck_ev (name h : ByteArray) (n : Int) (refs : List ByteArray) (hn : name.size ≤ 1000000) (hr : refs.length ≤ 1000000) (hs : ∀ s ∈ refs, s.size ≤ 1000000) : Ev (fun k => chandleryref22_Check.f k name h n refs) (checkE name h n refs) := by
  have hnm := name_ev name hn
  have hb : ∀ v, Ev (fun k => if nameB name = true then ((chandleryref22_May.f k h n refs).bind fun t179 => (if t179 = true then (some (0 : Int)) else (some 1))) else (some 190)) v → Ev (fun k => chandleryref22_Check.f k name h n refs) v := fun v hv => Ev.bind (f := fun k t => _) hnm hv
  unfold checkE
  cases h1 : nameB name
  · rw [if_neg Bool.false_ne_true]
    refine hb _ ?_
    rw [h1]
    exact Ev.congr (fun k => if_neg Bool.false_ne_true) (Ev.now _)
  · rw [if_pos rfl]
    have hc : ∀ v, (if mayB h n refs = true then (some (0 : Int)) else (some 1)) = some v → Ev (fun k => chandleryref22_Check.f k name h n refs) v := fun v hv => by
      refine hb _ ?_
      rw [h1]
      exact Ev.congr (fun k => if_pos rfl) (Ev.bind (f := fun k t179 => if t179 = true then (some (0 : Int)) else (some 1)) (may_ev h n refs hr hs) (Ev.congr (fun k => hv) (Ev.now _)))
    by_cases h2 : plainB h n = true ∧ refsB refs = (refs, 0)
    · rw [if_pos h2]
      exact hc 0 (if_pos ((may_is h n refs).2 h2))
    · rw [if_neg h2]
      exact hc 1 (if_neg fun hh => h2 ((may_is h n refs).1 hh))
end Go.Proofs.YthnchdbkgenjhaaDoorX
