/- The reference's Find answers what the scanner finds: plain laws, no walk. -/
import Derived.Test.YtkmnjekbacdfoaaScanRef
set_option linter.unusedVariables false
set_option linter.unusedSimpArgs false
namespace Go.Proofs.YtkmnjekbacdfoaaX
open Go.RowKit Go.Proofs.Ytkmnjekbacdfoaa.PScanL Go.Proofs.YtkmnjekbacdfoaaW.PrintWords Go.Proofs.YtkmnjekbacdfoaaW.PrintLast Go.Proofs.YtkmnjekbacdfoaaW.PrintMore

theorem stands_ev (b : List Int) (s : ByteArray) (hs : s.size = 32) (hb : b.length ≤ 1000000) : ∃ r, Ev (fun k => chandleryref20_stands.f k b s) r ∧ (r = true ↔ ∃ i, i + 32 ≤ b.length ∧ s = cutAt b i) := by
  have hround : ∀ i, i + 32 ≤ b.length → ∀ k, chandleryref20_stands.l0 (k + 1) b s (i : Int) = if cutAt b i = s then some true else chandleryref20_stands.l0 k b s ((i + 1 : Nat) : Int) := fun i hi k => by
    have e1 : wrap64 ((i : Int) + (s.size : Int)) = ((i + 32 : Nat) : Int) := by rw [hs, w64 (by omega) (by omega)]; omega
    rw [chandleryref20_stands.l0, e1, if_pos (by omega), if_pos (by omega), if_pos (by omega), w64 (x := (i : Int) + 1) (by omega) (by omega)]
    have e2 : (strOfNums ((b.take (((i + 32 : Nat) : Int)).toNat).drop ((i : Int)).toNat)).toList = s.toList ↔ cutAt b i = s := by
      rw [Int.toNat_natCast, Int.toNat_natCast, ba_toList, ba_toList]
      exact ⟨fun h => ba_ext h, fun h => by rw [← h]; rfl⟩
    by_cases h : cutAt b i = s
    · rw [if_pos h, if_pos (e2.2 h)]
    · rw [if_neg h, if_neg (fun h2 => h (e2.1 h2))]
      rfl
  rcases Classical.em (∃ i, i < b.length - 31 ∧ decide (cutAt b i = s) = true) with h | h
  · refine ⟨true, ?_, fun _ => ?_, fun _ => rfl⟩
    · refine Ev.congr (f := fun k => chandleryref20_stands.l0 k b s ((0 : Nat) : Int)) (fun k => rfl) (ev_hit (fun i k => chandleryref20_stands.l0 k b s (i : Int)) (b.length - 31) (fun i => decide (cutAt b i = s)) (fun i hi hh v hv => ?_) (fun i hi hh => ?_) h)
      · exact Ev.step (fun k => by rw [hround i (by omega), if_neg (of_decide_eq_false hh)]) hv
      · exact Ev.step (f := fun _ => some true) (fun k => by rw [hround i (by omega), if_pos (of_decide_eq_true hh)]) (Ev.now _)
    · obtain ⟨i, hi, h⟩ := h
      exact ⟨i, by omega, (of_decide_eq_true h).symm⟩
  · refine ⟨false, ?_, (fun h => by cases h), fun h2 => ?_⟩
    · refine Ev.congr (f := fun k => chandleryref20_stands.l0 k b s ((0 : Nat) : Int)) (fun k => rfl) (ev_miss (fun i k => chandleryref20_stands.l0 k b s (i : Int)) (b.length - 31) (fun i hi v hv => ?_) ?_ 0 (Nat.zero_le _))
      · exact Ev.step (fun k => by rw [hround i (by omega), if_neg (fun hc => h ⟨i, hi, decide_eq_true hc⟩)]) hv
      · refine Ev.step (f := fun _ => some false) (fun k => ?_) (Ev.now _)
        show chandleryref20_stands.l0 (k + 1) _ _ _ = _
        have e1 : wrap64 (((b.length - 31 : Nat) : Int) + (s.size : Int)) = ((b.length - 31 + 32 : Nat) : Int) := by rw [hs, w64 (by omega) (by omega)]; omega
        rw [chandleryref20_stands.l0, e1, if_neg (by omega)]
    · obtain ⟨i, hi, e⟩ := h2
      exact absurd ⟨i, by omega, decide_eq_true e.symm⟩ h
theorem lay_ev (b : List Int) (l out : List ByteArray) (i : Nat) (hi : i < l.length) (hl : l.length ≤ 1000000) (ho : out.length ≤ 1000000) {v : List ByteArray × Int} (h : Ev (fun k => chandleryref20_Find.l1 k b l (layIn bB l[i] out) ((i + 1 : Nat) : Int)) v) :
    Ev (fun k => chandleryref20_Find.l2 k b l out (i : Int) 0) v := by
  have hp := place_le (lt := bB) l[i] out
  have hless : ∀ j (hj : j < out.length), Op.bytesLess ((rdOf ByteArray.empty out (j : Int)).toList) ((rdOf ByteArray.empty l (i : Int)).toList) = bB out[j] l[i] := fun j hj => by
    rw [rdB_get out j hj, rdB_get l i hi, ba_toList, ba_toList, bl_less]
    rfl
  refine Ev.congr (f := fun k => chandleryref20_Find.l2 k b l out (i : Int) ((0 : Nat) : Int)) (fun k => rfl) (ev_miss (fun j k => chandleryref20_Find.l2 k b l out (i : Int) (j : Int)) (place bB l[i] out) (fun j hj v hv => ?_) ?_ 0 (Nat.zero_le _))
  · refine Ev.step (fun k => ?_) hv
    show chandleryref20_Find.l2 (k + 1) _ _ _ _ _ = _
    rw [chandleryref20_Find.l2, if_pos (by omega), if_pos (by omega), if_pos (by omega), if_pos (by omega), hless j (by omega), if_pos (place_lt _ _ j (by omega) hj), w64 (x := (j : Int) + 1) (by omega) (by omega)]
    rfl
  · have hnew : ∀ k, layIn bB l[i] out = out.take (place bB l[i] out) ++ l[i] :: out.drop (place bB l[i] out) → chandleryref20_Find.l1 k b l (((([] : List ByteArray) ++ out.take (place bB l[i] out)) ++ [rdOf ByteArray.empty l (i : Int)]) ++ out.drop (place bB l[i] out)) (wrap64 ((i : Int) + 1)) = chandleryref20_Find.l1 k b l (layIn bB l[i] out) ((i + 1 : Nat) : Int) := fun k e => by
      rw [e, w64 (x := (i : Int) + 1) (by omega) (by omega), rdB_get l i hi, List.nil_append, List.append_assoc]
      rfl
    have hlen : (out.take (place bB l[i] out)).length ≤ 1000000 := by rw [List.length_take]; omega
    have hlen2 : (out.drop (place bB l[i] out)).length ≤ 1000000 := by rw [List.length_drop]; omega
    refine Ev.step (fun k => ?_) h
    show chandleryref20_Find.l2 (k + 1) _ _ _ _ _ = _
    rcases Nat.lt_or_ge (place bB l[i] out) out.length with hlt | hge
    · have hpa := place_at (lt := bB) l[i] out hlt
      rw [chandleryref20_Find.l2, if_pos (by omega), if_pos (by omega), if_pos (by omega), if_pos (by omega), hless _ hlt, if_neg (by rw [hpa]; exact Bool.false_ne_true)]
      by_cases he : out[place bB l[i] out] = l[i]
      · have e : layIn bB l[i] out = out := by
          unfold layIn
          rw [if_pos (by rw [List.getElem?_eq_getElem hlt, he])]
        rw [if_pos (by rw [rdB_get out _ hlt, rdB_get l i hi, he]), e, w64 (x := (i : Int) + 1) (by omega) (by omega)]
        rfl
      · have e : layIn bB l[i] out = out.take (place bB l[i] out) ++ l[i] :: out.drop (place bB l[i] out) := by
          unfold layIn
          rw [if_neg]
          rw [List.getElem?_eq_getElem hlt]
          exact fun h2 => he (Option.some.inj h2)
        rw [if_neg (by rw [rdB_get out _ hlt, rdB_get l i hi, ba_toList, ba_toList]; exact fun h2 => he (ba_ext h2)), if_pos (by omega), Option.bind_some, Int.toNat_natCast, if_pos (by rw [List.length_nil]; omega), Option.bind_some, if_pos (by rw [List.nil_append]; omega), Option.bind_some, Option.bind_some, if_pos (by rw [List.length_append, List.nil_append, List.length_singleton]; omega)]
        exact hnew k e
    · have e : layIn bB l[i] out = out.take (place bB l[i] out) ++ l[i] :: out.drop (place bB l[i] out) := by
        unfold layIn
        rw [if_neg]
        rw [List.getElem?_eq_none hge]
        exact fun h2 => by cases h2
      rw [chandleryref20_Find.l2, if_neg (by omega), if_pos (by omega), if_pos (by omega), Option.bind_some, Int.toNat_natCast, if_pos (by rw [List.length_nil]; omega), Option.bind_some, if_pos (by omega), if_pos (by omega), if_pos (by rw [List.nil_append]; omega), Option.bind_some, Option.bind_some, if_pos (by rw [List.length_append, List.nil_append, List.length_singleton]; omega)]
      exact hnew k e
theorem layIn_len (x : ByteArray) (l : List ByteArray) : (layIn bB x l).length ≤ l.length + 1 := by
  unfold layIn
  split
  · omega
  · rw [List.length_append, List.length_cons, List.length_take, List.length_drop]
    have := place_le (lt := bB) x l
    omega
theorem out_ev (b : List Int) (l : List ByteArray) (hb : b.length ≤ 1000000) (hl : l.length ≤ 1000) (hall : l.all nameB = true) : ∀ m i out, i + m = l.length → Rise bB out → (∀ x, x ∈ out ↔ x ∈ l.take i ∧ speaks b x) → out.length ≤ i → Ev (fun k => chandleryref20_Find.l1 k b l out (i : Int)) (findB b l, 0)
  | 0, i, out, hi, hr, hm, hlen => by
    obtain rfl : i = l.length := by omega
    rw [List.take_length] at hm
    have : out = findB b l := rise_ext bB_ord hr (find_rise b l) fun x => by rw [hm, mem_find]
    subst this
    refine Ev.step (f := fun _ => some _) (fun k => ?_) (Ev.now _)
    show chandleryref20_Find.l1 (k + 1) _ _ _ _ = _
    rw [chandleryref20_Find.l1, if_neg (by omega)]
  | m + 1, i, out, hi, hr, hm, hlen => by
    have hlt : i < l.length := by omega
    have hn : nameB l[i] = true := List.all_eq_true.1 hall _ (List.getElem_mem hlt)
    have hsz : 33 < l[i].size := by
      unfold nameB at hn
      simp only [Bool.and_eq_true, decide_eq_true_eq] at hn
      exact hn.1.1.1
    have h32 : (l[i].extract 0 32).size = 32 := by rw [ByteArray.size_extract]; omega
    obtain ⟨r, hr1, hr2⟩ := stands_ev b (l[i].extract 0 32) h32 hb
    have htk : l.take (i + 1) = l.take i ++ [l[i]] := by rw [List.take_add_one, List.getElem?_eq_getElem hlt]; rfl
    refine Ev.step (f := fun k => (chandleryref20_stands.f k b (l[i].extract 0 32)).bind fun t124 => (if t124 = true then (chandleryref20_Find.l2 k b l out (i : Int) 0) else (chandleryref20_Find.l1 k b l out ((i + 1 : Nat) : Int)))) (fun k => ?_) (Ev.bind (f := fun k t124 => (if t124 = true then (chandleryref20_Find.l2 k b l out (i : Int) 0) else (chandleryref20_Find.l1 k b l out ((i + 1 : Nat) : Int)))) hr1 ?_)
    · show chandleryref20_Find.l1 (k + 1) _ _ _ _ = _
      rw [chandleryref20_Find.l1, if_pos (by omega), if_pos (by omega), if_pos (by decide), rdB_get l i hlt, if_pos (by omega), w64 (x := (i : Int) + 1) (by omega) (by omega)]
      rfl
    · cases r
      · refine Ev.congr (fun k => if_neg Bool.false_ne_true) (out_ev b l hb hl hall m (i + 1) out (by omega) hr (fun x => ?_) (by omega))
        rw [hm, htk, List.mem_append, List.mem_singleton]
        constructor
        · rintro ⟨h1, h2⟩
          exact ⟨.inl h1, h2⟩
        · rintro ⟨h1 | rfl, h2⟩
          · exact ⟨h1, h2⟩
          · exact absurd (hr2.2 h2) Bool.false_ne_true
      · refine Ev.congr (fun k => if_pos rfl) (lay_ev b l out i hlt (by omega) (by omega) (out_ev b l hb hl hall m (i + 1) (layIn bB l[i] out) (by omega) (layIn_rise bB_ord _ hr) (fun x => ?_) (by have := layIn_len l[i] out; omega)))
        rw [layIn_mem, hm, htk, List.mem_append, List.mem_singleton]
        constructor
        · rintro (rfl | ⟨h1, h2⟩)
          · exact ⟨.inr rfl, hr2.1 rfl⟩
          · exact ⟨.inl h1, h2⟩
        · rintro ⟨h1 | rfl, h2⟩
          · exact .inr ⟨h1, h2⟩
          · exact .inl rfl
/-- The reference's Find. -/
theorem find_ev (b : List Int) (l : List ByteArray) (hb : b.length ≤ 1000000) (hl : l.length ≤ 1000) (hs : ∀ s ∈ l, s.size ≤ 1000) : Ev (fun k => chandleryref20_Find.f k b l) (if l.all nameB = true then (findB b l, 0) else ([], 190)) := by
  have hround : ∀ i (hi : i < l.length) v, (nameB l[i] = true → Ev (fun k => chandleryref20_Find.l0 k b l ((i + 1 : Nat) : Int)) v) → (nameB l[i] = false → v = ([], 190)) → Ev (fun k => chandleryref20_Find.l0 k b l (i : Int)) v := fun i hi v h1 h2 => by
    refine Ev.step (f := fun k => (chandleryref19_Name.f k l[i]).bind fun t122 => (if t122 = true then (chandleryref20_Find.l0 k b l ((i + 1 : Nat) : Int)) else (some (([] : List ByteArray), 190)))) (fun k => ?_) (Ev.bind (f := fun k t122 => (if t122 = true then (chandleryref20_Find.l0 k b l ((i + 1 : Nat) : Int)) else (some (([] : List ByteArray), 190)))) (name_ev l[i] (by have := hs _ (List.getElem_mem hi); omega)) ?_)
    · show chandleryref20_Find.l0 (k + 1) _ _ _ = _
      rw [chandleryref20_Find.l0, if_pos (by omega), if_pos (by omega), rdB_get l i hi, w64 (x := (i : Int) + 1) (by omega) (by omega)]
      rfl
    · cases hn : nameB l[i]
      · rw [h2 hn]
        exact Ev.congr (fun k => if_neg Bool.false_ne_true) (Ev.now _)
      · exact Ev.congr (fun k => if_pos rfl) (h1 hn)
  cases hall : l.all nameB
  · rw [if_neg Bool.false_ne_true]
    obtain ⟨s, hs1, hs2⟩ := List.all_eq_false.1 hall
    obtain ⟨i, hi, rfl⟩ := List.mem_iff_getElem.1 hs1
    refine Ev.congr (f := fun k => chandleryref20_Find.l0 k b l ((0 : Nat) : Int)) (fun k => rfl) (ev_hit (fun i k => chandleryref20_Find.l0 k b l (i : Int)) l.length (fun i => match l[i]? with | some s => !nameB s | none => false) (fun i hi hh v hv => ?_) (fun i hi hh => ?_) ⟨i, hi, by rw [List.getElem?_eq_getElem hi]; simpa using hs2⟩)
    · rw [List.getElem?_eq_getElem hi] at hh
      have hh2 : nameB l[i] = true := by simpa using hh
      exact hround i hi v (fun _ => hv) (fun h => by rw [hh2] at h; cases h)
    · rw [List.getElem?_eq_getElem hi] at hh
      have hh2 : nameB l[i] = false := by simpa using hh
      exact hround i hi _ (fun h => by rw [hh2] at h; cases h) (fun _ => rfl)
  · rw [if_pos rfl]
    refine Ev.congr (f := fun k => chandleryref20_Find.l0 k b l ((0 : Nat) : Int)) (fun k => rfl) (ev_miss (fun i k => chandleryref20_Find.l0 k b l (i : Int)) l.length (fun i hi v hv => ?_) ?_ 0 (Nat.zero_le _))
    · have hh2 : nameB l[i] = true := List.all_eq_true.1 hall _ (List.getElem_mem hi)
      exact hround i hi v (fun _ => hv) (fun h => by rw [hh2] at h; cases h)
    · refine Ev.step (f := fun k => chandleryref20_Find.l1 k b l ([] : List ByteArray) ((0 : Nat) : Int)) (fun k => ?_) (out_ev b l hb hl hall l.length 0 [] (by omega) List.Pairwise.nil (fun x => by simp) (by simp))
      show chandleryref20_Find.l0 (k + 1) _ _ _ = _
      rw [chandleryref20_Find.l0, if_neg (by omega)]
      rfl
theorem same_texts (l : List ByteArray) (hl : l.length ≤ 1000000) : Ev (fun k => chandleryref01_Texts.f k l l) true := by
  refine Ev.congr (fun k => if_pos rfl) ?_
  refine ev_go (fun i k => chandleryref01_Texts.l0 k l l (i : Int)) l.length (fun i hi k => ?_) ?_
  · show chandleryref01_Texts.l0 (k + 1) _ _ _ = _
    rw [chandleryref01_Texts.l0, if_pos (by omega), if_pos (by omega), if_pos (by omega), if_pos rfl, w1 hi (by omega)]
  · refine Ev.step (f := fun _ => some true) (fun k => ?_) (Ev.now _)
    show chandleryref01_Texts.l0 (k + 1) _ _ _ = _
    rw [chandleryref01_Texts.l0, if_neg (by omega)]
end Go.Proofs.YtkmnjekbacdfoaaX
