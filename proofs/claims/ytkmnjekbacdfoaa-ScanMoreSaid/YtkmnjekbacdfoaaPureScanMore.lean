/- ScanMore: the plain statement: what the law's function answers. -/
import Derived.Test.YtkmnjekbacdfoaaPureScanFinds
set_option linter.unusedVariables false
set_option linter.unusedSimpArgs false
namespace Go.Proofs.YtkmnjekbacdfoaaX
open Go.RowKit Go.Proofs.Ytkmnjekbacdfoaa.PScanL Go.Proofs.YtkmnjekbacdfoaaW.PrintWords Go.Proofs.YtkmnjekbacdfoaaW.PrintLast Go.Proofs.YtkmnjekbacdfoaaW.PrintMore

theorem cutAt_app (a b c : List Int) (i : Nat) (hi : i + 32 ≤ b.length) : cutAt (a ++ b ++ c) (a.length + i) = cutAt b i := by
  unfold cutAt
  congr 1
  rw [List.take_append_of_le_length (by rw [List.length_append]; omega), Nat.add_assoc, List.take_append, List.take_of_length_le (by omega), show a.length + (i + 32) - a.length = i + 32 by omega, List.drop_append, List.drop_of_length_le (by omega), show a.length + i - a.length = i by omega, List.nil_append]
theorem more_sub (a b c : List Int) (l m : List ByteArray) : ∀ x ∈ findB b l, x ∈ findB (a ++ b ++ c) (m ++ l) := by
  intro x hx
  obtain ⟨h1, i, hi, h2⟩ := mem_find.1 hx
  refine mem_find.2 ⟨List.mem_append.2 (.inr h1), a.length + i, by rw [List.length_append, List.length_append]; omega, ?_⟩
  rw [cutAt_app a b c i hi]
  exact h2
theorem within_ev (l m : List ByteArray) (hl : l.length ≤ 1000000) (hm : m.length ≤ 1000000) : ∀ n i at_, n + i = m.length → at_ ≤ l.length → within (m.drop i) (l.drop at_) = [] → Ev (fun k => chandlerylaw20_ScanMore.l0 k l m (at_ : Int) (i : Int)) true
  | 0, i, at_, hi, ha, hw => by
    rw [List.drop_of_length_le (by omega)] at hw
    have hd : l.drop at_ = [] := hw
    have hal : at_ = l.length := by
      have := congrArg List.length hd
      rw [List.length_drop, List.length_nil] at this
      omega
    subst hal
    refine Ev.step (f := fun k => chandlerylaw20_ScanMore.j3 k l m ((l.length : Nat) : Int) (i : Int) false) (fun k => ?_) (Ev.step (f := fun k => some true) (fun k => ?_) (Ev.now _))
    · show chandlerylaw20_ScanMore.l0 (k + 1) _ _ _ _ = _
      rw [chandlerylaw20_ScanMore.l0, if_neg (by omega)]
    · show chandlerylaw20_ScanMore.j3 (k + 1) _ _ _ _ _ = _
      rw [chandlerylaw20_ScanMore.j3, if_neg Bool.false_ne_true]
      show (if true = true then some (((l.length : Nat) : Int) == (l.length : Int)) else some false) = _
      rw [if_pos rfl, beq_self_eq_true]
  | n + 1, i, at_, hi, ha, hw => by
    have hlt : i < m.length := by omega
    rcases Nat.lt_or_ge at_ l.length with h1 | h1
    · rw [List.drop_eq_getElem_cons hlt, List.drop_eq_getElem_cons h1, within] at hw
      refine Ev.step (f := fun k => chandlerylaw20_ScanMore.j3 k l m (at_ : Int) (i : Int) true) (fun k => ?_) ?_
      · show chandlerylaw20_ScanMore.l0 (k + 1) _ _ _ _ = _
        rw [chandlerylaw20_ScanMore.l0, if_pos (by omega), decide_eq_true (by omega)]
      · by_cases he : m[i] = l[at_]
        · rw [if_pos he] at hw
          refine Ev.step (fun k => ?_) (within_ev l m hl hm n (i + 1) (at_ + 1) (by omega) (by omega) hw)
          show chandlerylaw20_ScanMore.j3 (k + 1) _ _ _ _ _ = _
          rw [chandlerylaw20_ScanMore.j3, if_pos rfl, if_pos (by omega), if_pos (by omega), if_pos (by omega), if_pos (by omega), rdB_get m i hlt, rdB_get l at_ h1, if_pos (by rw [he]), w1 hlt (by omega), w1 h1 (by omega)]
        · rw [if_neg he] at hw
          refine Ev.step (fun k => ?_) (within_ev l m hl hm n (i + 1) at_ (by omega) ha (by rw [List.drop_eq_getElem_cons h1]; exact hw))
          show chandlerylaw20_ScanMore.j3 (k + 1) _ _ _ _ _ = _
          rw [chandlerylaw20_ScanMore.j3, if_pos rfl, if_pos (by omega), if_pos (by omega), if_pos (by omega), if_pos (by omega), rdB_get m i hlt, rdB_get l at_ h1, if_neg (by rw [ba_toList, ba_toList]; exact fun h => he (ba_ext h)), w1 hlt (by omega)]
    · obtain rfl : at_ = l.length := by omega
      refine Ev.step (f := fun k => chandlerylaw20_ScanMore.j3 k l m ((l.length : Nat) : Int) (i : Int) false) (fun k => ?_) (Ev.step (f := fun k => some true) (fun k => ?_) (Ev.now _))
      · show chandlerylaw20_ScanMore.l0 (k + 1) _ _ _ _ = _
        rw [chandlerylaw20_ScanMore.l0, if_pos (by omega), decide_eq_false (by omega)]
      · show chandlerylaw20_ScanMore.j3 (k + 1) _ _ _ _ _ = _
        rw [chandlerylaw20_ScanMore.j3, if_neg Bool.false_ne_true]
        show (if true = true then some (((l.length : Nat) : Int) == (l.length : Int)) else some false) = _
        rw [if_pos rfl, beq_self_eq_true]
theorem j1_bad (x11 x14 : List ByteArray) (x12 x15 : Int) (h : x12 = 190 ∨ x15 = 190) : Ev (fun k => chandlerylaw20_ScanMore.j1 k x11 x12 x14 x15 true) true := by
  refine Ev.step (f := fun _ => some true) (fun k => ?_) (Ev.now _)
  show chandlerylaw20_ScanMore.j1 (k + 1) _ _ _ _ _ = _
  rw [chandlerylaw20_ScanMore.j1, if_pos rfl]
  show (if true = true then (if x12 = 190 then some true else some (x15 == 190)) else some false) = _
  rw [if_pos rfl]
  by_cases h1 : x12 = 190
  · rw [if_pos h1]
  · rw [if_neg h1]
    rcases h with h | h
    · exact absurd h h1
    · rw [h]; rfl
theorem scanMore_pure (a b c : List Int) (l m : List ByteArray) : ∃ k, chandlerylaw20_ScanMore.f k a b c l m = some true := by
  refine Ev.rounds ?_
  have hlet : Ev (fun k => chandlerylaw20_ScanMore.j0 k a b c l m true) true := Ev.step (f := fun _ => some true) (fun k => by rw [chandlerylaw20_ScanMore.j0, if_pos rfl]) (Ev.now _)
  obtain ⟨r, hr, hr2⟩ := few_ev b l
  refine Ev.bind (f := fun k t153 => _) hr ?_
  cases r
  · exact Ev.congr (fun k => if_neg Bool.false_ne_true) hlet
  obtain ⟨hb, hl, hs⟩ := hr2 rfl
  refine Ev.congr (fun k => if_pos rfl) ?_
  obtain ⟨q, hq, hq2⟩ := few_ev a m
  refine Ev.bind (f := fun k t153 => _) hq ?_
  cases q
  · exact Ev.congr (fun k => if_neg Bool.false_ne_true) hlet
  obtain ⟨ha, hm, ht⟩ := hq2 rfl
  refine Ev.congr (fun k => if_pos rfl) ?_
  by_cases hc : c.length ≤ 2000
  case neg => exact Ev.congr (fun k => by rw [decide_eq_true (by omega)]) hlet
  refine Ev.congr (fun k => by rw [decide_eq_false (by omega)]) ?_
  have hs' : ∀ s ∈ l, s.size ≤ 1000 := fun s h => by have := hs s h; omega
  have hml : ∀ s ∈ m ++ l, s.size ≤ 1000 := fun s h => by
    rcases List.mem_append.1 h with h | h
    · have := ht s h; omega
    · exact hs' s h
  have hab : (a ++ b ++ c).length ≤ 10000 := by rw [List.length_append, List.length_append]; omega
  have hmn : (m ++ l).length ≤ 100 := by rw [List.length_append]; omega
  have hf1 := prog_find b l (by omega) (by omega) hs'
  have hf2 := prog_find (a ++ b ++ c) (m ++ l) hab hmn hml
  obtain ⟨r1, hr1⟩ : ∃ r1, (if l.all nameB = true then (findB b l, (0 : Int)) else ([], 190)) = r1 := ⟨_, rfl⟩
  obtain ⟨r2, hr2'⟩ : ∃ r2, (if (m ++ l).all nameB = true then (findB (a ++ b ++ c) (m ++ l), (0 : Int)) else ([], 190)) = r2 := ⟨_, rfl⟩
  rw [hr1] at hf1
  rw [hr2'] at hf2
  refine Ev.step (f := fun k => if r1.2 = 0 then chandlerylaw20_ScanMore.j1 k r1.1 r1.2 r2.1 r2.2 (r2.2 != 0) else chandlerylaw20_ScanMore.j1 k r1.1 r1.2 r2.1 r2.2 true) (fun k => ?_) ?_
  · show chandlerylaw20_ScanMore.j0 (k + 1) _ _ _ _ _ _ = _
    rw [chandlerylaw20_ScanMore.j0, if_neg Bool.false_ne_true, hf1, Option.bind_some, if_pos (by rw [List.length_nil]; omega), Option.bind_some, List.nil_append, if_pos (by omega), Option.bind_some, List.length_nil, if_pos (by omega), Option.bind_some, List.nil_append, if_pos (by omega), Option.bind_some, if_pos (by rw [List.length_append]; omega), hf2, Option.bind_some]
  · cases h1 : l.all nameB
    · rw [h1, if_neg Bool.false_ne_true] at hr1
      subst hr1
      exact Ev.congr (fun k => if_neg (by decide)) (j1_bad _ _ _ _ (.inl rfl))
    · rw [h1, if_pos rfl] at hr1
      subst hr1
      refine Ev.congr (fun k => if_pos rfl) ?_
      cases h2 : (m ++ l).all nameB
      · rw [h2, if_neg Bool.false_ne_true] at hr2'
        subst hr2'
        exact j1_bad _ _ _ _ (.inr rfl)
      · rw [h2, if_pos rfl] at hr2'
        subst hr2'
        refine Ev.step (f := fun k => chandlerylaw20_ScanMore.l0 k (findB b l) (findB (a ++ b ++ c) (m ++ l)) ((0 : Nat) : Int) ((0 : Nat) : Int)) (fun k => ?_) (within_ev _ _ (find_le b l (by omega) (by omega)) (find_le _ _ hab hmn) _ 0 0 rfl (Nat.zero_le _) ?_)
        · show chandlerylaw20_ScanMore.j1 (k + 1) _ _ _ _ _ = _
          rw [chandlerylaw20_ScanMore.j1, if_neg (by show ¬ ((0 : Int) != 0) = true; decide)]
          rfl
        · exact within_all bB_ord _ _ (find_rise _ _) (find_rise _ _) (more_sub a b c l m)
end Go.Proofs.YtkmnjekbacdfoaaX
