/- KeysBack: what is laid down is read as itself, what is read is laid down as the same bytes, unlike keys have unlike ones: the plain statement. Conditions: none. -/
import Derived.Test.YtcohfhclcoiigaaQKeysx12
import Derived.Test.YtcohfhclcoiigaaKeysRead
import Derived.Test.YtcohfhclcoiigaaKeysAwake
import Derived.Test.YtcohfhclcoiigaaKeysRefB
set_option linter.unusedVariables false
set_option linter.unusedSimpArgs false
namespace Go.Proofs.Ytcohfhclcoiigaa.Pure
open Go.RowKit Go.Proofs.Ytcohfhclcoiigaa.PKeys Go.Proofs.YtcohfhclcoiigaaW.PrintWords Go.Proofs.YtcohfhclcoiigaaW.PrintLast Go.Proofs.YtcohfhclcoiigaaW.PrintMore Go.Proofs.YtcohfhclcoiigaaX

theorem back_1 (s : List UInt8) (hs : s.length ≤ 1000) (f : Nat) (hf : ∀ g, f ≤ g → chandlerylaw11_awake.f g = some true) : chandlerylaw11_KeysBack.j1 (f + 2) (ba s) = some true := by
  rw [show f + 2 = (f + 1) + 1 by omega, chandlerylaw11_KeysBack.j1, hf _ (by omega)]
  rcases parse_f s (by omega) f with ⟨k, A, B, N, M, hm, rfl, hp⟩ | ⟨_, hp⟩
  · rw [hp]
    simp only [Option.bind_some, ↓reduceIte]
    rw [bytes_f hm]
    simp [ba_tl]
  · rw [hp]
    rfl

theorem keysBack (k : Int) (A B : ByteArray) (N M : Int) (k' : Int) (A' B' : ByteArray) (N' M' : Int) (s : ByteArray)
    (hA : A.size ≤ 140737488351232) (hB : B.size ≤ 140737488351232) (hA' : A'.size ≤ 140737488351232) (hB' : B'.size ≤ 140737488351232) : ∃ f, chandlerylaw11_KeysBack.f f k A B N M k' A' B' N' M' s = some true := by
  obtain ⟨A, rfl⟩ := ba_of A
  obtain ⟨B, rfl⟩ := ba_of B
  obtain ⟨A', rfl⟩ := ba_of A'
  obtain ⟨B', rfl⟩ := ba_of B'
  obtain ⟨s, rfl⟩ := ba_of s
  rw [ba_sz] at hA hB hA' hB'
  obtain ⟨K, hK⟩ := awake_ev
  simp only [] at hK
  refine ⟨K + 3, ?_⟩
  have out : ∀ f, chandlerylaw11_KeysBack.j0 (f + 1) (ba s) true k (ba A) (ba B) N M k' (ba A') (ba B') N' M' = some true := fun f => rfl
  unfold chandlerylaw11_KeysBack.f
  rw [small_f _ _ _ _ _ (by omega), small_f _ _ _ _ _ (by omega)]
  simp only [Option.bind_some, decide_eq_true_eq]
  by_cases c1 : A.length + B.length ≤ 1000
  rotate_left
  · rw [if_neg c1]; exact out _
  by_cases c2 : A'.length + B'.length ≤ 1000
  rotate_left
  · rw [if_pos c1, if_neg c2]; exact out _
  rw [if_pos c1, if_pos c2, ba_sz]
  by_cases c3 : (s.length : Int) > 1000
  · rw [decide_eq_true c3]; exact out _
  rw [decide_eq_false c3, show K + 3 = (K + 2) + 1 by omega, chandlerylaw11_KeysBack.j0, if_neg (by decide)]
  have hj := back_1 s (by omega) K hK
  by_cases hm : May k A B N M
  rotate_left
  · rw [bytes_no hm]
    by_cases hm' : May k' A' B' N' M'
    · rw [bytes_f hm']
      exact hj
    · rw [bytes_no hm']
      exact hj
  have hp := parse_byts hm (K + 1)
  rw [bytes_f hm]
  by_cases hm' : May k' A' B' N' M'
  rotate_left
  · rw [bytes_no hm']
    simp only [Option.bind_some, ↓reduceIte, hp]
    simp
    exact hj
  rw [bytes_f hm']
  simp only [Option.bind_some, ↓reduceIte, hp]
  simp only [beq_self_eq_true, Bool.not_true, Bool.or_self, Bool.false_eq_true, ↓reduceIte]
  have e : ((ba (byts k A B N M)).toList == (ba (byts k' A' B' N' M')).toList) = (k == k' && ((ba A).toList == (ba A').toList && ((ba B).toList == (ba B').toList && (N == N' && (M == M'))))) := by
    rw [Bool.eq_iff_iff]
    simp only [ba_tl, beq_iff_eq, Bool.and_eq_true]
    constructor
    · intro h
      exact byts_inj hm hm' h
    · rintro ⟨rfl, rfl, rfl, rfl, rfl⟩
      rfl
  rw [e]
  simp
  exact hj
end Go.Proofs.Ytcohfhclcoiigaa.Pure
