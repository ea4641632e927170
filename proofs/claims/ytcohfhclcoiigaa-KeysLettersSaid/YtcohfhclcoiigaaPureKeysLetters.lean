/- KeysLetters: the first byte of a key tells its kind, and no key's bytes are another one's with more behind, if both kinds end with no name: the plain statement. Conditions: none. -/
import Derived.Test.YtcohfhclcoiigaaQKeysx16
import Derived.Test.YtcohfhclcoiigaaKeysRead
import Derived.Test.YtcohfhclcoiigaaKeysAwake
import Derived.Test.YtcohfhclcoiigaaKeysRefB
set_option linter.unusedVariables false
set_option linter.unusedSimpArgs false
namespace Go.Proofs.Ytcohfhclcoiigaa.Pure
open Go.RowKit Go.Proofs.Ytcohfhclcoiigaa.PKeys Go.Proofs.YtcohfhclcoiigaaW.PrintWords Go.Proofs.YtcohfhclcoiigaaW.PrintLast Go.Proofs.YtcohfhclcoiigaaW.PrintMore Go.Proofs.YtcohfhclcoiigaaX

theorem letters_len {k : Int} {A B A' B' : List UInt8} {N M N' M' : Int} (h : May k A B N M) (h' : May k A' B' N' M') (hk : k = 1 ∨ k = 2 ∨ k = 3) : (byts k A B N M).length = (byts k A' B' N' M').length := by
  rcases hk with rfl | rfl | rfl
  · cases h with
    | count => cases h' with
      | count => rfl
      | one _ _ h0 => omega
      | two _ _ _ h0 => omega
    | one _ _ h0 => omega
    | two _ _ _ h0 => omega
  · simp [byts, body, n3_len]
  · simp [byts, body, n3_len, n2_len]

theorem keysLetters (k : Int) (A B : ByteArray) (N M : Int) (k' : Int) (A' B' : ByteArray) (N' M' : Int)
    (hA : A.size ≤ 140737488351232) (hB : B.size ≤ 140737488351232) (hA' : A'.size ≤ 140737488351232) (hB' : B'.size ≤ 140737488351232) : ∃ f, chandlerylaw11_KeysLetters.f f k A B N M k' A' B' N' M' = some true := by
  obtain ⟨A, rfl⟩ := ba_of A
  obtain ⟨B, rfl⟩ := ba_of B
  obtain ⟨A', rfl⟩ := ba_of A'
  obtain ⟨B', rfl⟩ := ba_of B'
  rw [ba_sz] at hA hB hA' hB'
  obtain ⟨K, hK⟩ := awake_ev
  simp only [] at hK
  refine ⟨K + 3, ?_⟩
  have out : ∀ f, chandlerylaw11_KeysLetters.j0 (f + 1) true k (ba A) (ba B) N M k' (ba A') (ba B') N' M' = some true := fun f => rfl
  have aw : ∀ x y : ByteArray, chandlerylaw11_KeysLetters.j1 (K + 2) x y true k (ba A) (ba B) N M k' (ba A') (ba B') N' M' = some true := fun x y => by
    rw [show K + 2 = (K + 1) + 1 by omega, chandlerylaw11_KeysLetters.j1, hK _ (by omega)]; rfl
  unfold chandlerylaw11_KeysLetters.f
  rw [small_f _ _ _ _ _ (by omega), small_f _ _ _ _ _ (by omega)]
  simp only [Option.bind_some, decide_eq_true_eq]
  by_cases c1 : A.length + B.length ≤ 1000
  rotate_left
  · rw [if_neg c1]; exact out _
  by_cases c2 : A'.length + B'.length ≤ 1000
  rotate_left
  · rw [if_pos c1, decide_eq_false c2]; exact out _
  rw [if_pos c1, decide_eq_true c2, show K + 3 = (K + 2) + 1 by omega, chandlerylaw11_KeysLetters.j0, if_neg (by decide)]
  by_cases hm : May k A B N M
  rotate_left
  · rw [bytes_no hm]
    by_cases hm' : May k' A' B' N' M'
    · rw [bytes_f hm']
      exact aw (ba []) (ba (byts k' A' B' N' M'))
    · rw [bytes_no hm']
      exact aw (ba []) (ba [])
  by_cases hm' : May k' A' B' N' M'
  rotate_left
  · rw [bytes_f hm, bytes_no hm']
    exact aw (ba (byts k A B N M)) (ba [])
  rw [bytes_f hm, bytes_f hm']
  have hr := hm.range
  have hr' := hm'.range
  have n1 : ¬ byts k A B N M = [] := by simp [byts]
  have n2 : (byts k' A' B' N' M' == []) = false := by simp [byts]
  simp only [Option.bind_some, ↓reduceIte, ba_tl, n2]
  rw [if_neg n1, show K + 2 = (K + 1) + 1 by omega, chandlerylaw11_KeysLetters.j1, if_neg (by decide), ba_sz, ba_sz, if_pos (by simp [byts]), if_pos (by simp [byts])]
  have b1 : bt (ba (byts k A B N M)) 0 = ((lett k).toNat : Int) := bt_ba _ 0 (by simp [byts])
  have b2 : bt (ba (byts k' A' B' N' M')) 0 = ((lett k').toNat : Int) := bt_ba _ 0 (by simp [byts])
  have e : (bt (ba (byts k A B N M)) 0 == bt (ba (byts k' A' B' N' M')) 0) = (k == k') := by
    rw [b1, b2, Bool.eq_iff_iff, beq_iff_eq, beq_iff_eq]
    constructor
    · intro h
      exact lett_inj hr.1 hr.2 hr'.1 hr'.2 (UInt8.toNat_inj.1 (by omega))
    · rintro rfl
      rfl
  rw [e, hK _ (by omega)]
  simp only [bne_self_eq_false, Bool.false_eq_true, ↓reduceIte, Option.bind_some]
  by_cases ek : k = k'
  · subst ek
    by_cases e3 : k = 1 ∨ k = 2 ∨ k = 3
    · have hl := letters_len hm hm' e3
      rw [hl]
      rcases e3 with rfl | rfl | rfl <;> simp
    · have d1 : ¬ k = 1 := fun h => e3 (.inl h)
      have d2 : ¬ k = 2 := fun h => e3 (.inr (.inl h))
      have d3 : ¬ k = 3 := fun h => e3 (.inr (.inr h))
      simp [d1, d2, d3]
  · by_cases d1 : k = 1
    · simp [d1, ek]
      omega
    by_cases d2 : k = 2
    · simp [d2, ek]
      omega
    by_cases d3 : k = 3
    · simp [d3, ek]
      omega
    simp [d1, d2, d3]
end Go.Proofs.Ytcohfhclcoiigaa.Pure
