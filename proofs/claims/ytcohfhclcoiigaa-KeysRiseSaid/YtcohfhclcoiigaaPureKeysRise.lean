/- KeysRise: of keys of one kind that have the same texts the bytes rise as their numbers do: the plain statement. Conditions: none. -/
import Derived.Test.YtcohfhclcoiigaaQKeysx15
import Derived.Test.YtcohfhclcoiigaaKeysRise
import Derived.Test.YtcohfhclcoiigaaKeysAwake
import Derived.Test.YtcohfhclcoiigaaKeysRefB
set_option linter.unusedVariables false
set_option linter.unusedSimpArgs false
namespace Go.Proofs.Ytcohfhclcoiigaa.Pure
open Go.RowKit Go.Proofs.Ytcohfhclcoiigaa.PKeys Go.Proofs.YtcohfhclcoiigaaW.PrintWords Go.Proofs.YtcohfhclcoiigaaW.PrintLast Go.Proofs.YtcohfhclcoiigaaW.PrintMore Go.Proofs.YtcohfhclcoiigaaX

theorem rise_0 (k : Int) (A B : List UInt8) (N M N' M' : Int) (K : Nat) (hK : ∀ g, K ≤ g → chandlerylaw11_awake.f g = some true) : chandlerylaw11_KeysRise.j0 (K + 3) k (ba A) (ba B) N M k (ba A) (ba B) N' M' = some true := by
  have aw : ∀ x y : ByteArray, chandlerylaw11_KeysRise.j1 (K + 2) x y true k (ba A) (ba B) N M k (ba A) (ba B) N' M' = some true := fun x y => by
    rw [show K + 2 = (K + 1) + 1 by omega, chandlerylaw11_KeysRise.j1, hK _ (by omega)]; rfl
  rw [show K + 3 = (K + 2) + 1 by omega, chandlerylaw11_KeysRise.j0]
  by_cases hm : May k A B N M
  rotate_left
  · rw [bytes_no hm]
    by_cases hm' : May k A B N' M'
    · rw [bytes_f hm']
      exact aw (ba []) (ba (byts k A B N' M'))
    · rw [bytes_no hm']
      exact aw (ba []) (ba [])
  by_cases hm' : May k A B N' M'
  rotate_left
  · rw [bytes_f hm, bytes_no hm']
    exact aw (ba (byts k A B N M)) (ba [])
  rw [bytes_f hm, bytes_f hm']
  have hr := rise hm hm'
  simp only [Option.bind_some, ↓reduceIte, bne_self_eq_false]
  rw [show K + 2 = (K + 1) + 1 by omega, chandlerylaw11_KeysRise.j1, hK _ (by omega), ba_tl, ba_tl, hr]
  by_cases h1 : N < N'
  · simp [h1]
  by_cases h2 : N = N'
  · subst h2
    simp
  · simp [h1, h2]

theorem keysRise (k : Int) (A B : ByteArray) (N M : Int) (n m x y : Int) (hA : A.size ≤ 140737488351232) (hB : B.size ≤ 140737488351232) : ∃ f, chandlerylaw11_KeysRise.f f k A B N M n m x y = some true := by
  obtain ⟨A, rfl⟩ := ba_of A
  obtain ⟨B, rfl⟩ := ba_of B
  rw [ba_sz] at hA hB
  obtain ⟨K, hK⟩ := awake_ev
  simp only [] at hK
  refine ⟨K + 3, ?_⟩
  unfold chandlerylaw11_KeysRise.f
  rw [small_f _ _ _ _ _ (by omega), rise_0 k A B n x m y K hK, rise_0 k A B n M m M K hK]
  simp
end Go.Proofs.Ytcohfhclcoiigaa.Pure
