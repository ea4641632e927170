/- KeysPrefix: a key begins with what Prefix tells of another one just if it is of its kind, and has its first field: the plain statement. Conditions: none. -/
import Derived.Test.YtcohfhclcoiigaaQKeysx13
import Derived.Test.YtcohfhclcoiigaaQKeysx14
import Derived.Test.YtcohfhclcoiigaaKeysRise
import Derived.Test.YtcohfhclcoiigaaKeysAwake
import Derived.Test.YtcohfhclcoiigaaKeysRefB
set_option linter.unusedVariables false
set_option linter.unusedSimpArgs false
namespace Go.Proofs.Ytcohfhclcoiigaa.Pure
open Go.RowKit Go.Proofs.Ytcohfhclcoiigaa.PKeys Go.Proofs.YtcohfhclcoiigaaW.PrintWords Go.Proofs.YtcohfhclcoiigaaW.PrintLast Go.Proofs.YtcohfhclcoiigaaW.PrintMore Go.Proofs.YtcohfhclcoiigaaX

theorem has_f (k : Int) (A B : List UInt8) (N M : Int) (k' : Int) (A' B' : List UInt8) (N' M' : Int) (f : Nat) :
    chandleryref11_Has.f (f + 1) k (ba A) (ba B) N M k' (ba A') (ba B') N' M' = some (hasB k A N k' A' N') := by
  unfold chandleryref11_Has.f hasB
  by_cases e : k = k'
  · subst e
    rw [if_pos rfl]
    by_cases c3 : k = 3
    · subst c3; simp [chandleryref11_Has.j0]
    by_cases c4 : k = 4
    · subst c4; simp [chandleryref11_Has.j0]
    by_cases c6 : k = 6
    · subst c6; simp [chandleryref11_Has.j0, ba_tl]
    by_cases c7 : k = 7
    · subst c7; simp [chandleryref11_Has.j0, ba_tl]
    by_cases c9 : k = 9
    · subst c9; simp [chandleryref11_Has.j0, ba_tl]
    simp [chandleryref11_Has.j0, c3, c4, c6, c7, c9]
  · have : (k == k') = false := by rw [beq_eq_false_iff_ne]; exact e
    rw [if_neg e, this]
    rfl

theorem keysPrefix (k : Int) (A B : ByteArray) (N M : Int) (k' : Int) (A' B' : ByteArray) (N' M' : Int)
    (hA : A.size ≤ 140737488351232) (hB : B.size ≤ 140737488351232) (hA' : A'.size ≤ 140737488351232) (hB' : B'.size ≤ 140737488351232) : ∃ f, chandlerylaw11_KeysPrefix.f f k A B N M k' A' B' N' M' = some true := by
  obtain ⟨A, rfl⟩ := ba_of A
  obtain ⟨B, rfl⟩ := ba_of B
  obtain ⟨A', rfl⟩ := ba_of A'
  obtain ⟨B', rfl⟩ := ba_of B'
  rw [ba_sz] at hA hB hA' hB'
  obtain ⟨K, hK⟩ := awake_ev
  simp only [] at hK
  refine ⟨K + 4, ?_⟩
  have out : ∀ f, chandlerylaw11_KeysPrefix.j0 (f + 1) true k (ba A) (ba B) N M k' (ba A') (ba B') N' M' = some true := fun f => rfl
  have aw : ∀ x y : ByteArray, chandlerylaw11_KeysPrefix.j1 (K + 3) x y true k (ba A) (ba B) N M k' (ba A') (ba B') N' M' = some true := fun x y => by
    rw [show K + 3 = (K + 2) + 1 by omega, chandlerylaw11_KeysPrefix.j1, hK _ (by omega)]; rfl
  unfold chandlerylaw11_KeysPrefix.f
  rw [small_f _ _ _ _ _ (by omega), small_f _ _ _ _ _ (by omega)]
  simp only [Option.bind_some, decide_eq_true_eq]
  by_cases c1 : A.length + B.length ≤ 1000
  rotate_left
  · rw [if_neg c1]; exact out _
  by_cases c2 : A'.length + B'.length ≤ 1000
  rotate_left
  · rw [if_pos c1, decide_eq_false c2]; exact out _
  rw [if_pos c1, decide_eq_true c2, show K + 4 = (K + 3) + 1 by omega, chandlerylaw11_KeysPrefix.j0, if_neg (by decide)]
  by_cases hm : May k A B N M
  rotate_left
  · rw [bytes_no hm]
    by_cases hp : PreOk k' A' N'
    · rw [show K + 3 = (K + 1) + 2 by omega, prefix_ok (by omega) hp]
      exact aw (ba []) (ba (lett k' :: pre k' A' N'))
    · rw [show K + 3 = (K + 1) + 2 by omega, prefix_no (by omega) hp]
      exact aw (ba []) (ba [])
  by_cases hp : PreOk k' A' N'
  rotate_left
  · rw [bytes_f hm, show K + 3 = (K + 1) + 2 by omega, prefix_no (by omega) hp]
    exact aw (ba (byts k A B N M)) (ba [])
  have e2 := prefix_ok (B := B') (M := M') (by omega : A'.length ≤ 1000) hp (K + 1)
  rw [bytes_f hm, show K + 3 = (K + 1) + 2 by omega, e2]
  have hb := begins hm hp
  simp only [Option.bind_some, ↓reduceIte, bne_self_eq_false]
  rw [show K + 1 + 2 = (K + 2) + 1 by omega, chandlerylaw11_KeysPrefix.j1, if_neg (by decide), hK _ (by omega), has_f]
  simp only [Option.bind_some, ↓reduceIte, ba_sz, ba_tl, ba_ex]
  by_cases hl : (pre k' A' N').length ≤ (body k A B N M).length
  · rw [if_pos (by simp [byts]; omega), if_pos (by omega), if_pos (by simp [byts]; omega)]
    congr 1
    rw [beq_iff_eq, Bool.eq_iff_iff, ← hb, List.prefix_iff_eq_take, beq_iff_eq, Int.toNat_natCast, List.drop_zero, Nat.sub_zero]
    exact eq_comm
  · rw [if_neg (by simp [byts]; omega)]
    have hn : hasB k A N k' A' N' = false := by
      rw [← Bool.not_eq_true, ← hb]
      intro h
      have := h.length_le
      simp [byts] at this
      omega
    rw [hn]
    rfl
end Go.Proofs.Ytcohfhclcoiigaa.Pure
