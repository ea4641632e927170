/- KeysLay: whether a key may be, its bytes, and what some begin with, are as the document says: the plain statement. Conditions: none. -/
import Derived.Test.YtcohfhclcoiigaaQKeysx11
import Derived.Test.YtcohfhclcoiigaaKeysRefB
import Derived.Test.YtcohfhclcoiigaaKeysAwake
set_option linter.unusedVariables false
set_option linter.unusedSimpArgs false
namespace Go.Proofs.Ytcohfhclcoiigaa.Pure
open Go.RowKit Go.Proofs.Ytcohfhclcoiigaa.PKeys Go.Proofs.YtcohfhclcoiigaaW.PrintWords Go.Proofs.YtcohfhclcoiigaaW.PrintLast Go.Proofs.YtcohfhclcoiigaaW.PrintMore Go.Proofs.YtcohfhclcoiigaaX

theorem keysLay (k : Int) (A B : ByteArray) (N M : Int) (hN : N ≤ 9223372036854775807) (hA : A.size ≤ 140737488351232) (hB : B.size ≤ 140737488351232) : ∃ f, chandlerylaw11_KeysLay.f f k A B N M = some true := by
  obtain ⟨A, rfl⟩ := ba_of A
  obtain ⟨B, rfl⟩ := ba_of B
  rw [ba_sz] at hA hB
  unfold chandlerylaw11_KeysLay.f
  by_cases hs : A.length + B.length ≤ 1000
  · obtain ⟨K, hK⟩ := awake_ev
    refine ⟨K + A.length + B.length + 10, ?_⟩
    rw [small_f _ _ _ _ _ (by omega), decide_eq_true hs]
    obtain ⟨p, hp1, hp2⟩ := refPrefix_f (k := k) (B := B) (M := M) (by omega : A.length ≤ 1000000) hN (K + A.length + B.length + 10) (by omega)
    have hy := May_f (k := k) (N := N) (M := M) (by omega : A.length ≤ 1000000) (by omega : B.length ≤ 1000000) (K + A.length + B.length + 9) (by omega)
    have aw := hK (K + A.length + B.length + 9) (by omega)
    simp only [] at aw
    have last : chandlerylaw11_KeysLay.j0 (K + A.length + B.length + 10) (if mayB k A B N M = true then 0 else 1) (if mayB k A B N M = true then ba (byts k A B N M) else ba []) (if mayB k A B N M = true then 0 else 1) false k (ba A) (ba B) N M = some true := by
      rw [show K + A.length + B.length + 10 = (K + A.length + B.length + 9) + 1 by omega, chandlerylaw11_KeysLay.j0, if_neg (by decide), hy]
      simp only [Option.bind_some]
      by_cases hm : mayB k A B N M = true
      · rw [if_pos hm, if_pos hm, if_pos hm, aw]
        have := refBytes_f ((mayB_iff _ _ _ _ _).1 hm) (K + A.length + B.length + 8)
        simp [this]
      · rw [if_neg hm, if_neg hm, if_neg hm, aw]
        simp [ba_tl]
    have hc : keys_Check.f k (ba A) (ba B) N M = some (if mayB k A B N M = true then 0 else 1) := by
      unfold keys_Check.f
      by_cases hm : mayB k A B N M = true
      · rw [if_pos hm, (may_check _ _ _ _ _).2 ((mayB_iff _ _ _ _ _).1 hm)]
      · rw [if_neg hm, (check_01 _ _ _ _ _).resolve_left fun h0 => hm ((mayB_iff _ _ _ _ _).2 ((may_check _ _ _ _ _).1 h0))]
    have hb : keys_Bytes.f (K + A.length + B.length + 10) k (ba A) (ba B) N M = some (if mayB k A B N M = true then ba (byts k A B N M) else ba [], if mayB k A B N M = true then 0 else 1) := by
      by_cases hm : mayB k A B N M = true
      · rw [if_pos hm, if_pos hm]; exact bytes_f ((mayB_iff _ _ _ _ _).1 hm) _
      · rw [if_neg hm, if_neg hm]; exact bytes_no (fun h => hm ((mayB_iff _ _ _ _ _).2 h)) _
    rw [hc, hb, hp1]
    simp only [Option.bind_some, ↓reduceIte]
    by_cases hq : PreOk k A N
    · have e1 := prefix_ok (B := B) (M := M) (by omega : A.length ≤ 1000) hq (K + A.length + B.length + 8)
      have e2 := (preB_iff _ _ _).2 hq
      rw [show K + A.length + B.length + 10 = K + A.length + B.length + 8 + 2 by omega, e1, e2, hp2 hq]
      simp only [Option.bind_some, ↓reduceIte, beq_self_eq_true, bne_self_eq_false]
      exact last
    · have e1 := prefix_no (B := B) (M := M) (by omega : A.length ≤ 1000) hq (K + A.length + B.length + 8)
      have e2 : preB k A N = false := by rw [← Bool.not_eq_true, preB_iff]; exact hq
      rw [show K + A.length + B.length + 10 = K + A.length + B.length + 8 + 2 by omega, e1, e2]
      simp only [Option.bind_some, ↓reduceIte, ba_tl]
      exact last
  · refine ⟨0, ?_⟩
    rw [small_f _ _ _ _ _ (by omega), decide_eq_false hs]
    rfl
end Go.Proofs.Ytcohfhclcoiigaa.Pure
