/- BaseDecodes: any text is told as the bytes that the reference tells, or refused: the plain statement. Conditions: none. -/
import Derived.Test.YtalbbifgkninmaaDoorQBasex4
import Derived.Test.YtalbbifgkninmaaDoorBaseRefDec
set_option linter.unusedVariables false
namespace Go.Proofs.YtalbbifgkninmaaDoor.Pure
open Go.RowKit Go.Proofs.YtalbbifgkninmaaDoor.PBase Go.Proofs.YtalbbifgkninmaaDoorW.PrintWords Go.Proofs.YtalbbifgkninmaaDoorW.PrintLast Go.Proofs.YtalbbifgkninmaaDoorW.PrintMore Go.Proofs.YtalbbifgkninmaaDoorX

theorem BaseDecodes : chandlerylaw02_BaseDecodes.Pure := by
  intro s _
  by_cases c1 : (s.size : Int) > 1000
  · refine ⟨1, ?_⟩
    unfold chandlerylaw02_BaseDecodes.f
    rw [if_pos c1]
  obtain ⟨r, ⟨K1, h1⟩, t1, t2⟩ := dec_f s (by omega)
  obtain ⟨q, ⟨K2, h2⟩, u1, u2⟩ := rdec_f s (by omega)
  obtain ⟨K3, h3⟩ := awake_ev
  simp only [] at h1 h3
  refine ⟨K1 + K2 + K3 + 1, ?_⟩
  unfold chandlerylaw02_BaseDecodes.f
  rw [if_neg c1, h1 _ (by omega), Option.bind_some, h2 _ (by omega), Option.bind_some]
  by_cases ht : TellsB s.data.toList
  · rw [t1 ht, u1 ht]
    simp only [if_true]
    rw [h3 _ (by omega), Option.bind_some, if_pos rfl]
    simp
  · rw [t2 ht, u2 ht]
    rw [if_neg (by decide), h3 _ (by omega), Option.bind_some, if_pos rfl]
    rfl

end Go.Proofs.YtalbbifgkninmaaDoor.Pure
