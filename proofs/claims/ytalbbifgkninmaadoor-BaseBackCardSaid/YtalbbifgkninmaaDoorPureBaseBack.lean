/- BaseBack: what base.Encode makes digits is told by Decode as itself, what is told makes the same digits, and unlike bytes have unlike digits: the plain statement. Conditions: none. -/
import Derived.Test.YtalbbifgkninmaaDoorQBasex5
import Derived.Test.YtalbbifgkninmaaDoorBaseLaws
set_option linter.unusedVariables false
namespace Go.Proofs.YtalbbifgkninmaaDoor.Pure
open Go.RowKit Go.Proofs.YtalbbifgkninmaaDoor.PBase Go.Proofs.YtalbbifgkninmaaDoorW.PrintWords Go.Proofs.YtalbbifgkninmaaDoorW.PrintLast Go.Proofs.YtalbbifgkninmaaDoorW.PrintMore Go.Proofs.YtalbbifgkninmaaDoorX

theorem BaseBack : chandlerylaw02_BaseBack.Pure := by
  intro a b s _ _ ha0 _ _ hb0 _
  have ha := byt_of_wf ha0
  have hb := byt_of_wf hb0
  by_cases c1 : (a.length : Int) > 1000
  · refine ⟨1, ?_⟩
    unfold chandlerylaw02_BaseBack.f
    rw [if_pos c1, chandlerylaw02_BaseBack.j0, if_pos rfl]
  by_cases c2 : (b.length : Int) > 1000
  · refine ⟨1, ?_⟩
    unfold chandlerylaw02_BaseBack.f
    rw [if_neg c1, if_pos c2, chandlerylaw02_BaseBack.j0, if_pos rfl]
  by_cases c3 : (s.size : Int) > 1000
  · refine ⟨1, ?_⟩
    unfold chandlerylaw02_BaseBack.f
    rw [if_neg c1, if_neg c2, decide_eq_true c3, chandlerylaw02_BaseBack.j0, if_pos rfl]
  obtain ⟨K1, h1⟩ := enc_f a ha (by omega)
  obtain ⟨K2, h2⟩ := dec_enc a ha (by omega)
  obtain ⟨K3, h3⟩ := enc_f b hb (by omega)
  obtain ⟨K4, h4⟩ := awake_ev
  obtain ⟨r, ⟨K5, h5⟩, t1, t2⟩ := dec_f s (by omega)
  simp only [] at h1 h2 h3 h4 h5
  have hbytes : ∃ x, Byt x ∧ x.length ≤ 1000 ∧ (TellsB s.data.toList → r = (x, 0) ∧ encL x = s.data.toList) := by
    refine ⟨byts (msz s.size) (und 32 (vals s.data.toList)), byt_byts _ _, by rw [byts_length]; unfold msz; omega, fun ht => ⟨t1 ht, ?_⟩⟩
    have := enc_told _ ht
    rwa [← ba_size] at this
  obtain ⟨x, hx, hxl, hxt⟩ := hbytes
  obtain ⟨K6, h6⟩ := enc_f x hx (by omega)
  simp only [] at h6
  refine ⟨K1 + K2 + K3 + K4 + K5 + K6 + 2, ?_⟩
  have hx1 : ((encL a == encL b) != (txt a == txt b)) = false := by
    by_cases e : a = b
    · subst e; simp
    · have e1 : (encL a == encL b) = false := beq_eq_false_iff_ne.2 (fun h => e (encL_inj a b ha hb h))
      have e2 : (txt a == txt b) = false := beq_eq_false_iff_ne.2 (fun h => e (txt_inj a b ha hb h))
      rw [e1, e2]; rfl
  unfold chandlerylaw02_BaseBack.f
  rw [if_neg c1, if_neg c2, decide_eq_false c3, chandlerylaw02_BaseBack.j0]
  rw [if_neg (by decide), h1 _ (by omega), Option.bind_some, h2 _ (by omega), Option.bind_some, if_pos rfl, if_pos rfl, h3 _ (by omega), Option.bind_some]
  rw [ba_toList, ba_toList, ba_mk, ba_mk, txt_toList, txt_toList, hx1, chandlerylaw02_BaseBack.j1, if_neg (by decide), h5 _ (by omega), Option.bind_some]
  by_cases ht : TellsB s.data.toList
  · obtain ⟨hr, he⟩ := hxt ht
    rw [hr]
    simp only [if_true]
    rw [h4 _ (by omega), Option.bind_some, if_pos rfl, h6 _ (by omega), Option.bind_some, ba_toList, ba_toList, ba_mk, he]
    simp
  · rw [t2 ht]
    simp only [if_neg (show ¬ (4 : Int) = 0 by decide)]
    rw [h4 _ (by omega), Option.bind_some, if_pos rfl]
    rfl

end Go.Proofs.YtalbbifgkninmaaDoor.Pure
