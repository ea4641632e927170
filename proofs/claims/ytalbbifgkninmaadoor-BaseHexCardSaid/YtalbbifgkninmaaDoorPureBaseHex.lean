/- BaseHex: digits of the base 16 are the reference's and told as themselves, and any text is told as bytes, or refused, as the reference tells it: the plain statement. Conditions: none. -/
import Derived.Test.YtalbbifgkninmaaDoorQBasex3
import Derived.Test.YtalbbifgkninmaaDoorBaseHexes
set_option linter.unusedVariables false
namespace Go.Proofs.YtalbbifgkninmaaDoor.Pure
open Go.RowKit Go.Proofs.YtalbbifgkninmaaDoor.PBase Go.Proofs.YtalbbifgkninmaaDoorW.PrintWords Go.Proofs.YtalbbifgkninmaaDoorW.PrintLast Go.Proofs.YtalbbifgkninmaaDoorW.PrintMore Go.Proofs.YtalbbifgkninmaaDoorX

theorem hex_some (l : List Int) (h : Byt l) (hl : l.length ≤ 1000000) : base_Hex.f l = some ⟨(hexL l).toArray⟩ := by
  unfold base_Hex.f
  exact if_pos ⟨h, by omega⟩

theorem BaseHex : chandlerylaw02_BaseHex.Pure := by
  intro b s x1_ x2_ hb0 x3_
  clear x1_ x2_ x3_
  have hb := byt_of_wf hb0
  by_cases c1 : (b.length : Int) > 2000
  · refine ⟨1, ?_⟩
    unfold chandlerylaw02_BaseHex.f
    rw [if_pos c1, chandlerylaw02_BaseHex.j0, if_pos rfl]
  by_cases c2 : (s.size : Int) > 2000
  · refine ⟨1, ?_⟩
    unfold chandlerylaw02_BaseHex.f
    rw [if_neg c1, decide_eq_true c2, chandlerylaw02_BaseHex.j0, if_pos rfl]
  have hl : b.length ≤ 2000 := by omega
  have hs : s.size ≤ 2000 := by omega
  have hz : (⟨(hexL b).toArray⟩ : ByteArray).size ≤ 4000 := by rw [ba_size, ba_mk, hexL_length]; omega
  have hh := hex_some b hb (by omega)
  obtain ⟨K1, h1⟩ := unhex_f ⟨(hexL b).toArray⟩ (by omega)
  obtain ⟨K2, h2⟩ := rhex_f b hb (by omega)
  obtain ⟨K3, h3⟩ := unhex_f s (by omega)
  obtain ⟨q, ⟨K4, h4⟩, u1, u2⟩ := runhex_f s (by omega)
  obtain ⟨K5, h5⟩ := awake_ev
  simp only [] at h2 h5
  refine ⟨K1 + K2 + K3 + K4 + K5 + 3, ?_⟩
  have e1 := (h1 (K1 + K2 + K3 + K4 + K5 + 2) (by omega)).1 (hexL_ok b hb)
  rw [ba_mk, unh_hexL b hb] at e1
  have e2 := h2 (K1 + K2 + K3 + K4 + K5 + 2) (by omega)
  have e3 := h3 (K1 + K2 + K3 + K4 + K5 + 1) (by omega)
  have e4 := h4 (K1 + K2 + K3 + K4 + K5 + 1) (by omega)
  have e5 := h5 (K1 + K2 + K3 + K4 + K5 + 1) (by omega)
  clear h1 h2 h3 h4 h5
  unfold chandlerylaw02_BaseHex.f
  rw [if_neg c1, decide_eq_false c2, chandlerylaw02_BaseHex.j0, if_neg (by decide), hh, Option.bind_some, e1, Option.bind_some, e2, Option.bind_some, if_pos rfl, if_pos rfl]
  rw [show ((strOfNums b).toList != (strOfNums b).toList) = false by simp, chandlerylaw02_BaseHex.j1, if_neg (by decide)]
  by_cases ht : HexOK s.data.toList
  · have hub := unh_byt s.data.toList ht.2
    have hhx := hex_some (unh s.data.toList) hub (by rw [unh_length, ← ba_size]; omega)
    rw [e3.1 ht, Option.bind_some, e4, Option.bind_some, u1 ht]
    simp only [if_true]
    rw [e5, Option.bind_some, if_pos rfl, hhx, Option.bind_some, ba_toList, ba_toList, ba_mk, hexL_unh _ ht]
    simp
  · rw [e3.2 ht, Option.bind_some, e4, Option.bind_some, u2 ht, e5, Option.bind_some]
    rfl

end Go.Proofs.YtalbbifgkninmaaDoor.Pure
