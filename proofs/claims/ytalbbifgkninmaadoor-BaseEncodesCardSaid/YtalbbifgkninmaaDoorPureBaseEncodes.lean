/- BaseEncodes: base.Encode tells the digits of the base 32 that the reference tells, and Size how many they are: the plain statement. Conditions: none. -/
import Derived.Test.YtalbbifgkninmaaDoorQBasex8
import Derived.Test.YtalbbifgkninmaaDoorBaseRefEnc
import Derived.Test.YtalbbifgkninmaaDoorBaseAwake
set_option linter.unusedVariables false
namespace Go.Proofs.YtalbbifgkninmaaDoor.Pure
open Go.RowKit Go.Proofs.YtalbbifgkninmaaDoor.PBase Go.Proofs.YtalbbifgkninmaaDoorW.PrintWords Go.Proofs.YtalbbifgkninmaaDoorW.PrintLast Go.Proofs.YtalbbifgkninmaaDoorW.PrintMore Go.Proofs.YtalbbifgkninmaaDoorX

theorem size_max (n : Nat) (h : n ≤ 1000) : base_Size.f (n : Int) = some (((sz n : Nat) : Int), 0) := by
  unfold base_Size.f
  rw [if_neg (by omega), if_neg (by omega), size_f _ (by omega)]
  rfl

theorem encL_length (l : List Int) : (encL l).length = sz l.length := by
  unfold encL encD
  rw [List.length_reverse, List.length_map, dig_length]

theorem BaseEncodes : chandlerylaw02_BaseEncodes.Pure := by
  intro l a _ _ hw ha
  have hB := byt_of_wf hw
  by_cases hl : l.length > 1000
  · refine ⟨0, ?_⟩
    unfold chandlerylaw02_BaseEncodes.f
    rw [if_pos (by omega)]
  obtain ⟨K1, h1⟩ := enc_f l hB (by omega)
  obtain ⟨K2, h2⟩ := renc_f l hB (by omega)
  obtain ⟨K3, h3⟩ := awake_ev
  simp only [] at h1 h2 h3
  refine ⟨K1 + K2 + K3 + 2, ?_⟩
  have c1 : ¬ ((l.length : Int) > 1000) := by omega
  have c2 : ([] : List Int).length + l.length < 140737488355328 := by rw [List.length_nil]; omega
  have e4 : (((⟨(encL l).toArray⟩ : ByteArray).size : Nat) : Int) = ((sz l.length : Nat) : Int) := by rw [ba_size, ba_mk, encL_length]
  unfold chandlerylaw02_BaseEncodes.f
  refine (if_neg c1).trans ?_
  rw [Option.bind_some]
  refine (if_pos c2).trans ?_
  rw [Option.bind_some, List.nil_append]
  simp only [h1 (K1 + K2 + K3 + 2) (by omega), h2 (K1 + K2 + K3 + 2) (by omega), size_max l.length (by omega), Option.bind_some, if_true, e4]
  -- how many digits
  by_cases c3 : a < 0
  · have es : base_Size.f a = some (0, 1) := by unfold base_Size.f; rw [if_pos c3]
    simp only [es, Option.bind_some]
    rw [chandlerylaw02_BaseEncodes.j0]
    simp only [bne_self_eq_false, Bool.false_eq_true, if_false, if_pos c3]
    rw [chandlerylaw02_BaseEncodes.j1, h3 _ (by omega)]
    simp
  · by_cases c4 : a > 1000000000
    · have es : base_Size.f a = some (0, 1) := by unfold base_Size.f; rw [if_neg c3, if_pos c4]
      simp only [es, Option.bind_some]
      rw [chandlerylaw02_BaseEncodes.j0]
      simp only [bne_self_eq_false, Bool.false_eq_true, if_false, if_neg c3, decide_eq_true c4]
      rw [chandlerylaw02_BaseEncodes.j1, h3 _ (by omega)]
      simp
    · obtain ⟨n, rfl⟩ := Int.eq_ofNat_of_zero_le (show 0 ≤ a by omega)
      have es : base_Size.f (n : Int) = some (((sz n : Nat) : Int), 0) := by
        unfold base_Size.f
        rw [if_neg c3, if_neg c4, size_f _ (by omega)]
        rfl
      simp only [es, Option.bind_some]
      rw [chandlerylaw02_BaseEncodes.j0]
      simp only [bne_self_eq_false, Bool.false_eq_true, if_false, if_neg c3, decide_eq_false c4]
      rw [chandlerylaw02_BaseEncodes.j1, h3 _ (by omega), rsize_f _ (by omega)]
      simp

end Go.Proofs.YtalbbifgkninmaaDoor.Pure
