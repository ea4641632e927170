/- Plain laws on keys: what the reference's Bytes and Prefix answer. -/
import Derived.Test.YtcohfhclcoiigaaKeysRef
set_option linter.unusedVariables false
set_option linter.unusedSimpArgs false
namespace Go.Proofs.YtcohfhclcoiigaaX
open Go.RowKit Go.Proofs.Ytcohfhclcoiigaa.PKeys Go.Proofs.YtcohfhclcoiigaaW.PrintWords Go.Proofs.YtcohfhclcoiigaaW.PrintLast Go.Proofs.YtcohfhclcoiigaaW.PrintMore

theorem ref_letter {k : Int} (h0 : 1 ≤ k) (h1 : k ≤ 10) : (⟨#[32, 110, 105, 99, 100, 112, 114, 117, 102, 103, 116]⟩ : ByteArray).extract (k : Int).toNat ((wrap64 (k + 1)) : Int).toNat = ba [lett k] := by
  rcases ten h0 h1 with rfl | rfl | rfl | rfl | rfl | rfl | rfl | rfl | rfl | rfl <;> decide +kernel

theorem refBytes_f {k : Int} {A B : List UInt8} {N M : Int} (h : May k A B N M) (f : Nat) : chandleryref11_Bytes.f (f + 1) k (ba A) (ba B) N M = some (ba (byts k A B N M)) := by
  have hr := h.range
  have hl := ref_letter hr.1 hr.2
  have w1 : wrap64 (k + 1) = k + 1 := w64 (by omega) (by omega)
  unfold chandleryref11_Bytes.f
  rw [hl, if_pos (by omega), if_pos (by omega), if_pos (by omega)]
  have hm : ∀ M : Int, 0 ≤ M → M ≤ 65535 → strOfNums [(wrap64 (Int.tdiv M 256)) % 256, (Int.tmod M 256) % 256] = ba (n2 M) := fun M h0 h1 => by
    rw [Int.tdiv_eq_ediv_of_nonneg h0, w64 (by omega) (by omega), Int.tmod_eq_emod_of_nonneg h0, nums_ba]
    simp [n2]
  cases h with
  | count => simp [chandleryref11_Bytes.j0, ba_app, ba_sz, ba_nil, byts, body]
  | inode N h1 h2 =>
    have h3 := three_f N (by omega) (by omega)
    simp [h3, ba_app, ba_sz, n3_len, byts, body]
  | chunk N M h1 h2 h4 h5 =>
    have h3 := three_f N (by omega) (by omega)
    simp [h3, ba_app, ba_sz, n3_len, n2_len, byts, body, hm M h4 h5]
  | entry A N hA h1 h2 =>
    have := hA.2.1
    have h3 := three_f N (by omega) (by omega)
    simp (disch := omega) [h3, ba_app, ba_sz, n3_len, if_pos, byts, body]
  | one k A hk hA =>
    have := hA.2.1
    rcases hk with rfl | rfl | rfl <;> simp (disch := omega) [chandleryref11_Bytes.j0, ba_app, ba_sz, if_pos, byts, body]
  | two k A B hk hA hB =>
    have := hA.2.1
    have := hB.2.1
    rcases hk with rfl | rfl <;> simp (disch := omega) [chandleryref11_Bytes.j0, ba_zero, ba_app, ba_sz, if_pos, byts, body]
  | gen A N hA h1 h2 =>
    have := hA.2.1
    have h3 := three_f N (by omega) (by omega)
    simp (disch := omega) [chandleryref11_Bytes.j0, h3, ba_zero, ba_app, ba_sz, n3_len, if_pos, byts, body]

def preB (k : Int) (A : List UInt8) (N : Int) : Bool := if k = 3 ∨ k = 4 then decide (1 ≤ N ∧ N ≤ 16777215) else if k = 6 ∨ k = 7 ∨ k = 9 then nameB (ba A) else decide (1 ≤ k ∧ k ≤ 10)
theorem preB_iff (k : Int) (A : List UInt8) (N : Int) : preB k A N = true ↔ PreOk k A N := by
  unfold preB PreOk
  split
  · rw [decide_eq_true_iff]
  split
  · rw [nm_iff]
  · rw [decide_eq_true_iff]

theorem refPrefix_f {k : Int} {A B : List UInt8} {N M : Int} (hA : A.length ≤ 1000000) (hN : N ≤ 9223372036854775807) (f : Nat) (hf : A.length + 3 ≤ f) :
    ∃ p, chandleryref11_Prefix.f f k (ba A) (ba B) N M = some (p, preB k A N) ∧ (PreOk k A N → p = ba (lett k :: pre k A N)) := by
  obtain ⟨f, rfl⟩ : ∃ g, f = g + 2 := ⟨f - 2, by omega⟩
  have na := Name_f A hA f (by omega)
  unfold chandleryref11_Prefix.f
  by_cases hr : 1 ≤ k ∧ k ≤ 10
  · have e0 : ¬ k < 1 := by omega
    have e1 : decide (k > 10) = false := by rw [decide_eq_false_iff_not]; omega
    have hl := ref_letter hr.1 hr.2
    have w1 : wrap64 (k + 1) = k + 1 := w64 (by omega) (by omega)
    rw [if_neg e0, e1, chandleryref11_Prefix.j0, hl, if_neg (by decide), if_pos (by omega), if_pos (by omega), if_pos (by omega)]
    by_cases h3 : k = 3 ∨ k = 4
    · have hm : 0 ≤ mx N 0 ∧ mx N 0 ≤ 9223372036854775807 := by unfold mx; split <;> omega
      have h4 := three_f (mx N 0) hm.1 hm.2
      refine ⟨ba (lett k :: n3 (mx N 0)), ?_, ?_⟩
      · rcases h3 with rfl | rfl <;> simp [chandleryref11_Prefix.j1, h4, num_f, ba_app, ba_sz, n3_len, preB] <;> first | omega | exact Bool.and_comm _ _
      · intro h
        unfold PreOk at h
        rw [if_pos h3] at h
        unfold pre
        rw [if_pos h3]
        have : mx N 0 = N := by unfold mx; rw [if_neg (by omega)]
        rw [this]
    by_cases h6 : k = 6 ∨ k = 7 ∨ k = 9
    · refine ⟨ba (lett k :: (A ++ [0])), ?_, ?_⟩
      · rcases h6 with rfl | rfl | rfl <;> simp (disch := omega) [chandleryref11_Prefix.j1, na, ba_zero, ba_app, ba_sz, if_pos, preB]
      · intro h
        unfold pre
        rw [if_neg h3, if_pos h6]
    · refine ⟨ba [lett k], ?_, ?_⟩
      · have d1 : ¬ k = 3 := by omega
        have d2 : ¬ k = 4 := by omega
        have d3 : ¬ k = 6 := by omega
        have d4 : ¬ k = 7 := by omega
        have d5 : ¬ k = 9 := by omega
        simp [chandleryref11_Prefix.j1, d1, d2, d3, d4, d5, preB, hr]
      · intro h
        unfold pre
        rw [if_neg h3, if_neg h6]
  · have hp : preB k A N = false := by
      unfold preB
      rw [if_neg (by omega), if_neg (by omega), decide_eq_false_iff_not]
      exact hr
    refine ⟨⟨#[]⟩, ?_, ?_⟩
    · rw [hp]
      by_cases e0 : k < 1
      · rw [if_pos e0]; rfl
      · have e1 : decide (k > 10) = true := by rw [decide_eq_true_iff]; omega
        rw [if_neg e0, e1]; rfl
    · intro h
      rw [← preB_iff, hp] at h
      cases h

theorem small_f (k : Int) (A B : List UInt8) (N M : Int) (h : A.length + B.length ≤ 9223372036854775807) : chandlerylaw11_small.f k (ba A) (ba B) N M = some (decide (A.length + B.length ≤ 1000)) := by
  unfold chandlerylaw11_small.f
  rw [ba_sz, ba_sz, w64 (by omega) (by omega)]
  congr 1
  rw [decide_eq_decide]
  omega
end Go.Proofs.YtcohfhclcoiigaaX
