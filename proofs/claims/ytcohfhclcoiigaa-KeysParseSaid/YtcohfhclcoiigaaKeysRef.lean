/- Plain laws on keys: what the reference's Name, number, May, three, Bytes and Prefix answer. -/
import Derived.Test.YtcohfhclcoiigaaQKeysx
import Derived.Test.YtcohfhclcoiigaaKeysLaws
set_option linter.unusedVariables false
set_option linter.unusedSimpArgs false
namespace Go.Proofs.YtcohfhclcoiigaaX
open Go.RowKit Go.Proofs.Ytcohfhclcoiigaa.PKeys Go.Proofs.YtcohfhclcoiigaaW.PrintWords Go.Proofs.YtcohfhclcoiigaaW.PrintLast Go.Proofs.YtcohfhclcoiigaaW.PrintMore

theorem bt_ba (l : List UInt8) (i : Nat) (h : i < l.length) : bt (ba l) (i : Int) = ((l[i]).toNat : Int) := bt_list (ba l) i h
theorem u8_zero (x : UInt8) : ((x.toNat : Int) = 0) ↔ x = 0 := by
  constructor
  · intro h; exact UInt8.toNat_inj.1 (by show x.toNat = 0; omega)
  · rintro rfl; rfl
theorem u8_slash (x : UInt8) : ((x.toNat : Int) = 47) ↔ x = 47 := by
  constructor
  · intro h; exact UInt8.toNat_inj.1 (by show x.toNat = 47; omega)
  · rintro rfl; rfl

theorem Name_loop (A : List UInt8) (hA : A.length ≤ 1000000) (f : Nat) : ∀ n i : Nat, n + i = A.length → (∀ x ∈ A.take i, x ≠ 0 ∧ x ≠ 47) →
    chandleryref11_Name.l0 (n + 1 + f) (ba A) (i : Int) = some (nameB (ba A))
  | 0, i, hi, hp => by
    rw [show 0 + 1 + f = f + 1 by omega, chandleryref11_Name.l0, ba_sz, if_neg (by omega)]
    have hb : nameB (ba A) = decide (A.length ≥ 1 ∧ A.length ≤ 64) := by
      rw [Bool.eq_iff_iff, nm_iff, nm_names, decide_eq_true_iff]
      rw [show i = A.length by omega, List.take_length] at hp
      exact ⟨fun h => ⟨h.1, h.2.1⟩, fun h => ⟨h.1, h.2, hp⟩⟩
    rw [hb]
    by_cases h1 : (A.length : Int) ≥ 1
    · rw [if_pos h1]
      congr 1
      rw [decide_eq_decide]
      omega
    · rw [if_neg h1]
      congr 1
      symm
      rw [decide_eq_false_iff_not]
      omega
  | n + 1, i, hi, hp => by
    have hlt : i < A.length := by omega
    rw [show n + 1 + 1 + f = (n + 1 + f) + 1 by omega, chandleryref11_Name.l0, ba_sz, if_pos (by omega), if_pos (by omega), bt_ba A i hlt]
    have bad : (A[i] = 0 ∨ A[i] = 47) → nameB (ba A) = false := fun h => by
      rw [← Bool.not_eq_true, nm_iff, nm_names]
      rintro ⟨_, _, h2⟩
      have := h2 _ (List.getElem_mem hlt)
      rcases h with h | h
      · exact this.1 h
      · exact this.2 h
    by_cases h0 : A[i] = 0
    · rw [if_pos ((u8_zero _).2 h0), bad (Or.inl h0)]
    rw [if_neg (fun h => h0 ((u8_zero _).1 h))]
    by_cases h1 : A[i] = 47
    · rw [if_pos ((u8_slash _).2 h1), bad (Or.inr h1)]
    rw [if_neg (fun h => h1 ((u8_slash _).1 h)), w64 (by omega) (by omega), show ((i : Int) + 1) = ((i + 1 : Nat) : Int) by omega]
    refine Name_loop A hA f n (i + 1) (by omega) fun x hx => ?_
    rw [List.take_add_one, List.getElem?_eq_getElem hlt] at hx
    rcases List.mem_append.1 hx with hx | hx
    · exact hp x hx
    · obtain rfl : x = A[i] := by simpa using hx
      exact ⟨h0, h1⟩
theorem Name_f (A : List UInt8) (hA : A.length ≤ 1000000) (f : Nat) (hf : A.length + 1 ≤ f) : chandleryref11_Name.f f (ba A) = some (nameB (ba A)) := by
  unfold chandleryref11_Name.f
  have := Name_loop A hA (f - (A.length + 1)) A.length 0 (by omega) (by simp)
  rw [show A.length + 1 + (f - (A.length + 1)) = f by omega] at this
  exact this

theorem num_f (k N : Int) : chandleryref11_number.f k N = some (decide (N ≤ 16777215 ∧ (1 ≤ N ∨ k = 9 ∧ N = 0))) := by
  unfold chandleryref11_number.f
  by_cases h1 : N ≤ 16777215
  · rw [if_pos h1]
    by_cases h2 : N ≥ 1
    · rw [if_pos h2]
      have : 1 ≤ N := h2
      simp [h1, this]
    · rw [if_neg h2]
      have h3 : ¬ 1 ≤ N := h2
      by_cases h4 : k = 9
      · rw [if_pos h4]
        by_cases h5 : N = 0
        · simp [h5, h4]
        · simp [h5, h3]
      · rw [if_neg h4]
        simp [h4, h3]
  · rw [if_neg h1]
    simp [h1]

theorem three_f (n : Int) (h0 : 0 ≤ n) (h1 : n ≤ 9223372036854775807) : chandleryref11_three.f n = some (ba (n3 n)) := by
  unfold chandleryref11_three.f
  rw [Int.tdiv_eq_ediv_of_nonneg h0, Int.tdiv_eq_ediv_of_nonneg h0, w64 (by omega) (by omega), w64 (by omega) (by omega), Int.tmod_eq_emod_of_nonneg (by omega), Int.tmod_eq_emod_of_nonneg h0, nums_ba]
  simp [n3]

/-- May. -/
def mayB (k : Int) (A B : List UInt8) (N M : Int) : Bool := decide (checkB k (ba A) (ba B) N M = 0)
theorem mayB_iff (k : Int) (A B : List UInt8) (N M : Int) : mayB k A B N M = true ↔ May k A B N M := by
  unfold mayB
  rw [decide_eq_true_iff, may_check]
theorem May_f {k : Int} {A B : List UInt8} {N M : Int} (hA : A.length ≤ 1000000) (hB : B.length ≤ 1000000) (f : Nat) (hf : A.length + B.length + 5 ≤ f) :
    chandleryref11_May.f f k (ba A) (ba B) N M = some (mayB k A B N M) := by
  obtain ⟨f, rfl⟩ : ∃ g, f = g + 3 := ⟨f - 3, by omega⟩
  have na := Name_f A hA (f + 2) (by omega)
  have nb := Name_f B hB (f + 2) (by omega)
  unfold chandleryref11_May.f mayB
  by_cases hr : 1 ≤ k ∧ k ≤ 10
  · have e0 : ¬ k < 1 := by omega
    have e1 : decide (k > 10) = false := by rw [decide_eq_false_iff_not]; omega
    have x1 : nameB (ba ([] : List UInt8)) = false := by rw [← Bool.not_eq_true, nm_iff]; exact fun h => h.1 rfl
    rw [if_neg e0, e1]
    generalize hna : nameB (ba A) = xa at *
    generalize hnb : nameB (ba B) = xb at *
    rcases ten hr.1 hr.2 with rfl | rfl | rfl | rfl | rfl | rfl | rfl | rfl | rfl | rfl
    all_goals simp [chandleryref11_May.j0, chandleryref11_May.j1, chandleryref11_shape.f, chandleryref11_shape.j0, chandleryref11_shape.j1, na, nb, num_f, checkB, ba_tl, ba_nil, fin_iff, hna, hnb, withinB]
    all_goals try (cases xa <;> cases xb <;> simp)
    all_goals by_cases hA0 : A = [] <;> by_cases hB0 : B = [] <;> (try simp [hA0, hB0])
    all_goals by_cases hN0 : N = 0 <;> (try simp [hN0])
    all_goals by_cases hM0 : M = 0 <;> (try simp [hM0])
    all_goals by_cases hN1 : 1 ≤ N <;> by_cases hN2 : N ≤ 16777215 <;> (try simp [hN1, hN2])
    all_goals by_cases hM1 : 0 ≤ M <;> by_cases hM2 : M ≤ 65535 <;> (try simp [hM1, hM2])
    all_goals omega
  · have hno : decide (checkB k (ba A) (ba B) N M = 0) = false := by
      rw [decide_eq_false_iff_not, may_check]
      exact fun h => hr h.range
    rw [hno]
    by_cases e0 : k < 1
    · rw [if_pos e0]; rfl
    · have e1 : decide (k > 10) = true := by rw [decide_eq_true_iff]; omega
      rw [if_neg e0, e1]; rfl
end Go.Proofs.YtcohfhclcoiigaaX
