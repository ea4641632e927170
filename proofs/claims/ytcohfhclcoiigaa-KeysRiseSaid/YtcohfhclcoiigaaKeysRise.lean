/- Plain laws on keys: bytes rise as numbers do; what begins with what. -/
import Derived.Test.YtcohfhclcoiigaaKeysRead
set_option linter.unusedVariables false
set_option linter.unusedSimpArgs false
namespace Go.Proofs.YtcohfhclcoiigaaX
open Go.RowKit Go.Proofs.Ytcohfhclcoiigaa.PKeys Go.Proofs.YtcohfhclcoiigaaW.PrintWords Go.Proofs.YtcohfhclcoiigaaW.PrintLast Go.Proofs.YtcohfhclcoiigaaW.PrintMore

theorem less_cons (a b : UInt8) (x y : List UInt8) : Op.bytesLess (a :: x) (b :: y) = (decide (a < b) || (a == b && Op.bytesLess x y)) := rfl
theorem less_self : ∀ x : List UInt8, Op.bytesLess x x = false
  | [] => rfl
  | a :: x => by rw [less_cons, less_self x]; simp
theorem less_pre (s t : List UInt8) : ∀ p : List UInt8, Op.bytesLess (p ++ s) (p ++ t) = Op.bytesLess s t
  | [] => rfl
  | a :: p => by rw [List.cons_append, List.cons_append, less_cons, less_pre s t p]; simp
theorem u8_lt {x y : Int} (h0 : 0 ≤ x) (h1 : x < 256) (h2 : 0 ≤ y) (h3 : y < 256) : decide (u8 x < u8 y) = decide (x < y) := by
  have e1 := u8_nat h0 h1
  have e2 := u8_nat h2 h3
  rw [decide_eq_decide, UInt8.lt_iff_toNat_lt]
  omega
theorem u8_eq {x y : Int} (h0 : 0 ≤ x) (h1 : x < 256) (h2 : 0 ≤ y) (h3 : y < 256) : (u8 x == u8 y) = decide (x = y) := by
  have e1 := u8_nat h0 h1
  have e2 := u8_nat h2 h3
  rw [Bool.eq_iff_iff, beq_iff_eq, decide_eq_true_iff]
  constructor
  · intro h
    rw [h] at e1
    omega
  · rintro rfl
    rfl
theorem less_u8 {x y : Int} (h0 : 0 ≤ x) (h1 : x < 256) (h2 : 0 ≤ y) (h3 : y < 256) (s t : List UInt8) : Op.bytesLess (u8 x :: s) (u8 y :: t) = (decide (x < y) || (decide (x = y) && Op.bytesLess s t)) := by
  rw [less_cons, u8_lt h0 h1 h2 h3, u8_eq h0 h1 h2 h3]
theorem less_n2 {n m : Int} (h0 : 0 ≤ n) (h1 : n ≤ 65535) (h2 : 0 ≤ m) (h3 : m ≤ 65535) : Op.bytesLess (n2 n) (n2 m) = decide (n < m) := by
  unfold n2
  rw [less_u8 (by omega) (by omega) (by omega) (by omega), less_u8 (by omega) (by omega) (by omega) (by omega), less_self, Bool.eq_iff_iff]
  simp
  omega
theorem less_n3 {n m : Int} (h0 : 0 ≤ n) (h1 : n ≤ 16777215) (h2 : 0 ≤ m) (h3 : m ≤ 16777215) (s t : List UInt8) : Op.bytesLess (n3 n ++ s) (n3 m ++ t) = (decide (n < m) || (decide (n = m) && Op.bytesLess s t)) := by
  unfold n3
  simp only [List.cons_append, List.nil_append]
  rw [less_u8 (by omega) (by omega) (by omega) (by omega), less_u8 (by omega) (by omega) (by omega) (by omega), less_u8 (by omega) (by omega) (by omega) (by omega), Bool.eq_iff_iff]
  by_cases hb : Op.bytesLess s t = true
  · simp [hb]
    omega
  · simp [hb]
    omega

/-- Bytes rise as numbers do. -/
theorem rise {k : Int} {A B : List UInt8} {N M N' M' : Int} (h : May k A B N M) (h' : May k A B N' M') : Op.bytesLess (byts k A B N M) (byts k A B N' M') = decide (N < N' ∨ N = N' ∧ M < M') := by
  unfold byts
  rw [less_cons, decide_eq_false (by simp), beq_self_eq_true, Bool.false_or, Bool.true_and]
  have same : ∀ x : List UInt8, (0 : Int) = 0 → Op.bytesLess x x = decide ((0 : Int) < 0 ∨ (0 : Int) = 0 ∧ (0 : Int) < 0) := fun x _ => by rw [less_self]; rfl
  cases h with
  | count =>
    cases h' with
    | count => exact same _ rfl
    | one _ _ h0 => exact same _ rfl
    | two _ _ _ h0 => exact same _ rfl
  | inode N h1 h2 =>
    cases h' with
    | inode N' h3 h4 =>
      have := less_n3 (n := N) (m := N') (by omega) (by omega) (by omega) (by omega) [] []
      show Op.bytesLess (n3 N ++ []) (n3 N' ++ []) = _
      rw [this]
      simp [less_self]
    | one _ _ h0 => omega
    | two _ _ _ h0 => omega
  | chunk N M h1 h2 h3 h4 =>
    cases h' with
    | chunk N' M' h5 h6 h7 h8 =>
      show Op.bytesLess (n3 N ++ n2 M) (n3 N' ++ n2 M') = _
      rw [less_n3 (by omega) (by omega) (by omega) (by omega), less_n2 h3 h4 h7 h8, Bool.eq_iff_iff]
      simp
    | one _ _ h0 => omega
    | two _ _ _ h0 => omega
  | entry A N hA h1 h2 =>
    cases h' with
    | entry A N' hA' h3 h4 =>
      show Op.bytesLess (n3 N ++ A) (n3 N' ++ A) = _
      rw [less_n3 (by omega) (by omega) (by omega) (by omega), less_self]
      simp
    | one _ _ h0 => omega
    | two _ _ _ h0 => omega
  | one k A hk hA =>
    cases h' with
    | count => omega
    | inode => omega
    | chunk => omega
    | entry => omega
    | one => exact same _ rfl
    | two _ _ _ h0 => omega
    | gen => omega
  | two k A B hk hA hB =>
    cases h' with
    | count => omega
    | inode => omega
    | chunk => omega
    | entry => omega
    | one => omega
    | two _ _ _ h0 => exact same _ rfl
    | gen => omega
  | gen A N hA h1 h2 =>
    cases h' with
    | one _ _ h0 => omega
    | two _ _ _ h0 => omega
    | gen A N' hA' h3 h4 =>
      have := less_n3 (n := N) (m := N') (by omega) (by omega) (by omega) (by omega) [] []
      show Op.bytesLess (A ++ 0 :: n3 N) (A ++ 0 :: n3 N') = _
      rw [less_pre, less_cons]
      rw [List.append_nil, List.append_nil] at this
      rw [this]
      simp [less_self]

/-- What a text begins with. -/
theorem pre_n3 {n m : Int} (h0 : 0 ≤ n) (h1 : n ≤ 16777215) (h2 : 0 ≤ m) (h3 : m ≤ 16777215) (t : List UInt8) : (n3 m <+: n3 n ++ t) ↔ n = m := by
  constructor
  · intro h
    have e : n3 m = n3 n := by
      have := List.prefix_iff_eq_take.1 h
      rw [n3_len] at this
      rw [this]
      rfl
    have := congrArg valB e
    rw [val_n3 h0 h1, val_n3 h2 h3] at this
    exact this.symm
  · rintro rfl
    exact List.prefix_append _ _
theorem pre_name {A A' t : List UInt8} (h : (0 : UInt8) ∉ A) (h' : (0 : UInt8) ∉ A') : (A' ++ [0] <+: A ++ 0 :: t) ↔ A = A' := by
  constructor
  · rintro ⟨u, hu⟩
    have e : A' ++ 0 :: u = A ++ 0 :: t := by rw [← hu, List.append_assoc]; rfl
    have l1 := index_at t h
    rw [← e, index_at u h'] at l1
    exact (List.append_inj e (by omega)).1.symm
  · rintro rfl
    exact ⟨t, by rw [List.append_assoc]; rfl⟩

/-- A key begins with what Prefix tells of another just if it is of its kind and has its first field. -/
def hasB (k : Int) (A : List UInt8) (N : Int) (k' : Int) (A' : List UInt8) (N' : Int) : Bool :=
  k == k' && (if k = 3 ∨ k = 4 then N == N' else if k = 6 ∨ k = 7 ∨ k = 9 then A == A' else true)
theorem begins {k : Int} {A B : List UInt8} {N M : Int} {k' : Int} {A' : List UInt8} {N' : Int} (h : May k A B N M) (h' : PreOk k' A' N') :
    (lett k' :: pre k' A' N' <+: byts k A B N M) ↔ hasB k A N k' A' N' = true := by
  have hr := h.range
  have hr' : 1 ≤ k' ∧ k' ≤ 10 := by
    unfold PreOk at h'
    split at h'
    · omega
    split at h'
    · omega
    · exact h'
  unfold byts hasB
  by_cases ek : k = k'
  · subst ek
    rw [List.cons_prefix_cons]
    simp only [true_and, beq_self_eq_true, Bool.true_and]
    unfold PreOk at h'
    unfold pre
    by_cases c3 : k = 3 ∨ k = 4
    · rw [if_pos c3] at h' ⊢
      rw [if_pos c3, beq_iff_eq]
      cases h with
      | count => omega
      | inode => omega
      | chunk N M h1 h2 h3 h4 => exact pre_n3 (by omega) (by omega) (by omega) (by omega) _
      | entry A N hA h1 h2 => exact pre_n3 (by omega) (by omega) (by omega) (by omega) _
      | one _ _ h0 => omega
      | two _ _ _ h0 => omega
      | gen => omega
    · rw [if_neg c3] at h' ⊢
      rw [if_neg c3]
      by_cases c6 : k = 6 ∨ k = 7 ∨ k = 9
      · rw [if_pos c6] at h' ⊢
        rw [if_pos c6, beq_iff_eq]
        cases h with
        | count => omega
        | inode => omega
        | chunk => omega
        | entry => omega
        | one _ _ h0 => omega
        | two k A B h0 hA hB =>
          have := pre_name (t := B) (nm_zero hA) (nm_zero h')
          rcases h0 with rfl | rfl <;> exact this
        | gen A N hA h1 h2 => exact pre_name (t := n3 N) (nm_zero hA) (nm_zero h')
      · rw [if_neg c6, if_neg c6]
        simp
  · have : (k == k') = false := by rw [beq_eq_false_iff_ne]; exact ek
    rw [this, List.cons_prefix_cons]
    simp
    intro e
    exact absurd (lett_inj hr'.1 hr'.2 hr.1 hr.2 e).symm ek
end Go.Proofs.YtcohfhclcoiigaaX
