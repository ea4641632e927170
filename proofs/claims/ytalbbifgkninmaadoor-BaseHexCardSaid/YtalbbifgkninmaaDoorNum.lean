/- Numbers and their digits, lowest first. No program. -/
set_option linter.unusedVariables false
namespace Go.Proofs.YtalbbifgkninmaaDoorX

/-- The number whose digits these are. -/
def und (B : Nat) : List Nat → Nat
  | [] => 0
  | d :: l => d + B * und B l
/-- The first n digits of a number. -/
def dig (B : Nat) : Nat → Nat → List Nat
  | 0, _ => []
  | n + 1, v => (v % B) :: dig B n (v / B)

theorem dig_length (B n v : Nat) : (dig B n v).length = n := by
  induction n generalizing v with
  | zero => rfl
  | succ n ih => simp [dig, ih]

theorem und_dig (B n v : Nat) : und B (dig B n v) = v % B ^ n := by
  induction n generalizing v with
  | zero => simp [dig, und, Nat.mod_one]
  | succ n ih =>
    simp only [dig, und, ih]
    rw [Nat.pow_succ, Nat.mul_comm (B ^ n) B, Nat.mod_mul]

theorem und_lt (B : Nat) (hB : 0 < B) (l : List Nat) (h : ∀ d ∈ l, d < B) : und B l < B ^ l.length := by
  induction l with
  | nil => simp [und]
  | cons d l ih =>
    have h1 := ih (fun x hx => h x (List.mem_cons_of_mem _ hx))
    have h2 := h d List.mem_cons_self
    simp only [und, List.length_cons, Nat.pow_succ]
    have h3 : B * (und B l + 1) ≤ B * B ^ l.length := Nat.mul_le_mul_left _ h1
    rw [Nat.mul_add, Nat.mul_one] at h3
    rw [Nat.mul_comm (B ^ l.length) B]
    omega

theorem dig_und (B : Nat) (hB : 0 < B) (l : List Nat) (h : ∀ d ∈ l, d < B) : dig B l.length (und B l) = l := by
  induction l with
  | nil => rfl
  | cons d l ih =>
    have h2 := h d List.mem_cons_self
    simp only [und, List.length_cons, dig]
    rw [Nat.add_mul_mod_self_left, Nat.mod_eq_of_lt h2, Nat.add_mul_div_left _ _ hB, Nat.div_eq_of_lt h2, Nat.zero_add, ih (fun x hx => h x (List.mem_cons_of_mem _ hx))]

theorem und_append (B : Nat) (a b : List Nat) : und B (a ++ b) = und B a + B ^ a.length * und B b := by
  induction a with
  | nil => simp [und]
  | cons d a ih =>
    simp only [List.cons_append, und, ih, List.length_cons, Nat.pow_succ, Nat.mul_add]
    rw [Nat.mul_comm (B ^ a.length) B, Nat.mul_assoc, Nat.add_assoc]

theorem dig_get (B n v i : Nat) (h : i < n) : (dig B n v)[i]? = some (v / B ^ i % B) := by
  induction n generalizing v i with
  | zero => omega
  | succ n ih =>
    cases i with
    | zero => simp [dig]
    | succ i =>
      simp only [dig, List.getElem?_cons_succ]
      rw [ih _ _ (by omega), Nat.div_div_eq_div_mul, Nat.pow_succ, Nat.mul_comm (B ^ i) B]

theorem dig_lt (B n v : Nat) (hB : 0 < B) : ∀ d ∈ dig B n v, d < B := by
  induction n generalizing v with
  | zero => intro d hd; cases hd
  | succ n ih =>
    intro d hd
    simp only [dig, List.mem_cons] at hd
    rcases hd with rfl | hd
    · exact Nat.mod_lt _ hB
    · exact ih _ d hd

theorem dig_mod (B n v : Nat) : dig B n (v % B ^ n) = dig B n v := by
  induction n generalizing v with
  | zero => rfl
  | succ n ih =>
    simp only [dig]
    have e1 : v % B ^ (n + 1) % B = v % B := by
      rw [Nat.pow_succ]
      exact Nat.mod_mod_of_dvd v (Nat.dvd_mul_left B (B ^ n))
    have e2 : v % B ^ (n + 1) / B = v / B % B ^ n := by
      rw [Nat.pow_succ, Nat.mul_comm (B ^ n) B, Nat.mod_mul_right_div_self]
    rw [e1, e2, ih]

theorem dig_succ (B n v : Nat) : dig B (n + 1) v = dig B n v ++ [v / B ^ n % B] := by
  induction n generalizing v with
  | zero => simp [dig]
  | succ n ih =>
    rw [dig, ih (v / B)]
    simp only [dig, List.cons_append]
    rw [Nat.div_div_eq_div_mul, Nat.pow_succ, Nat.mul_comm (B ^ n) B]

/-- A digit of a number out of its list. -/
theorem und_get (B : Nat) (hB : 0 < B) (l : List Nat) (h : ∀ d ∈ l, d < B) (i : Nat) (hi : i < l.length) : und B l / B ^ i % B = l[i] := by
  have e := dig_get B l.length (und B l) i hi
  rw [dig_und B hB l h, List.getElem?_eq_getElem hi] at e
  exact (Option.some.inj e).symm

/-- Beyond the list there is nothing. -/
theorem und_beyond (B : Nat) (hB : 0 < B) (l : List Nat) (h : ∀ d ∈ l, d < B) (i : Nat) (hi : l.length ≤ i) : und B l / B ^ i = 0 :=
  Nat.div_eq_of_lt (Nat.lt_of_lt_of_le (und_lt B hB l h) (Nat.pow_le_pow_right hB hi))

theorem und_inj (B : Nat) (hB : 0 < B) (a b : List Nat) (ha : ∀ d ∈ a, d < B) (hb : ∀ d ∈ b, d < B) (hl : a.length = b.length) (h : und B a = und B b) : a = b := by
  rw [← dig_und B hB a ha, ← dig_und B hB b hb, h, hl]

theorem und_replicate (B n : Nat) : und B (List.replicate n 0) = 0 := by
  induction n with
  | zero => rfl
  | succ n ih => simp [List.replicate_succ, und, ih]

theorem und_append_zeros (B : Nat) (a : List Nat) (n : Nat) : und B (a ++ List.replicate n 0) = und B a := by
  rw [und_append, und_replicate]; simp

theorem dig_inj (B n v u : Nat) (h : dig B n v = dig B n u) : v % B ^ n = u % B ^ n := by
  rw [← und_dig, ← und_dig, h]

/-- Setting a digit that was 0. -/
theorem und_set (B : Nat) (l : List Nat) (i : Nat) (hi : i < l.length) (x : Nat) : und B (l.set i x) + B ^ i * l[i] = und B l + B ^ i * x := by
  induction l generalizing i with
  | nil => simp at hi
  | cons d l ih =>
    cases i with
    | zero => simp [und]; omega
    | succ i =>
      simp only [List.set_cons_succ, und, List.getElem_cons_succ]
      have := ih i (by simpa using hi)
      have e : B * und B (l.set i x) + B * (B ^ i * l[i]'(by simpa using hi)) = B * und B l + B * (B ^ i * x) := by
        rw [← Nat.mul_add, ← Nat.mul_add, this]
      rw [Nat.pow_succ, Nat.mul_comm (B ^ i) B, Nat.mul_assoc, Nat.mul_assoc]
      omega

end Go.Proofs.YtalbbifgkninmaaDoorX
