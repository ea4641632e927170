/- Plain laws on the digits of the base 32: back and forth, order, noughts. -/
import Derived.Test.YtalbbifgkninmaaDoorBaseDec
import Derived.Test.YtalbbifgkninmaaDoorBaseAwake
set_option linter.unusedVariables false
namespace Go.Proofs.YtalbbifgkninmaaDoorX
open Go.RowKit Go.Proofs.YtalbbifgkninmaaDoor.PBase Go.Proofs.YtalbbifgkninmaaDoorW.PrintWords Go.Proofs.YtalbbifgkninmaaDoorW.PrintLast Go.Proofs.YtalbbifgkninmaaDoorW.PrintMore

theorem encD_length (l : List Int) : (encD l).length = sz l.length := by unfold encD; rw [dig_length]
theorem encL_len (l : List Int) : (encL l).length = sz l.length := by unfold encL; rw [List.length_reverse, List.length_map, encD_length]
theorem encD_lt (l : List Int) : ∀ d ∈ encD l, d < 32 := fun d hd => dig_lt 32 _ _ (by decide) d hd

theorem map_dval_dgt (l : List Nat) (h : ∀ d ∈ l, d < 32) : (l.map dgt).map dval = l := by
  rw [List.map_map]
  conv => rhs; rw [← List.map_id l]
  exact List.map_congr_left (fun a ha => dval_dgt a (h a ha))
theorem vals_encL (l : List Int) : vals (encL l) = encD l := by
  unfold vals encL
  rw [List.reverse_reverse, map_dval_dgt _ (encD_lt l)]

theorem msz_sz (n : Nat) : msz (sz n) = n := by unfold msz sz; omega
theorem pow_sz (n : Nat) : 256 ^ n ≤ 32 ^ sz n := by
  have h4 : (32 : Nat) = 2 ^ 5 := rfl
  have h5 : (256 : Nat) = 2 ^ 8 := rfl
  rw [h4, h5, ← Nat.pow_mul, ← Nat.pow_mul]
  exact Nat.pow_le_pow_right (by decide) (by unfold sz; omega)
theorem pow_msz (n : Nat) : 32 ^ n ≤ 256 ^ (msz n + 1) := by
  have h4 : (32 : Nat) = 2 ^ 5 := rfl
  have h5 : (256 : Nat) = 2 ^ 8 := rfl
  rw [h4, h5, ← Nat.pow_mul, ← Nat.pow_mul]
  exact Nat.pow_le_pow_right (by decide) (by unfold msz; omega)
theorem und_nats_lt (l : List Int) (h : Byt l) : und 256 (nats l) < 256 ^ l.length := by
  have := und_lt 256 (by decide) _ (nats_lt l h)
  rwa [nats_length] at this
theorem und_encD (l : List Int) (h : Byt l) : und 32 (encD l) = und 256 (nats l) := by
  unfold encD
  rw [und_dig, Nat.mod_eq_of_lt (Nat.lt_of_lt_of_le (und_nats_lt l h) (pow_sz _))]
theorem byts_nats (l : List Int) (h : Byt l) : byts l.length (und 256 (nats l)) = l := by
  unfold byts
  have := dig_und 256 (by decide) _ (nats_lt l h)
  rw [nats_length] at this
  rw [this]
  simp only [nats, List.map_map]
  conv => rhs; rw [← List.map_id l]
  refine List.map_congr_left (fun a ha => ?_)
  have := h a ha
  simp only [Function.comp, id]
  omega

theorem told_encL (l : List Int) (h : Byt l) : TellsB (encL l) := by
  refine ⟨?_, ?_, ?_⟩
  · rw [encL_len, msz_sz]
  · rw [vals_encL]; exact encD_lt l
  · rw [vals_encL, und_encD l h, encL_len, msz_sz]; exact und_nats_lt l h

/-- What was made digits is told as itself. -/
theorem dec_enc (l : List Int) (h : Byt l) (hl : l.length ≤ 1000000000) : Ev (fun k => base_Decode.f k ⟨(encL l).toArray⟩) (l, 0) := by
  have hs : (⟨(encL l).toArray⟩ : ByteArray).size = sz l.length := by rw [ba_size, ba_mk, encL_len]
  obtain ⟨r, hr, h1, _⟩ := dec_f ⟨(encL l).toArray⟩ (by rw [hs]; unfold sz; omega)
  have h2 := h1 (told_encL l h)
  rw [hs, msz_sz, ba_mk, vals_encL, und_encD l h, byts_nats l h] at h2
  rw [h2] at hr
  exact hr

/-- What is told makes the same digits. -/
theorem enc_told (s : List UInt8) (h : TellsB s) : encL (byts (msz s.length) (und 32 (vals s))) = s := by
  obtain ⟨h1, h2, h3⟩ := h
  unfold encL encD
  rw [byts_length, nats_byts, und_dig, Nat.mod_eq_of_lt h3, h1]
  have e := dig_und 32 (by decide) _ h2
  rw [vals_length] at e
  rw [e]
  unfold vals at h2 ⊢
  rw [List.map_map]
  have : (s.reverse.map (dgt ∘ dval)) = s.reverse := by
    conv => rhs; rw [← List.map_id s.reverse]
    exact List.map_congr_left (fun a ha => dgt_dval a (h2 _ (List.mem_map.2 ⟨a, ha, rfl⟩)))
  rw [this, List.reverse_reverse]

theorem encL_inj (a b : List Int) (ha : Byt a) (hb : Byt b) (h : encL a = encL b) : a = b := by
  have hl : sz a.length = sz b.length := by rw [← encL_len, ← encL_len, h]
  have hl2 : a.length = b.length := by rw [← msz_sz a.length, hl, msz_sz]
  have hd : encD a = encD b := by rw [← vals_encL, h, vals_encL]
  rw [← byts_nats a ha, ← byts_nats b hb, hl2, ← und_encD a ha, ← und_encD b hb, hd]

/-- A row of bytes as a text. -/
def txt (l : List Int) : List UInt8 := l.map fun n => UInt8.ofNat n.toNat
theorem txt_toList (l : List Int) : (strOfNums l).toList = txt l := by rw [ba_toList]; rfl
theorem txt_inj (a b : List Int) (ha : Byt a) (hb : Byt b) (h : txt a = txt b) : a = b := by
  have key : ∀ l, Byt l → (txt l).map (fun c => (c.toNat : Int)) = l := fun l hl => by
    unfold txt
    rw [List.map_map]
    conv => rhs; rw [← List.map_id l]
    refine List.map_congr_left (fun x hx => ?_)
    have := hl x hx
    simp only [Function.comp, id, UInt8.toNat_ofNat']
    omega
  rw [← key a ha, ← key b hb, h]

/-- Texts of digits rise as the numbers do. -/
theorem less_digits (n : Nat) : ∀ a b : List Nat, a.length = n → b.length = n → (∀ d ∈ a, d < 32) → (∀ d ∈ b, d < 32) →
    Op.bytesLess ((a.map dgt).reverse) ((b.map dgt).reverse) = decide (und 32 a < und 32 b) := by
  have mono : ∀ x y : Fin 32, (dgt x.val < dgt y.val ↔ x.val < y.val) ∧ (dgt x.val = dgt y.val ↔ x.val = y.val) := by decide +kernel
  induction n with
  | zero =>
    intro a b ha hb _ _
    rw [List.length_eq_zero_iff] at ha hb
    subst ha hb
    rfl
  | succ n ih =>
    intro a b ha hb h1 h2
    have hane : a ≠ [] := by rintro rfl; simp at ha
    have hbne : b ≠ [] := by rintro rfl; simp at hb
    obtain ⟨a', x, rfl⟩ : ∃ a' x, a = a' ++ [x] := ⟨a.dropLast, a.getLast hane, (List.dropLast_concat_getLast hane).symm⟩
    obtain ⟨b', y, rfl⟩ : ∃ b' y, b = b' ++ [y] := ⟨b.dropLast, b.getLast hbne, (List.dropLast_concat_getLast hbne).symm⟩
    have hx : x < 32 := h1 x (by simp)
    have hy : y < 32 := h2 y (by simp)
    have ha' : a'.length = n := by simpa using ha
    have hb' : b'.length = n := by simpa using hb
    have h1' : ∀ d ∈ a', d < 32 := fun d hd => h1 d (by simp [hd])
    have h2' : ∀ d ∈ b', d < 32 := fun d hd => h2 d (by simp [hd])
    have ihh := ih a' b' ha' hb' h1' h2'
    obtain ⟨m1, m2⟩ := mono ⟨x, hx⟩ ⟨y, hy⟩
    have ua := und_lt 32 (by decide) a' h1'
    have ub := und_lt 32 (by decide) b' h2'
    rw [ha'] at ua
    rw [hb'] at ub
    rw [und_append, und_append, ha', hb', show und 32 [x] = x from rfl, show und 32 [y] = y from rfl]
    simp only [List.map_append, List.map_cons, List.map_nil, List.reverse_append, List.reverse_cons, List.reverse_nil, List.nil_append, List.singleton_append, Op.bytesLess]
    rw [ihh]
    simp only at m1 m2
    rw [Bool.eq_iff_iff]
    simp only [Bool.or_eq_true, Bool.and_eq_true, decide_eq_true_eq, beq_iff_eq, m1, m2]
    generalize 32 ^ n = P at ua ub ⊢
    generalize und 32 a' = A at ua ⊢
    generalize und 32 b' = B at ub ⊢
    constructor
    · rintro (h | ⟨rfl, h⟩)
      · have : P * (x + 1) ≤ P * y := Nat.mul_le_mul_left _ h
        rw [Nat.mul_add, Nat.mul_one] at this
        omega
      · omega
    · intro h
      rcases Nat.lt_trichotomy x y with h1 | rfl | h1
      · exact .inl h1
      · exact .inr ⟨rfl, by omega⟩
      · have : P * (y + 1) ≤ P * x := Nat.mul_le_mul_left _ h1
        rw [Nat.mul_add, Nat.mul_one] at this
        omega

theorem less_encL (a b : List Int) (ha : Byt a) (hb : Byt b) (hl : a.length = b.length) : Op.bytesLess (encL a) (encL b) = decide (und 256 (nats a) < und 256 (nats b)) := by
  have := less_digits (sz a.length) (encD a) (encD b) (encD_length a) (by rw [encD_length, hl]) (encD_lt a) (encD_lt b)
  rw [und_encD a ha, und_encD b hb] at this
  exact this

/-- Bytes with noughts behind them. -/
theorem enc_noughts (b : List Int) (h : Byt b) (m : Nat) : encL (b ++ List.replicate (5 * m) 0) = List.replicate (8 * m) 48 ++ encL b := by
  have e1 : nats (b ++ List.replicate (5 * m) 0) = nats b ++ List.replicate (5 * m) 0 := by
    unfold nats
    rw [List.map_append, List.map_replicate]
    rfl
  have e2 : sz (b ++ List.replicate (5 * m) (0 : Int)).length = sz b.length + 8 * m := by
    rw [List.length_append, List.length_replicate]
    unfold sz; omega
  have e3 : ∀ j n v, v < 32 ^ n → dig 32 (n + j) v = dig 32 n v ++ List.replicate j 0 := by
    intro j n v hv
    induction j with
    | zero => simp
    | succ j ih =>
      rw [← Nat.add_assoc, dig_succ, ih]
      have : v / 32 ^ (n + j) = 0 := Nat.div_eq_of_lt (Nat.lt_of_lt_of_le hv (Nat.pow_le_pow_right (by decide) (by omega)))
      rw [this, List.append_assoc]
      congr 1
      rw [List.replicate_succ']
  unfold encL encD
  rw [e1, e2, und_append_zeros, e3 _ _ _ (Nat.lt_of_lt_of_le (und_nats_lt b h) (pow_sz _)), List.map_append, List.reverse_append, List.map_replicate, List.reverse_replicate]
  rfl

end Go.Proofs.YtalbbifgkninmaaDoorX
