/- The reference's Encode: what its printed loops answer. -/
import Derived.Test.YtalbbifgkninmaaDoorBaseEnc
set_option linter.unusedVariables false
namespace Go.Proofs.YtalbbifgkninmaaDoorX
open Go.RowKit Go.Proofs.YtalbbifgkninmaaDoor.PBase Go.Proofs.YtalbbifgkninmaaDoorW.PrintWords Go.Proofs.YtalbbifgkninmaaDoorW.PrintLast Go.Proofs.YtalbbifgkninmaaDoorW.PrintMore

theorem tdiv2 (n : Nat) : Int.tdiv (n : Int) 2 = ((n / 2 : Nat) : Int) := by rw [Int.tdiv_eq_ediv_of_nonneg (by omega)]; omega
theorem tmod2 (n : Nat) : Int.tmod (n : Int) 2 = ((n % 2 : Nat) : Int) := by rw [Int.tmod_eq_emod_of_nonneg (by omega)]; omega

theorem bit_loop (j x d : Nat) (hx : x < 256) : ∀ (k i : Nat), i + d = j % 8 → d < k → i ≤ 8 →
    chandleryref02_bit.l0 k (j : Int) ((x / 2 ^ i : Nat) : Int) (i : Int) = some ((x / 2 ^ (j % 8) % 2 : Nat) : Int) := by
  induction d with
  | zero =>
    intro k i hi hk h8
    obtain ⟨k, rfl⟩ : ∃ m, k = m + 1 := ⟨k - 1, by omega⟩
    have hi' : i = j % 8 := by omega
    rw [chandleryref02_bit.l0, tmod8]
    rw [if_neg (by omega), tmod2, hi']
  | succ d ih =>
    intro k i hi hk h8
    obtain ⟨k, rfl⟩ : ∃ m, k = m + 1 := ⟨k - 1, by omega⟩
    have c1 : (i : Int) < ((j % 8 : Nat) : Int) := by omega
    have e1 : wrap64 ((i : Int) + 1) = ((i + 1 : Nat) : Int) := by rw [w64 (by omega) (by omega)]; omega
    have hle : x / 2 ^ i / 2 ≤ 255 := Nat.le_trans (Nat.div_le_self _ _) (Nat.le_trans (Nat.div_le_self _ _) (by omega))
    have e2 : wrap64 ((x / 2 ^ i / 2 : Nat) : Int) = ((x / 2 ^ (i + 1) : Nat) : Int) := by
      rw [Nat.pow_succ, ← Nat.div_div_eq_div_mul]
      generalize x / 2 ^ i / 2 = y at hle ⊢
      exact w64 (by omega) (by omega)
    have ih' := ih k (i + 1) (by omega) (by omega) (by omega)
    rw [chandleryref02_bit.l0, tmod8, tdiv2]
    refine (if_pos c1).trans ?_
    rw [e1, e2]
    exact ih'

theorem bit_f (l : List Int) (hB : Byt l) (hl : l.length ≤ 1000000000000) (j : Nat) (hj : j ≤ 10000000000000) (k : Nat) (hk : 9 ≤ k) :
    chandleryref02_bit.f k l (j : Int) = some ((und 256 (nats l) / 2 ^ j % 2 : Nat) : Int) := by
  have e8 : wrap64 (8 * (l.length : Int)) = ((8 * l.length : Nat) : Int) := by rw [w64 (by omega) (by omega)]; omega
  have e9 : wrap64 ((j / 8 : Nat) : Int) = ((j / 8 : Nat) : Int) := w64 (by omega) (by omega)
  have hp : und 256 (nats l) / 2 ^ j = und 256 (nats l) / 256 ^ (j / 8) / 2 ^ (j % 8) := by
    have h2 : (256 : Nat) = 2 ^ 8 := rfl
    rw [Nat.div_div_eq_div_mul, h2, ← Nat.pow_mul, ← Nat.pow_add]
    congr 2
    omega
  unfold chandleryref02_bit.f
  rw [tdiv8, e8, e9]
  by_cases c : j < 8 * l.length
  · have c0 : ¬ ((j : Int) ≥ ((8 * l.length : Nat) : Int)) := by omega
    have c1 : (0 : Int) ≤ ((j / 8 : Nat) : Int) := by omega
    have c2 : ((j / 8 : Nat) : Int) < (l.length : Int) := by omega
    have c3 : j / 8 < l.length := by omega
    refine (if_neg c0).trans ((if_pos c1).trans ((if_pos c2).trans ?_))
    rw [rd_nats l hB _ c3]
    have hx : und 256 (nats l) / 256 ^ (j / 8) % 256 < 256 := Nat.mod_lt _ (by decide)
    have hw : und 256 (nats l) / 256 ^ (j / 8) % 256 / 2 ^ (j % 8) % 2 = und 256 (nats l) / 2 ^ j % 2 := by
      rw [hp]
      have hr : j % 8 < 8 := Nat.mod_lt _ (by decide)
      generalize j % 8 = r at hr ⊢
      generalize und 256 (nats l) / 256 ^ (j / 8) = W
      match r, hr with
      | 0, _ => omega
      | 1, _ => omega
      | 2, _ => omega
      | 3, _ => omega
      | 4, _ => omega
      | 5, _ => omega
      | 6, _ => omega
      | 7, _ => omega
    rw [← hw]
    have := bit_loop j (und 256 (nats l) / 256 ^ (j / 8) % 256) (j % 8) hx k 0 (by omega) (by omega) (by omega)
    rw [w64 (by clear this; omega) (by clear this; omega)]
    simpa using this
  · have c0 : ((j : Int) ≥ ((8 * l.length : Nat) : Int)) := by omega
    refine (if_pos c0).trans ?_
    rw [hp, und_beyond 256 (by decide) _ (nats_lt l hB) _ (by rw [nats_length]; omega)]
    simp

theorem rsize_f (n : Nat) (h : n ≤ 1000000000000000) : chandleryref02_Size.f (n : Int) = some ((sz n : Nat) : Int) := by
  unfold chandleryref02_Size.f sz
  rw [w64 (x := 8 * (n : Int)) (by omega) (by omega), w64 (x := 8 * (n : Int) + 4) (by omega) (by omega), Int.tdiv_eq_ediv_of_nonneg (by omega), w64 (by omega) (by omega)]
  congr 1

theorem renc_inner (l : List Int) (hB : Byt l) (hl : l.length ≤ 1000000000000) (i : Nat) (hi : i ≤ 1700000000000) (o : List UInt8) (ho : o.length ≤ 1700000000000) (R : ByteArray) (K : Nat)
    (hK : ∀ k, K ≤ k → chandleryref02_Encode.l0 k l ⟨(dgt (und 256 (nats l) / 32 ^ i % 32) :: o).toArray⟩ ((i + 1 : Nat) : Int) = some R) (m : Nat) :
    ∀ k, m ≤ 5 → K + m + 9 < k → chandleryref02_Encode.l1 k l ⟨o.toArray⟩ (i : Int) ((und 256 (nats l) / 32 ^ i % 32 / 2 ^ m : Nat) : Int) ((m : Int) - 1) = some R := by
  have hU : und 256 (nats l) / 32 ^ i % 32 < 32 := Nat.mod_lt _ (by decide)
  have hbits : ∀ m, m < 5 → und 256 (nats l) / 2 ^ (5 * i + m) % 2 = und 256 (nats l) / 32 ^ i % 32 / 2 ^ m % 2 := by
    intro m hm
    have h2 : (32 : Nat) = 2 ^ 5 := rfl
    have e : und 256 (nats l) / 2 ^ (5 * i + m) = und 256 (nats l) / 32 ^ i / 2 ^ m := by
      rw [Nat.div_div_eq_div_mul, h2, ← Nat.pow_mul, ← Nat.pow_add]
    rw [e]
    generalize und 256 (nats l) / 32 ^ i = W
    match m, hm with
    | 0, _ => omega
    | 1, _ => omega
    | 2, _ => omega
    | 3, _ => omega
    | 4, _ => omega
  induction m with
  | zero =>
    intro k _ hk
    obtain ⟨k, rfl⟩ : ∃ m, k = m + 1 := ⟨k - 1, by omega⟩
    have c0 : ¬ (((0 : Nat) : Int) - 1 ≥ 0) := by omega
    rw [Nat.pow_zero, Nat.div_one]
    have hK' := hK k (by omega)
    clear hK hbits
    generalize und 256 (nats l) / 32 ^ i % 32 = U at hU hK' ⊢
    have e1 : wrap64 ((U : Int) + 1) = ((U + 1 : Nat) : Int) := by rw [w64 (by omega) (by omega)]; omega
    have ei : wrap64 ((i : Int) + 1) = ((i + 1 : Nat) : Int) := by rw [w64 (by omega) (by omega)]; omega
    have c1 : (0 : Int) ≤ (U : Int) := by omega
    have c2 : (U : Int) ≤ ((U + 1 : Nat) : Int) := by omega
    have c3 : ((U + 1 : Nat) : Int) ≤ 32 := by omega
    have hd : U < (digTab).data.toList.length := hU
    have es : (digTab.extract U (U + 1)).size = 1 := by rw [ba_size, ba_extract, show U + 1 - U = 1 by omega]; simp only [List.length_take, List.length_drop]; omega
    have c4 : (digTab.extract U (U + 1)).size + (⟨o.toArray⟩ : ByteArray).size ≤ 9223372036854775807 := by
      rw [es, ba_size, ba_mk]; omega
    have ee : digTab.extract U (U + 1) ++ ⟨o.toArray⟩ = ⟨(dgt U :: o).toArray⟩ := by
      rw [ba_one digTab U hd o]
      congr 3
      unfold dgt
      rw [dif_pos hU]
      rfl
    rw [chandleryref02_Encode.l1]
    rw [e1, ei, Int.toNat_natCast, Int.toNat_natCast]
    refine (if_neg c0).trans ((if_pos c1).trans ((if_pos c2).trans ((if_pos c3).trans ((if_pos c4).trans ?_))))
    exact (congrArg (fun z => chandleryref02_Encode.l0 k l z ((i + 1 : Nat) : Int)) ee).trans hK'
  | succ m ih =>
    intro k hm hk
    obtain ⟨k, rfl⟩ : ∃ m, k = m + 1 := ⟨k - 1, by omega⟩
    have ih' := ih k (by omega) (by omega)
    have e0 : (((m + 1 : Nat) : Int) - 1) = (m : Int) := by omega
    have c0 : ((m : Int) ≥ 0) := by omega
    have e5 : wrap64 (wrap64 (5 * (i : Int)) + (m : Int)) = ((5 * i + m : Nat) : Int) := by
      rw [w64 (x := 5 * (i : Int)) (by omega) (by omega), w64 (by omega) (by omega)]; omega
    have em : wrap64 ((m : Int) - 1) = (m : Int) - 1 := w64 (by omega) (by omega)
    have eb := bit_f l hB hl (5 * i + m) (by omega) k (by omega)
    rw [hbits m (by omega)] at eb
    clear hbits hK ih
    generalize und 256 (nats l) / 32 ^ i % 32 = U at hU eb ih' ⊢
    have e2 : U / 2 ^ m = 2 * (U / 2 ^ (m + 1)) + U / 2 ^ m % 2 := by
      rw [Nat.pow_succ, ← Nat.div_div_eq_div_mul]
      generalize U / 2 ^ m = Y
      omega
    have e3 : wrap64 (wrap64 (2 * ((U / 2 ^ (m + 1) : Nat) : Int)) + ((U / 2 ^ m % 2 : Nat) : Int)) = ((U / 2 ^ m : Nat) : Int) := by
      have h1 : U / 2 ^ (m + 1) ≤ 31 := Nat.le_trans (Nat.div_le_self _ _) (by omega)
      have h2 : U / 2 ^ m % 2 < 2 := Nat.mod_lt _ (by decide)
      rw [e2]
      generalize U / 2 ^ (m + 1) = a at h1 ⊢
      have h3 : (2 * a + U / 2 ^ m % 2) % 2 = U / 2 ^ m % 2 := by omega
      rw [h3]
      generalize U / 2 ^ m % 2 = b at h2 ⊢
      rw [w64 (x := 2 * (a : Int)) (by omega) (by omega), w64 (by omega) (by omega)]; omega
    rw [e0, chandleryref02_Encode.l1]
    refine (if_pos c0).trans ?_
    rw [e5, eb, Option.bind_some, e3, em]
    exact ih'

theorem renc_loop (l : List Int) (hB : Byt l) (hl : l.length ≤ 1000000000000) (d : Nat) : ∀ (k i : Nat), i + d = sz l.length → 20 * d < k →
    chandleryref02_Encode.l0 k l ⟨(((dig 32 i (und 256 (nats l))).map dgt).reverse).toArray⟩ (i : Int) = some ⟨(encL l).toArray⟩ := by
  have hs : sz l.length ≤ 1700000000000 := by have := sz_le l.length; omega
  induction d with
  | zero =>
    intro k i hi hk
    obtain ⟨k, rfl⟩ : ∃ m, k = m + 1 := ⟨k - 1, by omega⟩
    have c0 : ¬ ((i : Int) < ((sz l.length : Nat) : Int)) := by omega
    have e : i = sz l.length := by omega
    rw [chandleryref02_Encode.l0, rsize_f _ (by omega), Option.bind_some]
    refine (if_neg c0).trans ?_
    rw [e]
    rfl
  | succ d ih =>
    intro k i hi hk
    obtain ⟨k, rfl⟩ : ∃ m, k = m + 1 := ⟨k - 1, by omega⟩
    have c0 : ((i : Int) < ((sz l.length : Nat) : Int)) := by omega
    have hin := renc_inner l hB hl i (by omega) (((dig 32 i (und 256 (nats l))).map dgt).reverse) (by rw [List.length_reverse, List.length_map, dig_length]; omega) ⟨(encL l).toArray⟩ (20 * d + 1) (fun k' hk' => by
      have := ih k' (i + 1) (by omega) (by omega)
      rw [dig_succ, List.map_append, List.reverse_append] at this
      exact this) 5 k (by omega) (by omega)
    rw [chandleryref02_Encode.l0, rsize_f _ (by omega), Option.bind_some]
    refine (if_pos c0).trans ?_
    have e0 : und 256 (nats l) / 32 ^ i % 32 / 2 ^ 5 = 0 := Nat.div_eq_of_lt (Nat.mod_lt _ (by decide))
    rw [e0] at hin
    exact hin

theorem renc_f (l : List Int) (hB : Byt l) (hl : l.length ≤ 1000000000000) : Ev (fun k => chandleryref02_Encode.f k l) ⟨(encL l).toArray⟩ :=
  ⟨20 * sz l.length + 1, fun k hk => by
    unfold chandleryref02_Encode.f
    exact renc_loop l hB hl (sz l.length) k 0 (by omega) (by omega)⟩

end Go.Proofs.YtalbbifgkninmaaDoorX
