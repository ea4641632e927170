/- base.Encode and the reference's: what their printed loops answer. -/
import Derived.Test.YtalbbifgkninmaaDoorQBasex3
import Derived.Test.YtalbbifgkninmaaDoorQBasex4
import Derived.Test.YtalbbifgkninmaaDoorBaseSpec
set_option linter.unusedVariables false
namespace Go.Proofs.YtalbbifgkninmaaDoorX
open Go.RowKit Go.Proofs.YtalbbifgkninmaaDoor.PBase Go.Proofs.YtalbbifgkninmaaDoorW.PrintWords Go.Proofs.YtalbbifgkninmaaDoorW.PrintLast Go.Proofs.YtalbbifgkninmaaDoorW.PrintMore

theorem sz_le (n : Nat) : 5 * sz n ≤ 8 * n + 4 := by unfold sz; omega
theorem tdiv8 (n : Nat) : Int.tdiv (n : Int) 8 = ((n / 8 : Nat) : Int) := by rw [Int.tdiv_eq_ediv_of_nonneg (by omega)]; omega
theorem tmod8 (n : Nat) : Int.tmod (n : Int) 8 = ((n % 8 : Nat) : Int) := by rw [Int.tmod_eq_emod_of_nonneg (by omega)]; omega

theorem size_f (n : Nat) (h : n ≤ 1000000000000000) : base_size.f (n : Int) = some ((sz n : Nat) : Int) := by
  unfold base_size.f sz
  rw [w64 (x := 8 * (n : Int)) (by omega) (by omega), w64 (x := 8 * (n : Int) + 5) (by omega) (by omega), w64 (x := 8 * (n : Int) + 5 - 1) (by omega) (by omega), Int.tdiv_eq_ediv_of_nonneg (by omega), w64 (by omega) (by omega)]
  congr 1
  omega

theorem two_pow_8 (r : Nat) (hr : r < 8) : (2 : Nat) ^ r ≤ 128 := Nat.le_trans (Nat.pow_le_pow_right (by decide) (show r ≤ 7 by omega)) (by decide)

/-- The digit that the loop reckons, both bytes there. -/
theorem enc_bits (V i : Nat) : Go.bits .and .i64 (Go.bits .or .i64 (((V / 256 ^ (5 * i / 8) % 256 : Nat) : Int) / 2 ^ (5 * i % 8)) (((V / 256 ^ (5 * i / 8 + 1) % 256 : Nat) : Int) * 2 ^ (8 - 5 * i % 8))) 31 = ((V / 32 ^ i % 32 : Nat) : Int) := by
  rw [digit_at V i]
  have hr : 5 * i % 8 < 8 := Nat.mod_lt _ (by decide)
  generalize 5 * i % 8 = r at hr ⊢
  have hx : V / 256 ^ (5 * i / 8) % 256 < 256 := Nat.mod_lt _ (by decide)
  have hy : V / 256 ^ (5 * i / 8 + 1) % 256 < 256 := Nat.mod_lt _ (by decide)
  generalize V / 256 ^ (5 * i / 8) % 256 = x at hx ⊢
  generalize V / 256 ^ (5 * i / 8 + 1) % 256 = y at hy ⊢
  have hx1 : x / 2 ^ r < 2 ^ (8 - r) := by
    rw [Nat.div_lt_iff_lt_mul (Nat.two_pow_pos r), ← Nat.pow_add, Nat.sub_add_cancel (by omega)]
    exact hx
  have hp : (2 : Nat) ^ (8 - r) ≤ 256 := Nat.pow_le_pow_right (by decide) (show 8 - r ≤ 8 by omega)
  have hy1 : y * 2 ^ (8 - r) ≤ 255 * 256 := Nat.mul_le_mul (by omega) hp
  have e1 : ((x : Int) / 2 ^ r) = ((x / 2 ^ r : Nat) : Int) := by simp
  have e2 : ((y : Int) * 2 ^ (8 - r)) = ((y * 2 ^ (8 - r) : Nat) : Int) := by simp
  rw [e1, e2]
  have e5 : (x / 2 ^ r + y * 2 ^ (8 - r)) % 32 = (y * 2 ^ (8 - r) + x / 2 ^ r) % 32 := by rw [Nat.add_comm]
  have hm : ((y * 2 ^ (8 - r) : Nat) : Int) % 2 ^ (8 - r) = 0 := by exact_mod_cast Nat.mul_mod_left y (2 ^ (8 - r))
  have hx2 : ((x / 2 ^ r : Nat) : Int) < 2 ^ (8 - r) := by exact_mod_cast hx1
  have hx3 : x / 2 ^ r ≤ 255 := Nat.le_trans (Nat.div_le_self _ _) (by omega)
  rw [e5]
  clear e1 e2 e5 hx1
  generalize x / 2 ^ r = u at hx2 hx3 ⊢
  generalize y * 2 ^ (8 - r) = v at hm hy1 ⊢
  rw [bits_or_comm, or64 (8 - r) (by omega) hm (by omega) (by omega) hx2 (by omega)]
  have e3 : (31 : Int) = 2 ^ 5 - 1 := by decide
  rw [e3, and64 5 (by decide) (by omega) (by omega)]
  have e4 : (2 : Int) ^ 5 = 32 := by decide
  rw [e4]
  omega

/-- The same, the last byte. -/
theorem enc_bits1 (V i : Nat) (h0 : V / 256 ^ (5 * i / 8 + 1) = 0) : Go.bits .and .i64 (((V / 256 ^ (5 * i / 8) % 256 : Nat) : Int) / 2 ^ (5 * i % 8)) 31 = ((V / 32 ^ i % 32 : Nat) : Int) := by
  rw [digit_at V i, h0]
  have hx : V / 256 ^ (5 * i / 8) % 256 < 256 := Nat.mod_lt _ (by decide)
  generalize V / 256 ^ (5 * i / 8) % 256 = x at hx ⊢
  generalize 5 * i % 8 = r
  have e1 : ((x : Int) / 2 ^ r) = ((x / 2 ^ r : Nat) : Int) := by simp
  have hx1 : x / 2 ^ r ≤ x := Nat.div_le_self _ _
  rw [e1, show (x / 2 ^ r + 0 % 256 * 2 ^ (8 - r)) = x / 2 ^ r by omega]
  clear e1
  generalize x / 2 ^ r = u at hx1 ⊢
  have e3 : (31 : Int) = 2 ^ 5 - 1 := by decide
  rw [e3, and64 5 (by decide) (by omega) (by omega)]
  have e4 : (2 : Int) ^ 5 = 32 := by decide
  rw [e4]
  omega

section
theorem enc_loop (l : List Int) (hB : Byt l) (hl : l.length ≤ 1000000000000) (d : Nat) : ∀ (k i : Nat), i + d = sz l.length → d < k →
    base_Encode.l0 k l ((sz l.length : Nat) : Int) (List.replicate d 0 ++ ((dig 32 i (und 256 (nats l))).map fun x => ((dgt x).toNat : Int)).reverse) ((sz l.length : Nat) : Int) (i : Int) = some ⟨(encL l).toArray⟩ := by
  induction d with
  | zero =>
    intro k i hi hk
    obtain ⟨k, rfl⟩ : ∃ m, k = m + 1 := ⟨k - 1, by omega⟩
    simp only [base_Encode.l0]
    rw [if_neg (by omega)]
    congr 1
    rw [List.replicate_zero, List.nil_append]
    have : i = sz l.length := by omega
    subst this
    rw [← List.map_reverse]
    have e : (List.map (fun x => ((dgt x).toNat : Int)) (dig 32 (sz l.length) (und 256 (nats l))).reverse) = (((dig 32 (sz l.length) (und 256 (nats l))).map dgt).reverse).map fun b => (b.toNat : Int) := by
      rw [← List.map_reverse, List.map_map]; rfl
    rw [e, strOfNums_bytes]
    rfl
  | succ d ih =>
    intro k i hi hk
    obtain ⟨k, rfl⟩ : ∃ m, k = m + 1 := ⟨k - 1, by omega⟩
    have ih' := ih k (i + 1) (by omega) (by omega)
    clear ih
    have hsz := sz_le l.length
    have hq : 5 * i / 8 < l.length := by omega
    have hc1 : (i : Int) < ((sz l.length : Nat) : Int) := by omega
    have hc2 : (0 : Int) ≤ ((5 * i / 8 : Nat) : Int) := by omega
    have hc3 : ((5 * i / 8 : Nat) : Int) < (l.length : Int) := by omega
    have hc4 : (0 : Int) ≤ ((5 * i % 8 : Nat) : Int) := by omega
    have hc5 : (0 : Int) ≤ ((5 * i / 8 + 1 : Nat) : Int) := by omega
    have hc6 : (0 : Int) ≤ ((8 - 5 * i % 8 : Nat) : Int) := by omega
    have hc7 : (0 : Int) ≤ (d : Int) := by omega
    have hc8 : (d : Int) < ((sz l.length : Nat) : Int) := by omega
    have hc9 : ∀ x : Nat, (0 : Int) ≤ (x : Int) := fun x => by omega
    have hcA : ∀ x : Nat, ((x % 32 : Nat) : Int) < 32 := fun x => by omega
    have e5 : wrap64 (5 * (i : Int)) = ((5 * i : Nat) : Int) := by rw [w64 (by omega) (by omega)]; omega
    have er : ∀ q, q < l.length → wrap64 (rd l (q : Int)) = ((und 256 (nats l) / 256 ^ q % 256 : Nat) : Int) := fun q hq => by
      rw [rd_nats l hB q hq, w64 (by omega) (by omega)]
    have eq0 : wrap64 ((5 * i / 8 : Nat) : Int) = ((5 * i / 8 : Nat) : Int) := w64 (by omega) (by omega)
    have eq1 : wrap64 (((5 * i / 8 : Nat) : Int) + 1) = ((5 * i / 8 + 1 : Nat) : Int) := by rw [w64 (by omega) (by omega)]; omega
    have hr : 5 * i % 8 < 8 := Nat.mod_lt _ (by decide)
    have e8 : wrap64 (8 - ((5 * i % 8 : Nat) : Int)) = ((8 - 5 * i % 8 : Nat) : Int) := by rw [w64 (by omega) (by omega)]; omega
    have es : ∀ (x : Nat), shr .i64 (x : Int) ((5 * i % 8 : Nat) : Int) = (x : Int) / 2 ^ (5 * i % 8) := fun x => by rw [shr64 (by omega), Int.toNat_natCast]
    have el : ∀ (x : Nat), x < 256 → shl .i64 (x : Int) ((8 - 5 * i % 8 : Nat) : Int) = (x : Int) * 2 ^ (8 - 5 * i % 8) := fun x hx => by
      rw [shl64 (by omega) (by omega) (by omega) ?_, Int.toNat_natCast]
      rw [Int.toNat_natCast]
      have h1 : x * 2 ^ (8 - 5 * i % 8) ≤ 255 * 256 := Nat.mul_le_mul (by omega) (Nat.pow_le_pow_right (by decide) (show 8 - 5 * i % 8 ≤ 8 by omega))
      have h2 : ((x : Int) * 2 ^ (8 - 5 * i % 8)) = ((x * 2 ^ (8 - 5 * i % 8) : Nat) : Int) := by simp
      rw [h2]
      omega
    have en : wrap64 (wrap64 (((sz l.length : Nat) : Int) - 1) - (i : Int)) = (d : Int) := by rw [w64 (x := ((sz l.length : Nat) : Int) - 1) (by omega) (by omega), w64 (by omega) (by omega)]; omega
    have ei : wrap64 ((i : Int) + 1) = ((i + 1 : Nat) : Int) := by rw [w64 (by omega) (by omega)]; omega
    have hD : und 256 (nats l) / 32 ^ i % 32 < 32 := Nat.mod_lt _ (by decide)
    have hset : (List.replicate (d + 1) 0 ++ ((dig 32 i (und 256 (nats l))).map fun x => ((dgt x).toNat : Int)).reverse).set d (bt digTab ((und 256 (nats l) / 32 ^ i % 32 : Nat) : Int)) = List.replicate d 0 ++ ((dig 32 (i + 1) (und 256 (nats l))).map fun x => ((dgt x).toNat : Int)).reverse := by
      rw [set_mid, bt_dig _ hD, dig_succ, List.map_append, List.reverse_append]
      rfl
    have hlen : (List.replicate (d + 1) (0 : Int) ++ ((dig 32 i (und 256 (nats l))).map fun x => ((dgt x).toNat : Int)).reverse).length = sz l.length := by
      rw [List.length_append, List.length_replicate, List.length_reverse, List.length_map, dig_length]; omega
    generalize hX : List.replicate (d + 1) (0 : Int) ++ ((dig 32 i (und 256 (nats l))).map fun x => ((dgt x).toNat : Int)).reverse = X at hset hlen ⊢
    generalize hY : List.replicate d (0 : Int) ++ ((dig 32 (i + 1) (und 256 (nats l))).map fun x => ((dgt x).toNat : Int)).reverse = Y at hset
    rw [hY] at ih'
    generalize hn : ((sz l.length : Nat) : Int) = n at en ih' hc1 ⊢
    generalize hR : (⟨(encL l).toArray⟩ : ByteArray) = R at ih' ⊢
    clear hX hY
    rw [base_Encode.l0]
    rw [e5, tdiv8, tmod8, eq0, eq1, e8, en, ei, Int.toNat_natCast, hlen]
    refine (if_pos hc1).trans ((if_pos hc2).trans ((if_pos hc3).trans ((if_pos hc4).trans ?_)))
    rw [er _ hq, es]
    by_cases h1 : 5 * i / 8 + 1 < l.length
    · refine (if_pos (Int.ofNat_lt.2 h1)).trans ((if_pos hc5).trans ((if_pos hc6).trans ?_))
      rw [er _ h1, el _ (Nat.mod_lt _ (by decide)), enc_bits]
      refine (if_pos (hc9 _)).trans ((if_pos (hcA _)).trans ((if_pos hc7).trans ((if_pos hc8).trans ?_)))
      exact (congrArg (fun z => base_Encode.l0 k l n z n ((i + 1 : Nat) : Int)) hset).trans ih'
    · have h0 : und 256 (nats l) / 256 ^ (5 * i / 8 + 1) = 0 := und_beyond 256 (by decide) _ (nats_lt l hB) _ (by rw [nats_length]; omega)
      refine (if_neg (fun h => h1 (Int.ofNat_lt.1 h))).trans ?_
      rw [enc_bits1 _ _ h0]
      refine (if_pos (hc9 _)).trans ((if_pos (hcA _)).trans ((if_pos hc7).trans ((if_pos hc8).trans ?_)))
      exact (congrArg (fun z => base_Encode.l0 k l n z n ((i + 1 : Nat) : Int)) hset).trans ih'

end

theorem enc_f (l : List Int) (hB : Byt l) (hl : l.length ≤ 1000000000000) : Ev (fun k => base_Encode.f k l) ⟨(encL l).toArray⟩ := by
  refine ⟨sz l.length + 1, fun k hk => ?_⟩
  have hs : sz l.length ≤ 2000000000000 := by unfold sz; omega
  unfold base_Encode.f
  rw [size_f _ (by omega)]
  simp only [Option.bind_some]
  rw [if_pos (by omega), Int.toNat_natCast, if_pos (by omega)]
  have := enc_loop l hB hl (sz l.length) k 0 (by omega) (by omega)
  simpa [dig] using this

end Go.Proofs.YtalbbifgkninmaaDoorX
