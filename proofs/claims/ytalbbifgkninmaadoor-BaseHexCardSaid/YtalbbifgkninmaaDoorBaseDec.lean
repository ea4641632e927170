/- base.Decode: what its printed loop answers. -/
import Derived.Test.YtalbbifgkninmaaDoorQBasex1
import Derived.Test.YtalbbifgkninmaaDoorBaseEnc
set_option linter.unusedVariables false
namespace Go.Proofs.YtalbbifgkninmaaDoorX
open Go.RowKit Go.Proofs.YtalbbifgkninmaaDoor.PBase Go.Proofs.YtalbbifgkninmaaDoorW.PrintWords Go.Proofs.YtalbbifgkninmaaDoorW.PrintLast Go.Proofs.YtalbbifgkninmaaDoorW.PrintMore

/-- What a digit stands for; 32: none. -/
def dval (c : UInt8) : Nat := if Lib.indexByte digTab.data.toList c = -1 then 32 else (Lib.indexByte digTab.data.toList c).toNat
theorem dval_le (c : UInt8) : dval c ≤ 32 := by
  have h : ∀ n : Fin 256, dval (UInt8.ofNat n.val) ≤ 32 := by decide +kernel
  have := h ⟨c.toNat, c.toNat_lt⟩
  simpa using this
theorem dval_index (c : UInt8) : Lib.indexByte digTab.data.toList c = if dval c = 32 then -1 else ((dval c : Nat) : Int) := by
  have h : ∀ n : Fin 256, Lib.indexByte digTab.data.toList (UInt8.ofNat n.val) = if dval (UInt8.ofNat n.val) = 32 then -1 else ((dval (UInt8.ofNat n.val) : Nat) : Int) := by decide +kernel
  have := h ⟨c.toNat, c.toNat_lt⟩
  simpa using this
theorem dval_dgt (n : Nat) (h : n < 32) : dval (dgt n) = n := by
  have h' : ∀ m : Fin 32, dval (dgt m.val) = m.val := by decide +kernel
  exact h' ⟨n, h⟩
theorem dgt_dval (c : UInt8) (h : dval c < 32) : dgt (dval c) = c := by
  have h' : ∀ n : Fin 256, dval (UInt8.ofNat n.val) < 32 → dgt (dval (UInt8.ofNat n.val)) = UInt8.ofNat n.val := by decide +kernel
  have := h' ⟨c.toNat, c.toNat_lt⟩
  simp only [UInt8.ofNat_toNat] at this
  exact this h

/-- A text's digits, the lowest first. -/
def vals (s : List UInt8) : List Nat := s.reverse.map dval
theorem vals_length (s : List UInt8) : (vals s).length = s.length := by simp [vals]
/-- How many bytes. -/
def msz (n : Nat) : Nat := n * 5 / 8
/-- The bytes that a text tells, if it does. -/
def TellsB (s : List UInt8) : Prop := sz (msz s.length) = s.length ∧ (∀ d ∈ vals s, d < 32) ∧ und 32 (vals s) < 256 ^ msz s.length
def byts (n v : Nat) : List Int := (dig 256 n v).map fun d : Nat => (d : Int)
theorem byts_length (n v : Nat) : (byts n v).length = n := by simp [byts, dig_length]
theorem nats_byts (n v : Nat) : nats (byts n v) = dig 256 n v := by
  simp only [nats, byts, List.map_map]
  conv => rhs; rw [← List.map_id (dig 256 n v)]
  apply List.map_congr_left
  intro a _
  simp
theorem byt_byts (n v : Nat) : Byt (byts n v) := by
  intro x hx
  obtain ⟨d, hd, rfl⟩ := List.mem_map.1 hx
  have := dig_lt 256 n v (by decide) d hd
  omega

theorem und_take (B : Nat) (l : List Nat) (i : Nat) (hi : i < l.length) : und B (l.take (i + 1)) = und B (l.take i) + l[i] * B ^ i := by
  rw [List.take_succ_eq_append_getElem hi, und_append]
  simp only [und, Nat.mul_zero, Nat.add_zero, List.length_take]
  rw [Nat.min_eq_left (by omega), Nat.mul_comm]

theorem und_take_le (B : Nat) (l : List Nat) (i : Nat) : und B (l.take i) ≤ und B l := by
  conv => rhs; rw [← List.take_append_drop i l, und_append]
  omega

/-- The two stores of a round, both in range. -/
theorem put2 (m q U a b : Nat) (hq : q + 1 < m) (hU : U / 256 ^ (q + 1) = 0) (ha : a < 256) (hb : b < 256) :
    ((dig 256 m U).set q a).set (q + 1) b = dig 256 m (U % 256 ^ q + 256 ^ q * (a + 256 * b)) := by
  have hlt : ∀ d ∈ ((dig 256 m U).set q a).set (q + 1) b, d < 256 := by
    intro d hd
    rcases List.mem_or_eq_of_mem_set hd with hd | rfl
    · rcases List.mem_or_eq_of_mem_set hd with hd | rfl
      · exact dig_lt 256 m U (by decide) d hd
      · exact ha
    · exact hb
  have hl : (((dig 256 m U).set q a).set (q + 1) b).length = m := by simp [dig_length]
  have e := dig_und 256 (by decide) _ hlt
  rw [hl] at e
  rw [← e]
  congr 1
  have h1 := und_set 256 (dig 256 m U) q (by rw [dig_length]; omega) a
  have h2 := und_set 256 ((dig 256 m U).set q a) (q + 1) (by rw [List.length_set, dig_length]; omega) b
  have g1 : (dig 256 m U)[q]'(by rw [dig_length]; omega) = U / 256 ^ q % 256 := by
    have := dig_get 256 m U q (by omega)
    rw [List.getElem?_eq_getElem (by rw [dig_length]; omega)] at this
    exact Option.some.inj this
  have g2 : ((dig 256 m U).set q a)[q + 1]'(by rw [List.length_set, dig_length]; omega) = 0 := by
    rw [List.getElem_set_ne (by omega)]
    have := dig_get 256 m U (q + 1) (by omega)
    rw [List.getElem?_eq_getElem (by rw [dig_length]; omega), hU] at this
    exact Option.some.inj this
  rw [g1] at h1
  rw [g2, Nat.mul_zero, Nat.add_zero] at h2
  rw [h2]
  have hd : U / 256 ^ q < 256 := by
    rw [Nat.pow_succ, ← Nat.div_div_eq_div_mul] at hU
    omega
  have hm : U < 256 ^ m := by
    have h3 : U < 256 ^ (q + 1) := by
      rcases Nat.lt_or_ge U (256 ^ (q + 1)) with h | h
      · exact h
      · have := Nat.div_pos h (Nat.pow_pos (by decide)); omega
    exact Nat.lt_of_lt_of_le h3 (Nat.pow_le_pow_right (by decide) (by omega))
  rw [und_dig, Nat.mod_eq_of_lt hm, Nat.mod_eq_of_lt hd] at h1
  have h4 := Nat.mod_add_div U (256 ^ q)
  rw [Nat.pow_succ, Nat.mul_add, Nat.mul_assoc]
  generalize 256 ^ q * (U / 256 ^ q) = X at h1 h4
  generalize 256 ^ q * (256 * b) = Y
  generalize 256 ^ q * a = Z at h1 ⊢
  omega

theorem put1 (m q U a : Nat) (hq : q + 1 = m) (hU : U / 256 ^ (q + 1) = 0) (ha : a < 256) :
    (dig 256 m U).set q a = dig 256 m (U % 256 ^ q + 256 ^ q * a) := by
  have hlt : ∀ d ∈ (dig 256 m U).set q a, d < 256 := by
    intro d hd
    rcases List.mem_or_eq_of_mem_set hd with hd | rfl
    · exact dig_lt 256 m U (by decide) d hd
    · exact ha
  have hl : ((dig 256 m U).set q a).length = m := by simp [dig_length]
  have e := dig_und 256 (by decide) _ hlt
  rw [hl] at e
  rw [← e]
  congr 1
  have h1 := und_set 256 (dig 256 m U) q (by rw [dig_length]; omega) a
  have g1 : (dig 256 m U)[q]'(by rw [dig_length]; omega) = U / 256 ^ q % 256 := by
    have := dig_get 256 m U q (by omega)
    rw [List.getElem?_eq_getElem (by rw [dig_length]; omega)] at this
    exact Option.some.inj this
  rw [g1] at h1
  have hd : U / 256 ^ q < 256 := by
    rw [Nat.pow_succ, ← Nat.div_div_eq_div_mul] at hU
    omega
  have hm : U < 256 ^ m := by
    rcases Nat.lt_or_ge U (256 ^ (q + 1)) with h | h
    · rw [hq] at h; exact h
    · have := Nat.div_pos h (Nat.pow_pos (by decide)); omega
  rw [und_dig, Nat.mod_eq_of_lt hm, Nat.mod_eq_of_lt hd] at h1
  have h4 := Nat.mod_add_div U (256 ^ q)
  generalize 256 ^ q * (U / 256 ^ q) = X at h1 h4
  generalize 256 ^ q * a = Z at h1 ⊢
  omega

theorem rd_map (l : List Nat) (j : Nat) (h : j < l.length) : rd (l.map fun d : Nat => (d : Int)) (j : Int) = ((l[j] : Nat) : Int) := by
  unfold rd
  rw [Int.toNat_natCast, List.getD_eq_getElem?_getD, List.getElem?_map, List.getElem?_eq_getElem h]
  rfl
theorem dig_at (B n v i : Nat) (h : i < n) : (dig B n v)[i]'(by rw [dig_length]; exact h) = v / B ^ i % B := by
  have := dig_get B n v i h
  rw [List.getElem?_eq_getElem (by rw [dig_length]; exact h)] at this
  exact Option.some.inj this

/-- One round's numbers: a digit d at place i, on a number U of i digits. -/
theorem round_num (U d i : Nat) (hU : U < 32 ^ i) (hd : d < 32) :
    U / 256 ^ (5 * i / 8) < 2 ^ (5 * i % 8) ∧ U / 256 ^ (5 * i / 8 + 1) = 0 ∧
    U % 256 ^ (5 * i / 8) + 256 ^ (5 * i / 8) * (U / 256 ^ (5 * i / 8) + d * 2 ^ (5 * i % 8)) = U + d * 32 ^ i := by
  have hr : 5 * i % 8 < 8 := Nat.mod_lt _ (by decide)
  rw [pow32] at hU
  have h1 : U / 256 ^ (5 * i / 8) < 2 ^ (5 * i % 8) := by
    rw [Nat.div_lt_iff_lt_mul (Nat.pow_pos (by decide)), Nat.mul_comm]
    exact hU
  refine ⟨h1, ?_, ?_⟩
  · rw [Nat.pow_succ, ← Nat.div_div_eq_div_mul]
    have := two_pow_8 _ hr
    clear hU
    generalize U / 256 ^ (5 * i / 8) = z at h1 ⊢
    generalize 2 ^ (5 * i % 8) = y at h1 this
    omega
  · rw [pow32]
    have h4 := Nat.mod_add_div U (256 ^ (5 * i / 8))
    rw [Nat.mul_add]
    have e : d * (256 ^ (5 * i / 8) * 2 ^ (5 * i % 8)) = 256 ^ (5 * i / 8) * (d * 2 ^ (5 * i % 8)) := by
      rw [Nat.mul_left_comm]
    rw [e]
    clear e hU h1
    generalize 256 ^ (5 * i / 8) * (d * 2 ^ (5 * i % 8)) = a1
    generalize 256 ^ (5 * i / 8) * (U / 256 ^ (5 * i / 8)) = a2 at h4 ⊢
    omega

theorem mul_mod_pow (d r : Nat) (hr : r < 8) (hd : d < 32) : (d * 2 ^ r % 256) % 2 ^ r = 0 ∧ d * 2 ^ r ≤ 31 * 128 ∧ (∀ u, u < 2 ^ r → u + d * 2 ^ r % 256 < 256) := by
  match r, hr with
  | 0, _ => exact ⟨by omega, by omega, fun u hu => by omega⟩
  | 1, _ => exact ⟨by omega, by omega, fun u hu => by omega⟩
  | 2, _ => exact ⟨by omega, by omega, fun u hu => by omega⟩
  | 3, _ => exact ⟨by omega, by omega, fun u hu => by omega⟩
  | 4, _ => exact ⟨by omega, by omega, fun u hu => by omega⟩
  | 5, _ => exact ⟨by omega, by omega, fun u hu => by omega⟩
  | 6, _ => exact ⟨by omega, by omega, fun u hu => by omega⟩
  | 7, _ => exact ⟨by omega, by omega, fun u hu => by omega⟩

/-- What a round lays into the first of the two bytes. -/
theorem or_first (u d r : Nat) (hr : r < 8) (hd : d < 32) (hu : u < 2 ^ r) : Go.bits .or .u8 (u : Int) (((d : Int) * 2 ^ r) % 256) = ((u + d * 2 ^ r % 256 : Nat) : Int) := by
  obtain ⟨h1, h2, h3⟩ := mul_mod_pow d r hr hd
  have h4 := h3 u hu
  have e : (((d : Int) * 2 ^ r) % 256) = ((d * 2 ^ r % 256 : Nat) : Int) := by simp
  have h5 : ((d * 2 ^ r % 256 : Nat) : Int) % 2 ^ r = 0 := by exact_mod_cast h1
  have h6 : (u : Int) < 2 ^ r := by exact_mod_cast hu
  rw [e]
  clear e h1 h3
  generalize d * 2 ^ r % 256 = v at h4 h5 ⊢
  rw [bits_or_comm, or8 r (by omega) h5 (by omega) (by omega) h6 (by omega)]
  omega
theorem or_second (b : Nat) (hb : b < 256) : Go.bits .or .u8 ((0 : Nat) : Int) (b : Int) = (b : Int) := by
  rw [or8 8 (by decide) (by decide) (by decide) (by omega) (by omega) (by omega)]
  omega

/-- What a round asks of numbers alone. -/
structure Nums (n m i : Nat) : Prop where
  hq : 5 * i / 8 < m
  hr : 5 * i % 8 < 8
  hil : i < n
  hj : n - 1 - i < n
  c1 : (i : Int) < (n : Int)
  e1 : wrap64 (wrap64 ((n : Int) - 1) - (i : Int)) = ((n - 1 - i : Nat) : Int)
  c2 : (0 : Int) ≤ ((n - 1 - i : Nat) : Int)
  c3 : ((n - 1 - i : Nat) : Int) < (n : Int)
  e5 : wrap64 (5 * (i : Int)) = ((5 * i : Nat) : Int)
  c4 : (0 : Int) ≤ ((5 * i % 8 : Nat) : Int)
  c5 : (0 : Int) ≤ ((5 * i / 8 : Nat) : Int)
  c6 : ((5 * i / 8 : Nat) : Int) < (m : Int)
  c7 : (0 : Int) ≤ ((5 * i / 8 + 1 : Nat) : Int)
  eq0 : wrap64 ((5 * i / 8 : Nat) : Int) = ((5 * i / 8 : Nat) : Int)
  eq1 : wrap64 (((5 * i / 8 : Nat) : Int) + 1) = ((5 * i / 8 + 1 : Nat) : Int)
  ei : wrap64 ((i : Int) + 1) = ((i + 1 : Nat) : Int)
  cd : ∀ n : Nat, ¬ ((n : Int) < 0)
  h31 : ∀ n : Nat, n = 32 → ¬ n < 32
  h33 : ∀ n : Nat, n < 32 → ¬ n = 32
  c8 : 5 * i / 8 + 1 < m → ((5 * i / 8 + 1 : Nat) : Int) < (m : Int)
  c9 : ¬ 5 * i / 8 + 1 < m → ¬ (((5 * i / 8 + 1 : Nat) : Int) < (m : Int))
  hqm : ¬ 5 * i / 8 + 1 < m → 5 * i / 8 + 1 = m
  h58 : 5 * i / 8 + 1 < m → 5 * (i + 1) ≤ 8 * m
  hr64 : ((5 * i % 8 : Nat) : Int) ≤ 64
  hshl : ∀ x : Nat, x ≤ 31 * 128 → (x : Int) < 4611686018427387904
  hx9 : ∀ x : Nat, x ≤ 31 * 128 → x / 256 < 256
  hne0 : ∀ x : Nat, ¬ x = 0 → ¬ ((x : Int) = 0)
  h256 : ∀ x y : Nat, x + y < 256 → x < 256
  hx8 : ∀ x : Nat, x < 256 → (x : Int) % 256 = (x : Int)

theorem nums (n m i : Nat) (h : i < n) (hmm : 5 * n ≤ 8 * m + 4) (hn : n ≤ 1000000000000) (hmb : m ≤ 1000000000000) : Nums n m i where
  hq := by omega
  hr := by omega
  hil := h
  hj := by omega
  c1 := by omega
  e1 := by rw [w64 (x := (n : Int) - 1) (by omega) (by omega), w64 (by omega) (by omega)]; omega
  c2 := by omega
  c3 := by omega
  e5 := by rw [w64 (by omega) (by omega)]; omega
  c4 := by omega
  c5 := by omega
  c6 := by omega
  c7 := by omega
  eq0 := w64 (by omega) (by omega)
  eq1 := by rw [w64 (by omega) (by omega)]; omega
  ei := by rw [w64 (by omega) (by omega)]; omega
  cd := fun n => by omega
  h31 := fun n h => by omega
  h33 := fun n h => by omega
  c8 := fun h => by omega
  c9 := fun h => by omega
  hqm := fun h => by omega
  h58 := fun h => by omega
  hr64 := by omega
  hshl := fun x h => by omega
  hx9 := fun x h => by omega
  hne0 := fun x h => by omega
  h256 := fun x y h => by omega
  hx8 := fun x h => by omega

theorem succ_of_lt {d k : Nat} (h : d < k) : ∃ m, k = m + 1 := ⟨k - 1, by omega⟩
theorem dec_loop (s : ByteArray) (hs : s.size ≤ 1000000000000) (hm : sz (msz s.size) = s.size) (d : Nat) : ∀ (k i : Nat), i + d = s.size → d < k →
    (∀ x ∈ (vals s.data.toList).take i, x < 32) → und 32 ((vals s.data.toList).take i) < 256 ^ msz s.size →
    ∃ r, base_Decode.l0 k s (byts (msz s.size) (und 32 ((vals s.data.toList).take i))) (s.size : Int) (i : Int) = some r ∧
      (TellsB s.data.toList → r = (byts (msz s.size) (und 32 (vals s.data.toList)), 0)) ∧ (¬ TellsB s.data.toList → r = ([], 4)) := by
  have hsl : s.data.toList.length = s.size := (ba_size s).symm
  have hvl : (vals s.data.toList).length = s.size := by rw [vals_length, hsl]
  have hmb : msz s.size ≤ 1000000000000 := by unfold msz; omega
  induction d with
  | zero =>
    intro k i hi hk hlt hU
    obtain ⟨k, rfl⟩ := succ_of_lt hk
    have c : ¬ ((i : Int) < (s.size : Int)) := by clear hU hlt; omega
    have et : (vals s.data.toList).take i = vals s.data.toList := List.take_of_length_le (by clear hU hlt; omega)
    rw [et] at hlt hU ⊢
    refine ⟨_, by rw [base_Decode.l0]; exact if_neg c, fun _ => rfl, fun h => absurd ⟨by rw [hsl]; exact hm, hlt, by rw [hsl]; exact hU⟩ h⟩
  | succ d ih =>
    intro k i hi hk hlt hU
    obtain ⟨k, rfl⟩ := succ_of_lt hk
    have hmm := sz_le (msz s.size)
    rw [hm] at hmm
    have hin : i < s.size := by clear hU hlt ih; omega
    obtain ⟨hq, hr, hil0, hj0, c1, e1, c2, c3, e5, c4, c5, c60, c7, eq0, eq1, ei, cd, h31, h33, c8', c9', hqm', h58, hr64, hshl, hx9, hne0, h256, hx8⟩ := nums s.size (msz s.size) i hin hmm hs hmb
    have hil : i < (vals s.data.toList).length := hvl.symm ▸ hil0
    have hj : s.size - 1 - i < s.data.toList.length := hsl.symm ▸ hj0
    have c6 : ((5 * i / 8 : Nat) : Int) < ((byts (msz s.size) (und 32 ((vals s.data.toList).take i))).length : Int) := by rw [byts_length]; exact c60
    have hi1 : i + 1 + d = s.size := by clear hU hlt ih; omega
    have hdk : d < k := Nat.lt_of_succ_lt_succ hk
    have ev : (vals s.data.toList)[i] = dval (s.data.toList[s.size - 1 - i]) := by
      simp only [vals, List.getElem_map, List.getElem_reverse, hsl]
    have hcase : dval (s.data.toList[s.size - 1 - i]) = 32 ∨ dval (s.data.toList[s.size - 1 - i]) < 32 := (Nat.eq_or_lt_of_le (dval_le _))
    have ihk := ih k (i + 1) hi1 hdk
    clear ih hmm
    rw [und_take 32 _ i hil, ev] at ihk
    have hlt' : dval (s.data.toList[s.size - 1 - i]) < 32 → ∀ x ∈ (vals s.data.toList).take (i + 1), x < 32 := fun h x hx => by
      rw [List.take_succ_eq_append_getElem hil, List.mem_append] at hx
      rcases hx with hx | hx
      · exact hlt x hx
      · rw [List.mem_singleton.1 hx, ev]; exact h
    have hbad : ¬ dval (s.data.toList[s.size - 1 - i]) < 32 → ¬ TellsB s.data.toList := fun h ht => h (by
      rw [← ev]; exact ht.2.1 _ (List.getElem_mem hil))
    have hbig : 256 ^ msz s.size ≤ und 32 ((vals s.data.toList).take i) + dval (s.data.toList[s.size - 1 - i]) * 32 ^ i → ¬ TellsB s.data.toList := fun h ht => by
      have h1 := und_take_le 32 (vals s.data.toList) (i + 1)
      rw [und_take 32 _ i hil, ev] at h1
      have h2 := ht.2.2
      rw [hsl] at h2
      exact absurd (Nat.lt_of_le_of_lt (Nat.le_trans h h1) h2) (Nat.lt_irrefl _)
    have hUi : und 32 ((vals s.data.toList).take i) < 32 ^ i := by
      have := und_lt 32 (by decide) _ hlt
      rw [List.length_take, Nat.min_eq_left (Nat.le_of_lt hil)] at this
      exact this
    have ebt := bt_list s (s.size - 1 - i) hj
    generalize hcc : s.data.toList[s.size - 1 - i] = c at ebt ihk hlt' hbad hbig hcase
    have eix : strings_IndexByte.f digTab ((c.toNat : Nat) : Int) = some (if dval c = 32 then -1 else ((dval c : Nat) : Int)) := by
      unfold strings_IndexByte.f
      rw [Int.toNat_natCast, show c.toNat.toUInt8 = c from UInt8.ofNat_toNat, dval_index]
    rw [base_Decode.l0, e1, e5, tdiv8, tmod8, eq0, eq1, ei, ebt]
    simp only [if_pos c1, if_pos c2, if_pos c3]
    rw [show (⟨#[48, 49, 50, 51, 52, 53, 54, 55, 56, 57, 97, 98, 99, 100, 102, 103, 104, 105, 106, 107, 108, 109, 110, 112, 113, 114, 115, 118, 119, 120, 121, 122]⟩ : ByteArray) = digTab from rfl, eix, Option.bind_some]
    rcases hcase with h32 | hd
    · rw [if_pos h32]
      exact ⟨_, if_pos (by decide), fun h => absurd h (hbad (h31 _ h32)), fun _ => rfl⟩
    have hlt2 := hlt' hd
    rw [if_neg (h33 _ hd)]
    clear hbad hlt' ebt eix hcc ev
    generalize hUU : und 32 ((vals s.data.toList).take i) = U at *
    generalize dval c = dd at *
    obtain ⟨r1, r2, r3⟩ := round_num U dd i hUi hd
    obtain ⟨m1, m2, m3⟩ := mul_mod_pow dd (5 * i % 8) hr hd
    have m4 := m3 _ r1
    have esh : shl .i64 ((dd : Nat) : Int) ((5 * i % 8 : Nat) : Int) = (dd : Int) * 2 ^ (5 * i % 8) := by
      have h9 : ((dd : Int) * 2 ^ (5 * i % 8)) = ((dd * 2 ^ (5 * i % 8) : Nat) : Int) := by simp
      rw [shl64 (Int.natCast_nonneg _) (Int.natCast_nonneg _) hr64 (by rw [Int.toNat_natCast, h9]; exact hshl _ m2), Int.toNat_natCast]
    have hdq : U / 256 ^ (5 * i / 8) % 256 = U / 256 ^ (5 * i / 8) := Nat.mod_eq_of_lt (h256 _ _ m4)
    have erd : rd (byts (msz s.size) U) ((5 * i / 8 : Nat) : Int) = ((U / 256 ^ (5 * i / 8) : Nat) : Int) := by
      unfold byts
      rw [rd_map _ _ (by rw [dig_length]; exact hq), dig_at 256 _ _ _ hq, hdq]
    have eor := or_first (U / 256 ^ (5 * i / 8)) dd (5 * i % 8) hr hd r1
    rw [esh, erd, eor, Int.toNat_natCast]
    simp only [if_neg (cd _), if_pos c4, if_pos c5, if_pos c6, Option.bind_some]
    have eset : (byts (msz s.size) U).set (5 * i / 8) ((U / 256 ^ (5 * i / 8) + dd * 2 ^ (5 * i % 8) % 256 : Nat) : Int) = ((dig 256 (msz s.size) U).set (5 * i / 8) (U / 256 ^ (5 * i / 8) + dd * 2 ^ (5 * i % 8) % 256)).map fun d : Nat => (d : Int) := by
      unfold byts
      rw [List.map_set]
    rw [eset, byts_length]
    have esum : U / 256 ^ (5 * i / 8) + dd * 2 ^ (5 * i % 8) % 256 + 256 * (dd * 2 ^ (5 * i % 8) / 256) = U / 256 ^ (5 * i / 8) + dd * 2 ^ (5 * i % 8) := by
      have := Nat.mod_add_div (dd * 2 ^ (5 * i % 8)) 256
      generalize dd * 2 ^ (5 * i % 8) % 256 = a1 at this ⊢
      generalize dd * 2 ^ (5 * i % 8) / 256 = a2 at this ⊢
      generalize dd * 2 ^ (5 * i % 8) = a3 at this ⊢
      omega
    have hb2 : dd * 2 ^ (5 * i % 8) / 256 < 256 := hx9 _ m2
    have ediv : ((dd : Int) * 2 ^ (5 * i % 8)) / 256 = ((dd * 2 ^ (5 * i % 8) / 256 : Nat) : Int) := by simp
    by_cases hq1 : 5 * i / 8 + 1 < msz s.size
    · have c8 := c8' hq1
      have eput := put2 (msz s.size) (5 * i / 8) U _ _ hq1 r2 m4 hb2
      rw [esum, r3] at eput
      have erd2 : rd (((dig 256 (msz s.size) U).set (5 * i / 8) (U / 256 ^ (5 * i / 8) + dd * 2 ^ (5 * i % 8) % 256)).map fun d : Nat => (d : Int)) ((5 * i / 8 + 1 : Nat) : Int) = ((0 : Nat) : Int) := by
        rw [rd_map _ _ (by rw [List.length_set, dig_length]; exact hq1), List.getElem_set_ne (Nat.ne_of_lt (Nat.lt_succ_self _)), dig_at 256 _ _ _ hq1, r2]
      have hU' : U + dd * 32 ^ i < 256 ^ msz s.size := by
        have h1 : U + dd * 32 ^ i < 32 ^ (i + 1) := by
          have h3 : dd * 32 ^ i ≤ 31 * 32 ^ i := Nat.mul_le_mul_right _ (Nat.le_of_lt_succ hd)
          rw [Nat.pow_succ]
          generalize dd * 32 ^ i = a1 at h3 ⊢
          generalize 32 ^ i = a2 at h3 hUi ⊢
          clear esum eset eor esh r1 r2 r3 m1 m3 m4 hU hbig erd hdq hb2 ediv eput erd2
          omega
        refine Nat.lt_of_lt_of_le h1 ?_
        have h4 : (32 : Nat) = 2 ^ 5 := rfl
        have h5 : (256 : Nat) = 2 ^ 8 := rfl
        rw [h4, h5, ← Nat.pow_mul, ← Nat.pow_mul]
        exact Nat.pow_le_pow_right (by decide) (h58 hq1)
      obtain ⟨r, hr1, hr2⟩ := ihk hlt2 hU'
      refine ⟨r, ?_, hr2⟩
      simp only [if_pos c8, if_pos c7]
      rw [Int.toNat_natCast, erd2, ediv, hx8 _ hb2, or_second _ hb2, ← List.map_set, eput]
      exact hr1
    · have c8 := c9' hq1
      simp only [if_neg c8]
      rw [ediv]
      have hqm := hqm' hq1
      by_cases h0 : dd * 2 ^ (5 * i % 8) / 256 = 0
      · have eput := put1 (msz s.size) (5 * i / 8) U _ hqm r2 m4
        rw [h0, Nat.mul_zero, Nat.add_zero] at esum
        have e2 : U % 256 ^ (5 * i / 8) + 256 ^ (5 * i / 8) * (U / 256 ^ (5 * i / 8) + dd * 2 ^ (5 * i % 8) % 256) = U + dd * 32 ^ i := by rw [esum, r3]
        rw [e2] at eput
        have hU' : U + dd * 32 ^ i < 256 ^ msz s.size := by
          rw [← r3, ← esum, ← hqm, Nat.pow_succ]
          have h1 : U % 256 ^ (5 * i / 8) < 256 ^ (5 * i / 8) := Nat.mod_lt _ (Nat.pow_pos (by decide))
          have h2 : 256 ^ (5 * i / 8) * (U / 256 ^ (5 * i / 8) + dd * 2 ^ (5 * i % 8) % 256) ≤ 256 ^ (5 * i / 8) * 255 := Nat.mul_le_mul_left _ (Nat.le_of_lt_succ m4)
          generalize 256 ^ (5 * i / 8) * (U / 256 ^ (5 * i / 8) + dd * 2 ^ (5 * i % 8) % 256) = a1 at h2 ⊢
          generalize U % 256 ^ (5 * i / 8) = a2 at h1 ⊢
          generalize 256 ^ (5 * i / 8) = a3 at h1 h2 ⊢
          clear esum eset eor esh r1 r2 r3 m1 m3 m4 hUi hU hbig erd hdq hb2 ediv eput
          omega
        obtain ⟨r, hr1, hr2⟩ := ihk hlt2 hU'
        refine ⟨r, ?_, hr2⟩
        rw [h0, eput]
        exact (if_pos rfl).trans hr1
      · refine ⟨([], 4), ?_, fun h => absurd h (hbig ?_), fun _ => rfl⟩
        · exact if_neg (hne0 _ h0)
        · rw [← r3, ← hqm, Nat.pow_succ]
          have h1 : 256 ≤ U / 256 ^ (5 * i / 8) + dd * 2 ^ (5 * i % 8) := by
            generalize dd * 2 ^ (5 * i % 8) = a1 at h0 ⊢
            generalize U / 256 ^ (5 * i / 8) = a2
            clear esum eset eor esh r1 r2 r3 m1 m3 m4 hUi hU hbig erd hdq hb2 ediv
            omega
          exact Nat.le_trans (Nat.mul_le_mul_left _ h1) (Nat.le_add_left _ _)

theorem dig_zero (n : Nat) : dig 256 n 0 = List.replicate n 0 := by
  induction n with
  | zero => rfl
  | succ n ih => simp [dig, ih, List.replicate_succ]
theorem byts_zero (n : Nat) : List.replicate n (0 : Int) = byts n 0 := by
  unfold byts
  rw [dig_zero, List.map_replicate]
  rfl

theorem dec_start (s : ByteArray) (hs : s.size ≤ 1000000000000) (k : Nat) :
    base_Decode.f k s = if ((sz (msz s.size) : Nat) : Int) = (s.size : Int) then base_Decode.l0 k s (byts (msz s.size) 0) (s.size : Int) 0 else some ([], 4) := by
  have em : wrap64 (Int.tdiv (wrap64 ((s.size : Int) * 5)) 8) = ((msz s.size : Nat) : Int) := by
    rw [w64 (x := (s.size : Int) * 5) (by omega) (by omega), Int.tdiv_eq_ediv_of_nonneg (by omega), w64 (by omega) (by omega)]
    unfold msz; omega
  have hmb : msz s.size ≤ 1000000000000 := by unfold msz; omega
  generalize msz s.size = m at em hmb ⊢
  have c1 : (0 : Int) ≤ ((m : Nat) : Int) := by omega
  have c2 : m ≤ 281474976710656 := by omega
  unfold base_Decode.f
  rw [em, Int.toNat_natCast]
  refine (if_pos c1).trans ((if_pos c2).trans ?_)
  rw [Option.bind_some, List.length_replicate, size_f _ (by omega), Option.bind_some, byts_zero]

theorem dec_f (s : ByteArray) (hs : s.size ≤ 1000000000000) : ∃ r, Ev (fun k => base_Decode.f k s) r ∧
    (TellsB s.data.toList → r = (byts (msz s.size) (und 32 (vals s.data.toList)), 0)) ∧ (¬ TellsB s.data.toList → r = ([], 4)) := by
  have hsl : s.data.toList.length = s.size := (ba_size s).symm
  by_cases hm : sz (msz s.size) = s.size
  · have h0 : und 32 ((vals s.data.toList).take 0) = 0 := by rw [List.take_zero]; rfl
    have h1 := fun k (hk : s.size < k) => dec_loop s hs hm s.size k 0 (Nat.zero_add _) hk (fun x hx => by rw [List.take_zero] at hx; cases hx) (by rw [h0]; exact Nat.pow_pos (Nat.succ_pos 255))
    rw [h0] at h1
    obtain ⟨r, hr, h2, h3⟩ := h1 (s.size + 1) (Nat.lt_succ_self _)
    refine ⟨r, ⟨s.size + 1, fun k hk => ?_⟩, h2, h3⟩
    obtain ⟨r', hr', h2', h3'⟩ := h1 k hk
    have hrr : r' = r := by
      by_cases ht : TellsB s.data.toList
      · rw [h2 ht, h2' ht]
      · rw [h3 ht, h3' ht]
    refine (dec_start s hs k).trans ((if_pos (congrArg Int.ofNat hm)).trans ?_)
    rw [← hrr]
    exact hr'
  · refine ⟨([], 4), ⟨0, fun k _ => ?_⟩, fun ht => absurd (by rw [← hsl]; exact ht.1) hm, fun _ => rfl⟩
    exact (dec_start s hs k).trans (if_neg (fun h => hm (Int.ofNat.inj h)))

end Go.Proofs.YtalbbifgkninmaaDoorX
