/- The reference's Decode: what its printed loops answer. -/
import Derived.Test.YtalbbifgkninmaaDoorBaseDec
import Derived.Test.YtalbbifgkninmaaDoorBaseRefEnc
import Derived.Test.YtalbbifgkninmaaDoorBaseLaws
set_option linter.unusedVariables false
namespace Go.Proofs.YtalbbifgkninmaaDoorX
open Go.RowKit Go.Proofs.YtalbbifgkninmaaDoor.PBase Go.Proofs.YtalbbifgkninmaaDoorW.PrintWords Go.Proofs.YtalbbifgkninmaaDoorW.PrintLast Go.Proofs.YtalbbifgkninmaaDoorW.PrintMore

theorem index_ge (c : UInt8) : ∀ l : List UInt8, -1 ≤ Lib.indexByte l c
  | [] => by show (-1 : Int) ≤ -1; omega
  | b :: l => by
    have ih := index_ge c l
    unfold Lib.indexByte
    split
    · omega
    · split
      · omega
      · omega

/-- chandleryref02.value: the place of a byte in a text, or -1: the same as IndexByte's. -/
theorem value_loop (l : List UInt8) (t : ByteArray) (ht : t.data.toList = l) (hl : l.length ≤ 1000) (c : UInt8) (d : Nat) : ∀ k i, i + d = l.length → d < k →
    chandleryref02_value.l0 k (c.toNat : Int) t (i : Int) = some (if Lib.indexByte (l.drop i) c = -1 then -1 else (i : Int) + Lib.indexByte (l.drop i) c) := by
  have hts : t.size = l.length := by rw [ba_size, ht]
  induction d with
  | zero =>
    intro k i hi hk
    obtain ⟨k, rfl⟩ := succ_of_lt hk
    rw [chandleryref02_value.l0, hts, if_neg (by omega), List.drop_of_length_le (by omega)]
    rfl
  | succ d ih =>
    intro k i hi hk
    obtain ⟨k, rfl⟩ := succ_of_lt hk
    have hil : i < l.length := by omega
    have ei : wrap64 ((i : Int) + 1) = ((i + 1 : Nat) : Int) := by rw [w64 (by omega) (by omega)]; omega
    have q1 : (i : Int) < ((l.length : Nat) : Int) := by omega
    have q2 : (0 : Int) ≤ (i : Int) := by omega
    have ihk := ih k (i + 1) (by omega) (by omega)
    have hge := index_ge c
    have eb : bt t (i : Int) = ((l[i].toNat : Nat) : Int) := by
      rw [bt_list t i (by rw [ht]; exact hil)]
      simp only [ht]
    rw [chandleryref02_value.l0, hts, if_pos q1, if_pos q2, eb, ei, ihk, List.drop_eq_getElem_cons hil, Lib.indexByte]
    by_cases e : l[i] = c
    · rw [e]
      simp
    · have e1 : ¬ (((l[i].toNat : Nat) : Int) = ((c.toNat : Nat) : Int)) := fun h => e (UInt8.toNat_inj.1 (by exact_mod_cast h))
      have e2 : (l[i] == c) = false := beq_eq_false_iff_ne.2 e
      rw [if_neg e1, e2]
      have := hge (l.drop (i + 1))
      generalize Lib.indexByte (l.drop (i + 1)) c = z at this ⊢
      simp only [Bool.false_eq_true, if_false]
      by_cases hz : z = -1
      · subst hz; rfl
      · have hz2 : (z == -1) = false := beq_eq_false_iff_ne.2 hz
        rw [if_neg hz, hz2]
        simp only [Bool.false_eq_true, if_false]
        have : ¬ z + 1 = -1 := by clear eb e1; omega
        rw [if_neg this]
        congr 1
        push_cast
        omega

theorem value_f (c : UInt8) (k : Nat) (hk : 33 ≤ k) : chandleryref02_value.f k (c.toNat : Int) digTab = some (if dval c = 32 then -1 else ((dval c : Nat) : Int)) := by
  have h := value_loop digTab.data.toList digTab rfl (by decide) c 32 k 0 rfl (by omega)
  unfold chandleryref02_value.f
  refine h.trans ?_
  rw [List.drop_zero, dval_index]
  congr 1
  split
  · rw [if_pos rfl]
  · rename_i h1
    have h2 : ¬ (((dval c : Nat) : Int) = -1) := by omega
    rw [if_neg h2]
    omega

theorem set_same (l : List Nat) (i x : Nat) (h : i < l.length) (hx : l[i] = x) : l.set i x = l := by
  subst hx
  exact List.set_getElem_self h

/-- Five bits of one digit, one by one: the row holds the low bits. -/
theorem bits_put (m A j kk b : Nat) (hA : A < 2 ^ (5 * j + kk)) (hb : b < 2) (hat : (5 * j + kk) / 8 < m) :
    (dig 256 m A).set ((5 * j + kk) / 8) (A / 256 ^ ((5 * j + kk) / 8) + b * 2 ^ ((5 * j + kk) % 8)) = dig 256 m (A + b * 2 ^ (5 * j + kk)) ∧
    A / 256 ^ ((5 * j + kk) / 8) + b * 2 ^ ((5 * j + kk) % 8) < 256 ∧ A / 256 ^ ((5 * j + kk) / 8) % 256 = A / 256 ^ ((5 * j + kk) / 8) := by
  generalize 5 * j + kk = t at *
  have hr : t % 8 < 8 := Nat.mod_lt _ (by decide)
  have hp : 2 ^ t = 256 ^ (t / 8) * 2 ^ (t % 8) := by
    have h5 : (256 : Nat) = 2 ^ 8 := rfl
    rw [h5, ← Nat.pow_mul, ← Nat.pow_add]
    congr 1
    omega
  rw [hp] at hA
  have hq : A / 256 ^ (t / 8) < 2 ^ (t % 8) := by
    rw [Nat.div_lt_iff_lt_mul (Nat.pow_pos (by decide)), Nat.mul_comm]
    exact hA
  have h8 := two_pow_8 _ hr
  have hlt : A / 256 ^ (t / 8) + b * 2 ^ (t % 8) < 256 := by
    have : b * 2 ^ (t % 8) ≤ 1 * 2 ^ (t % 8) := Nat.mul_le_mul_right _ (by omega)
    rw [Nat.one_mul] at this
    generalize b * 2 ^ (t % 8) = x at this ⊢
    generalize 2 ^ (t % 8) = y at this hq h8
    generalize A / 256 ^ (t / 8) = z at hq ⊢
    clear hA hp
    omega
  have hU : A / 256 ^ (t / 8 + 1) = 0 := by
    rw [Nat.pow_succ, ← Nat.div_div_eq_div_mul]
    refine Nat.div_eq_of_lt (Nat.lt_of_lt_of_le hq (Nat.le_trans h8 (by decide)))
  have hmod : A / 256 ^ (t / 8) % 256 = A / 256 ^ (t / 8) := Nat.mod_eq_of_lt (Nat.lt_of_lt_of_le hq (Nat.le_trans h8 (by decide)))
  refine ⟨?_, hlt, hmod⟩
  have hnum : A % 256 ^ (t / 8) + 256 ^ (t / 8) * (A / 256 ^ (t / 8) + b * 2 ^ (t % 8)) = A + b * 2 ^ t := by
    have h4 := Nat.mod_add_div A (256 ^ (t / 8))
    rw [Nat.mul_add, hp, Nat.mul_left_comm b]
    generalize 256 ^ (t / 8) * (b * 2 ^ (t % 8)) = a1
    generalize 256 ^ (t / 8) * (A / 256 ^ (t / 8)) = a2 at h4 ⊢
    clear hA hp hq hlt hU hmod
    omega
  rcases Nat.lt_or_ge (t / 8 + 1) m with h | h
  · have := put2 m (t / 8) A (A / 256 ^ (t / 8) + b * 2 ^ (t % 8)) 0 h hU hlt (by decide)
    simp only [Nat.mul_zero, Nat.add_zero] at this
    rw [hnum] at this
    rw [← this]
    -- the second store lays the nought that is there
    refine (set_same _ _ _ (by rw [List.length_set, dig_length]; exact h) ?_).symm
    rw [List.getElem_set_ne (Nat.ne_of_lt (Nat.lt_succ_self _)), dig_at 256 m A _ h, hU]
  · have := put1 m (t / 8) A (A / 256 ^ (t / 8) + b * 2 ^ (t % 8)) (Nat.le_antisymm hat h) hU hlt
    rw [hnum] at this
    exact this

theorem byts_beyond (m A x t : Nat) (h : 8 * m ≤ t) : byts m (A + x * 2 ^ t) = byts m A := by
  unfold byts
  rw [← dig_mod 256 m (A + x * 2 ^ t), ← dig_mod 256 m A]
  congr 2
  have h5 : (256 : Nat) = 2 ^ 8 := rfl
  have e : 2 ^ t = 256 ^ m * 2 ^ (t - 8 * m) := by
    rw [h5, ← Nat.pow_mul, ← Nat.pow_add]
    congr 1
    omega
  rw [e, Nat.mul_left_comm, Nat.add_mul_mod_self_left]

/-- What a round asks of numbers alone. -/
structure BNums (m t d kk : Nat) : Prop where
  ew : wrap64 (2 * ((2 ^ (t % 8) : Nat) : Int)) = ((2 * 2 ^ (t % 8) : Nat) : Int)
  ea : wrap64 (((t / 8 : Nat) : Int) + 1) = ((t / 8 + 1 : Nat) : Int)
  ed : wrap64 (Int.tdiv ((d / 2 ^ kk : Nat) : Int) 2) = ((d / 2 ^ (kk + 1) : Nat) : Int)
  ek : wrap64 ((kk : Int) + 1) = ((kk + 1 : Nat) : Int)
  q5 : (kk : Int) < 5
  q0 : (0 : Int) ≤ ((t / 8 : Nat) : Int)
  qm : t / 8 < m → ((t / 8 : Nat) : Int) < (m : Int)
  qn : ¬ t / 8 < m → ¬ (((t / 8 : Nat) : Int) < (m : Int))
  q8 : ¬ t / 8 < m → 8 * m ≤ t
  g7 : t % 8 = 7 → (2 * 2 ^ (t % 8) : Nat) = 256 ∧ (t + 1) % 8 = 0 ∧ (t + 1) / 8 = t / 8 + 1
  g6 : ¬ t % 8 = 7 → ¬ (((2 * 2 ^ (t % 8) : Nat) : Int) = 256) ∧ (t + 1) % 8 = t % 8 + 1 ∧ (t + 1) / 8 = t / 8
  hwr : ∀ x y : Nat, x + y < 256 → wrap64 (wrap64 (x : Int) + (y : Int)) % 256 = ((x + y : Nat) : Int)
  b01 : ∀ x : Nat, x % 2 = 1 ∨ x % 2 = 0

theorem bnums (m t d kk : Nat) (ht : t ≤ 10000000000000) (hd : d < 32) (hkk : kk < 5) : BNums m t d kk := by
  have hp : (2 : Nat) ^ (t % 8) ≤ 128 := two_pow_8 _ (Nat.mod_lt _ (by decide))
  refine ⟨?_, ?_, ?_, ?_, by omega, by omega, fun h => by omega, fun h => by omega, fun h => by omega, fun h => ?_, fun h => ?_, fun x y h => ?_, fun x => by omega⟩
  · generalize 2 ^ (t % 8) = p at hp ⊢
    rw [w64 (by omega) (by omega)]; omega
  · rw [w64 (by omega) (by omega)]; omega
  · rw [tdiv2, Nat.pow_succ, ← Nat.div_div_eq_div_mul]
    have : d / 2 ^ kk ≤ d := Nat.div_le_self _ _
    generalize d / 2 ^ kk = p at this ⊢
    exact w64 (by omega) (by omega)
  · rw [w64 (by omega) (by omega)]; omega
  · rw [h]
    exact ⟨rfl, by omega, by omega⟩
  · refine ⟨?_, by omega, by omega⟩
    have h6 : (2 : Nat) ^ (t % 8) ≤ 64 := Nat.le_trans (Nat.pow_le_pow_right (by decide) (show t % 8 ≤ 6 by omega)) (by decide)
    generalize 2 ^ (t % 8) = p at h6 ⊢
    omega
  · rw [w64 (x := (x : Int)) (by omega) (by omega), w64 (by omega) (by omega)]; omega

theorem rdec_bits (s : ByteArray) (m j A0 d : Nat) (i : Nat) (hd : d < 32) (hA : A0 < 32 ^ j) (hj : 5 * j ≤ 5000000000000) (hi1 : i ≤ 1000000000000) (R : List Int × Bool) (K : Nat)
    (hK : ∀ k, K < k → chandleryref02_Decode.l0 k s (m : Int) (byts m (A0 + d * 32 ^ j)) ((2 ^ ((5 * j + 5) % 8) : Nat) : Int) (((5 * j + 5) / 8 : Nat) : Int) ((i : Int) - 1) = some R) (e : Nat) :
    ∀ k kk, kk + e = 5 → K + 3 * e + 3 < k →
    chandleryref02_Decode.l1 k s (m : Int) (byts m (A0 + d % 2 ^ kk * 32 ^ j)) ((2 ^ ((5 * j + kk) % 8) : Nat) : Int) (((5 * j + kk) / 8 : Nat) : Int) (i : Int) ((d / 2 ^ kk : Nat) : Int) (kk : Int) = some R := by
  induction e with
  | zero =>
    intro k kk hkk hk
    obtain ⟨k, rfl⟩ := succ_of_lt hk
    have e5 : kk = 5 := by clear hK hA; omega
    subst e5
    have ei : wrap64 ((i : Int) - 1) = (i : Int) - 1 := w64 (by clear hK hA; omega) (by clear hK hA; omega)
    have hK' := hK k (by clear hK hA; omega)
    rw [chandleryref02_Decode.l1, if_neg (by decide), ei, show d % 2 ^ 5 = d from Nat.mod_eq_of_lt hd]
    exact hK'
  | succ e ih =>
    intro k kk hkk hk
    obtain ⟨k, rfl⟩ := succ_of_lt hk
    obtain ⟨k, rfl⟩ := succ_of_lt (show K < k by clear hK hA ih; omega)
    have ihk := ih k (kk + 1) (by clear hK hA ih; omega) (by clear hK hA ih; omega)
    obtain ⟨ew, ea, ed, ek, q5, q0, qm, qn, q8, g7, g6, hwr, b01⟩ := bnums m (5 * j + kk) d kk (by clear hK hA ih; omega) hd (by clear hK hA ih; omega)
    have hAt : A0 + d % 2 ^ kk * 32 ^ j < 2 ^ (5 * j + kk) := by
      have h4 : (32 : Nat) = 2 ^ 5 := rfl
      have e1 : 2 ^ (5 * j + kk) = 32 ^ j * 2 ^ kk := by rw [Nat.pow_add, Nat.pow_mul]
      have h1 : d % 2 ^ kk + 1 ≤ 2 ^ kk := Nat.mod_lt _ (Nat.pow_pos (by decide))
      have h2 : 32 ^ j * (d % 2 ^ kk + 1) ≤ 32 ^ j * 2 ^ kk := Nat.mul_le_mul_left _ h1
      rw [e1, Nat.mul_comm (d % 2 ^ kk)]
      rw [Nat.mul_add, Nat.mul_one] at h2
      exact Nat.lt_of_lt_of_le (by rw [Nat.add_comm]; exact Nat.add_lt_add_left hA _) h2
    have hnext : A0 + d % 2 ^ (kk + 1) * 32 ^ j = A0 + d % 2 ^ kk * 32 ^ j + d / 2 ^ kk % 2 * 2 ^ (5 * j + kk) := by
      have e1 : 2 ^ (5 * j + kk) = 2 ^ kk * 32 ^ j := by rw [Nat.pow_add, Nat.pow_mul, Nat.mul_comm]
      rw [Nat.pow_succ, Nat.mod_mul, Nat.add_mul, e1, Nat.mul_comm (2 ^ kk) (d / 2 ^ kk % 2), Nat.mul_assoc, Nat.add_assoc]
    rw [hnext, ← Nat.add_assoc] at ihk
    clear ih hK
    -- the two last steps of a round, whatever was laid
    have hstep : ∀ y, y = byts m (A0 + d % 2 ^ kk * 32 ^ j + d / 2 ^ kk % 2 * 2 ^ (5 * j + kk)) →
        (if ((2 * 2 ^ ((5 * j + kk) % 8) : Nat) : Int) = 256 then chandleryref02_Decode.l1 k s (m : Int) y 1 (((5 * j + kk) / 8 + 1 : Nat) : Int) (i : Int) ((d / 2 ^ (kk + 1) : Nat) : Int) ((kk + 1 : Nat) : Int)
          else chandleryref02_Decode.l1 k s (m : Int) y ((2 * 2 ^ ((5 * j + kk) % 8) : Nat) : Int) (((5 * j + kk) / 8 : Nat) : Int) (i : Int) ((d / 2 ^ (kk + 1) : Nat) : Int) ((kk + 1 : Nat) : Int)) = some R := by
      rintro y rfl
      by_cases h7 : (5 * j + kk) % 8 = 7
      · obtain ⟨a1, a2, a3⟩ := g7 h7
        rw [a2, a3] at ihk
        rw [a1]
        exact (if_pos rfl).trans ihk
      · obtain ⟨a1, a2, a3⟩ := g6 h7
        rw [a2, a3, Nat.pow_succ, Nat.mul_comm _ 2] at ihk
        exact (if_neg a1).trans ihk
    rw [chandleryref02_Decode.l1, if_pos q5, tmod2]
    rcases b01 (d / 2 ^ kk) with hb | hb
    · rw [hb]
      refine (if_pos rfl).trans ?_
      rw [hb] at hstep
      by_cases hm : (5 * j + kk) / 8 < m
      · obtain ⟨p1, p2, p3⟩ := bits_put m (A0 + d % 2 ^ kk * 32 ^ j) j kk 1 hAt (by decide) hm
        rw [Nat.one_mul] at p1 p2
        have er : rd (byts m (A0 + d % 2 ^ kk * 32 ^ j)) (((5 * j + kk) / 8 : Nat) : Int) = (((A0 + d % 2 ^ kk * 32 ^ j) / 256 ^ ((5 * j + kk) / 8) : Nat) : Int) := by
          unfold byts
          rw [rd_map _ _ (by rw [dig_length]; exact hm), dig_at 256 _ _ _ hm, p3]
        rw [decide_eq_true (qm hm), chandleryref02_Decode.j2, er, hwr _ _ p2, ew, ea, ed, ek, Int.toNat_natCast]
        refine (if_pos rfl).trans ((if_pos q0).trans ((if_pos (by rw [byts_length]; exact qm hm)).trans ?_))
        rw [Option.bind_some]
        refine hstep _ ?_
        unfold byts
        rw [← List.map_set, p1, Nat.one_mul]
      · rw [decide_eq_false (qn hm), chandleryref02_Decode.j2, ew, ea, ed, ek]
        refine (if_neg (by decide)).trans ?_
        exact hstep _ (byts_beyond m _ 1 _ (q8 hm)).symm
    · rw [hb]
      refine (if_neg (by decide)).trans ?_
      rw [hb] at hstep
      rw [chandleryref02_Decode.j2, ew, ea, ed, ek]
      refine (if_neg (by decide)).trans ?_
      exact hstep _ (by rw [Nat.zero_mul, Nat.add_zero])

theorem rdec_loop (s : ByteArray) (hs : s.size ≤ 1000000000) (n : Nat) : ∀ k j, j + n = s.size → 60 * n + 60 * s.size + 200 < k →
    (∀ x ∈ (vals s.data.toList).take j, x < 32) →
    ∃ r, (∃ K, ∀ k, K < k → chandleryref02_Decode.l0 k s ((msz s.size : Nat) : Int) (byts (msz s.size) (und 32 ((vals s.data.toList).take j))) ((2 ^ ((5 * j) % 8) : Nat) : Int) (((5 * j) / 8 : Nat) : Int) ((n : Int) - 1) = some r) ∧
      (TellsB s.data.toList → r = (byts (msz s.size) (und 32 (vals s.data.toList)), true)) ∧ (¬ TellsB s.data.toList → r.2 = false) := by
  have hsl : s.data.toList.length = s.size := (ba_size s).symm
  have hvl : (vals s.data.toList).length = s.size := by rw [vals_length, hsl]
  induction n with
  | zero =>
    intro k j hj hk hlt
    have et : (vals s.data.toList).take j = vals s.data.toList := List.take_of_length_le (by omega)
    rw [et] at hlt ⊢
    have hx := byt_byts (msz s.size) (und 32 (vals s.data.toList))
    obtain ⟨K1, h1⟩ := renc_f (byts (msz s.size) (und 32 (vals s.data.toList))) hx (by rw [byts_length]; unfold msz; omega)
    simp only [] at h1
    refine ⟨(byts (msz s.size) (und 32 (vals s.data.toList)), encL (byts (msz s.size) (und 32 (vals s.data.toList))) == s.data.toList), ⟨K1 + 1, fun k hk => ?_⟩, fun ht => ?_, fun ht => ?_⟩
    · obtain ⟨k, rfl⟩ := succ_of_lt hk
      have h1' := h1 k (by clear h1 hlt; omega)
      rw [chandleryref02_Decode.l0, if_neg (by clear h1 hlt h1'; omega), h1', Option.bind_some, ba_toList, ba_toList, ba_mk]
    · have := enc_told _ ht
      rw [hsl] at this
      rw [this]
      simp
    · refine beq_eq_false_iff_ne.2 (fun h => ht ?_)
      rw [← h]
      exact told_encL _ hx
  | succ n ih =>
    intro k j hj hk hlt
    have hjl : j < (vals s.data.toList).length := by clear hlt ih; omega
    have hi : n < s.data.toList.length := by clear hlt ih; omega
    have q1 : (((n + 1 : Nat) : Int) - 1) = (n : Int) := by clear hlt ih; omega
    have q2 : (n : Int) ≥ 0 := by clear hlt ih; omega
    have q3 : (n : Int) < (s.size : Int) := by clear hlt ih; omega
    have ev : (vals s.data.toList)[j] = dval (s.data.toList[n]) := by
      simp only [vals, List.getElem_map, List.getElem_reverse]
      congr 2
      clear hlt ih
      omega
    have ebt := bt_list s n hi
    have hUi : und 32 ((vals s.data.toList).take j) < 32 ^ j := by
      have := und_lt 32 (by decide) _ hlt
      rw [List.length_take, Nat.min_eq_left (Nat.le_of_lt hjl)] at this
      exact this
    have hsplit : ∀ c, dval c = 32 ∨ dval c < 32 := fun c => Nat.eq_or_lt_of_le (dval_le c)
    rcases hsplit (s.data.toList[n]) with h32 | hd
    · refine ⟨([], false), ⟨40, fun k hk => ?_⟩, fun ht => ?_, fun _ => rfl⟩
      · obtain ⟨k, rfl⟩ := succ_of_lt hk
        have hv := value_f (s.data.toList[n]) k (by clear hlt ih hUi; omega)
        rw [if_pos h32] at hv
        rw [q1, chandleryref02_Decode.l0]
        refine (if_pos q2).trans ((if_pos q2).trans ((if_pos q3).trans ?_))
        rw [ebt]
        refine (congrArg (fun z => Option.bind z _) hv).trans ?_
        rw [Option.bind_some]
        exact if_pos (by decide)
      · have := ht.2.1 _ (List.getElem_mem hjl)
        rw [ev, h32] at this
        exact absurd this (by decide)
    · have hlt' : ∀ x ∈ (vals s.data.toList).take (j + 1), x < 32 := fun x hx => by
        rw [List.take_succ_eq_append_getElem hjl, List.mem_append] at hx
        rcases hx with hx | hx
        · exact hlt x hx
        · rw [List.mem_singleton.1 hx, ev]; exact hd
      obtain ⟨r, ⟨K, hK⟩, h2⟩ := ih (k + 0) (j + 1) (by clear hlt ih hUi; omega) (by clear hlt ih hUi; omega) hlt'
      rw [und_take 32 _ j hjl, ev] at hK
      have hb := rdec_bits s (msz s.size) j (und 32 ((vals s.data.toList).take j)) (dval (s.data.toList[n])) n hd hUi (by clear hlt ih hUi hK; omega) (by clear hlt ih hUi hK; omega) r K hK 5
      refine ⟨r, ⟨K + 60, fun k hk => ?_⟩, h2⟩
      obtain ⟨k, rfl⟩ := succ_of_lt hk
      have hv := value_f (s.data.toList[n]) k (by clear hlt ih hUi hK hb; omega)
      have hb' := hb k 0 rfl (by clear hlt ih hUi hK hb; omega)
      have hn32 : ¬ dval (s.data.toList[n]) = 32 := Nat.ne_of_lt hd
      rw [if_neg hn32] at hv
      rw [Nat.pow_zero, Nat.mod_one, Nat.zero_mul, Nat.add_zero, Nat.div_one] at hb'
      rw [q1, chandleryref02_Decode.l0]
      refine (if_pos q2).trans ((if_pos q2).trans ((if_pos q3).trans ?_))
      rw [ebt]
      refine (congrArg (fun z => Option.bind z _) hv).trans ?_
      rw [Option.bind_some]
      refine (if_neg (Int.not_lt.2 (Int.natCast_nonneg _))).trans ?_
      exact hb'

theorem rdec_f (s : ByteArray) (hs : s.size ≤ 1000000) : ∃ r, (∃ K, ∀ k, K < k → chandleryref02_Decode.f k s = some r) ∧
    (TellsB s.data.toList → r = (byts (msz s.size) (und 32 (vals s.data.toList)), true)) ∧ (¬ TellsB s.data.toList → r.2 = false) := by
  obtain ⟨r, ⟨K, hK⟩, h2⟩ := rdec_loop s (by omega) s.size (120 * s.size + 201) 0 (Nat.zero_add _) (by omega) (fun x hx => by rw [List.take_zero] at hx; cases hx)
  refine ⟨r, ⟨K, fun k hk => ?_⟩, h2⟩
  have hK' := hK k hk
  clear hK
  rw [List.take_zero, show und 32 [] = 0 from rfl] at hK'
  have em : wrap64 (Int.tdiv (wrap64 ((s.size : Int) * 5)) 8) = ((msz s.size : Nat) : Int) := by
    clear hK'
    rw [w64 (x := (s.size : Int) * 5) (by omega) (by omega), Int.tdiv_eq_ediv_of_nonneg (by omega), w64 (by omega) (by omega)]
    unfold msz; omega
  have e1 : wrap64 ((s.size : Int) - 1) = (s.size : Int) - 1 := w64 (by clear hK'; omega) (by clear hK'; omega)
  have c1 : (0 : Int) ≤ ((msz s.size : Nat) : Int) := Int.natCast_nonneg _
  have c2 : msz s.size ≤ 281474976710656 := by clear hK'; unfold msz; omega
  unfold chandleryref02_Decode.f
  rw [em, e1, Int.toNat_natCast]
  refine (if_pos c1).trans ((if_pos c2).trans ?_)
  rw [byts_zero]
  exact hK'

end Go.Proofs.YtalbbifgkninmaaDoorX
