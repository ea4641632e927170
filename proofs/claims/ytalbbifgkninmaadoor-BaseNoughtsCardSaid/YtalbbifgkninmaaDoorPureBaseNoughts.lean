/- BaseNoughts: bytes with noughts behind them have the same digits with noughts ahead, and one digit that is none makes a text none's: the plain statement. Conditions: none. -/
import Derived.Test.YtalbbifgkninmaaDoorQBasex7
import Derived.Test.YtalbbifgkninmaaDoorBaseLaws
set_option linter.unusedVariables false
namespace Go.Proofs.YtalbbifgkninmaaDoor.Pure
open Go.RowKit Go.Proofs.YtalbbifgkninmaaDoor.PBase Go.Proofs.YtalbbifgkninmaaDoorW.PrintWords Go.Proofs.YtalbbifgkninmaaDoorW.PrintLast Go.Proofs.YtalbbifgkninmaaDoorW.PrintMore Go.Proofs.YtalbbifgkninmaaDoorX

theorem nodigit (c : Int) (h0 : 0 ≤ c) (h1 : c ≤ 255) (ha : ¬ (48 ≤ c ∧ c ≤ 57)) (hb : 97 ≤ c → c ≤ 122 → c = 101 ∨ c = 111 ∨ c = 116 ∨ c = 117) : dval (UInt8.ofNat c.toNat) = 32 := by
  obtain ⟨n, rfl⟩ := Int.eq_ofNat_of_zero_le h0
  have key : ∀ m : Fin 256, ¬ (48 ≤ m.val ∧ m.val ≤ 57) → (97 ≤ m.val → m.val ≤ 122 → m.val = 101 ∨ m.val = 111 ∨ m.val = 116 ∨ m.val = 117) → dval (UInt8.ofNat m.val) = 32 := by decide +kernel
  rw [Int.toNat_natCast]
  exact key ⟨n, by omega⟩ (by simp only; omega) (by simp only; omega)

/-- Behind the loop: the one digit that is none, or nothing more. -/
theorem noughts_end (s : ByteArray) (hs : s.size ≤ 1000) (at_ c : Int) (h0 : 0 ≤ c) (h1 : c ≤ 255) : ∃ K, ∀ k, K < k →
    chandlerylaw02_BaseNoughts.j3 k at_ c s true = some true ∧
    (0 ≤ at_ → at_ < (s.size : Int) → dval (UInt8.ofNat c.toNat) = 32 → chandlerylaw02_BaseNoughts.j3 k at_ c s false = some true) := by
  obtain ⟨K4, h4⟩ := awake_ev
  simp only [] at h4
  by_cases hat : 0 ≤ at_ ∧ at_ < (s.size : Int)
  · obtain ⟨n, rfl⟩ := Int.eq_ofNat_of_zero_le hat.1
    have hn : n < s.size := by omega
    have hsl : s.data.toList.length = s.size := (ba_size s).symm
    have e1 : wrap64 ((n : Int) + 1) = ((n + 1 : Nat) : Int) := by rw [w64 (by omega) (by omega)]; omega
    have hz1 : (s.extract 0 n).size = n := by rw [ba_size, ba_extract]; simp only [List.length_take, List.length_drop]; omega
    have hz2 : (strOfNums [c]).size = 1 := by rw [strOfNums_size]; rfl
    have hz3 : (s.extract (n + 1) s.size).size = s.size - (n + 1) := by rw [ba_size, ba_extract]; simp only [List.length_take, List.length_drop]; omega
    have hz4 : (s.extract 0 n ++ strOfNums [c]).size = n + 1 := by rw [ba_size, ba_append, List.length_append, ← ba_size, ← ba_size, hz1, hz2]
    have hz5 : (s.extract 0 n ++ strOfNums [c] ++ s.extract (n + 1) s.size).size = s.size := by rw [ba_size, ba_append, List.length_append, ← ba_size, ← ba_size, hz4, hz3]; omega
    obtain ⟨r, ⟨K5, h5⟩, _, t2⟩ := dec_f (s.extract 0 n ++ strOfNums [c] ++ s.extract (n + 1) s.size) (by omega)
    simp only [] at h5
    refine ⟨K4 + K5, fun k hk => ?_⟩
    obtain ⟨k, rfl⟩ := succ_of_lt hk
    constructor
    · rw [chandlerylaw02_BaseNoughts.j3, if_pos rfl, h4 _ (by omega)]; rfl
    · intro _ _ hv
      have hno : ¬ TellsB (s.extract 0 n ++ strOfNums [c] ++ s.extract (n + 1) s.size).data.toList := by
        rintro ⟨_, h2, _⟩
        have hmem : UInt8.ofNat c.toNat ∈ (s.extract 0 n ++ strOfNums [c] ++ s.extract (n + 1) s.size).data.toList := by
          rw [ba_append, ba_append]
          exact List.mem_append_left _ (List.mem_append_right _ (by simp [strOfNums]))
        have := h2 (dval (UInt8.ofNat c.toNat)) (List.mem_map.2 ⟨_, List.mem_reverse.2 hmem, rfl⟩)
        omega
      rw [chandlerylaw02_BaseNoughts.j3, if_neg (by decide), if_pos (by omega), if_pos (by omega), Option.bind_some, Int.toNat_natCast, if_pos (by omega), e1, if_pos (by omega), if_pos (by omega), Int.toNat_natCast, if_pos (by omega), h5 _ (by omega), Option.bind_some, h4 _ (by omega), Option.bind_some, if_pos rfl, t2 hno]
      rfl
  · refine ⟨K4, fun k hk => ?_⟩
    obtain ⟨k, rfl⟩ := succ_of_lt hk
    refine ⟨?_, fun a b => absurd ⟨a, b⟩ hat⟩
    rw [chandlerylaw02_BaseNoughts.j3, if_pos rfl, h4 _ (by omega)]; rfl

theorem noughts_loop (m : Nat) (hm : m ≤ 20) (s t : ByteArray) (hs : s.size ≤ 1000) (ht : t.data.toList = List.replicate (8 * m) 48 ++ s.data.toList) (at_ c : Int) (h0 : 0 ≤ c) (h1 : c ≤ 255) (K : Nat)
    (hK : ∀ k, K < k → chandlerylaw02_BaseNoughts.j3 k at_ c s true = some true ∧
      (0 ≤ at_ → at_ < (s.size : Int) → dval (UInt8.ofNat c.toNat) = 32 → chandlerylaw02_BaseNoughts.j3 k at_ c s false = some true)) (d : Nat) :
    ∀ k i, i + d = 8 * m → K + d + 2 < k → chandlerylaw02_BaseNoughts.l0 k (m : Int) at_ c s t (i : Int) = some true := by
  have e8 : wrap64 (8 * (m : Int)) = ((8 * m : Nat) : Int) := by rw [w64 (by omega) (by omega)]; omega
  have htl : t.size = 8 * m + s.size := by rw [ba_size, ht, List.length_append, List.length_replicate, ← ba_size]
  induction d with
  | zero =>
    intro k i hi hk
    obtain ⟨k, rfl⟩ := succ_of_lt hk
    obtain ⟨g1, g2⟩ := hK k (by omega)
    rw [chandlerylaw02_BaseNoughts.l0, e8, if_neg (by omega)]
    by_cases c1 : at_ < 0
    · rw [if_pos c1]; exact g1
    rw [if_neg c1]
    by_cases c2 : at_ ≥ (s.size : Int)
    · rw [if_pos c2]; exact g1
    rw [if_neg c2]
    have g3 : dval (UInt8.ofNat c.toNat) = 32 → chandlerylaw02_BaseNoughts.j3 k at_ c s false = some true := g2 (by omega) (by omega)
    have nd := nodigit c h0 h1
    by_cases d1 : c ≥ 48
    · rw [if_pos d1]
      by_cases d2 : c ≤ 57
      · rw [if_pos d2]; exact g1
      rw [if_neg d2]
      by_cases d3 : c ≥ 97
      · rw [if_pos d3]
        by_cases d4 : c ≤ 122
        · rw [if_pos d4]
          by_cases d5 : c = 101
          · rw [if_pos d5]; exact g3 (nd (by omega) (by omega))
          rw [if_neg d5]
          by_cases d6 : c = 111
          · rw [if_pos d6]; exact g3 (nd (by omega) (by omega))
          rw [if_neg d6]
          by_cases d7 : c = 116
          · rw [if_pos d7]; exact g3 (nd (by omega) (by omega))
          rw [if_neg d7]
          by_cases d8 : c = 117
          · rw [show (c != 117) = false by simp [d8]]; exact g3 (nd (by omega) (by omega))
          · rw [show (c != 117) = true by simp [d8]]; exact g1
        · rw [if_neg d4]; exact g3 (nd (by omega) (by omega))
      · rw [if_neg d3]; exact g3 (nd (by omega) (by omega))
    · rw [if_neg d1]
      have d3 : ¬ c ≥ 97 := by omega
      rw [if_neg d3]; exact g3 (nd (by omega) (by omega))
  | succ d ih =>
    intro k i hi hk
    obtain ⟨k, rfl⟩ := succ_of_lt hk
    have q1 : (i : Int) < ((8 * m : Nat) : Int) := by omega
    have q2 : (0 : Int) ≤ (i : Int) := by omega
    have q3 : (i : Int) < (t.size : Int) := by omega
    have ei : wrap64 ((i : Int) + 1) = ((i + 1 : Nat) : Int) := by rw [w64 (by omega) (by omega)]; omega
    have ih' := ih k (i + 1) (by omega) (by omega)
    have hb : bt t (i : Int) = 48 := by
      rw [bt_list t i (by rw [ht, List.length_append, List.length_replicate]; omega)]
      have : t.data.toList[i]'(by rw [ht, List.length_append, List.length_replicate]; omega) = 48 := by
        simp only [ht]
        rw [List.getElem_append_left (by rw [List.length_replicate]; omega), List.getElem_replicate]
      rw [this]; rfl
    rw [chandlerylaw02_BaseNoughts.l0, e8, if_pos q1, if_pos q2, if_pos q3, if_pos hb, ei]
    exact ih'

theorem BaseNoughts : chandlerylaw02_BaseNoughts.Pure := by
  intro b more at_ c x1_ x2_ hb0 hm0 hat0 hc0
  clear x1_ x2_ hm0 hat0
  have hb := byt_of_wf hb0
  obtain ⟨hc1, hc2⟩ := u8_of_wf hc0
  by_cases c1 : (b.length : Int) > 300
  · refine ⟨1, ?_⟩
    unfold chandlerylaw02_BaseNoughts.f
    rw [if_pos c1, chandlerylaw02_BaseNoughts.j0, if_pos rfl]
  by_cases c2 : more < 0
  · refine ⟨1, ?_⟩
    unfold chandlerylaw02_BaseNoughts.f
    rw [if_neg c1, if_pos c2, chandlerylaw02_BaseNoughts.j0, if_pos rfl]
  by_cases c3 : more > 20
  · refine ⟨1, ?_⟩
    unfold chandlerylaw02_BaseNoughts.f
    rw [if_neg c1, if_neg c2, decide_eq_true c3, chandlerylaw02_BaseNoughts.j0, if_pos rfl]
  obtain ⟨m, rfl⟩ := Int.eq_ofNat_of_zero_le (show 0 ≤ more by omega)
  have hm : m ≤ 20 := by omega
  have hball : Byt (b ++ List.replicate (5 * m) 0) := by
    intro x hx
    rcases List.mem_append.1 hx with hx | hx
    · exact hb x hx
    · rw [List.eq_of_mem_replicate hx]; omega
  obtain ⟨K1, h1⟩ := enc_f b hb (by omega)
  obtain ⟨K2, h2⟩ := enc_f (b ++ List.replicate (5 * m) 0) hball (by rw [List.length_append, List.length_replicate]; omega)
  have hsz : (⟨(encL b).toArray⟩ : ByteArray).size = sz b.length := by rw [ba_size, ba_mk, encL_len]
  have hszb : sz b.length ≤ 600 := by unfold sz; omega
  have htz : (⟨(encL (b ++ List.replicate (5 * m) 0)).toArray⟩ : ByteArray).size = 8 * m + sz b.length := by
    rw [ba_size, ba_mk, enc_noughts b hb m, List.length_append, List.length_replicate, encL_len]
  obtain ⟨K, hK⟩ := noughts_end ⟨(encL b).toArray⟩ (by omega) at_ c hc1 hc2
  have hlo := noughts_loop m hm ⟨(encL b).toArray⟩ ⟨(encL (b ++ List.replicate (5 * m) 0)).toArray⟩ (by omega) (by rw [ba_mk, ba_mk, enc_noughts b hb m]) at_ c hc1 hc2 K hK (8 * m)
  simp only [] at h1 h2
  have e5 : wrap64 (5 * (m : Int)) = ((5 * m : Nat) : Int) := by rw [w64 (by omega) (by omega)]; omega
  have e8 : wrap64 (8 * (m : Int)) = ((8 * m : Nat) : Int) := by rw [w64 (by omega) (by omega)]; omega
  have es : wrap64 (((sz b.length : Nat) : Int) + ((8 * m : Nat) : Int)) = ((8 * m + sz b.length : Nat) : Int) := by rw [w64 (by omega) (by omega)]; omega
  have ex : ((⟨(encL (b ++ List.replicate (5 * m) 0)).toArray⟩ : ByteArray).extract (8 * m) (8 * m + sz b.length)).toList = encL b := by
    rw [ba_toList, ba_extract, ba_mk, enc_noughts b hb m, List.drop_left' (by rw [List.length_replicate]), show 8 * m + sz b.length - 8 * m = (encL b).length by rw [encL_len]; omega, List.take_length]
  refine ⟨K1 + K2 + K + 8 * m + 3 + 2, ?_⟩
  unfold chandlerylaw02_BaseNoughts.f
  rw [if_neg c1, if_neg c2, decide_eq_false c3, chandlerylaw02_BaseNoughts.j0, if_neg (by decide), Option.bind_some, if_pos (by rw [List.length_nil]; omega), Option.bind_some, List.nil_append, e5, if_pos (by omega), Int.toNat_natCast, if_pos (by omega), h1 _ (by omega), Option.bind_some, h2 _ (by omega), Option.bind_some, hsz, htz, e8, es, if_pos rfl, if_pos (by omega), if_pos (by omega), Int.toNat_natCast, ex, ba_toList, ba_mk]
  rw [show (encL b != encL b) = false by simp, chandlerylaw02_BaseNoughts.j1, if_neg (by decide)]
  exact hlo _ 0 (by omega) (by omega)

end Go.Proofs.YtalbbifgkninmaaDoor.Pure
