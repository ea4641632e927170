/- BaseOrder: of two rows of one length, digits rise as the bytes, read from behind, rise: the plain statement. Conditions: none. -/
import Derived.Test.YtalbbifgkninmaaDoorQBasex6
import Derived.Test.YtalbbifgkninmaaDoorBaseLaws
set_option linter.unusedVariables false
namespace Go.Proofs.YtalbbifgkninmaaDoor.Pure
open Go.RowKit Go.Proofs.YtalbbifgkninmaaDoor.PBase Go.Proofs.YtalbbifgkninmaaDoorW.PrintWords Go.Proofs.YtalbbifgkninmaaDoorW.PrintLast Go.Proofs.YtalbbifgkninmaaDoorW.PrintMore Go.Proofs.YtalbbifgkninmaaDoorX

/-- The last step: the digits are held against what the loop told. -/
theorem order_end (a b : List Int) (ha : Byt a) (hb : Byt b) (hl : a.length = b.length) (h1000 : a.length ≤ 1000) :
    ∃ K, ∀ k, K < k → ∀ i : Int, chandlerylaw02_BaseOrder.j2 k a b (decide (und 256 (nats a) < und 256 (nats b))) (decide (a = b)) i false = some true := by
  obtain ⟨K1, h1⟩ := enc_f a ha (by omega)
  obtain ⟨K3, h3⟩ := enc_f b hb (by omega)
  obtain ⟨K4, h4⟩ := awake_ev
  simp only [] at h1 h3 h4
  refine ⟨K1 + K3 + K4, fun k hk i => ?_⟩
  obtain ⟨k, rfl⟩ := succ_of_lt hk
  rw [chandlerylaw02_BaseOrder.j2, if_neg (by decide), h1 _ (by omega), Option.bind_some, h3 _ (by omega), Option.bind_some, h4 _ (by omega), Option.bind_some, if_pos rfl, ba_toList, ba_toList, ba_mk, ba_mk, less_encL a b ha hb hl]
  rw [if_pos (by simp)]
  have : (encL a == encL b) = decide (a = b) := by
    by_cases e : a = b
    · subst e; simp
    · rw [beq_eq_false_iff_ne.2 (fun h => e (encL_inj a b ha hb h)), decide_eq_false e]
  rw [this]
  simp

theorem order_loop (a b : List Int) (ha : Byt a) (hb : Byt b) (hl : a.length = b.length) (h1000 : a.length ≤ 1000) (K : Nat)
    (hK : ∀ k, K < k → ∀ i : Int, chandlerylaw02_BaseOrder.j2 k a b (decide (und 256 (nats a) < und 256 (nats b))) (decide (a = b)) i false = some true) (n : Nat) :
    ∀ k, n ≤ a.length → K + 2 * n + 5 < k → a.drop n = b.drop n →
      chandlerylaw02_BaseOrder.l0 k a b false true ((n : Int) - 1) = some true := by
  induction n with
  | zero =>
    intro k hn hk hd
    obtain ⟨k, rfl⟩ := succ_of_lt hk
    have e : a = b := by simpa using hd
    have hK' := hK k (by omega) (((0 : Nat) : Int) - 1)
    rw [e] at hK' ⊢
    rw [chandlerylaw02_BaseOrder.l0, if_neg (by omega)]
    simpa using hK'
  | succ n ih =>
    intro k hn hk hd
    obtain ⟨k, rfl⟩ := succ_of_lt hk
    obtain ⟨k, rfl⟩ := succ_of_lt (show K < k by omega)
    have hna : n < a.length := hn
    have hnb : n < b.length := by omega
    have e0 : (((n + 1 : Nat) : Int) - 1) = (n : Int) := by omega
    have e1 : wrap64 ((n : Int) - 1) = (n : Int) - 1 := w64 (by omega) (by omega)
    rw [e0, chandlerylaw02_BaseOrder.l0, if_pos (by omega), chandlerylaw02_BaseOrder.j2, if_pos rfl, if_pos (by omega), if_pos (by omega), if_pos (by omega), e1]
    by_cases c : rd a (n : Int) = rd b (n : Int)
    · rw [if_pos c]
      refine ih k (by omega) (by omega) ?_
      rw [List.drop_eq_getElem_cons hna, List.drop_eq_getElem_cons hnb, hd]
      have c' : a[n] = b[n] := by
        unfold rd at c
        simpa [List.getD_eq_getElem?_getD, List.getElem?_eq_getElem hna, List.getElem?_eq_getElem hnb] using c
      rw [c']
    · rw [if_neg c]
      obtain ⟨k, rfl⟩ := succ_of_lt (show K < k by omega)
      have hne : a ≠ b := by rintro rfl; exact c rfl
      -- the numbers differ at place n, and above it they are one
      have key : decide (rd a (n : Int) < rd b (n : Int)) = decide (und 256 (nats a) < und 256 (nats b)) := by
        have sp : ∀ l : List Int, Byt l → n < l.length → und 256 (nats l) = und 256 (nats (l.take n)) + 256 ^ n * ((rd l (n : Int)).toNat + 256 * und 256 (nats (l.drop (n + 1)))) ∧ und 256 (nats (l.take n)) < 256 ^ n ∧ (rd l (n : Int)) = (((rd l (n : Int)).toNat : Nat) : Int) := by
          intro l h hn
          have h1 : nats l = nats (l.take n) ++ (rd l (n : Int)).toNat :: nats (l.drop (n + 1)) := by
            conv => lhs; rw [← List.take_append_drop n l, List.drop_eq_getElem_cons hn]
            unfold nats
            rw [List.map_append, List.map_cons]
            congr 2
            unfold rd
            rw [Int.toNat_natCast, List.getD_eq_getElem?_getD, List.getElem?_eq_getElem hn]
            rfl
          have hl : (nats (l.take n)).length = n := by rw [nats_length, List.length_take]; omega
          have hb := h _ (rd_mem l n hn)
          refine ⟨?_, ?_, by omega⟩
          · conv => lhs; rw [h1]
            rw [und_append, hl]
            rfl
          · have := und_lt 256 (by decide) (nats (l.take n)) (nats_lt _ (fun x hx => h x (List.mem_of_mem_take hx)))
            rwa [hl] at this
        obtain ⟨a1, a2, a3⟩ := sp a ha hna
        obtain ⟨b1, b2, b3⟩ := sp b hb hnb
        rw [hd] at a1
        have e3 : (rd a (n : Int) < rd b (n : Int)) ↔ ((rd a (n : Int)).toNat < (rd b (n : Int)).toNat) := by clear a1 b1 a2 b2; omega
        rw [decide_eq_decide, e3, a1, b1]
        have hne2 : (rd a (n : Int)).toNat ≠ (rd b (n : Int)).toNat := fun h => c (by rw [a3, b3, h])
        clear a1 b1 a3 b3 hK ih c e3
        generalize (rd a (n : Int)).toNat = x at hne2 ⊢
        generalize (rd b (n : Int)).toNat = y at hne2 ⊢
        generalize und 256 (nats (a.take n)) = A at a2 ⊢
        generalize und 256 (nats (b.take n)) = B at b2 ⊢
        generalize 256 * und 256 (nats (b.drop (n + 1))) = D
        generalize 256 ^ n = P at a2 b2 ⊢
        rw [Nat.mul_add, Nat.mul_add]
        generalize P * D = Q
        rcases Nat.lt_or_gt_of_ne hne2 with h | h
        · have : P * (x + 1) ≤ P * y := Nat.mul_le_mul_left _ h
          rw [Nat.mul_add, Nat.mul_one] at this
          generalize P * x = X at this ⊢
          generalize P * y = Y at this ⊢
          omega
        · have : P * (y + 1) ≤ P * x := Nat.mul_le_mul_left _ h
          rw [Nat.mul_add, Nat.mul_one] at this
          generalize P * x = X at this ⊢
          generalize P * y = Y at this ⊢
          omega
      rw [key]
      have hK' := hK k (by omega) ((n : Int) - 1)
      rw [decide_eq_false hne] at hK'
      rw [chandlerylaw02_BaseOrder.l0]
      split <;> exact hK'

theorem BaseOrder : chandlerylaw02_BaseOrder.Pure := by
  intro a b _ _ ha0 _ _ hb0
  have ha := byt_of_wf ha0
  have hb := byt_of_wf hb0
  by_cases c1 : (a.length : Int) > 1000
  · refine ⟨1, ?_⟩
    unfold chandlerylaw02_BaseOrder.f
    rw [if_pos c1, chandlerylaw02_BaseOrder.j0, if_pos rfl]
  by_cases c2 : a.length = b.length
  · obtain ⟨K, hK⟩ := order_end a b ha hb c2 (by omega)
    refine ⟨K + 2 * a.length + 5 + 2, ?_⟩
    unfold chandlerylaw02_BaseOrder.f
    have e : ((a.length : Int) != (b.length : Int)) = false := by rw [c2]; simp
    rw [if_neg c1, e, chandlerylaw02_BaseOrder.j0, if_neg (by decide), w64 (by omega) (by omega)]
    exact order_loop a b ha hb c2 (by omega) K hK a.length _ (Nat.le_refl _) (by omega) (by rw [List.drop_length, c2, List.drop_length])
  · refine ⟨1, ?_⟩
    unfold chandlerylaw02_BaseOrder.f
    have e : ((a.length : Int) != (b.length : Int)) = true := by rw [bne_iff_ne]; omega
    rw [if_neg c1, e, chandlerylaw02_BaseOrder.j0, if_pos rfl]

end Go.Proofs.YtalbbifgkninmaaDoor.Pure
