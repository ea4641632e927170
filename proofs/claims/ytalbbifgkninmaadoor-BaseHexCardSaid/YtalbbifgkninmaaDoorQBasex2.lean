-- printed with xprint.py over the kit's print
import Derived.Test.YtalbbifgkninmaaDoorQBasex0
import Derived.Test.YtalbbifgkninmaaDoorQBasex1
namespace Go.Proofs.YtalbbifgkninmaaDoor.PBase
open Go.RowKit Go.Proofs.YtalbbifgkninmaaDoorW.PrintWords Go.Proofs.YtalbbifgkninmaaDoorW.PrintLast Go.Proofs.YtalbbifgkninmaaDoorW.PrintMore
attribute [local go_sem] max2_int min2_int max_two min_two max_three min_three max_four min_four   -- for this text's walks alone
set_option linter.unusedVariables false
set_option linter.unusedSimpArgs false

/-! ### chandleryref02_Hex: function 11 -/
def chandleryref02_Hex.l0 : Nat → List Int → ByteArray → ByteArray → Int → Option (ByteArray)
  | 0, _, _, _, _ => none
  | k + 1, x0, x3, x4, x5 => if x5 < (x0.length : Int) then (if 0 ≤ x5 then (if 0 ≤ (wrap64 (Int.tdiv (wrap64 (rd x0 x5)) 16)) then (if (wrap64 (Int.tdiv (wrap64 (rd x0 x5)) 16)) ≤ (wrap64 ((wrap64 (Int.tdiv (wrap64 (rd x0 x5)) 16)) + 1)) then (if (wrap64 ((wrap64 (Int.tdiv (wrap64 (rd x0 x5)) 16)) + 1)) ≤ (x3.size : Int) then (if x4.size + (x3.extract ((wrap64 (Int.tdiv (wrap64 (rd x0 x5)) 16)) : Int).toNat ((wrap64 ((wrap64 (Int.tdiv (wrap64 (rd x0 x5)) 16)) + 1)) : Int).toNat).size ≤ 9223372036854775807 then (if 0 ≤ (Int.tmod (wrap64 (rd x0 x5)) 16) then (if (Int.tmod (wrap64 (rd x0 x5)) 16) ≤ (wrap64 ((Int.tmod (wrap64 (rd x0 x5)) 16) + 1)) then (if (wrap64 ((Int.tmod (wrap64 (rd x0 x5)) 16) + 1)) ≤ (x3.size : Int) then (if (x4 ++ (x3.extract ((wrap64 (Int.tdiv (wrap64 (rd x0 x5)) 16)) : Int).toNat ((wrap64 ((wrap64 (Int.tdiv (wrap64 (rd x0 x5)) 16)) + 1)) : Int).toNat)).size + (x3.extract ((Int.tmod (wrap64 (rd x0 x5)) 16) : Int).toNat ((wrap64 ((Int.tmod (wrap64 (rd x0 x5)) 16) + 1)) : Int).toNat).size ≤ 9223372036854775807 then (chandleryref02_Hex.l0 k x0 x3 ((x4 ++ (x3.extract ((wrap64 (Int.tdiv (wrap64 (rd x0 x5)) 16)) : Int).toNat ((wrap64 ((wrap64 (Int.tdiv (wrap64 (rd x0 x5)) 16)) + 1)) : Int).toNat)) ++ (x3.extract ((Int.tmod (wrap64 (rd x0 x5)) 16) : Int).toNat ((wrap64 ((Int.tmod (wrap64 (rd x0 x5)) 16) + 1)) : Int).toNat)) (wrap64 (x5 + 1))) else (none)) else (none)) else (none)) else (none)) else (none)) else (none)) else (none)) else (none)) else (none)) else (some x4)
def chandleryref02_Hex.f (k : Nat) (l0 : List Int) : Option (ByteArray) := chandleryref02_Hex.l0 k l0 (⟨#[48, 49, 50, 51, 52, 53, 54, 55, 56, 57, 97, 98, 99, 100, 101, 102]⟩ : ByteArray) (⟨#[]⟩ : ByteArray) 0
theorem chandleryref02_Hex.mono_l : ∀ k, (∀ y0 y1 y2 y3, LeO (chandleryref02_Hex.l0 k y0 y1 y2 y3) (chandleryref02_Hex.l0 (k + 1) y0 y1 y2 y3))
  | 0 => fun _ _ _ _ r h => by simp [chandleryref02_Hex.l0] at h
  | k + 1 => by
    have ih0 := chandleryref02_Hex.mono_l k
    · intro y0 y1 y2 y3
      unfold chandleryref02_Hex.l0
      repeat' first
      | (with_reducible exact ih0 _ _ _ _)
      | (with_reducible exact LeO.refl _)
      | (with_reducible exact LeO.none _)
      | (with_reducible refine LeO.ite ?_ ?_)
      | (with_reducible refine LeO.bind ?_ (fun _ => ?_))
      | exact ih0 _ _ _ _
      | exact LeO.none _
      | refine LeO.ite ?_ ?_
      | refine LeO.bind ?_ (fun _ => ?_)
theorem chandleryref02_Hex.mono : ∀ a0 k, LeO (chandleryref02_Hex.f k a0) (chandleryref02_Hex.f (k + 1) a0) := by
  intro a0 k
  have ih0 := chandleryref02_Hex.mono_l k
  unfold chandleryref02_Hex.f
  repeat' first
      | (with_reducible exact ih0 _ _ _ _)
      | (with_reducible exact LeO.refl _)
      | (with_reducible exact LeO.none _)
      | (with_reducible refine LeO.ite ?_ ?_)
      | (with_reducible refine LeO.bind ?_ (fun _ => ?_))
      | exact ih0 _ _ _ _
      | exact LeO.none _
      | refine LeO.ite ?_ ?_
      | refine LeO.bind ?_ (fun _ => ?_)
set_option maxHeartbeats 8000000 in
set_option maxRecDepth 100000 in
theorem chandleryref02_Hex.calls (k : Nat) (A0 : Option Addr) (c0 : Nat) (l0 : List Int) (r : ByteArray) (w : World) (hr0 : Kd.C (Kd.int .u8) w A0 l0.length l0) (hc0 : l0.length ≤ c0) (h : chandleryref02_Hex.f k l0 = some r) :
    Calls Tryd.prog 11 #[.slice A0 l0.length c0] w fun e w' => e = .returned (.string r) ∧ Drawn0 w w' := by
  have HR0 := Aside0.mk hr0
  have HC0 := Aside0.mk hc0
  clear hr0 hc0
  have H : (chandleryref02_Hex.l0 k l0 (⟨#[48, 49, 50, 51, 52, 53, 54, 55, 56, 57, 97, 98, 99, 100, 101, 102]⟩ : ByteArray) (⟨#[]⟩ : ByteArray) 0) = some r := h
  clear h
  have H' := Aside0.mk H
  clear H
  go_enter Tryd.func11, Tryd.ntmps11
  go_wp2
  repeat (go_quiet (fail); try go_wp2)
  go_loopg [4, 5] k (fun kq v4 v5 w' => ∃ (x4_1 : ByteArray) (x5_1 : Int), v4 = .string x4_1 ∧ v5 = .int .i64 x5_1 ∧ Aside0 (chandleryref02_Hex.l0 kq l0 (⟨#[48, 49, 50, 51, 52, 53, 54, 55, 56, 57, 97, 98, 99, 100, 101, 102]⟩ : ByteArray) x4_1 x5_1 = some r) ∧ Aside0 (kq ≤ k) ∧ Drawn0 w w')
  case atStart => exact ⟨((⟨#[]⟩ : ByteArray)), (0), (by first | rfl | (simp; done) | exact congrArg Value.bool (Go.Proofs.YtalbbifgkninmaaDoorX.isEmpty_ne_ _) | exact congrArg Value.bool (Go.Proofs.YtalbbifgkninmaaDoorX.ne_isEmpty_ _) | (simp [*]; done)), (by first | rfl | (simp; done) | exact congrArg Value.bool (Go.Proofs.YtalbbifgkninmaaDoorX.isEmpty_ne_ _) | exact congrArg Value.bool (Go.Proofs.YtalbbifgkninmaaDoorX.ne_isEmpty_ _) | (simp [*]; done)), H', ⟨Nat.le_refl _⟩, by repeat (first | exact Drawn0.refl _ | apply Drawn0.step)⟩
  case round =>
    clear H'
    try clear c1
    obtain ⟨x4_1, x5_1, rfl, rfl, HA, HK1, ⟨m1, rfl⟩⟩ := hrel
    cases gk with
    | zero => exact absurd HA.out (by simp [chandleryref02_Hex.l0])
    | succ k1 =>
      have H := HA.out
      clear HA
      simp only [chandleryref02_Hex.l0] at H
      by_cases c2 : x5_1 < (l0.length : Int)
      · rw [if_pos c2] at H
        have c2b0 : decide (x5_1 < (l0.length : Int)) = true := decide_eq_true c2
        clear c2
        by_cases c3 : 0 ≤ x5_1
        · rw [if_pos c3] at H
          have c3b0 : decide (0 ≤ x5_1) = true := decide_eq_true c3
          clear c3
          obtain ⟨ji4, hji4⟩ : ∃ j_ : Int, (wrap64 (Int.tdiv (wrap64 (rd l0 x5_1)) 16)) = j_ := ⟨_, rfl⟩
          replace H : (if 0 ≤ (ji4) then (if (ji4) ≤ (wrap64 ((ji4) + 1)) then (if (wrap64 ((ji4) + 1)) ≤ ((⟨#[48, 49, 50, 51, 52, 53, 54, 55, 56, 57, 97, 98, 99, 100, 101, 102]⟩ : ByteArray).size : Int) then (if x4_1.size + ((⟨#[48, 49, 50, 51, 52, 53, 54, 55, 56, 57, 97, 98, 99, 100, 101, 102]⟩ : ByteArray).extract ((ji4) : Int).toNat ((wrap64 ((ji4) + 1)) : Int).toNat).size ≤ 9223372036854775807 then (if 0 ≤ (Int.tmod (wrap64 (rd l0 x5_1)) 16) then (if (Int.tmod (wrap64 (rd l0 x5_1)) 16) ≤ (wrap64 ((Int.tmod (wrap64 (rd l0 x5_1)) 16) + 1)) then (if (wrap64 ((Int.tmod (wrap64 (rd l0 x5_1)) 16) + 1)) ≤ ((⟨#[48, 49, 50, 51, 52, 53, 54, 55, 56, 57, 97, 98, 99, 100, 101, 102]⟩ : ByteArray).size : Int) then (if (x4_1 ++ ((⟨#[48, 49, 50, 51, 52, 53, 54, 55, 56, 57, 97, 98, 99, 100, 101, 102]⟩ : ByteArray).extract ((ji4) : Int).toNat ((wrap64 ((ji4) + 1)) : Int).toNat)).size + ((⟨#[48, 49, 50, 51, 52, 53, 54, 55, 56, 57, 97, 98, 99, 100, 101, 102]⟩ : ByteArray).extract ((Int.tmod (wrap64 (rd l0 x5_1)) 16) : Int).toNat ((wrap64 ((Int.tmod (wrap64 (rd l0 x5_1)) 16) + 1)) : Int).toNat).size ≤ 9223372036854775807 then (chandleryref02_Hex.l0 k1 l0 (⟨#[48, 49, 50, 51, 52, 53, 54, 55, 56, 57, 97, 98, 99, 100, 101, 102]⟩ : ByteArray) ((x4_1 ++ ((⟨#[48, 49, 50, 51, 52, 53, 54, 55, 56, 57, 97, 98, 99, 100, 101, 102]⟩ : ByteArray).extract ((ji4) : Int).toNat ((wrap64 ((ji4) + 1)) : Int).toNat)) ++ ((⟨#[48, 49, 50, 51, 52, 53, 54, 55, 56, 57, 97, 98, 99, 100, 101, 102]⟩ : ByteArray).extract ((Int.tmod (wrap64 (rd l0 x5_1)) 16) : Int).toNat ((wrap64 ((Int.tmod (wrap64 (rd l0 x5_1)) 16) + 1)) : Int).toNat)) (wrap64 (x5_1 + 1))) else (none)) else (none)) else (none)) else (none)) else (none)) else (none)) else (none)) else (none)) = some r := by first | (rw [hji4] at H; exact H) | (simp only [hji4] at H ⊢; exact H)
          have hji4w : (IntKind.i64.wrap (Int.tdiv (wrap64 (rd l0 x5_1)) 16)) = ji4 := (i64_w _).trans hji4
          by_cases c5 : 0 ≤ (ji4)
          · rw [if_pos c5] at H
            have c5b0 := eq_true c5
            have c5b1 : decide (0 ≤ (ji4)) = true := decide_eq_true c5
            clear c5
            by_cases c6 : (ji4) ≤ (wrap64 ((ji4) + 1))
            · rw [if_pos c6] at H
              have c6b0 := eq_true c6
              have c6b1 : decide ((ji4) ≤ (wrap64 ((ji4) + 1))) = true := decide_eq_true c6
              by_cases c7 : (wrap64 ((ji4) + 1)) ≤ ((⟨#[48, 49, 50, 51, 52, 53, 54, 55, 56, 57, 97, 98, 99, 100, 101, 102]⟩ : ByteArray).size : Int)
              · rw [if_pos c7] at H
                have c7b0 := eq_true c7
                have c7b1 : decide ((wrap64 ((ji4) + 1)) ≤ ((⟨#[48, 49, 50, 51, 52, 53, 54, 55, 56, 57, 97, 98, 99, 100, 101, 102]⟩ : ByteArray).size : Int)) = true := decide_eq_true c7
                have c7b8 : decide ((wrap64 ((ji4) + 1)) ≤ (16 : Int)) = true := c7b1
                have c7b7 := eq_true (of_decide_eq_true c7b8)
                by_cases c8 : x4_1.size + ((⟨#[48, 49, 50, 51, 52, 53, 54, 55, 56, 57, 97, 98, 99, 100, 101, 102]⟩ : ByteArray).extract ((ji4) : Int).toNat ((wrap64 ((ji4) + 1)) : Int).toNat).size ≤ 9223372036854775807
                · rw [if_pos c8] at H
                  have c8b0 := eq_true c8
                  have c8b1 : decide (x4_1.size + ((⟨#[48, 49, 50, 51, 52, 53, 54, 55, 56, 57, 97, 98, 99, 100, 101, 102]⟩ : ByteArray).extract ((ji4) : Int).toNat ((wrap64 ((ji4) + 1)) : Int).toNat).size ≤ 9223372036854775807) = true := decide_eq_true c8
                  try have c8b2 : (9223372036854775807 < x4_1.size + ((⟨#[48, 49, 50, 51, 52, 53, 54, 55, 56, 57, 97, 98, 99, 100, 101, 102]⟩ : ByteArray).extract ((ji4) : Int).toNat ((wrap64 ((ji4) + 1)) : Int).toNat).size) = False := eq_false (Nat.not_lt.2 c8)
                  try have c8b3 : (9223372036854775807 < x4_1.size + ((⟨#[48, 49, 50, 51, 52, 53, 54, 55, 56, 57, 97, 98, 99, 100, 101, 102]⟩ : ByteArray).extract ((ji4) : Int).toNat ((wrap64 ((ji4) + 1)) : Int).toNat).size) = False := eq_false (by (have h0_ := Nat.not_lt.2 c8); (simp only [ByteArray.size_append, ByteArray.size_extract] at h0_);  omega)
                  obtain ⟨ji9, hji9⟩ : ∃ j_ : Int, (Int.tmod (wrap64 (rd l0 x5_1)) 16) = j_ := ⟨_, rfl⟩
                  replace H : (if 0 ≤ (ji9) then (if (ji9) ≤ (wrap64 ((ji9) + 1)) then (if (wrap64 ((ji9) + 1)) ≤ ((⟨#[48, 49, 50, 51, 52, 53, 54, 55, 56, 57, 97, 98, 99, 100, 101, 102]⟩ : ByteArray).size : Int) then (if (x4_1 ++ ((⟨#[48, 49, 50, 51, 52, 53, 54, 55, 56, 57, 97, 98, 99, 100, 101, 102]⟩ : ByteArray).extract ((ji4) : Int).toNat ((wrap64 ((ji4) + 1)) : Int).toNat)).size + ((⟨#[48, 49, 50, 51, 52, 53, 54, 55, 56, 57, 97, 98, 99, 100, 101, 102]⟩ : ByteArray).extract ((ji9) : Int).toNat ((wrap64 ((ji9) + 1)) : Int).toNat).size ≤ 9223372036854775807 then (chandleryref02_Hex.l0 k1 l0 (⟨#[48, 49, 50, 51, 52, 53, 54, 55, 56, 57, 97, 98, 99, 100, 101, 102]⟩ : ByteArray) ((x4_1 ++ ((⟨#[48, 49, 50, 51, 52, 53, 54, 55, 56, 57, 97, 98, 99, 100, 101, 102]⟩ : ByteArray).extract ((ji4) : Int).toNat ((wrap64 ((ji4) + 1)) : Int).toNat)) ++ ((⟨#[48, 49, 50, 51, 52, 53, 54, 55, 56, 57, 97, 98, 99, 100, 101, 102]⟩ : ByteArray).extract ((ji9) : Int).toNat ((wrap64 ((ji9) + 1)) : Int).toNat)) (wrap64 (x5_1 + 1))) else (none)) else (none)) else (none)) else (none)) = some r := by first | (rw [hji9] at H; exact H) | (simp only [hji9] at H ⊢; exact H)
                  by_cases c10 : 0 ≤ (ji9)
                  · rw [if_pos c10] at H
                    have c10b0 := eq_true c10
                    have c10b1 : decide (0 ≤ (ji9)) = true := decide_eq_true c10
                    clear c10
                    by_cases c11 : (ji9) ≤ (wrap64 ((ji9) + 1))
                    · rw [if_pos c11] at H
                      have c11b0 := eq_true c11
                      have c11b1 : decide ((ji9) ≤ (wrap64 ((ji9) + 1))) = true := decide_eq_true c11
                      by_cases c12 : (wrap64 ((ji9) + 1)) ≤ ((⟨#[48, 49, 50, 51, 52, 53, 54, 55, 56, 57, 97, 98, 99, 100, 101, 102]⟩ : ByteArray).size : Int)
                      · rw [if_pos c12] at H
                        have c12b0 := eq_true c12
                        have c12b1 : decide ((wrap64 ((ji9) + 1)) ≤ ((⟨#[48, 49, 50, 51, 52, 53, 54, 55, 56, 57, 97, 98, 99, 100, 101, 102]⟩ : ByteArray).size : Int)) = true := decide_eq_true c12
                        have c12b8 : decide ((wrap64 ((ji9) + 1)) ≤ (16 : Int)) = true := c12b1
                        have c12b7 := eq_true (of_decide_eq_true c12b8)
                        by_cases c13 : (x4_1 ++ ((⟨#[48, 49, 50, 51, 52, 53, 54, 55, 56, 57, 97, 98, 99, 100, 101, 102]⟩ : ByteArray).extract ((ji4) : Int).toNat ((wrap64 ((ji4) + 1)) : Int).toNat)).size + ((⟨#[48, 49, 50, 51, 52, 53, 54, 55, 56, 57, 97, 98, 99, 100, 101, 102]⟩ : ByteArray).extract ((ji9) : Int).toNat ((wrap64 ((ji9) + 1)) : Int).toNat).size ≤ 9223372036854775807
                        · rw [if_pos c13] at H
                          have c13b0 := eq_true c13
                          have c13b1 : decide ((x4_1 ++ ((⟨#[48, 49, 50, 51, 52, 53, 54, 55, 56, 57, 97, 98, 99, 100, 101, 102]⟩ : ByteArray).extract ((ji4) : Int).toNat ((wrap64 ((ji4) + 1)) : Int).toNat)).size + ((⟨#[48, 49, 50, 51, 52, 53, 54, 55, 56, 57, 97, 98, 99, 100, 101, 102]⟩ : ByteArray).extract ((ji9) : Int).toNat ((wrap64 ((ji9) + 1)) : Int).toNat).size ≤ 9223372036854775807) = true := decide_eq_true c13
                          try have c13b2 : (9223372036854775807 < (x4_1 ++ ((⟨#[48, 49, 50, 51, 52, 53, 54, 55, 56, 57, 97, 98, 99, 100, 101, 102]⟩ : ByteArray).extract ((ji4) : Int).toNat ((wrap64 ((ji4) + 1)) : Int).toNat)).size + ((⟨#[48, 49, 50, 51, 52, 53, 54, 55, 56, 57, 97, 98, 99, 100, 101, 102]⟩ : ByteArray).extract ((ji9) : Int).toNat ((wrap64 ((ji9) + 1)) : Int).toNat).size) = False := eq_false (Nat.not_lt.2 c13)
                          try have c13b3 : (9223372036854775807 < (x4_1 ++ ((⟨#[48, 49, 50, 51, 52, 53, 54, 55, 56, 57, 97, 98, 99, 100, 101, 102]⟩ : ByteArray).extract ((ji4) : Int).toNat ((wrap64 ((ji4) + 1)) : Int).toNat)).size + ((⟨#[48, 49, 50, 51, 52, 53, 54, 55, 56, 57, 97, 98, 99, 100, 101, 102]⟩ : ByteArray).extract ((ji9) : Int).toNat ((wrap64 ((ji9) + 1)) : Int).toNat).size) = False := eq_false (by (have h0_ := Nat.not_lt.2 c13); (simp only [ByteArray.size_append, ByteArray.size_extract] at h0_);  omega)
                          have H' := Aside0.mk H
                          clear H
                          have p110 : 0 ≤ (x5_1 : Int) := of_decide_eq_true (by first | (with_reducible assumption) | assumption)
                          have q110 : x5_1 < (l0.length : Int) := of_decide_eq_true (by first | (with_reducible assumption) | assumption)
                          obtain ⟨ad110, e110, hx110_0⟩ := Kd.at_int HR0.out x5_1 p110 q110
                          cases e110
                          replace p110 := eq_true p110
                          replace q110 := eq_true q110
                          go_wp2
                          repeat (go_quiet (fail); try go_wp2)
                          go_roundg k1
                          case measure => have := HK1.out; omega
                          case rel => exact ⟨((x4_1 ++ ((⟨#[48, 49, 50, 51, 52, 53, 54, 55, 56, 57, 97, 98, 99, 100, 101, 102]⟩ : ByteArray).extract ((ji4) : Int).toNat ((wrap64 ((ji4) + 1)) : Int).toNat)) ++ ((⟨#[48, 49, 50, 51, 52, 53, 54, 55, 56, 57, 97, 98, 99, 100, 101, 102]⟩ : ByteArray).extract ((ji9) : Int).toNat ((wrap64 ((ji9) + 1)) : Int).toNat)), (wrap64 (x5_1 + 1)), (by first | rfl | (simp; done) | (simp only [← hji4, ← hji9] <;> (first | rfl | simp)) | (simp [*]; done)), (by first | rfl | (simp; done) | exact congrArg Value.bool (Go.Proofs.YtalbbifgkninmaaDoorX.isEmpty_ne_ _) | exact congrArg Value.bool (Go.Proofs.YtalbbifgkninmaaDoorX.ne_isEmpty_ _) | (simp [*]; done)), H', ⟨by have := HK1.out; omega⟩, by repeat (first | exact Drawn0.refl _ | apply Drawn0.step)⟩
                        · rw [if_neg c13] at H
                          exact absurd H (by simp)
                      · rw [if_neg c12] at H
                        exact absurd H (by simp)
                    · rw [if_neg c11] at H
                      exact absurd H (by simp)
                  · rw [if_neg c10] at H
                    exact absurd H (by simp)
                · rw [if_neg c8] at H
                  exact absurd H (by simp)
              · rw [if_neg c7] at H
                exact absurd H (by simp)
            · rw [if_neg c6] at H
              exact absurd H (by simp)
          · rw [if_neg c5] at H
            exact absurd H (by simp)
        · rw [if_neg c3] at H
          exact absurd H (by simp)
      · rw [if_neg c2] at H
        have c2b0 : decide (x5_1 < (l0.length : Int)) = false := decide_eq_false c2
        clear c2
        obtain rfl := Option.some.inj H
        go_wp2
        repeat (go_quiet (fail); try go_wp2)
        go_ret
        exact ⟨by first | rfl | (simp; done) | (simp [*]; done), by repeat (first | exact Drawn0.refl _ | apply Drawn0.step)⟩

/-! ### chandleryref02_value: function 24 -/
def chandleryref02_value.l0 : Nat → Int → ByteArray → Int → Option (Int)
  | 0, _, _, _ => none
  | k + 1, x0, x1, x5 => if x5 < (x1.size : Int) then (if 0 ≤ x5 then (if (bt x1 x5) = x0 then (some x5) else (chandleryref02_value.l0 k x0 x1 (wrap64 (x5 + 1)))) else (none)) else (some (-1))
def chandleryref02_value.f (k : Nat) (a0 : Int) (a1 : ByteArray) : Option (Int) := chandleryref02_value.l0 k a0 a1 0
theorem chandleryref02_value.mono_l : ∀ k, (∀ y0 y1 y2, LeO (chandleryref02_value.l0 k y0 y1 y2) (chandleryref02_value.l0 (k + 1) y0 y1 y2))
  | 0 => fun _ _ _ r h => by simp [chandleryref02_value.l0] at h
  | k + 1 => by
    have ih0 := chandleryref02_value.mono_l k
    · intro y0 y1 y2
      unfold chandleryref02_value.l0
      repeat' first
      | (with_reducible exact ih0 _ _ _)
      | (with_reducible exact LeO.refl _)
      | (with_reducible exact LeO.none _)
      | (with_reducible refine LeO.ite ?_ ?_)
      | (with_reducible refine LeO.bind ?_ (fun _ => ?_))
      | exact ih0 _ _ _
      | exact LeO.none _
      | refine LeO.ite ?_ ?_
      | refine LeO.bind ?_ (fun _ => ?_)
theorem chandleryref02_value.mono : ∀ a0 a1 k, LeO (chandleryref02_value.f k a0 a1) (chandleryref02_value.f (k + 1) a0 a1) := by
  intro a0 a1 k
  have ih0 := chandleryref02_value.mono_l k
  unfold chandleryref02_value.f
  repeat' first
      | (with_reducible exact ih0 _ _ _)
      | (with_reducible exact LeO.refl _)
      | (with_reducible exact LeO.none _)
      | (with_reducible refine LeO.ite ?_ ?_)
      | (with_reducible refine LeO.bind ?_ (fun _ => ?_))
      | exact ih0 _ _ _
      | exact LeO.none _
      | refine LeO.ite ?_ ?_
      | refine LeO.bind ?_ (fun _ => ?_)
set_option maxHeartbeats 8000000 in
set_option maxRecDepth 100000 in
theorem chandleryref02_value.calls (k : Nat) (a0 : Int) (a1 : ByteArray) (r : Int) (w : World) (h : chandleryref02_value.f k a0 a1 = some r) :
    Calls Tryd.prog 24 #[.int .u8 a0, .string a1] w fun e w' => e = .returned (.int .i64 r) ∧ Drawn0 w w' := by
  have H : (chandleryref02_value.l0 k a0 a1 0) = some r := h
  clear h
  have H' := Aside0.mk H
  clear H
  go_enter Tryd.func24, Tryd.ntmps24
  go_wp2
  go_loopg [5] k (fun kq v5 w' => ∃ (x5_1 : Int), v5 = .int .i64 x5_1 ∧ Aside0 (chandleryref02_value.l0 kq a0 a1 x5_1 = some r) ∧ Aside0 (kq ≤ k) ∧ Drawn0 w w')
  case atStart => exact ⟨(0), (by first | rfl | (simp; done) | exact congrArg Value.bool (Go.Proofs.YtalbbifgkninmaaDoorX.isEmpty_ne_ _) | exact congrArg Value.bool (Go.Proofs.YtalbbifgkninmaaDoorX.ne_isEmpty_ _) | (simp [*]; done)), H', ⟨Nat.le_refl _⟩, by repeat (first | exact Drawn0.refl _ | apply Drawn0.step)⟩
  case round =>
    clear H'
    try clear c2
    try clear p2
    obtain ⟨x5_1, rfl, HA, HK1, ⟨m1, rfl⟩⟩ := hrel
    cases gk with
    | zero => exact absurd HA.out (by simp [chandleryref02_value.l0])
    | succ k1 =>
      have H := HA.out
      clear HA
      simp only [chandleryref02_value.l0] at H
      by_cases c3 : x5_1 < (a1.size : Int)
      · rw [if_pos c3] at H
        have c3b0 : decide (x5_1 < (a1.size : Int)) = true := decide_eq_true c3
        clear c3
        by_cases c4 : 0 ≤ x5_1
        · rw [if_pos c4] at H
          have c4b0 : decide (0 ≤ x5_1) = true := decide_eq_true c4
          clear c4
          by_cases c6 : (bt a1 x5_1) = a0
          · rw [if_pos c6] at H
            have c6b0 : ((bt a1 x5_1) == a0) = true := beq_iff_eq.mpr c6
            have c6b1 : ((bt a1 x5_1) != a0) = false := bne_eq_false_iff_eq.mpr c6
            clear c6
            obtain rfl := Option.some.inj H
            have p5 : 0 ≤ (x5_1 : Int) := of_decide_eq_true (by first | (with_reducible assumption) | assumption)
            have q5 : x5_1 < (a1.size : Int) := of_decide_eq_true (by first | (with_reducible assumption) | assumption)
            have hx5 := bt_at a1 x5_1
            replace p5 := eq_true p5
            replace q5 := eq_true q5
            go_wp2
            go_ret
            exact ⟨by first | rfl | (simp; done) | (simp [*]; done), by repeat (first | exact Drawn0.refl _ | apply Drawn0.step)⟩
          · rw [if_neg c6] at H
            have c6b0 : ((bt a1 x5_1) == a0) = false := beq_eq_false_iff_ne.mpr c6
            have c6b1 : ((bt a1 x5_1) != a0) = true := bne_iff_ne.mpr c6
            have H' := Aside0.mk H
            clear H
            have p5 : 0 ≤ (x5_1 : Int) := of_decide_eq_true (by first | (with_reducible assumption) | assumption)
            have q5 : x5_1 < (a1.size : Int) := of_decide_eq_true (by first | (with_reducible assumption) | assumption)
            have hx5 := bt_at a1 x5_1
            replace p5 := eq_true p5
            replace q5 := eq_true q5
            go_wp2
            go_roundg k1
            case measure => have := HK1.out; omega
            case rel => exact ⟨(wrap64 (x5_1 + 1)), (by first | rfl | (simp; done) | exact congrArg Value.bool (Go.Proofs.YtalbbifgkninmaaDoorX.isEmpty_ne_ _) | exact congrArg Value.bool (Go.Proofs.YtalbbifgkninmaaDoorX.ne_isEmpty_ _) | (simp [*]; done)), H', ⟨by have := HK1.out; omega⟩, by repeat (first | exact Drawn0.refl _ | apply Drawn0.step)⟩
        · rw [if_neg c4] at H
          exact absurd H (by simp)
      · rw [if_neg c3] at H
        have c3b0 : decide (x5_1 < (a1.size : Int)) = false := decide_eq_false c3
        clear c3
        obtain rfl := Option.some.inj H
        go_wp2
        go_ret
        exact ⟨by first | rfl | (simp; done) | (simp [*]; done), by repeat (first | exact Drawn0.refl _ | apply Drawn0.step)⟩

/-! ### chandleryref02_Unhex: function 12 -/
def chandleryref02_Unhex.l0 : Nat → ByteArray → List Int → Int → Option (List Int × Bool)
  | 0, _, _, _ => none
  | k + 1, x0, x4, x5 => if x5 < (x0.size : Int) then (if 0 ≤ x5 then ((chandleryref02_value.f k (bt x0 x5) (⟨#[48, 49, 50, 51, 52, 53, 54, 55, 56, 57, 97, 98, 99, 100, 101, 102]⟩ : ByteArray)).bind fun t111 => (if 0 ≤ (wrap64 (x5 + 1)) then (if (wrap64 (x5 + 1)) < (x0.size : Int) then ((chandleryref02_value.f k (bt x0 (wrap64 (x5 + 1))) (⟨#[48, 49, 50, 51, 52, 53, 54, 55, 56, 57, 97, 98, 99, 100, 101, 102]⟩ : ByteArray)).bind fun t112 => (if t111 < 0 then (some (([] : List Int), false)) else (if t112 < 0 then (some (([] : List Int), false)) else (if x4.length < 140737488355328 then (chandleryref02_Unhex.l0 k x0 (x4 ++ [(wrap64 ((wrap64 (16 * t111)) + t112)) % 256]) (wrap64 (x5 + 2))) else (none))))) else (none)) else (none))) else (none)) else (some (x4, true))
def chandleryref02_Unhex.f (k : Nat) (a0 : ByteArray) : Option (List Int × Bool) := if ((a0.size : Int) % 2) = 0 then (chandleryref02_Unhex.l0 k a0 ([] : List Int) 0) else (some (([] : List Int), false))
theorem chandleryref02_Unhex.mono_l : ∀ k, (∀ y0 y1 y2, LeO (chandleryref02_Unhex.l0 k y0 y1 y2) (chandleryref02_Unhex.l0 (k + 1) y0 y1 y2))
  | 0 => fun _ _ _ r h => by simp [chandleryref02_Unhex.l0] at h
  | k + 1 => by
    have ih0 := chandleryref02_Unhex.mono_l k
    · intro y0 y1 y2
      unfold chandleryref02_Unhex.l0
      repeat' first
      | (with_reducible exact ih0 _ _ _)
      | (with_reducible exact chandleryref02_value.mono _ _ _)
      | (with_reducible exact LeO.refl _)
      | (with_reducible exact LeO.none _)
      | (with_reducible refine LeO.ite ?_ ?_)
      | (with_reducible refine LeO.bind ?_ (fun _ => ?_))
      | exact ih0 _ _ _
      | exact chandleryref02_value.mono _ _ _
      | exact LeO.none _
      | refine LeO.ite ?_ ?_
      | refine LeO.bind ?_ (fun _ => ?_)
theorem chandleryref02_Unhex.mono : ∀ a0 k, LeO (chandleryref02_Unhex.f k a0) (chandleryref02_Unhex.f (k + 1) a0) := by
  intro a0 k
  have ih0 := chandleryref02_Unhex.mono_l k
  unfold chandleryref02_Unhex.f
  repeat' first
      | (with_reducible exact ih0 _ _ _)
      | (with_reducible exact chandleryref02_value.mono _ _ _)
      | (with_reducible exact LeO.refl _)
      | (with_reducible exact LeO.none _)
      | (with_reducible refine LeO.ite ?_ ?_)
      | (with_reducible refine LeO.bind ?_ (fun _ => ?_))
      | exact ih0 _ _ _
      | exact chandleryref02_value.mono _ _ _
      | exact LeO.none _
      | refine LeO.ite ?_ ?_
      | refine LeO.bind ?_ (fun _ => ?_)
set_option maxHeartbeats 8000000 in
set_option maxRecDepth 100000 in
theorem chandleryref02_Unhex.calls (k : Nat) (a0 : ByteArray) (r1 : List Int) (r2 : Bool) (w : World) (h : chandleryref02_Unhex.f k a0 = some (r1, r2)) :
    Calls Tryd.prog 12 #[.string a0] w fun e w' => ∃ v0_ : Value, e = .returned (.tuple #[v0_, .bool r2]) ∧ Kd.R (Kd.int .u8) 5 w' w.heap.size (fun _ => True) v0_ r1 ∧ Below w.heap.size w w' := by
  have HB := Aside0.mk (Below.refl w.heap.size w)
  have H : (if ((a0.size : Int) % 2) = 0 then (chandleryref02_Unhex.l0 k a0 ([] : List Int) 0) else (some (([] : List Int), false))) = some (r1, r2) := h
  clear h
  by_cases c2 : ((a0.size : Int) % 2) = 0
  · rw [if_pos c2] at H
    have c2b0 : (((a0.size : Int) % 2) == 0) = true := beq_iff_eq.mpr c2
    have c2b1 : (((a0.size : Int) % 2) != 0) = false := bne_eq_false_iff_eq.mpr c2
    clear c2
    have H' := Aside0.mk H
    clear H
    go_enter Tryd.func12, Tryd.ntmps12
    go_wp2
    go_loopg [4, 5] k (fun kq v4 v5 w' => ∃ (x4_1 : List Int) (x5_1 : Int), v5 = .int .i64 x5_1 ∧ Aside0 (chandleryref02_Unhex.l0 kq a0 x4_1 x5_1 = some (r1, r2)) ∧ Aside0 (kq ≤ k) ∧ Aside0 (Kd.R (Kd.int .u8) 5 w' w.heap.size (fun _ => True) v4 x4_1) ∧ Aside0 (Below w.heap.size w w'))
    case atStart => exact ⟨(([] : List Int)), (0), (by first | rfl | (simp; done) | exact congrArg Value.bool (Go.Proofs.YtalbbifgkninmaaDoorX.isEmpty_ne_ _) | exact congrArg Value.bool (Go.Proofs.YtalbbifgkninmaaDoorX.ne_isEmpty_ _) | (simp [*]; done)), H', ⟨Nat.le_refl _⟩, ⟨by first | exact Kd.R_nil _ _ _ _ _ | exact Kd.N_nil _ _ _ _ _ | exact Kd.V_nil _ _ _ _ _ | exact Kd.Q_nil _ _ _ _ _ | exact Kd.S_nil _ _ _ _ _⟩, ⟨by repeat (first | (with_reducible first | exact HB.out | apply below_alloc | apply pw_below_drewN | apply below_drew1) | exact HB.out)⟩⟩
    case round =>
      clear H'
      try clear c1
      try clear c2
      try clear c2b0
      try clear c2b1
      try clear p2
      obtain ⟨x4_1, x5_1, rfl, HA, HK1, HO_4, HB⟩ := hrel
      cases gk with
      | zero => exact absurd HA.out (by simp [chandleryref02_Unhex.l0])
      | succ k1 =>
        have H := HA.out
        clear HA
        simp only [chandleryref02_Unhex.l0] at H
        by_cases c3 : x5_1 < (a0.size : Int)
        · rw [if_pos c3] at H
          have c3b0 : decide (x5_1 < (a0.size : Int)) = true := decide_eq_true c3
          clear c3
          by_cases c4 : 0 ≤ x5_1
          · rw [if_pos c4] at H
            have c4b0 : decide (0 ≤ x5_1) = true := decide_eq_true c4
            clear c4
            replace H := Option.bind_eq_some_iff.mp H
            obtain ⟨t111, A60, H⟩ := H
            replace H : (if 0 ≤ (wrap64 (x5_1 + 1)) then (if (wrap64 (x5_1 + 1)) < (a0.size : Int) then ((chandleryref02_value.f k1 (bt a0 (wrap64 (x5_1 + 1))) (⟨#[48, 49, 50, 51, 52, 53, 54, 55, 56, 57, 97, 98, 99, 100, 101, 102]⟩ : ByteArray)).bind fun t112 => (if t111 < 0 then (some (([] : List Int), false)) else (if t112 < 0 then (some (([] : List Int), false)) else (if x4_1.length < 140737488355328 then (chandleryref02_Unhex.l0 k1 a0 (x4_1 ++ [(wrap64 ((wrap64 (16 * t111)) + t112)) % 256]) (wrap64 (x5_1 + 2))) else (none))))) else (none)) else (none)) = some (r1, r2) := H
            have A6 := Aside0.mk A60
            clear A60
            obtain ⟨ji7, hji7⟩ : ∃ j_ : Int, (wrap64 (x5_1 + 1)) = j_ := ⟨_, rfl⟩
            replace H : (if 0 ≤ (ji7) then (if (ji7) < (a0.size : Int) then ((chandleryref02_value.f k1 (bt a0 (ji7)) (⟨#[48, 49, 50, 51, 52, 53, 54, 55, 56, 57, 97, 98, 99, 100, 101, 102]⟩ : ByteArray)).bind fun t112 => (if t111 < 0 then (some (([] : List Int), false)) else (if t112 < 0 then (some (([] : List Int), false)) else (if x4_1.length < 140737488355328 then (chandleryref02_Unhex.l0 k1 a0 (x4_1 ++ [(wrap64 ((wrap64 (16 * t111)) + t112)) % 256]) (wrap64 (x5_1 + 2))) else (none))))) else (none)) else (none)) = some (r1, r2) := by first | (rw [hji7] at H; exact H) | (simp only [hji7] at H ⊢; exact H)
            (try rw [hji7] at A6)
            have hji7w : (IntKind.i64.wrap (x5_1 + 1)) = ji7 := (i64_w _).trans hji7
            by_cases c8 : 0 ≤ (ji7)
            · rw [if_pos c8] at H
              have c8b0 : decide (0 ≤ (ji7)) = true := decide_eq_true c8
              clear c8
              by_cases c9 : (ji7) < (a0.size : Int)
              · rw [if_pos c9] at H
                have c9b0 : decide ((ji7) < (a0.size : Int)) = true := decide_eq_true c9
                clear c9
                replace H := Option.bind_eq_some_iff.mp H
                obtain ⟨t112, A110, H⟩ := H
                replace H : (if t111 < 0 then (some (([] : List Int), false)) else (if t112 < 0 then (some (([] : List Int), false)) else (if x4_1.length < 140737488355328 then (chandleryref02_Unhex.l0 k1 a0 (x4_1 ++ [(wrap64 ((wrap64 (16 * t111)) + t112)) % 256]) (wrap64 (x5_1 + 2))) else (none)))) = some (r1, r2) := H
                have A11 := Aside0.mk A110
                clear A110
                by_cases c12 : t111 < 0
                · rw [if_pos c12] at H
                  have c12b0 : decide (t111 < 0) = true := decide_eq_true c12
                  clear c12
                  simp only [Option.some.injEq, Prod.mk.injEq] at H
                  obtain ⟨rfl, rfl⟩ := H
                  have p5 : 0 ≤ (x5_1 : Int) := of_decide_eq_true (by first | (with_reducible assumption) | assumption)
                  have q5 : x5_1 < (a0.size : Int) := of_decide_eq_true (by first | (with_reducible assumption) | assumption)
                  have hx5 := bt_at a0 x5_1
                  replace p5 := eq_true p5
                  replace q5 := eq_true q5
                  go_wp2_with (first | ((with_reducible refine gate_callee (f := 24) rfl ?_); refine goesL_ (some 21) rfl rfl Tryd.func24 (by kernel_rfl) rfl #[.int .u8 (bt a0 x5_1), .string (⟨#[48, 49, 50, 51, 52, 53, 54, 55, 56, 57, 97, 98, 99, 100, 101, 102]⟩ : ByteArray)] rfl (by (try simp only [List.map_toArray, List.map_cons, List.map_nil]); first | done | rfl | (simp only [List.length_drop, List.length_take]; rfl)) ?_; (with_reducible refine (chandleryref02_value.calls k1 (bt a0 x5_1) (⟨#[48, 49, 50, 51, 52, 53, 54, 55, 56, 57, 97, 98, 99, 100, 101, 102]⟩ : ByteArray) t111 _ A6.out).mono ?_); rintro e w' ⟨rfl, ⟨nd, rfl⟩⟩; refine ⟨_, rfl, ?_⟩; have p10 : 0 ≤ ((ji7) : Int) := of_decide_eq_true (by first | (with_reducible assumption) | assumption); have q10 : (ji7) < (a0.size : Int) := of_decide_eq_true (by first | (with_reducible assumption) | assumption); have hx10 := bt_at a0 (ji7); replace p10 := eq_true p10; replace q10 := eq_true q10) | ((with_reducible refine gate_callee (f := 24) rfl ?_); refine goesL_ (some 26) rfl rfl Tryd.func24 (by kernel_rfl) rfl #[.int .u8 (bt a0 (ji7)), .string (⟨#[48, 49, 50, 51, 52, 53, 54, 55, 56, 57, 97, 98, 99, 100, 101, 102]⟩ : ByteArray)] rfl (by (try simp only [List.map_toArray, List.map_cons, List.map_nil]); first | done | (simp only [hji7]; rfl) | rfl | (simp only [List.length_drop, List.length_take]; rfl)) ?_; (with_reducible refine (chandleryref02_value.calls k1 (bt a0 (ji7)) (⟨#[48, 49, 50, 51, 52, 53, 54, 55, 56, 57, 97, 98, 99, 100, 101, 102]⟩ : ByteArray) t112 _ A11.out).mono ?_); rintro e w' ⟨rfl, ⟨nd, rfl⟩⟩; refine ⟨_, rfl, ?_⟩))
                  go_ret2
                  exact ⟨_, by first | rfl | (simp [errW_none, errW_some] <;> rfl) | (simp only [← hji7]; first | rfl | (simp [errW_none, errW_some] <;> rfl)) | (simp [*, errW_none, errW_some] <;> rfl), by first | exact Kd.R_nil _ _ _ _ _ | exact Kd.N_nil _ _ _ _ _ | exact Kd.V_nil _ _ _ _ _ | exact Kd.Q_nil _ _ _ _ _ | exact Kd.S_nil _ _ _ _ _, by repeat (first | (with_reducible first | exact HB.out | apply below_alloc | apply pw_below_drewN | apply below_drew1) | exact HB.out)⟩
                · rw [if_neg c12] at H
                  have c12b0 : decide (t111 < 0) = false := decide_eq_false c12
                  clear c12
                  by_cases c13 : t112 < 0
                  · rw [if_pos c13] at H
                    have c13b0 : decide (t112 < 0) = true := decide_eq_true c13
                    clear c13
                    simp only [Option.some.injEq, Prod.mk.injEq] at H
                    obtain ⟨rfl, rfl⟩ := H
                    have p5 : 0 ≤ (x5_1 : Int) := of_decide_eq_true (by first | (with_reducible assumption) | assumption)
                    have q5 : x5_1 < (a0.size : Int) := of_decide_eq_true (by first | (with_reducible assumption) | assumption)
                    have hx5 := bt_at a0 x5_1
                    replace p5 := eq_true p5
                    replace q5 := eq_true q5
                    go_wp2_with (first | ((with_reducible refine gate_callee (f := 24) rfl ?_); refine goesL_ (some 21) rfl rfl Tryd.func24 (by kernel_rfl) rfl #[.int .u8 (bt a0 x5_1), .string (⟨#[48, 49, 50, 51, 52, 53, 54, 55, 56, 57, 97, 98, 99, 100, 101, 102]⟩ : ByteArray)] rfl (by (try simp only [List.map_toArray, List.map_cons, List.map_nil]); first | done | rfl | (simp only [List.length_drop, List.length_take]; rfl)) ?_; (with_reducible refine (chandleryref02_value.calls k1 (bt a0 x5_1) (⟨#[48, 49, 50, 51, 52, 53, 54, 55, 56, 57, 97, 98, 99, 100, 101, 102]⟩ : ByteArray) t111 _ A6.out).mono ?_); rintro e w' ⟨rfl, ⟨nd, rfl⟩⟩; refine ⟨_, rfl, ?_⟩; have p10 : 0 ≤ ((ji7) : Int) := of_decide_eq_true (by first | (with_reducible assumption) | assumption); have q10 : (ji7) < (a0.size : Int) := of_decide_eq_true (by first | (with_reducible assumption) | assumption); have hx10 := bt_at a0 (ji7); replace p10 := eq_true p10; replace q10 := eq_true q10) | ((with_reducible refine gate_callee (f := 24) rfl ?_); refine goesL_ (some 26) rfl rfl Tryd.func24 (by kernel_rfl) rfl #[.int .u8 (bt a0 (ji7)), .string (⟨#[48, 49, 50, 51, 52, 53, 54, 55, 56, 57, 97, 98, 99, 100, 101, 102]⟩ : ByteArray)] rfl (by (try simp only [List.map_toArray, List.map_cons, List.map_nil]); first | done | (simp only [hji7]; rfl) | rfl | (simp only [List.length_drop, List.length_take]; rfl)) ?_; (with_reducible refine (chandleryref02_value.calls k1 (bt a0 (ji7)) (⟨#[48, 49, 50, 51, 52, 53, 54, 55, 56, 57, 97, 98, 99, 100, 101, 102]⟩ : ByteArray) t112 _ A11.out).mono ?_); rintro e w' ⟨rfl, ⟨nd, rfl⟩⟩; refine ⟨_, rfl, ?_⟩))
                    go_ret2
                    exact ⟨_, by first | rfl | (simp [errW_none, errW_some] <;> rfl) | (simp only [← hji7]; first | rfl | (simp [errW_none, errW_some] <;> rfl)) | (simp [*, errW_none, errW_some] <;> rfl), by first | exact Kd.R_nil _ _ _ _ _ | exact Kd.N_nil _ _ _ _ _ | exact Kd.V_nil _ _ _ _ _ | exact Kd.Q_nil _ _ _ _ _ | exact Kd.S_nil _ _ _ _ _, by repeat (first | (with_reducible first | exact HB.out | apply below_alloc | apply pw_below_drewN | apply below_drew1) | exact HB.out)⟩
                  · rw [if_neg c13] at H
                    have c13b0 : decide (t112 < 0) = false := decide_eq_false c13
                    clear c13
                    by_cases c14 : x4_1.length < 140737488355328
                    · rw [if_pos c14] at H
                      have LMc14 := Aside0.mk c14
                      clear c14
                      obtain ⟨y113, hy113⟩ : ∃ y_ : List Int, y_ = (x4_1 ++ [(wrap64 ((wrap64 (16 * t111)) + t112)) % 256]) := ⟨_, rfl⟩
                      replace H : (chandleryref02_Unhex.l0 k1 a0 y113 (wrap64 (x5_1 + 2))) = some (r1, r2) := by first | (rw [hy113]; with_reducible exact H) | (have H2_ := (Option.bind_some _ _).symm.trans H; rw [hy113]; with_reducible exact H2_) | (have H2_ := (Option.bind_some _ _).symm.trans H; with_reducible exact H2_) | with_reducible exact H | (rw [hy113]; exact H) | exact H
                      have Ny113 := Aside0.mk hy113
                      clear hy113
                      have H' := Aside0.mk H
                      clear H
                      have p5 : 0 ≤ (x5_1 : Int) := of_decide_eq_true (by first | (with_reducible assumption) | assumption)
                      have q5 : x5_1 < (a0.size : Int) := of_decide_eq_true (by first | (with_reducible assumption) | assumption)
                      have hx5 := bt_at a0 x5_1
                      replace p5 := eq_true p5
                      replace q5 := eq_true q5
                      go_wp2_with (first | ((with_reducible refine gate_callee (f := 24) rfl ?_); refine goesL_ (some 21) rfl rfl Tryd.func24 (by kernel_rfl) rfl #[.int .u8 (bt a0 x5_1), .string (⟨#[48, 49, 50, 51, 52, 53, 54, 55, 56, 57, 97, 98, 99, 100, 101, 102]⟩ : ByteArray)] rfl (by (try simp only [List.map_toArray, List.map_cons, List.map_nil]); first | done | rfl | (simp only [List.length_drop, List.length_take]; rfl)) ?_; (with_reducible refine (chandleryref02_value.calls k1 (bt a0 x5_1) (⟨#[48, 49, 50, 51, 52, 53, 54, 55, 56, 57, 97, 98, 99, 100, 101, 102]⟩ : ByteArray) t111 _ A6.out).mono ?_); rintro e w' ⟨rfl, ⟨nd, rfl⟩⟩; refine ⟨_, rfl, ?_⟩; have p10 : 0 ≤ ((ji7) : Int) := of_decide_eq_true (by first | (with_reducible assumption) | assumption); have q10 : (ji7) < (a0.size : Int) := of_decide_eq_true (by first | (with_reducible assumption) | assumption); have hx10 := bt_at a0 (ji7); replace p10 := eq_true p10; replace q10 := eq_true q10) | ((with_reducible refine gate_callee (f := 24) rfl ?_); refine goesL_ (some 26) rfl rfl Tryd.func24 (by kernel_rfl) rfl #[.int .u8 (bt a0 (ji7)), .string (⟨#[48, 49, 50, 51, 52, 53, 54, 55, 56, 57, 97, 98, 99, 100, 101, 102]⟩ : ByteArray)] rfl (by (try simp only [List.map_toArray, List.map_cons, List.map_nil]); first | done | (simp only [hji7]; rfl) | rfl | (simp only [List.length_drop, List.length_take]; rfl)) ?_; (with_reducible refine (chandleryref02_value.calls k1 (bt a0 (ji7)) (⟨#[48, 49, 50, 51, 52, 53, 54, 55, 56, 57, 97, 98, 99, 100, 101, 102]⟩ : ByteArray) t112 _ A11.out).mono ?_); rintro e w' ⟨rfl, ⟨nd, rfl⟩⟩; refine ⟨_, rfl, ?_⟩) | ((with_reducible refine gate_builtin (b := .append) (xs := #[.tmp 33, .tmp 39]) rfl ?_); at_builtin; refine Kd.R_append (Kd.int .u8) (w0 := w) w.heap.size rfl (.tmp 33) (.tmp 39) 22 5 (.int .u8 0) 1 rfl Tryd.underlying22 info5 rfl (by decide) (by omega) u4 x4_1 ((wrap64 ((wrap64 (16 * t111)) + t112)) % 256) [.int .u8 ((wrap64 ((wrap64 (16 * t111)) + t112)) % 256)] (fun _ => True) (fun _ => False) rfl rfl ?aP (fun _ hk => hk.elim) ?aF ?aO ?aB ?aS ?aL ?_; (case aP => exact rfl); (case aB => exact (by repeat (first | (with_reducible first | exact HB.out | apply below_alloc | apply pw_below_drewN | apply below_drew1) | exact HB.out))); (case aF => exact (fun _ _ => trivial)); (case aO => exact (by (with_reducible repeat (first | apply Kd.R_alloc | apply Kd.R_drewN | apply Kd.R_drew)); exact HO_4.out)); (case aS => exact (below_size (by repeat (first | (with_reducible first | exact HB.out | apply below_alloc | apply pw_below_drewN | apply below_drew1) | exact HB.out)))); (case aL => have := LMc14.out; omega); intro v114 w15 ho hb hg hat; rw [← Ny113.out] at ho; have n0_ := Aside0.mk (hb); have n1_ := Aside0.mk (ho); clear HB; clear HO_4; have HB := n0_; have HO115 := n1_; clear n0_ n1_; clear ho hb hg hat))
                      go_roundg k1
                      case measure => have := HK1.out; omega
                      case rel => exact ⟨(y113), (wrap64 (x5_1 + 2)), (by first | rfl | (simp; done) | exact congrArg Value.bool (Go.Proofs.YtalbbifgkninmaaDoorX.isEmpty_ne_ _) | exact congrArg Value.bool (Go.Proofs.YtalbbifgkninmaaDoorX.ne_isEmpty_ _) | (simp [*]; done)), H', ⟨by have := HK1.out; omega⟩, ⟨by (with_reducible repeat (first | apply Kd.R_alloc | apply Kd.R_drewN | apply Kd.R_drew)); exact HO115.out⟩, ⟨by repeat (first | (with_reducible first | exact HB.out | apply below_alloc | apply pw_below_drewN | apply below_drew1) | exact HB.out)⟩⟩
                    · rw [if_neg c14] at H
                      exact absurd H (by simp)
              · rw [if_neg c9] at H
                exact absurd H (by simp)
            · rw [if_neg c8] at H
              exact absurd H (by simp)
          · rw [if_neg c4] at H
            exact absurd H (by simp)
        · rw [if_neg c3] at H
          have c3b0 : decide (x5_1 < (a0.size : Int)) = false := decide_eq_false c3
          clear c3
          simp only [Option.some.injEq, Prod.mk.injEq] at H
          obtain ⟨rfl, rfl⟩ := H
          go_wp2
          go_ret2
          exact ⟨_, by first | rfl | (simp [errW_none, errW_some] <;> rfl) | (simp [*, errW_none, errW_some] <;> rfl), by (with_reducible repeat (first | apply Kd.R_alloc | apply Kd.R_drewN | apply Kd.R_drew)); exact HO_4.out, by repeat (first | (with_reducible first | exact HB.out | apply below_alloc | apply pw_below_drewN | apply below_drew1) | exact HB.out)⟩
  · rw [if_neg c2] at H
    have c2b0 : (((a0.size : Int) % 2) == 0) = false := beq_eq_false_iff_ne.mpr c2
    have c2b1 : (((a0.size : Int) % 2) != 0) = true := bne_iff_ne.mpr c2
    simp only [Option.some.injEq, Prod.mk.injEq] at H
    obtain ⟨rfl, rfl⟩ := H
    go_enter Tryd.func12, Tryd.ntmps12
    go_wp2
    go_ret2
    exact ⟨_, by first | rfl | (simp [errW_none, errW_some] <;> rfl) | (simp [*, errW_none, errW_some] <;> rfl), by first | exact Kd.R_nil _ _ _ _ _ | exact Kd.N_nil _ _ _ _ _ | exact Kd.V_nil _ _ _ _ _ | exact Kd.Q_nil _ _ _ _ _ | exact Kd.S_nil _ _ _ _ _, by repeat (first | (with_reducible first | exact HB.out | apply below_alloc | apply pw_below_drewN | apply below_drew1) | exact HB.out)⟩

/-! ### base_size: function 25 -/
def base_size.f (a0 : Int) : Option (Int) := some (wrap64 (Int.tdiv (wrap64 ((wrap64 ((wrap64 (8 * a0)) + 5)) - 1)) 5))
set_option maxHeartbeats 8000000 in
set_option maxRecDepth 100000 in
theorem base_size.calls (a0 : Int) (r : Int) (w : World) (h : base_size.f a0 = some r) :
    Calls Tryd.prog 25 #[.int .i64 a0] w fun e w' => e = .returned (.int .i64 r) ∧ Drawn0 w w' := by
  have H : (some (wrap64 (Int.tdiv (wrap64 ((wrap64 ((wrap64 (8 * a0)) + 5)) - 1)) 5))) = some r := h
  clear h
  obtain rfl := Option.some.inj H
  go_enter Tryd.func25, Tryd.ntmps25
  go_wp2
  go_ret
  exact ⟨by first | rfl | (simp; done) | (simp [*]; done), by repeat (first | exact Drawn0.refl _ | apply Drawn0.step)⟩

/-! ### base_Decode: function 14 -/
def base_Decode.l0 : Nat → ByteArray → List Int → Int → Int → Option (List Int × Int)
  | 0, _, _, _, _ => none
  | k + 1, x0, x4, x21, x22 => if x22 < x21 then (if 0 ≤ (wrap64 ((wrap64 ((x0.size : Int) - 1)) - x22)) then (if (wrap64 ((wrap64 ((x0.size : Int) - 1)) - x22)) < (x0.size : Int) then ((strings_IndexByte.f (⟨#[48, 49, 50, 51, 52, 53, 54, 55, 56, 57, 97, 98, 99, 100, 102, 103, 104, 105, 106, 107, 108, 109, 110, 112, 113, 114, 115, 118, 119, 120, 121, 122]⟩ : ByteArray) (bt x0 (wrap64 ((wrap64 ((x0.size : Int) - 1)) - x22)))).bind fun t120 => (if t120 < 0 then (some (([] : List Int), 4)) else (if 0 ≤ (Int.tmod (wrap64 (5 * x22)) 8) then (if 0 ≤ (wrap64 (Int.tdiv (wrap64 (5 * x22)) 8)) then (if (wrap64 (Int.tdiv (wrap64 (5 * x22)) 8)) < (x4.length : Int) then ((some (x4.set ((wrap64 (Int.tdiv (wrap64 (5 * x22)) 8)) : Int).toNat (Go.bits .or .u8 (rd x4 (wrap64 (Int.tdiv (wrap64 (5 * x22)) 8))) ((shl .i64 t120 (Int.tmod (wrap64 (5 * x22)) 8)) % 256)) : List Int)).bind fun y122 => (if (wrap64 ((wrap64 (Int.tdiv (wrap64 (5 * x22)) 8)) + 1)) < (x4.length : Int) then (if 0 ≤ (wrap64 ((wrap64 (Int.tdiv (wrap64 (5 * x22)) 8)) + 1)) then (base_Decode.l0 k x0 (y122.set ((wrap64 ((wrap64 (Int.tdiv (wrap64 (5 * x22)) 8)) + 1)) : Int).toNat (Go.bits .or .u8 (rd y122 (wrap64 ((wrap64 (Int.tdiv (wrap64 (5 * x22)) 8)) + 1))) (((shl .i64 t120 (Int.tmod (wrap64 (5 * x22)) 8)) / 256) % 256))) x21 (wrap64 (x22 + 1))) else (none)) else (if ((shl .i64 t120 (Int.tmod (wrap64 (5 * x22)) 8)) / 256) = 0 then (base_Decode.l0 k x0 y122 x21 (wrap64 (x22 + 1))) else (some (([] : List Int), 4))))) else (none)) else (none)) else (none)))) else (none)) else (none)) else (some (x4, 0))
def base_Decode.f (k : Nat) (a0 : ByteArray) : Option (List Int × Int) := if 0 ≤ (wrap64 (Int.tdiv (wrap64 ((a0.size : Int) * 5)) 8)) then (if (wrap64 (Int.tdiv (wrap64 ((a0.size : Int) * 5)) 8) : Int).toNat ≤ 281474976710656 then ((some (List.replicate (wrap64 (Int.tdiv (wrap64 ((a0.size : Int) * 5)) 8) : Int).toNat 0 : List Int)).bind fun y116 => ((base_size.f (y116.length : Int)).bind fun t119 => (if t119 = (a0.size : Int) then (base_Decode.l0 k a0 y116 (a0.size : Int) 0) else (some (([] : List Int), 4))))) else (none)) else (none)
theorem base_Decode.mono_l : ∀ k, (∀ y0 y1 y2 y3, LeO (base_Decode.l0 k y0 y1 y2 y3) (base_Decode.l0 (k + 1) y0 y1 y2 y3))
  | 0 => fun _ _ _ _ r h => by simp [base_Decode.l0] at h
  | k + 1 => by
    have ih0 := base_Decode.mono_l k
    · intro y0 y1 y2 y3
      unfold base_Decode.l0
      repeat' first
      | (with_reducible exact ih0 _ _ _ _)
      | (with_reducible exact LeO.refl _)
      | (with_reducible exact LeO.none _)
      | (with_reducible refine LeO.ite ?_ ?_)
      | (with_reducible refine LeO.bind ?_ (fun _ => ?_))
      | exact ih0 _ _ _ _
      | exact LeO.none _
      | refine LeO.ite ?_ ?_
      | refine LeO.bind ?_ (fun _ => ?_)
theorem base_Decode.mono : ∀ a0 k, LeO (base_Decode.f k a0) (base_Decode.f (k + 1) a0) := by
  intro a0 k
  have ih0 := base_Decode.mono_l k
  unfold base_Decode.f
  repeat' first
      | (with_reducible exact ih0 _ _ _ _)
      | (with_reducible exact LeO.refl _)
      | (with_reducible exact LeO.none _)
      | (with_reducible refine LeO.ite ?_ ?_)
      | (with_reducible refine LeO.bind ?_ (fun _ => ?_))
      | exact ih0 _ _ _ _
      | exact LeO.none _
      | refine LeO.ite ?_ ?_
      | refine LeO.bind ?_ (fun _ => ?_)
set_option maxHeartbeats 8000000 in
set_option maxRecDepth 100000 in
theorem base_Decode.calls (k : Nat) (a0 : ByteArray) (r1 : List Int) (r2 : Int) (w : World) (h : base_Decode.f k a0 = some (r1, r2)) :
    Calls Tryd.prog 14 #[.string a0] w fun e w' => ∃ v0_ : Value, e = .returned (.tuple #[v0_, .int .i64 r2]) ∧ Kd.R (Kd.int .u8) 5 w' w.heap.size (fun _ => True) v0_ r1 ∧ Below w.heap.size w w' := by
  have HB := Aside0.mk (Below.refl w.heap.size w)
  have H : (if 0 ≤ (wrap64 (Int.tdiv (wrap64 ((a0.size : Int) * 5)) 8)) then (if (wrap64 (Int.tdiv (wrap64 ((a0.size : Int) * 5)) 8) : Int).toNat ≤ 281474976710656 then ((some (List.replicate (wrap64 (Int.tdiv (wrap64 ((a0.size : Int) * 5)) 8) : Int).toNat 0 : List Int)).bind fun y116 => ((base_size.f (y116.length : Int)).bind fun t119 => (if t119 = (a0.size : Int) then (base_Decode.l0 k a0 y116 (a0.size : Int) 0) else (some (([] : List Int), 4))))) else (none)) else (none)) = some (r1, r2) := h
  clear h
  obtain ⟨ji2, hji2⟩ : ∃ j_ : Int, (wrap64 (Int.tdiv (wrap64 ((a0.size : Int) * 5)) 8)) = j_ := ⟨_, rfl⟩
  replace H : (if 0 ≤ (ji2) then (if (ji2 : Int).toNat ≤ 281474976710656 then ((some (List.replicate (ji2 : Int).toNat 0 : List Int)).bind fun y116 => ((base_size.f (y116.length : Int)).bind fun t119 => (if t119 = (a0.size : Int) then (base_Decode.l0 k a0 y116 (a0.size : Int) 0) else (some (([] : List Int), 4))))) else (none)) else (none)) = some (r1, r2) := by first | (rw [hji2] at H; exact H) | (simp only [hji2] at H ⊢; exact H)
  have hji2w : (IntKind.i64.wrap (Int.tdiv (wrap64 ((a0.size : Int) * 5)) 8)) = ji2 := (i64_w _).trans hji2
  by_cases c3 : 0 ≤ (ji2)
  · rw [if_pos c3] at H
    have c3b0 := eq_true c3
    have c3b1 : decide (0 ≤ (ji2)) = true := decide_eq_true c3
    clear c3
    by_cases c4 : (ji2 : Int).toNat ≤ 281474976710656
    · rw [if_pos c4] at H
      have c4b0 := eq_true c4
      have c4b1 : decide ((ji2 : Int).toNat ≤ 281474976710656) = true := decide_eq_true c4
      clear c4
      obtain ⟨y116, hy116⟩ : ∃ y_ : List Int, y_ = (List.replicate (ji2 : Int).toNat 0) := ⟨_, rfl⟩
      replace H : ((base_size.f (y116.length : Int)).bind fun t119 => (if t119 = (a0.size : Int) then (base_Decode.l0 k a0 y116 (a0.size : Int) 0) else (some (([] : List Int), 4)))) = some (r1, r2) := by first | (rw [hy116]; with_reducible exact H) | (have H2_ := (Option.bind_some _ _).symm.trans H; rw [hy116]; with_reducible exact H2_) | (have H2_ := (Option.bind_some _ _).symm.trans H; with_reducible exact H2_) | with_reducible exact H | (rw [hy116]; exact H) | exact H
      have Ny116 := Aside0.mk hy116
      clear hy116
      replace H := Option.bind_eq_some_iff.mp H
      obtain ⟨t119, A50, H⟩ := H
      replace H : (if t119 = (a0.size : Int) then (base_Decode.l0 k a0 y116 (a0.size : Int) 0) else (some (([] : List Int), 4))) = some (r1, r2) := H
      have A5 := Aside0.mk A50
      clear A50
      by_cases c6 : t119 = (a0.size : Int)
      · rw [if_pos c6] at H
        have c6b0 : (t119 == (a0.size : Int)) = true := beq_iff_eq.mpr c6
        have c6b1 : (t119 != (a0.size : Int)) = false := bne_eq_false_iff_eq.mpr c6
        clear c6
        have H' := Aside0.mk H
        clear H
        go_enter Tryd.func14, Tryd.ntmps14
        go_wp2_with (first | ((with_reducible refine gate_dst (N := 13) rfl ?_); refine Kd.R_make (Kd.int .u8) _ 5 rfl (N := 13) rfl 22 _ _ rfl ji2 rfl rfl Tryd.underlying22 (.int .u8 0) 1 info5 rfl (by decide) (by omega) 0 (ok := fun _ => True) (okp := fun _ => True) rfl (fun _ hk => hk) trivial (of_decide_eq_true (by first | (with_reducible assumption) | assumption)) (Nat.le_trans (Nat.mul_le_mul_right _ (of_decide_eq_true (by first | (with_reducible assumption) | assumption) : ji2.toNat ≤ 281474976710656)) (by omega)) (Below.refl _ _) (Nat.le_refl _) ?_; intro v117 w7 ho8 hb hg_ hnew_; clear hg_ hnew_; (first | rw [← Ny116.out] at ho8 | (simp only [Int.reduceToNat] at ho8; rw [← Ny116.out] at ho8)); have n0_ := Aside0.mk (Kd.R_lower ho8 (below_size (by repeat (first | (with_reducible first | exact HB.out | apply below_alloc | apply pw_below_drewN | apply below_drew1) | exact HB.out)))); have n1_ := Aside0.mk (below_step (by repeat (first | (with_reducible first | exact HB.out | apply below_alloc | apply pw_below_drewN | apply below_drew1) | exact HB.out)) hb); clear HB; have HO118 := n0_; have HB := n1_; clear n0_ n1_; clear hb ho8; obtain ⟨Ao9, co9, eo9⟩ := Kd.R_slice HO118.out; subst eo9) | ((with_reducible refine gate_callee (f := 25) rfl ?_); refine goesL_ (some 16) rfl rfl Tryd.func25 (by kernel_rfl) rfl #[.int .i64 (y116.length : Int)] rfl (by (try simp only [List.map_toArray, List.map_cons, List.map_nil]); first | done | rfl | (simp only [List.length_drop, List.length_take]; rfl)) ?_; (with_reducible refine (base_size.calls (y116.length : Int) t119 _ A5.out).mono ?_); rintro e w' ⟨rfl, ⟨nd, rfl⟩⟩; refine ⟨_, rfl, ?_⟩))
        go_loopg [22] k (fun kq v22 w' => ∃ (x4_1 : List Int) (x22_1 : Int), v22 = .int .i64 x22_1 ∧ Aside0 (base_Decode.l0 kq a0 x4_1 (a0.size : Int) x22_1 = some (r1, r2)) ∧ Aside0 (kq ≤ k) ∧ Aside0 (Kd.R (Kd.int .u8) 5 w' w.heap.size (fun _ => True) (.slice Ao9 y116.length co9) x4_1) ∧ Aside0 (Below w.heap.size w w'))
        case atStart => exact ⟨(y116), (0), (by first | rfl | (simp; done) | exact congrArg Value.bool (Go.Proofs.YtalbbifgkninmaaDoorX.isEmpty_ne_ _) | exact congrArg Value.bool (Go.Proofs.YtalbbifgkninmaaDoorX.ne_isEmpty_ _) | (simp [*]; done)), H', ⟨Nat.le_refl _⟩, ⟨by (with_reducible repeat (first | apply Kd.R_alloc | apply Kd.R_drewN | apply Kd.R_drew)); exact HO118.out⟩, ⟨by repeat (first | (with_reducible first | exact HB.out | apply below_alloc | apply pw_below_drewN | apply below_drew1) | exact HB.out)⟩⟩
        case round =>
          clear H'
          try clear c1
          try clear c2
          try clear p2
          try clear c3
          try clear c3b0
          try clear c3b1
          try clear c4
          try clear c4b0
          try clear c4b1
          try clear c6
          try clear c6b0
          try clear c6b1
          try clear p6
          obtain ⟨x4_1, x22_1, rfl, HA, HK1, HO_4, HB⟩ := hrel
          have hl4_1 := (Kd.R_reads' HO_4.out).1
          rw [hl4_1] at HO_4
          (try simp only [hl4_1])
          cases gk with
          | zero => exact absurd HA.out (by simp [base_Decode.l0])
          | succ k1 =>
            have H := HA.out
            clear HA
            simp only [base_Decode.l0] at H
            by_cases c10 : x22_1 < (a0.size : Int)
            · rw [if_pos c10] at H
              have c10b0 : decide (x22_1 < (a0.size : Int)) = true := decide_eq_true c10
              clear c10
              obtain ⟨ji11, hji11⟩ : ∃ j_ : Int, (wrap64 ((wrap64 ((a0.size : Int) - 1)) - x22_1)) = j_ := ⟨_, rfl⟩
              replace H : (if 0 ≤ (ji11) then (if (ji11) < (a0.size : Int) then ((strings_IndexByte.f (⟨#[48, 49, 50, 51, 52, 53, 54, 55, 56, 57, 97, 98, 99, 100, 102, 103, 104, 105, 106, 107, 108, 109, 110, 112, 113, 114, 115, 118, 119, 120, 121, 122]⟩ : ByteArray) (bt a0 (ji11))).bind fun t120 => (if t120 < 0 then (some (([] : List Int), 4)) else (if 0 ≤ (Int.tmod (wrap64 (5 * x22_1)) 8) then (if 0 ≤ (wrap64 (Int.tdiv (wrap64 (5 * x22_1)) 8)) then (if (wrap64 (Int.tdiv (wrap64 (5 * x22_1)) 8)) < (x4_1.length : Int) then ((some (x4_1.set ((wrap64 (Int.tdiv (wrap64 (5 * x22_1)) 8)) : Int).toNat (Go.bits .or .u8 (rd x4_1 (wrap64 (Int.tdiv (wrap64 (5 * x22_1)) 8))) ((shl .i64 t120 (Int.tmod (wrap64 (5 * x22_1)) 8)) % 256)) : List Int)).bind fun y122 => (if (wrap64 ((wrap64 (Int.tdiv (wrap64 (5 * x22_1)) 8)) + 1)) < (x4_1.length : Int) then (if 0 ≤ (wrap64 ((wrap64 (Int.tdiv (wrap64 (5 * x22_1)) 8)) + 1)) then (base_Decode.l0 k1 a0 (y122.set ((wrap64 ((wrap64 (Int.tdiv (wrap64 (5 * x22_1)) 8)) + 1)) : Int).toNat (Go.bits .or .u8 (rd y122 (wrap64 ((wrap64 (Int.tdiv (wrap64 (5 * x22_1)) 8)) + 1))) (((shl .i64 t120 (Int.tmod (wrap64 (5 * x22_1)) 8)) / 256) % 256))) (a0.size : Int) (wrap64 (x22_1 + 1))) else (none)) else (if ((shl .i64 t120 (Int.tmod (wrap64 (5 * x22_1)) 8)) / 256) = 0 then (base_Decode.l0 k1 a0 y122 (a0.size : Int) (wrap64 (x22_1 + 1))) else (some (([] : List Int), 4))))) else (none)) else (none)) else (none)))) else (none)) else (none)) = some (r1, r2) := by first | (rw [hji11] at H; exact H) | (simp only [hji11] at H ⊢; exact H)
              have hji11w : (IntKind.i64.wrap ((wrap64 ((a0.size : Int) - 1)) - x22_1)) = ji11 := (i64_w _).trans hji11
              by_cases c12 : 0 ≤ (ji11)
              · rw [if_pos c12] at H
                have c12b0 : decide (0 ≤ (ji11)) = true := decide_eq_true c12
                clear c12
                by_cases c13 : (ji11) < (a0.size : Int)
                · rw [if_pos c13] at H
                  have c13b0 : decide ((ji11) < (a0.size : Int)) = true := decide_eq_true c13
                  clear c13
                  replace H := Option.bind_eq_some_iff.mp H
                  obtain ⟨t120, A150, H⟩ := H
                  replace H : (if t120 < 0 then (some (([] : List Int), 4)) else (if 0 ≤ (Int.tmod (wrap64 (5 * x22_1)) 8) then (if 0 ≤ (wrap64 (Int.tdiv (wrap64 (5 * x22_1)) 8)) then (if (wrap64 (Int.tdiv (wrap64 (5 * x22_1)) 8)) < (x4_1.length : Int) then ((some (x4_1.set ((wrap64 (Int.tdiv (wrap64 (5 * x22_1)) 8)) : Int).toNat (Go.bits .or .u8 (rd x4_1 (wrap64 (Int.tdiv (wrap64 (5 * x22_1)) 8))) ((shl .i64 t120 (Int.tmod (wrap64 (5 * x22_1)) 8)) % 256)) : List Int)).bind fun y122 => (if (wrap64 ((wrap64 (Int.tdiv (wrap64 (5 * x22_1)) 8)) + 1)) < (x4_1.length : Int) then (if 0 ≤ (wrap64 ((wrap64 (Int.tdiv (wrap64 (5 * x22_1)) 8)) + 1)) then (base_Decode.l0 k1 a0 (y122.set ((wrap64 ((wrap64 (Int.tdiv (wrap64 (5 * x22_1)) 8)) + 1)) : Int).toNat (Go.bits .or .u8 (rd y122 (wrap64 ((wrap64 (Int.tdiv (wrap64 (5 * x22_1)) 8)) + 1))) (((shl .i64 t120 (Int.tmod (wrap64 (5 * x22_1)) 8)) / 256) % 256))) (a0.size : Int) (wrap64 (x22_1 + 1))) else (none)) else (if ((shl .i64 t120 (Int.tmod (wrap64 (5 * x22_1)) 8)) / 256) = 0 then (base_Decode.l0 k1 a0 y122 (a0.size : Int) (wrap64 (x22_1 + 1))) else (some (([] : List Int), 4))))) else (none)) else (none)) else (none))) = some (r1, r2) := H
                  have A15 := Aside0.mk A150
                  clear A150
                  by_cases c16 : t120 < 0
                  · rw [if_pos c16] at H
                    have c16b0 : decide (t120 < 0) = true := decide_eq_true c16
                    clear c16
                    simp only [Option.some.injEq, Prod.mk.injEq] at H
                    obtain ⟨rfl, rfl⟩ := H
                    have p14 : 0 ≤ ((ji11) : Int) := of_decide_eq_true (by first | (with_reducible assumption) | assumption)
                    have q14 : (ji11) < (a0.size : Int) := of_decide_eq_true (by first | (with_reducible assumption) | assumption)
                    have hx14 := bt_at a0 (ji11)
                    replace p14 := eq_true p14
                    replace q14 := eq_true q14
                    go_wp2_with (first | ((with_reducible refine gate_callee (f := 23) rfl ?_); refine goesL_ (some 32) rfl rfl Tryd.func23 (by kernel_rfl) rfl #[.string (⟨#[48, 49, 50, 51, 52, 53, 54, 55, 56, 57, 97, 98, 99, 100, 102, 103, 104, 105, 106, 107, 108, 109, 110, 112, 113, 114, 115, 118, 119, 120, 121, 122]⟩ : ByteArray), .int .u8 (bt a0 (ji11))] rfl (by (try simp only [List.map_toArray, List.map_cons, List.map_nil]); first | done | (simp only [hji11]; rfl) | rfl | (simp only [List.length_drop, List.length_take]; rfl)) ?_; (with_reducible refine (strings_IndexByte.calls (⟨#[48, 49, 50, 51, 52, 53, 54, 55, 56, 57, 97, 98, 99, 100, 102, 103, 104, 105, 106, 107, 108, 109, 110, 112, 113, 114, 115, 118, 119, 120, 121, 122]⟩ : ByteArray) (bt a0 (ji11)) t120 _ A15.out).mono ?_); rintro e w' ⟨rfl, ⟨nd, rfl⟩⟩; refine ⟨_, rfl, ?_⟩))
                    go_ret2
                    exact ⟨_, by first | rfl | (simp [errW_none, errW_some] <;> rfl) | (simp only [← hji2, ← hji11]; first | rfl | (simp [errW_none, errW_some] <;> rfl)) | (simp [*, errW_none, errW_some] <;> rfl), by first | exact Kd.R_nil _ _ _ _ _ | exact Kd.N_nil _ _ _ _ _ | exact Kd.V_nil _ _ _ _ _ | exact Kd.Q_nil _ _ _ _ _ | exact Kd.S_nil _ _ _ _ _, by repeat (first | (with_reducible first | exact HB.out | apply below_alloc | apply pw_below_drewN | apply below_drew1) | exact HB.out)⟩
                  · rw [if_neg c16] at H
                    have c16b0 : decide (t120 < 0) = false := decide_eq_false c16
                    clear c16
                    obtain ⟨ji17, hji17⟩ : ∃ j_ : Int, (Int.tmod (wrap64 (5 * x22_1)) 8) = j_ := ⟨_, rfl⟩
                    replace H : (if 0 ≤ (ji17) then (if 0 ≤ (wrap64 (Int.tdiv (wrap64 (5 * x22_1)) 8)) then (if (wrap64 (Int.tdiv (wrap64 (5 * x22_1)) 8)) < (x4_1.length : Int) then ((some (x4_1.set ((wrap64 (Int.tdiv (wrap64 (5 * x22_1)) 8)) : Int).toNat (Go.bits .or .u8 (rd x4_1 (wrap64 (Int.tdiv (wrap64 (5 * x22_1)) 8))) ((shl .i64 t120 (ji17)) % 256)) : List Int)).bind fun y122 => (if (wrap64 ((wrap64 (Int.tdiv (wrap64 (5 * x22_1)) 8)) + 1)) < (x4_1.length : Int) then (if 0 ≤ (wrap64 ((wrap64 (Int.tdiv (wrap64 (5 * x22_1)) 8)) + 1)) then (base_Decode.l0 k1 a0 (y122.set ((wrap64 ((wrap64 (Int.tdiv (wrap64 (5 * x22_1)) 8)) + 1)) : Int).toNat (Go.bits .or .u8 (rd y122 (wrap64 ((wrap64 (Int.tdiv (wrap64 (5 * x22_1)) 8)) + 1))) (((shl .i64 t120 (ji17)) / 256) % 256))) (a0.size : Int) (wrap64 (x22_1 + 1))) else (none)) else (if ((shl .i64 t120 (ji17)) / 256) = 0 then (base_Decode.l0 k1 a0 y122 (a0.size : Int) (wrap64 (x22_1 + 1))) else (some (([] : List Int), 4))))) else (none)) else (none)) else (none)) = some (r1, r2) := by first | (rw [hji17] at H; exact H) | (simp only [hji17] at H ⊢; exact H)
                    (try rw [hji17] at A15)
                    by_cases c18 : 0 ≤ (ji17)
                    · rw [if_pos c18] at H
                      have c18b0 := eq_true c18
                      have c18b1 : decide (0 ≤ (ji17)) = true := decide_eq_true c18
                      clear c18
                      obtain ⟨ji19, hji19⟩ : ∃ j_ : Int, (shl .i64 t120 (ji17)) = j_ := ⟨_, rfl⟩
                      replace H : (if 0 ≤ (wrap64 (Int.tdiv (wrap64 (5 * x22_1)) 8)) then (if (wrap64 (Int.tdiv (wrap64 (5 * x22_1)) 8)) < (x4_1.length : Int) then ((some (x4_1.set ((wrap64 (Int.tdiv (wrap64 (5 * x22_1)) 8)) : Int).toNat (Go.bits .or .u8 (rd x4_1 (wrap64 (Int.tdiv (wrap64 (5 * x22_1)) 8))) ((ji19) % 256)) : List Int)).bind fun y122 => (if (wrap64 ((wrap64 (Int.tdiv (wrap64 (5 * x22_1)) 8)) + 1)) < (x4_1.length : Int) then (if 0 ≤ (wrap64 ((wrap64 (Int.tdiv (wrap64 (5 * x22_1)) 8)) + 1)) then (base_Decode.l0 k1 a0 (y122.set ((wrap64 ((wrap64 (Int.tdiv (wrap64 (5 * x22_1)) 8)) + 1)) : Int).toNat (Go.bits .or .u8 (rd y122 (wrap64 ((wrap64 (Int.tdiv (wrap64 (5 * x22_1)) 8)) + 1))) (((ji19) / 256) % 256))) (a0.size : Int) (wrap64 (x22_1 + 1))) else (none)) else (if ((ji19) / 256) = 0 then (base_Decode.l0 k1 a0 y122 (a0.size : Int) (wrap64 (x22_1 + 1))) else (some (([] : List Int), 4))))) else (none)) else (none)) = some (r1, r2) := by first | (rw [hji19] at H; exact H) | (simp only [hji19] at H ⊢; exact H)
                      (try rw [hji19] at A15)
                      have hji19_ : (IntKind.i64.wrap (t120 * 2 ^ min (ji17).toNat 64)) = ji19 := hji19
                      have hji19z : (ji17) ≤ 64 → (IntKind.i64.wrap (t120 * 2 ^ (ji17).toNat)) = ji19 := shl_small hji19
                      have hji19y : (wrap64 (t120 * 2 ^ min (ji17).toNat 64)) = ji19 := (i64_w _).symm.trans hji19_
                      have hji19x : (ji17) ≤ 64 → (wrap64 (t120 * 2 ^ (ji17).toNat)) = ji19 := fun h_ => (i64_w _).symm.trans (hji19z h_)
                      obtain ⟨ji20, hji20⟩ : ∃ j_ : Int, (wrap64 (Int.tdiv (wrap64 (5 * x22_1)) 8)) = j_ := ⟨_, rfl⟩
                      replace H : (if 0 ≤ (ji20) then (if (ji20) < (x4_1.length : Int) then ((some (x4_1.set ((ji20) : Int).toNat (Go.bits .or .u8 (rd x4_1 (ji20)) ((ji19) % 256)) : List Int)).bind fun y122 => (if (wrap64 ((ji20) + 1)) < (x4_1.length : Int) then (if 0 ≤ (wrap64 ((ji20) + 1)) then (base_Decode.l0 k1 a0 (y122.set ((wrap64 ((ji20) + 1)) : Int).toNat (Go.bits .or .u8 (rd y122 (wrap64 ((ji20) + 1))) (((ji19) / 256) % 256))) (a0.size : Int) (wrap64 (x22_1 + 1))) else (none)) else (if ((ji19) / 256) = 0 then (base_Decode.l0 k1 a0 y122 (a0.size : Int) (wrap64 (x22_1 + 1))) else (some (([] : List Int), 4))))) else (none)) else (none)) = some (r1, r2) := by first | (rw [hji20] at H; exact H) | (simp only [hji20] at H ⊢; exact H)
                      (try rw [hji20] at A15)
                      have hji20w : (IntKind.i64.wrap (Int.tdiv (wrap64 (5 * x22_1)) 8)) = ji20 := (i64_w _).trans hji20
                      by_cases c21 : 0 ≤ (ji20)
                      · rw [if_pos c21] at H
                        have c21b0 : decide (0 ≤ (ji20)) = true := decide_eq_true c21
                        clear c21
                        by_cases c22 : (ji20) < (x4_1.length : Int)
                        · rw [if_pos c22] at H
                          have c22b0 : decide ((ji20) < (x4_1.length : Int)) = true := decide_eq_true c22
                          clear c22
                          (try rw [hl4_1] at c22b0)
                          obtain ⟨y122, hy122⟩ : ∃ y_ : List Int, y_ = (x4_1.set ((ji20) : Int).toNat (Go.bits .or .u8 (rd x4_1 (ji20)) ((ji19) % 256))) := ⟨_, rfl⟩
                          replace H : (if (wrap64 ((ji20) + 1)) < (x4_1.length : Int) then (if 0 ≤ (wrap64 ((ji20) + 1)) then (base_Decode.l0 k1 a0 (y122.set ((wrap64 ((ji20) + 1)) : Int).toNat (Go.bits .or .u8 (rd y122 (wrap64 ((ji20) + 1))) (((ji19) / 256) % 256))) (a0.size : Int) (wrap64 (x22_1 + 1))) else (none)) else (if ((ji19) / 256) = 0 then (base_Decode.l0 k1 a0 y122 (a0.size : Int) (wrap64 (x22_1 + 1))) else (some (([] : List Int), 4)))) = some (r1, r2) := by first | (rw [hy122]; with_reducible exact H) | (have H2_ := (Option.bind_some _ _).symm.trans H; rw [hy122]; with_reducible exact H2_) | (have H2_ := (Option.bind_some _ _).symm.trans H; with_reducible exact H2_) | with_reducible exact H | (rw [hy122]; exact H) | exact H
                          have Ny122 := Aside0.mk hy122
                          clear hy122
                          by_cases c24 : (wrap64 ((ji20) + 1)) < (x4_1.length : Int)
                          · rw [if_pos c24] at H
                            have c24b0 : decide ((wrap64 ((ji20) + 1)) < (x4_1.length : Int)) = true := decide_eq_true c24
                            clear c24
                            (try rw [hl4_1] at c24b0)
                            obtain ⟨ji25, hji25⟩ : ∃ j_ : Int, (wrap64 ((ji20) + 1)) = j_ := ⟨_, rfl⟩
                            replace H : (if 0 ≤ (ji25) then (base_Decode.l0 k1 a0 (y122.set ((ji25) : Int).toNat (Go.bits .or .u8 (rd y122 (ji25)) (((ji19) / 256) % 256))) (a0.size : Int) (wrap64 (x22_1 + 1))) else (none)) = some (r1, r2) := by first | (rw [hji25] at H; exact H) | (simp only [hji25] at H ⊢; exact H)
                            (try rw [hji25] at c24b0)
                            (try rw [hji25] at A15)
                            have hji25w : (IntKind.i64.wrap ((ji20) + 1)) = ji25 := (i64_w _).trans hji25
                            by_cases c26 : 0 ≤ (ji25)
                            · rw [if_pos c26] at H
                              have c26b0 : decide (0 ≤ (ji25)) = true := decide_eq_true c26
                              clear c26
                              obtain ⟨y124, hy124⟩ : ∃ y_ : List Int, y_ = (y122.set ((ji25) : Int).toNat (Go.bits .or .u8 (rd y122 (ji25)) (((ji19) / 256) % 256))) := ⟨_, rfl⟩
                              replace H : (base_Decode.l0 k1 a0 y124 (a0.size : Int) (wrap64 (x22_1 + 1))) = some (r1, r2) := by first | (rw [hy124]; with_reducible exact H) | (have H2_ := (Option.bind_some _ _).symm.trans H; rw [hy124]; with_reducible exact H2_) | (have H2_ := (Option.bind_some _ _).symm.trans H; with_reducible exact H2_) | with_reducible exact H | (rw [hy124]; exact H) | exact H
                              have Ny124 := Aside0.mk hy124
                              clear hy124
                              have H' := Aside0.mk H
                              clear H
                              have p14 : 0 ≤ ((ji11) : Int) := of_decide_eq_true (by first | (with_reducible assumption) | assumption)
                              have q14 : (ji11) < (a0.size : Int) := of_decide_eq_true (by first | (with_reducible assumption) | assumption)
                              have hx14 := bt_at a0 (ji11)
                              replace p14 := eq_true p14
                              replace q14 := eq_true q14
                              go_wp2_with (first | ((with_reducible refine gate_callee (f := 23) rfl ?_); refine goesL_ (some 32) rfl rfl Tryd.func23 (by kernel_rfl) rfl #[.string (⟨#[48, 49, 50, 51, 52, 53, 54, 55, 56, 57, 97, 98, 99, 100, 102, 103, 104, 105, 106, 107, 108, 109, 110, 112, 113, 114, 115, 118, 119, 120, 121, 122]⟩ : ByteArray), .int .u8 (bt a0 (ji11))] rfl (by (try simp only [List.map_toArray, List.map_cons, List.map_nil]); first | done | (simp only [hji11]; rfl) | rfl | (simp only [List.length_drop, List.length_take]; rfl)) ?_; (with_reducible refine (strings_IndexByte.calls (⟨#[48, 49, 50, 51, 52, 53, 54, 55, 56, 57, 97, 98, 99, 100, 102, 103, 104, 105, 106, 107, 108, 109, 110, 112, 113, 114, 115, 118, 119, 120, 121, 122]⟩ : ByteArray) (bt a0 (ji11)) t120 _ A15.out).mono ?_); rintro e w' ⟨rfl, ⟨nd, rfl⟩⟩; refine ⟨_, rfl, ?_⟩; (try (rw [drewN_self wr]; generalize hq_ : World.drewN wr _ = wr; have n0_ : Aside0 (Kd.R (Kd.int .u8) 5 wr w.heap.size (fun _ => True) (.slice Ao9 x4_1.length co9) x4_1) := ⟨by rw [← hq_]; exact (by (with_reducible repeat (first | apply Kd.R_alloc | apply Kd.R_drewN | apply Kd.R_drew)); exact HO_4.out)⟩; have n1_ : Aside0 (Below w.heap.size w wr) := ⟨by rw [← hq_]; exact (by repeat (first | (with_reducible first | exact HB.out | apply below_alloc | apply pw_below_drewN | apply below_drew1) | exact HB.out))⟩; clear HO_4 HB hq_; have HO_4 := n0_; have HB := n1_; clear n0_ n1_)); have p121 : 0 ≤ ((ji20) : Int) := of_decide_eq_true (by first | (with_reducible assumption) | assumption); have q121 : (ji20) < (x4_1.length : Int) := of_decide_eq_true (by first | (with_reducible assumption) | assumption); obtain ⟨ad121, e121, hx121_0⟩ := Kd.at_int (Kd.R_reads' HO_4.out).2.2 (ji20) p121 q121; cases e121; replace p121 := eq_true p121; replace q121 := eq_true q121; have p23 : 0 ≤ ((ji20) : Int) := of_decide_eq_true (by first | (with_reducible assumption) | assumption); have q23 : ((ji20) : Int) < ((x4_1.length : Int) : Int) := of_decide_eq_true (by first | (with_reducible assumption) | assumption); obtain ⟨go23, co23, eo23, gb23, gl23, cl23, HG23⟩ := Kd.R_form HO_4.out (by omega); (first | cases eo23 | (injection eo23 with ea_ en_ ec_; (first | subst ea_ | (injection ea_ with ea_; subst ea_)); subst ec_; clear en_)); have GB23 := Aside0.mk gb23; have GG23 := Aside0.mk HG23; clear gb23 gl23 HG23; (first | simp only [add_plain] at hx121_0 | skip); obtain ⟨hx23_0, hf23_0⟩ := Kd.R_celln 0 HO_4.out ((ji20) : Int) p23 q23; replace p23 := eq_true p23; replace q23 := eq_true q23; obtain ⟨hy28_, hz28_⟩ := Kd.R_celln 0 HO_4.out ((ji20) : Int) (of_decide_eq_true (by first | (with_reducible assumption) | assumption)) (of_decide_eq_true (by first | (with_reducible assumption) | assumption)); have HP28 := Kd.R_putg HO_4.out ((ji20) : Int) (Go.bits .or .u8 (rd x4_1 (ji20)) ((ji19) % 256))) | ((with_reducible refine gate_store (t := 5) (p := 49) rfl ?_); refine store_event (t := 5) (p := 49) (v := ?vo_w29) (w1 := (wr.setCell ⟨go23, ((ji20) : Int).toNat, none⟩ (.int .u8 (Go.bits .or .u8 (rd x4_1 (ji20)) ((ji19) % 256))))) ?hg ?ho ?hn ?hr ?_; (case ho => rfl); (case hg => rfl); (case hn => rfl); (case hr => first | (go_simp; done) | (go_simp; rfl)); intro w29 hw; have hg : wr.grownBy w29 (some go23) := (by rw [hw]; exact HP28.2); have hp_ : Kd.R (Kd.int .u8) 5 w29 w.heap.size (fun _ => True) (.slice (some ⟨go23, 0, none⟩) x4_1.length co9) y122 := (by rw [hw, Ny122.out]; exact HP28.1); clear HP28; have n0_ := Aside0.mk (hp_); have n1_ := Aside0.mk ((by rw [hw]; exact below_set (HB.out) GB23.out : Below w.heap.size w w29)); clear HO_4; clear HB; have HO_4 := n0_; have HB := n1_; clear n0_ n1_; clear hg hw hp_; have p123 : 0 ≤ ((ji25) : Int) := of_decide_eq_true (by first | (with_reducible assumption) | assumption); have q123 : (ji25) < (y122.length : Int) := (by have h_ : ((ji25) : Int) < ((x4_1.length : Int) : Int) := of_decide_eq_true (by first | (with_reducible assumption) | assumption); first | (have e_ := (Kd.R_reads' HO_4.out).1; omega) | simpa only [Ny122.out, List.length_set] using h_); have ql123 : (((ji25) : Int) < ((x4_1.length : Int) : Int)) = True := eq_true (of_decide_eq_true (by first | (with_reducible assumption) | assumption)); obtain ⟨ad123, e123, hx123_0⟩ := Kd.at_int (Kd.R_reads' HO_4.out).2.2 (ji25) p123 q123; obtain rfl : (⟨go23, 0, none⟩ : Addr) = ad123 := (by injection e123); (first | simp only [add_plain] at hx123_0 | simp only [add_at] at hx123_0 | simp only [Addr.add, Nat.zero_add] at hx123_0 | skip); replace p123 := eq_true p123; replace q123 := eq_true q123; have p27 : 0 ≤ ((ji25) : Int) := of_decide_eq_true (by first | (with_reducible assumption) | assumption); have q27 : ((ji25) : Int) < ((x4_1.length : Int) : Int) := of_decide_eq_true (by first | (with_reducible assumption) | assumption); obtain ⟨hx27_0, hf27_0⟩ := Kd.R_celln 0 HO_4.out ((ji25) : Int) p27 q27; replace p27 := eq_true p27; replace q27 := eq_true q27; obtain ⟨hy30_, hz30_⟩ := Kd.R_celln 0 HO_4.out ((ji25) : Int) (of_decide_eq_true (by first | (with_reducible assumption) | assumption)) (of_decide_eq_true (by first | (with_reducible assumption) | assumption)); have HP30 := Kd.R_putg HO_4.out ((ji25) : Int) (Go.bits .or .u8 (rd y122 (ji25)) (((ji19) / 256) % 256))) | ((with_reducible refine gate_store (t := 5) (p := 67) rfl ?_); refine store_event (t := 5) (p := 67) (v := ?vo_w31) (w1 := (w29.setCell ⟨go23, ((ji25) : Int).toNat, none⟩ (.int .u8 (Go.bits .or .u8 (rd y122 (ji25)) (((ji19) / 256) % 256))))) ?hg ?ho ?hn ?hr ?_; (case ho => rfl); (case hg => rfl); (case hn => rfl); (case hr => first | (go_simp; done) | (go_simp; rfl)); intro w31 hw; have hg : w29.grownBy w31 (some go23) := (by rw [hw]; exact HP30.2); have hp_ : Kd.R (Kd.int .u8) 5 w31 w.heap.size (fun _ => True) (.slice (some ⟨go23, 0, none⟩) x4_1.length co9) y124 := (by rw [hw, Ny124.out]; exact HP30.1); clear HP30; have n0_ := Aside0.mk (hp_); have n1_ := Aside0.mk ((by rw [hw]; exact below_set (HB.out) GB23.out : Below w.heap.size w w31)); clear HO_4; clear HB; have HO_4 := n0_; have HB := n1_; clear n0_ n1_; clear hg hw hp_))
                              (try simp only [← hl4_1])
                              go_roundg k1
                              case measure => have := HK1.out; omega
                              case rel => exact ⟨(y124), (wrap64 (x22_1 + 1)), (by first | rfl | (simp; done) | exact congrArg Value.bool (Go.Proofs.YtalbbifgkninmaaDoorX.isEmpty_ne_ _) | exact congrArg Value.bool (Go.Proofs.YtalbbifgkninmaaDoorX.ne_isEmpty_ _) | (simp [*]; done)), H', ⟨by have := HK1.out; omega⟩, ⟨by (try simp only [hl4_1]); (with_reducible repeat (first | apply Kd.R_alloc | apply Kd.R_drewN | apply Kd.R_drew)); exact HO_4.out⟩, ⟨by repeat (first | (with_reducible first | exact HB.out | apply below_alloc | apply pw_below_drewN | apply below_drew1) | exact HB.out)⟩⟩
                            · rw [if_neg c26] at H
                              exact absurd H (by simp)
                          · rw [if_neg c24] at H
                            have c24b0 : decide ((wrap64 ((ji20) + 1)) < (x4_1.length : Int)) = false := decide_eq_false c24
                            clear c24
                            (try rw [hl4_1] at c24b0)
                            by_cases c32 : ((ji19) / 256) = 0
                            · rw [if_pos c32] at H
                              have c32b0 : (((ji19) / 256) == 0) = true := beq_iff_eq.mpr c32
                              have c32b1 : (((ji19) / 256) != 0) = false := bne_eq_false_iff_eq.mpr c32
                              clear c32
                              have H' := Aside0.mk H
                              clear H
                              have p14 : 0 ≤ ((ji11) : Int) := of_decide_eq_true (by first | (with_reducible assumption) | assumption)
                              have q14 : (ji11) < (a0.size : Int) := of_decide_eq_true (by first | (with_reducible assumption) | assumption)
                              have hx14 := bt_at a0 (ji11)
                              replace p14 := eq_true p14
                              replace q14 := eq_true q14
                              go_wp2_with (first | ((with_reducible refine gate_callee (f := 23) rfl ?_); refine goesL_ (some 32) rfl rfl Tryd.func23 (by kernel_rfl) rfl #[.string (⟨#[48, 49, 50, 51, 52, 53, 54, 55, 56, 57, 97, 98, 99, 100, 102, 103, 104, 105, 106, 107, 108, 109, 110, 112, 113, 114, 115, 118, 119, 120, 121, 122]⟩ : ByteArray), .int .u8 (bt a0 (ji11))] rfl (by (try simp only [List.map_toArray, List.map_cons, List.map_nil]); first | done | (simp only [hji11]; rfl) | rfl | (simp only [List.length_drop, List.length_take]; rfl)) ?_; (with_reducible refine (strings_IndexByte.calls (⟨#[48, 49, 50, 51, 52, 53, 54, 55, 56, 57, 97, 98, 99, 100, 102, 103, 104, 105, 106, 107, 108, 109, 110, 112, 113, 114, 115, 118, 119, 120, 121, 122]⟩ : ByteArray) (bt a0 (ji11)) t120 _ A15.out).mono ?_); rintro e w' ⟨rfl, ⟨nd, rfl⟩⟩; refine ⟨_, rfl, ?_⟩; (try (rw [drewN_self wr]; generalize hq_ : World.drewN wr _ = wr; have n0_ : Aside0 (Kd.R (Kd.int .u8) 5 wr w.heap.size (fun _ => True) (.slice Ao9 x4_1.length co9) x4_1) := ⟨by rw [← hq_]; exact (by (with_reducible repeat (first | apply Kd.R_alloc | apply Kd.R_drewN | apply Kd.R_drew)); exact HO_4.out)⟩; have n1_ : Aside0 (Below w.heap.size w wr) := ⟨by rw [← hq_]; exact (by repeat (first | (with_reducible first | exact HB.out | apply below_alloc | apply pw_below_drewN | apply below_drew1) | exact HB.out))⟩; clear HO_4 HB hq_; have HO_4 := n0_; have HB := n1_; clear n0_ n1_)); have p121 : 0 ≤ ((ji20) : Int) := of_decide_eq_true (by first | (with_reducible assumption) | assumption); have q121 : (ji20) < (x4_1.length : Int) := of_decide_eq_true (by first | (with_reducible assumption) | assumption); obtain ⟨ad121, e121, hx121_0⟩ := Kd.at_int (Kd.R_reads' HO_4.out).2.2 (ji20) p121 q121; cases e121; replace p121 := eq_true p121; replace q121 := eq_true q121; have p23 : 0 ≤ ((ji20) : Int) := of_decide_eq_true (by first | (with_reducible assumption) | assumption); have q23 : ((ji20) : Int) < ((x4_1.length : Int) : Int) := of_decide_eq_true (by first | (with_reducible assumption) | assumption); obtain ⟨go23, co23, eo23, gb23, gl23, cl23, HG23⟩ := Kd.R_form HO_4.out (by omega); (first | cases eo23 | (injection eo23 with ea_ en_ ec_; (first | subst ea_ | (injection ea_ with ea_; subst ea_)); subst ec_; clear en_)); have GB23 := Aside0.mk gb23; have GG23 := Aside0.mk HG23; clear gb23 gl23 HG23; (first | simp only [add_plain] at hx121_0 | skip); obtain ⟨hx23_0, hf23_0⟩ := Kd.R_celln 0 HO_4.out ((ji20) : Int) p23 q23; replace p23 := eq_true p23; replace q23 := eq_true q23; obtain ⟨hy33_, hz33_⟩ := Kd.R_celln 0 HO_4.out ((ji20) : Int) (of_decide_eq_true (by first | (with_reducible assumption) | assumption)) (of_decide_eq_true (by first | (with_reducible assumption) | assumption)); have HP33 := Kd.R_putg HO_4.out ((ji20) : Int) (Go.bits .or .u8 (rd x4_1 (ji20)) ((ji19) % 256))) | ((with_reducible refine gate_store (t := 5) (p := 49) rfl ?_); refine store_event (t := 5) (p := 49) (v := ?vo_w34) (w1 := (wr.setCell ⟨go23, ((ji20) : Int).toNat, none⟩ (.int .u8 (Go.bits .or .u8 (rd x4_1 (ji20)) ((ji19) % 256))))) ?hg ?ho ?hn ?hr ?_; (case ho => rfl); (case hg => rfl); (case hn => rfl); (case hr => first | (go_simp; done) | (go_simp; rfl)); intro w34 hw; have hg : wr.grownBy w34 (some go23) := (by rw [hw]; exact HP33.2); have hp_ : Kd.R (Kd.int .u8) 5 w34 w.heap.size (fun _ => True) (.slice (some ⟨go23, 0, none⟩) x4_1.length co9) y122 := (by rw [hw, Ny122.out]; exact HP33.1); clear HP33; have n0_ := Aside0.mk (hp_); have n1_ := Aside0.mk ((by rw [hw]; exact below_set (HB.out) GB23.out : Below w.heap.size w w34)); clear HO_4; clear HB; have HO_4 := n0_; have HB := n1_; clear n0_ n1_; clear hg hw hp_))
                              (try simp only [← hl4_1])
                              go_roundg k1
                              case measure => have := HK1.out; omega
                              case rel => exact ⟨(y122), (wrap64 (x22_1 + 1)), (by first | rfl | (simp; done) | exact congrArg Value.bool (Go.Proofs.YtalbbifgkninmaaDoorX.isEmpty_ne_ _) | exact congrArg Value.bool (Go.Proofs.YtalbbifgkninmaaDoorX.ne_isEmpty_ _) | (simp [*]; done)), H', ⟨by have := HK1.out; omega⟩, ⟨by (try simp only [hl4_1]); (with_reducible repeat (first | apply Kd.R_alloc | apply Kd.R_drewN | apply Kd.R_drew)); exact HO_4.out⟩, ⟨by repeat (first | (with_reducible first | exact HB.out | apply below_alloc | apply pw_below_drewN | apply below_drew1) | exact HB.out)⟩⟩
                            · rw [if_neg c32] at H
                              have c32b0 : (((ji19) / 256) == 0) = false := beq_eq_false_iff_ne.mpr c32
                              have c32b1 : (((ji19) / 256) != 0) = true := bne_iff_ne.mpr c32
                              simp only [Option.some.injEq, Prod.mk.injEq] at H
                              obtain ⟨rfl, rfl⟩ := H
                              have p14 : 0 ≤ ((ji11) : Int) := of_decide_eq_true (by first | (with_reducible assumption) | assumption)
                              have q14 : (ji11) < (a0.size : Int) := of_decide_eq_true (by first | (with_reducible assumption) | assumption)
                              have hx14 := bt_at a0 (ji11)
                              replace p14 := eq_true p14
                              replace q14 := eq_true q14
                              go_wp2_with (first | ((with_reducible refine gate_callee (f := 23) rfl ?_); refine goesL_ (some 32) rfl rfl Tryd.func23 (by kernel_rfl) rfl #[.string (⟨#[48, 49, 50, 51, 52, 53, 54, 55, 56, 57, 97, 98, 99, 100, 102, 103, 104, 105, 106, 107, 108, 109, 110, 112, 113, 114, 115, 118, 119, 120, 121, 122]⟩ : ByteArray), .int .u8 (bt a0 (ji11))] rfl (by (try simp only [List.map_toArray, List.map_cons, List.map_nil]); first | done | (simp only [hji11]; rfl) | rfl | (simp only [List.length_drop, List.length_take]; rfl)) ?_; (with_reducible refine (strings_IndexByte.calls (⟨#[48, 49, 50, 51, 52, 53, 54, 55, 56, 57, 97, 98, 99, 100, 102, 103, 104, 105, 106, 107, 108, 109, 110, 112, 113, 114, 115, 118, 119, 120, 121, 122]⟩ : ByteArray) (bt a0 (ji11)) t120 _ A15.out).mono ?_); rintro e w' ⟨rfl, ⟨nd, rfl⟩⟩; refine ⟨_, rfl, ?_⟩; (try (rw [drewN_self wr]; generalize hq_ : World.drewN wr _ = wr; have n0_ : Aside0 (Kd.R (Kd.int .u8) 5 wr w.heap.size (fun _ => True) (.slice Ao9 x4_1.length co9) x4_1) := ⟨by rw [← hq_]; exact (by (with_reducible repeat (first | apply Kd.R_alloc | apply Kd.R_drewN | apply Kd.R_drew)); exact HO_4.out)⟩; have n1_ : Aside0 (Below w.heap.size w wr) := ⟨by rw [← hq_]; exact (by repeat (first | (with_reducible first | exact HB.out | apply below_alloc | apply pw_below_drewN | apply below_drew1) | exact HB.out))⟩; clear HO_4 HB hq_; have HO_4 := n0_; have HB := n1_; clear n0_ n1_)); have p121 : 0 ≤ ((ji20) : Int) := of_decide_eq_true (by first | (with_reducible assumption) | assumption); have q121 : (ji20) < (x4_1.length : Int) := of_decide_eq_true (by first | (with_reducible assumption) | assumption); obtain ⟨ad121, e121, hx121_0⟩ := Kd.at_int (Kd.R_reads' HO_4.out).2.2 (ji20) p121 q121; cases e121; replace p121 := eq_true p121; replace q121 := eq_true q121; have p23 : 0 ≤ ((ji20) : Int) := of_decide_eq_true (by first | (with_reducible assumption) | assumption); have q23 : ((ji20) : Int) < ((x4_1.length : Int) : Int) := of_decide_eq_true (by first | (with_reducible assumption) | assumption); obtain ⟨go23, co23, eo23, gb23, gl23, cl23, HG23⟩ := Kd.R_form HO_4.out (by omega); (first | cases eo23 | (injection eo23 with ea_ en_ ec_; (first | subst ea_ | (injection ea_ with ea_; subst ea_)); subst ec_; clear en_)); have GB23 := Aside0.mk gb23; have GG23 := Aside0.mk HG23; clear gb23 gl23 HG23; (first | simp only [add_plain] at hx121_0 | skip); obtain ⟨hx23_0, hf23_0⟩ := Kd.R_celln 0 HO_4.out ((ji20) : Int) p23 q23; replace p23 := eq_true p23; replace q23 := eq_true q23; obtain ⟨hy35_, hz35_⟩ := Kd.R_celln 0 HO_4.out ((ji20) : Int) (of_decide_eq_true (by first | (with_reducible assumption) | assumption)) (of_decide_eq_true (by first | (with_reducible assumption) | assumption)); have HP35 := Kd.R_putg HO_4.out ((ji20) : Int) (Go.bits .or .u8 (rd x4_1 (ji20)) ((ji19) % 256))) | ((with_reducible refine gate_store (t := 5) (p := 49) rfl ?_); refine store_event (t := 5) (p := 49) (v := ?vo_w36) (w1 := (wr.setCell ⟨go23, ((ji20) : Int).toNat, none⟩ (.int .u8 (Go.bits .or .u8 (rd x4_1 (ji20)) ((ji19) % 256))))) ?hg ?ho ?hn ?hr ?_; (case ho => rfl); (case hg => rfl); (case hn => rfl); (case hr => first | (go_simp; done) | (go_simp; rfl)); intro w36 hw; have hg : wr.grownBy w36 (some go23) := (by rw [hw]; exact HP35.2); have hp_ : Kd.R (Kd.int .u8) 5 w36 w.heap.size (fun _ => True) (.slice (some ⟨go23, 0, none⟩) x4_1.length co9) y122 := (by rw [hw, Ny122.out]; exact HP35.1); clear HP35; have n0_ := Aside0.mk (hp_); have n1_ := Aside0.mk ((by rw [hw]; exact below_set (HB.out) GB23.out : Below w.heap.size w w36)); clear HO_4; clear HB; have HO_4 := n0_; have HB := n1_; clear n0_ n1_; clear hg hw hp_))
                              go_ret2
                              exact ⟨_, by first | rfl | (simp [errW_none, errW_some] <;> rfl) | (simp only [← hji2, ← hji11, ← hji17, ← hji19, ← hji20]; first | rfl | (simp [errW_none, errW_some] <;> rfl)) | (simp [*, errW_none, errW_some] <;> rfl), by first | exact Kd.R_nil _ _ _ _ _ | exact Kd.N_nil _ _ _ _ _ | exact Kd.V_nil _ _ _ _ _ | exact Kd.Q_nil _ _ _ _ _ | exact Kd.S_nil _ _ _ _ _, by repeat (first | (with_reducible first | exact HB.out | apply below_alloc | apply pw_below_drewN | apply below_drew1) | exact HB.out)⟩
                        · rw [if_neg c22] at H
                          exact absurd H (by simp)
                      · rw [if_neg c21] at H
                        exact absurd H (by simp)
                    · rw [if_neg c18] at H
                      exact absurd H (by simp)
                · rw [if_neg c13] at H
                  exact absurd H (by simp)
              · rw [if_neg c12] at H
                exact absurd H (by simp)
            · rw [if_neg c10] at H
              have c10b0 : decide (x22_1 < (a0.size : Int)) = false := decide_eq_false c10
              clear c10
              simp only [Option.some.injEq, Prod.mk.injEq] at H
              obtain ⟨rfl, rfl⟩ := H
              go_wp2
              go_ret2
              exact ⟨_, by first | rfl | (simp [errW_none, errW_some] <;> rfl) | (simp only [← hji2]; first | rfl | (simp [errW_none, errW_some] <;> rfl)) | (simp [*, errW_none, errW_some] <;> rfl), by (with_reducible repeat (first | apply Kd.R_alloc | apply Kd.R_drewN | apply Kd.R_drew)); exact HO_4.out, by repeat (first | (with_reducible first | exact HB.out | apply below_alloc | apply pw_below_drewN | apply below_drew1) | exact HB.out)⟩
      · rw [if_neg c6] at H
        have c6b0 : (t119 == (a0.size : Int)) = false := beq_eq_false_iff_ne.mpr c6
        have c6b1 : (t119 != (a0.size : Int)) = true := bne_iff_ne.mpr c6
        simp only [Option.some.injEq, Prod.mk.injEq] at H
        obtain ⟨rfl, rfl⟩ := H
        go_enter Tryd.func14, Tryd.ntmps14
        go_wp2_with (first | ((with_reducible refine gate_dst (N := 13) rfl ?_); refine Kd.R_make (Kd.int .u8) _ 5 rfl (N := 13) rfl 22 _ _ rfl ji2 rfl rfl Tryd.underlying22 (.int .u8 0) 1 info5 rfl (by decide) (by omega) 0 (ok := fun _ => True) (okp := fun _ => True) rfl (fun _ hk => hk) trivial (of_decide_eq_true (by first | (with_reducible assumption) | assumption)) (Nat.le_trans (Nat.mul_le_mul_right _ (of_decide_eq_true (by first | (with_reducible assumption) | assumption) : ji2.toNat ≤ 281474976710656)) (by omega)) (Below.refl _ _) (Nat.le_refl _) ?_; intro v117 w37 ho38 hb hg_ hnew_; clear hg_ hnew_; (first | rw [← Ny116.out] at ho38 | (simp only [Int.reduceToNat] at ho38; rw [← Ny116.out] at ho38)); have n0_ := Aside0.mk (Kd.R_lower ho38 (below_size (by repeat (first | (with_reducible first | exact HB.out | apply below_alloc | apply pw_below_drewN | apply below_drew1) | exact HB.out)))); have n1_ := Aside0.mk (below_step (by repeat (first | (with_reducible first | exact HB.out | apply below_alloc | apply pw_below_drewN | apply below_drew1) | exact HB.out)) hb); clear HB; have HO118 := n0_; have HB := n1_; clear n0_ n1_; clear hb ho38; obtain ⟨Ao39, co39, eo39⟩ := Kd.R_slice HO118.out; subst eo39) | ((with_reducible refine gate_callee (f := 25) rfl ?_); refine goesL_ (some 16) rfl rfl Tryd.func25 (by kernel_rfl) rfl #[.int .i64 (y116.length : Int)] rfl (by (try simp only [List.map_toArray, List.map_cons, List.map_nil]); first | done | rfl | (simp only [List.length_drop, List.length_take]; rfl)) ?_; (with_reducible refine (base_size.calls (y116.length : Int) t119 _ A5.out).mono ?_); rintro e w' ⟨rfl, ⟨nd, rfl⟩⟩; refine ⟨_, rfl, ?_⟩))
        go_ret2
        exact ⟨_, by first | rfl | (simp [errW_none, errW_some] <;> rfl) | (simp only [← hji2]; first | rfl | (simp [errW_none, errW_some] <;> rfl)) | (simp [*, errW_none, errW_some] <;> rfl), by first | exact Kd.R_nil _ _ _ _ _ | exact Kd.N_nil _ _ _ _ _ | exact Kd.V_nil _ _ _ _ _ | exact Kd.Q_nil _ _ _ _ _ | exact Kd.S_nil _ _ _ _ _, by repeat (first | (with_reducible first | exact HB.out | apply below_alloc | apply pw_below_drewN | apply below_drew1) | exact HB.out)⟩
    · rw [if_neg c4] at H
      exact absurd H (by simp)
  · rw [if_neg c3] at H
    exact absurd H (by simp)

end Go.Proofs.YtalbbifgkninmaaDoor.PBase
