-- printed with xprint.py over the kit's print
import Derived.Test.YtcohfhclcoiigaaQKeysx0
namespace Go.Proofs.Ytcohfhclcoiigaa.PKeys
open Go.RowKit Go.Proofs.YtcohfhclcoiigaaW.PrintWords Go.Proofs.YtcohfhclcoiigaaW.PrintLast Go.Proofs.YtcohfhclcoiigaaW.PrintMore
attribute [local go_sem] max2_int min2_int max_two min_two max_three min_three max_four min_four   -- for this text's walks alone
set_option linter.unusedVariables false
set_option linter.unusedSimpArgs false

/-! ### chandleryref11_shape: function 29 -/
mutual
def chandleryref11_shape.j0 : Nat → Int → Bool → Option (Bool × Bool × Bool × Bool)
  | 0, _, _ => none
  | k + 1, x6, x11 => if x11 = true then (some (true, false, true, false)) else (if x6 = 5 then (chandleryref11_shape.j1 k x6 (x6 == 5)) else (if x6 = 8 then (chandleryref11_shape.j1 k x6 (x6 == 8)) else (chandleryref11_shape.j1 k x6 (x6 == 10))))
def chandleryref11_shape.j1 : Nat → Int → Bool → Option (Bool × Bool × Bool × Bool)
  | 0, _, _ => none
  | k + 1, x6, x14 => if x14 = true then (some (true, false, false, false)) else (if x6 = 6 then (some (true, true, false, false)) else (if x6 = 7 then (some (true, true, false, false)) else (some (false, false, false, false))))
end
def chandleryref11_shape.f (k : Nat) (a0 : Int) : Option (Bool × Bool × Bool × Bool) := if a0 = 2 then (some (false, false, true, false)) else (if a0 = 3 then (some (false, false, true, true)) else (if a0 = 4 then (chandleryref11_shape.j0 k a0 (a0 == 4)) else (chandleryref11_shape.j0 k a0 (a0 == 9))))
theorem chandleryref11_shape.mono_l : ∀ k, (∀ y0 y1, LeO (chandleryref11_shape.j0 k y0 y1) (chandleryref11_shape.j0 (k + 1) y0 y1)) ∧ (∀ y0 y1, LeO (chandleryref11_shape.j1 k y0 y1) (chandleryref11_shape.j1 (k + 1) y0 y1))
  | 0 => ⟨fun _ _ r h => by simp [chandleryref11_shape.j0] at h, fun _ _ r h => by simp [chandleryref11_shape.j1] at h⟩
  | k + 1 => by
    obtain ⟨ih0, ih1⟩ := chandleryref11_shape.mono_l k
    refine ⟨?_, ?_⟩
    · intro y0 y1
      unfold chandleryref11_shape.j0
      repeat' first
      | (with_reducible exact ih0 _ _)
      | (with_reducible exact ih1 _ _)
      | (with_reducible exact LeO.refl _)
      | (with_reducible exact LeO.none _)
      | (with_reducible refine LeO.ite ?_ ?_)
      | (with_reducible refine LeO.bind ?_ (fun _ => ?_))
      | exact ih0 _ _
      | exact ih1 _ _
      | exact LeO.none _
      | refine LeO.ite ?_ ?_
      | refine LeO.bind ?_ (fun _ => ?_)
    · intro y0 y1
      unfold chandleryref11_shape.j1
      repeat' first
      | (with_reducible exact ih0 _ _)
      | (with_reducible exact ih1 _ _)
      | (with_reducible exact LeO.refl _)
      | (with_reducible exact LeO.none _)
      | (with_reducible refine LeO.ite ?_ ?_)
      | (with_reducible refine LeO.bind ?_ (fun _ => ?_))
      | exact ih0 _ _
      | exact ih1 _ _
      | exact LeO.none _
      | refine LeO.ite ?_ ?_
      | refine LeO.bind ?_ (fun _ => ?_)
theorem chandleryref11_shape.mono : ∀ a0 k, LeO (chandleryref11_shape.f k a0) (chandleryref11_shape.f (k + 1) a0) := by
  intro a0 k
  obtain ⟨ih0, ih1⟩ := chandleryref11_shape.mono_l k
  unfold chandleryref11_shape.f
  repeat' first
      | (with_reducible exact ih0 _ _)
      | (with_reducible exact ih1 _ _)
      | (with_reducible exact LeO.refl _)
      | (with_reducible exact LeO.none _)
      | (with_reducible refine LeO.ite ?_ ?_)
      | (with_reducible refine LeO.bind ?_ (fun _ => ?_))
      | exact ih0 _ _
      | exact ih1 _ _
      | exact LeO.none _
      | refine LeO.ite ?_ ?_
      | refine LeO.bind ?_ (fun _ => ?_)
set_option maxHeartbeats 8000000 in
set_option maxRecDepth 100000 in
theorem chandleryref11_shape.calls (k : Nat) (a0 : Int) (r1 : Bool) (r2 : Bool) (r3 : Bool) (r4 : Bool) (w : World) (h : chandleryref11_shape.f k a0 = some (r1, r2, r3, r4)) :
    Calls Try.prog 29 #[.int .i64 a0] w fun e w' => e = .returned (.tuple #[.bool r1, .bool r2, .bool r3, .bool r4]) ∧ Drawn0 w w' := by
  have H : (if a0 = 2 then (some (false, false, true, false)) else (if a0 = 3 then (some (false, false, true, true)) else (if a0 = 4 then (chandleryref11_shape.j0 k a0 (a0 == 4)) else (chandleryref11_shape.j0 k a0 (a0 == 9))))) = some (r1, r2, r3, r4) := h
  clear h
  by_cases c2 : a0 = 2
  · rw [if_pos c2] at H
    have c2b0 : (a0 == 2) = true := beq_iff_eq.mpr c2
    have c2b1 : (a0 != 2) = false := bne_eq_false_iff_eq.mpr c2
    clear c2
    simp only [Option.some.injEq, Prod.mk.injEq] at H
    obtain ⟨rfl, rfl, rfl, rfl⟩ := H
    go_enter Try.func29, Try.ntmps29
    go_wp2
    refine bodyPost_ret (results_list (rs := [.tmp 2, .tmp 3, .tmp 4, .tmp 5]) rfl (by simp) (.tmp (.tmp (.tmp (.tmp .nil))))) rfl ?_
    exact ⟨by first | rfl | (simp; done) | (simp [*]; done), by repeat (first | exact Drawn0.refl _ | apply Drawn0.step)⟩
  · rw [if_neg c2] at H
    have c2b0 : (a0 == 2) = false := beq_eq_false_iff_ne.mpr c2
    have c2b1 : (a0 != 2) = true := bne_iff_ne.mpr c2
    by_cases c3 : a0 = 3
    · rw [if_pos c3] at H
      have c3b0 : (a0 == 3) = true := beq_iff_eq.mpr c3
      have c3b1 : (a0 != 3) = false := bne_eq_false_iff_eq.mpr c3
      clear c3
      simp only [Option.some.injEq, Prod.mk.injEq] at H
      obtain ⟨rfl, rfl, rfl, rfl⟩ := H
      go_enter Try.func29, Try.ntmps29
      go_wp2
      refine bodyPost_ret (results_list (rs := [.tmp 2, .tmp 3, .tmp 4, .tmp 5]) rfl (by simp) (.tmp (.tmp (.tmp (.tmp .nil))))) rfl ?_
      exact ⟨by first | rfl | (simp; done) | (simp [*]; done), by repeat (first | exact Drawn0.refl _ | apply Drawn0.step)⟩
    · rw [if_neg c3] at H
      have c3b0 : (a0 == 3) = false := beq_eq_false_iff_ne.mpr c3
      have c3b1 : (a0 != 3) = true := bne_iff_ne.mpr c3
      have HC4 := Aside0.mk H
      clear H
      go_enter Try.func29, Try.ntmps29
      go_upto_if 11 with (fail)
      go_cut [11] (fun v11 wc => ∃ (kq : Nat) (x11_3 : Bool), v11 = .bool x11_3 ∧ Aside0 (chandleryref11_shape.j0 kq a0 x11_3 = some (r1, r2, r3, r4)) ∧ Aside0 (kq ≤ k) ∧ Drawn0 w wc)
      case first =>
        have H := HC4.out
        clear HC4
        by_cases c5 : a0 = 4
        · rw [if_pos c5] at H
          have c5b0 : (a0 == 4) = true := beq_iff_eq.mpr c5
          have c5b1 : (a0 != 4) = false := bne_eq_false_iff_eq.mpr c5
          clear c5
          (first | rw [c5b0] | (simp only [i64_w, i32_w]; rw [c5b0]) | skip)
          have H' := Aside0.mk H
          clear H
          go_wp2
          go_meet
          case rel => exact ⟨_, ((a0 == 4)), (by first | rfl | (simp; done) | exact congrArg Value.bool (Go.Proofs.YtcohfhclcoiigaaX.isEmpty_ne_ _) | exact congrArg Value.bool (Go.Proofs.YtcohfhclcoiigaaX.ne_isEmpty_ _) | (simp [*]; done)), H', ⟨by first | omega | exact Nat.le_refl _⟩, by repeat (first | exact Drawn0.refl _ | apply Drawn0.step)⟩
        · rw [if_neg c5] at H
          have c5b0 : (a0 == 4) = false := beq_eq_false_iff_ne.mpr c5
          have c5b1 : (a0 != 4) = true := bne_iff_ne.mpr c5
          (first | rw [c5b0] | (simp only [i64_w, i32_w]; rw [c5b0]) | skip)
          have H' := Aside0.mk H
          clear H
          go_wp2
          go_meet
          case rel => exact ⟨_, ((a0 == 9)), (by first | rfl | (simp; done) | exact congrArg Value.bool (Go.Proofs.YtcohfhclcoiigaaX.isEmpty_ne_ _) | exact congrArg Value.bool (Go.Proofs.YtcohfhclcoiigaaX.ne_isEmpty_ _) | (simp [*]; done)), H', ⟨by first | omega | exact Nat.le_refl _⟩, by repeat (first | exact Drawn0.refl _ | apply Drawn0.step)⟩
      case rest =>
        clear HC4
        try clear c2
        try clear c2b0
        try clear c2b1
        try clear p2
        try clear c3
        try clear c3b0
        try clear c3b1
        try clear c5
        try clear c5b0
        try clear c5b1
        obtain ⟨kq, x11_3, rfl, HA, HJ3, ⟨mc3, rfl⟩⟩ := hcut
        cases kq with
        | zero => exact absurd HA.out (by simp [chandleryref11_shape.j0])
        | succ kj3 =>
          have H := HA.out
          clear HA
          simp only [chandleryref11_shape.j0] at H
          by_cases c6 : x11_3 = true
          · subst c6
            have H1 : (some (true, false, true, false)) = some (r1, r2, r3, r4) := by rw [if_pos rfl] at H; exact H
            clear H
            have H := H1
            clear H1
            simp only [Option.some.injEq, Prod.mk.injEq] at H
            obtain ⟨rfl, rfl, rfl, rfl⟩ := H
            go_wp2
            refine bodyPost_ret (results_list (rs := [.tmp 2, .tmp 3, .tmp 4, .tmp 5]) rfl (by simp) (.tmp (.tmp (.tmp (.tmp .nil))))) rfl ?_
            exact ⟨by first | rfl | (simp; done) | (simp [*]; done), by repeat (first | exact Drawn0.refl _ | apply Drawn0.step)⟩
          · replace c6 := Bool.eq_false_iff.mpr c6
            subst c6
            have H1 : (if a0 = 5 then (chandleryref11_shape.j1 kj3 a0 (a0 == 5)) else (if a0 = 8 then (chandleryref11_shape.j1 kj3 a0 (a0 == 8)) else (chandleryref11_shape.j1 kj3 a0 (a0 == 10)))) = some (r1, r2, r3, r4) := by rw [if_neg (show ¬ (false = true) by decide)] at H; exact H
            clear H
            have H := H1
            clear H1
            have HC7 := Aside0.mk H
            clear H
            go_upto_if 14 with (fail)
            go_cut [14] (fun v14 wc => ∃ (kq : Nat) (x14_6 : Bool), v14 = .bool x14_6 ∧ Aside0 (chandleryref11_shape.j1 kq a0 x14_6 = some (r1, r2, r3, r4)) ∧ Aside0 (kq ≤ kj3) ∧ Drawn0 w wc)
            case first =>
              have H := HC7.out
              clear HC7
              by_cases c8 : a0 = 5
              · rw [if_pos c8] at H
                have c8b0 : (a0 == 5) = true := beq_iff_eq.mpr c8
                have c8b1 : (a0 != 5) = false := bne_eq_false_iff_eq.mpr c8
                clear c8
                (first | rw [c8b0] | (simp only [i64_w, i32_w]; rw [c8b0]) | skip)
                have H' := Aside0.mk H
                clear H
                go_wp2
                go_meet
                case rel => exact ⟨_, ((a0 == 5)), (by first | rfl | (simp; done) | exact congrArg Value.bool (Go.Proofs.YtcohfhclcoiigaaX.isEmpty_ne_ _) | exact congrArg Value.bool (Go.Proofs.YtcohfhclcoiigaaX.ne_isEmpty_ _) | (simp [*]; done)), H', ⟨by have := HJ3.out; first | omega | exact Nat.le_refl _⟩, by repeat (first | exact Drawn0.refl _ | apply Drawn0.step)⟩
              · rw [if_neg c8] at H
                have c8b0 : (a0 == 5) = false := beq_eq_false_iff_ne.mpr c8
                have c8b1 : (a0 != 5) = true := bne_iff_ne.mpr c8
                (first | rw [c8b0] | (simp only [i64_w, i32_w]; rw [c8b0]) | skip)
                by_cases c9 : a0 = 8
                · rw [if_pos c9] at H
                  have c9b0 : (a0 == 8) = true := beq_iff_eq.mpr c9
                  have c9b1 : (a0 != 8) = false := bne_eq_false_iff_eq.mpr c9
                  clear c9
                  have H' := Aside0.mk H
                  clear H
                  go_wp2
                  go_meet
                  case rel => exact ⟨_, ((a0 == 8)), (by first | rfl | (simp; done) | exact congrArg Value.bool (Go.Proofs.YtcohfhclcoiigaaX.isEmpty_ne_ _) | exact congrArg Value.bool (Go.Proofs.YtcohfhclcoiigaaX.ne_isEmpty_ _) | (simp [*]; done)), H', ⟨by have := HJ3.out; first | omega | exact Nat.le_refl _⟩, by repeat (first | exact Drawn0.refl _ | apply Drawn0.step)⟩
                · rw [if_neg c9] at H
                  have c9b0 : (a0 == 8) = false := beq_eq_false_iff_ne.mpr c9
                  have c9b1 : (a0 != 8) = true := bne_iff_ne.mpr c9
                  have H' := Aside0.mk H
                  clear H
                  go_wp2
                  go_meet
                  case rel => exact ⟨_, ((a0 == 10)), (by first | rfl | (simp; done) | exact congrArg Value.bool (Go.Proofs.YtcohfhclcoiigaaX.isEmpty_ne_ _) | exact congrArg Value.bool (Go.Proofs.YtcohfhclcoiigaaX.ne_isEmpty_ _) | (simp [*]; done)), H', ⟨by have := HJ3.out; first | omega | exact Nat.le_refl _⟩, by repeat (first | exact Drawn0.refl _ | apply Drawn0.step)⟩
            case rest =>
              clear HC7
              try clear c2
              try clear c2b0
              try clear c2b1
              try clear p2
              try clear c3
              try clear c3b0
              try clear c3b1
              try clear c5
              try clear c5b0
              try clear c5b1
              try clear c6
              try clear c8
              try clear c8b0
              try clear c8b1
              try clear c9
              try clear c9b0
              try clear c9b1
              try clear p2
              obtain ⟨kq, x14_6, rfl, HA, HJ6, ⟨mc6, rfl⟩⟩ := hcut
              cases kq with
              | zero => exact absurd HA.out (by simp [chandleryref11_shape.j1])
              | succ kj6 =>
                have H := HA.out
                clear HA
                simp only [chandleryref11_shape.j1] at H
                by_cases c10 : x14_6 = true
                · subst c10
                  have H1 : (some (true, false, false, false)) = some (r1, r2, r3, r4) := by rw [if_pos rfl] at H; exact H
                  clear H
                  have H := H1
                  clear H1
                  simp only [Option.some.injEq, Prod.mk.injEq] at H
                  obtain ⟨rfl, rfl, rfl, rfl⟩ := H
                  go_wp2
                  refine bodyPost_ret (results_list (rs := [.tmp 2, .tmp 3, .tmp 4, .tmp 5]) rfl (by simp) (.tmp (.tmp (.tmp (.tmp .nil))))) rfl ?_
                  exact ⟨by first | rfl | (simp; done) | (simp [*]; done), by repeat (first | exact Drawn0.refl _ | apply Drawn0.step)⟩
                · replace c10 := Bool.eq_false_iff.mpr c10
                  subst c10
                  have H1 : (if a0 = 6 then (some (true, true, false, false)) else (if a0 = 7 then (some (true, true, false, false)) else (some (false, false, false, false)))) = some (r1, r2, r3, r4) := by rw [if_neg (show ¬ (false = true) by decide)] at H; exact H
                  clear H
                  have H := H1
                  clear H1
                  by_cases c11 : a0 = 6
                  · rw [if_pos c11] at H
                    have c11b0 : (a0 == 6) = true := beq_iff_eq.mpr c11
                    have c11b1 : (a0 != 6) = false := bne_eq_false_iff_eq.mpr c11
                    clear c11
                    simp only [Option.some.injEq, Prod.mk.injEq] at H
                    obtain ⟨rfl, rfl, rfl, rfl⟩ := H
                    go_wp2
                    refine bodyPost_ret (results_list (rs := [.tmp 2, .tmp 3, .tmp 4, .tmp 5]) rfl (by simp) (.tmp (.tmp (.tmp (.tmp .nil))))) rfl ?_
                    exact ⟨by first | rfl | (simp; done) | (simp [*]; done), by repeat (first | exact Drawn0.refl _ | apply Drawn0.step)⟩
                  · rw [if_neg c11] at H
                    have c11b0 : (a0 == 6) = false := beq_eq_false_iff_ne.mpr c11
                    have c11b1 : (a0 != 6) = true := bne_iff_ne.mpr c11
                    by_cases c12 : a0 = 7
                    · rw [if_pos c12] at H
                      have c12b0 : (a0 == 7) = true := beq_iff_eq.mpr c12
                      have c12b1 : (a0 != 7) = false := bne_eq_false_iff_eq.mpr c12
                      clear c12
                      simp only [Option.some.injEq, Prod.mk.injEq] at H
                      obtain ⟨rfl, rfl, rfl, rfl⟩ := H
                      go_wp2
                      refine bodyPost_ret (results_list (rs := [.tmp 2, .tmp 3, .tmp 4, .tmp 5]) rfl (by simp) (.tmp (.tmp (.tmp (.tmp .nil))))) rfl ?_
                      exact ⟨by first | rfl | (simp; done) | (simp [*]; done), by repeat (first | exact Drawn0.refl _ | apply Drawn0.step)⟩
                    · rw [if_neg c12] at H
                      have c12b0 : (a0 == 7) = false := beq_eq_false_iff_ne.mpr c12
                      have c12b1 : (a0 != 7) = true := bne_iff_ne.mpr c12
                      simp only [Option.some.injEq, Prod.mk.injEq] at H
                      obtain ⟨rfl, rfl, rfl, rfl⟩ := H
                      go_wp2
                      refine bodyPost_ret (results_list (rs := [.tmp 2, .tmp 3, .tmp 4, .tmp 5]) rfl (by simp) (.tmp (.tmp (.tmp (.tmp .nil))))) rfl ?_
                      exact ⟨by first | rfl | (simp; done) | (simp [*]; done), by repeat (first | exact Drawn0.refl _ | apply Drawn0.step)⟩

end Go.Proofs.Ytcohfhclcoiigaa.PKeys
