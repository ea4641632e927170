-- printed with xprint.py over the kit's print
import Derived.Test.YtkmnjekbacdfoaaQScanLx0
import Derived.Test.YtkmnjekbacdfoaaQScanLx1
namespace Go.Proofs.Ytkmnjekbacdfoaa.PScanL
open Go.RowKit Go.Proofs.YtkmnjekbacdfoaaW.PrintWords Go.Proofs.YtkmnjekbacdfoaaW.PrintLast Go.Proofs.YtkmnjekbacdfoaaW.PrintMore
attribute [local go_sem] max2_int min2_int max_two min_two max_three min_three max_four min_four   -- for this text's walks alone
set_option linter.unusedVariables false
set_option linter.unusedSimpArgs false

/-! ### chandleryref20_Find: function 10 -/
mutual
def chandleryref20_Find.l0 : Nat → List Int → List ByteArray → Int → Option (List ByteArray × Int)
 | 0, _, _, _ => none
 | k + 1, x0, x1, x7 => if x7 < (x1.length : Int) then (if 0 ≤ x7 then ((chandleryref19_Name.f k (rdOf ByteArray.empty x1 x7)).bind fun t108 => (if t108 = true then (chandleryref20_Find.l0 k x0 x1 (wrap64 (x7 + 1))) else (some (([] : List ByteArray), 190)))) else (none)) else (chandleryref20_Find.l1 k x0 x1 ([] : List ByteArray) 0)
def chandleryref20_Find.l1 : Nat → List Int → List ByteArray → List ByteArray → Int → Option (List ByteArray × Int)
 | 0, _, _, _, _ => none
 | k + 1, x0, x1, x6, x8 => if x8 < (x1.length : Int) then (if 0 ≤ x8 then (if 0 ≤ 32 then (if 32 ≤ ((rdOf ByteArray.empty x1 x8).size : Int) then ((chandleryref20_stands.f k x0 ((rdOf ByteArray.empty x1 x8).extract 0 32)).bind fun t110 => (if t110 = true then (chandleryref20_Find.l2 k x0 x1 x6 x8 0) else (chandleryref20_Find.l1 k x0 x1 x6 (wrap64 (x8 + 1))))) else (none)) else (none)) else (none)) else (some (x6, 0))
def chandleryref20_Find.l2 : Nat → List Int → List ByteArray → List ByteArray → Int → Int → Option (List ByteArray × Int)
 | 0, _, _, _, _, _ => none
 | k + 1, x0, x1, x6, x8, x9 => if x9 < (x6.length : Int) then (if 0 ≤ x9 then (if 0 ≤ x8 then (if x8 < (x1.length : Int) then (if (Op.bytesLess ((rdOf ByteArray.empty x6 x9).toList) ((rdOf ByteArray.empty x1 x8).toList)) = true then (chandleryref20_Find.l2 k x0 x1 x6 x8 (wrap64 (x9 + 1))) else (if (rdOf ByteArray.empty x6 x9).toList = (rdOf ByteArray.empty x1 x8).toList then (chandleryref20_Find.l1 k x0 x1 x6 (wrap64 (x8 + 1))) else (if x9 ≤ (x6.length : Int) then ((some (x6.take (x9 : Int).toNat : List ByteArray)).bind fun y115 => (if ([] : List ByteArray).length + y115.length < 8796093022208 then ((some (([] : List ByteArray) ++ y115 : List ByteArray)).bind fun y119 => (if y119.length < 8796093022208 then ((some (y119 ++ [rdOf ByteArray.empty x1 x8] : List ByteArray)).bind fun y123 => ((some (x6.drop (x9 : Int).toNat : List ByteArray)).bind fun y126 => (if y123.length + y126.length < 8796093022208 then (chandleryref20_Find.l1 k x0 x1 (y123 ++ y126) (wrap64 (x8 + 1))) else (none)))) else (none))) else (none))) else (none)))) else (none)) else (none)) else (none)) else (if 0 ≤ x9 then (if x9 ≤ (x6.length : Int) then ((some (x6.take (x9 : Int).toNat : List ByteArray)).bind fun y133 => (if ([] : List ByteArray).length + y133.length < 8796093022208 then ((some (([] : List ByteArray) ++ y133 : List ByteArray)).bind fun y137 => (if 0 ≤ x8 then (if x8 < (x1.length : Int) then (if y137.length < 8796093022208 then ((some (y137 ++ [rdOf ByteArray.empty x1 x8] : List ByteArray)).bind fun y141 => ((some (x6.drop (x9 : Int).toNat : List ByteArray)).bind fun y144 => (if y141.length + y144.length < 8796093022208 then (chandleryref20_Find.l1 k x0 x1 (y141 ++ y144) (wrap64 (x8 + 1))) else (none)))) else (none)) else (none)) else (none))) else (none))) else (none)) else (none))
end
def chandleryref20_Find.f (k : Nat) (l0 : List Int) (l1 : List ByteArray) : Option (List ByteArray × Int) := chandleryref20_Find.l0 k l0 l1 0
theorem chandleryref20_Find.mono_l : ∀ k, (∀ y0 y1 y2, LeO (chandleryref20_Find.l0 k y0 y1 y2) (chandleryref20_Find.l0 (k + 1) y0 y1 y2)) ∧ (∀ y0 y1 y2 y3, LeO (chandleryref20_Find.l1 k y0 y1 y2 y3) (chandleryref20_Find.l1 (k + 1) y0 y1 y2 y3)) ∧ (∀ y0 y1 y2 y3 y4, LeO (chandleryref20_Find.l2 k y0 y1 y2 y3 y4) (chandleryref20_Find.l2 (k + 1) y0 y1 y2 y3 y4))
 | 0 => ⟨fun _ _ _ r h => by simp [chandleryref20_Find.l0] at h, fun _ _ _ _ r h => by simp [chandleryref20_Find.l1] at h, fun _ _ _ _ _ r h => by simp [chandleryref20_Find.l2] at h⟩
 | k + 1 => by
  obtain ⟨ih0, ih1, ih2⟩ := chandleryref20_Find.mono_l k
  refine ⟨?_, ?_, ?_⟩
  ·intro y0 y1 y2
   unfold chandleryref20_Find.l0
   repeat' first
   | (with_reducible exact ih0 _ _ _)
   | (with_reducible exact ih1 _ _ _ _)
   | (with_reducible exact ih2 _ _ _ _ _)
   | (with_reducible exact chandleryref19_Name.mono _ _)
   | (with_reducible exact chandleryref20_stands.mono _ _ _)
   | (with_reducible exact LeO.refl _)
   | (with_reducible exact LeO.none _)
   | (with_reducible refine LeO.ite ?_ ?_)
   | (with_reducible refine LeO.bind ?_ (fun _ => ?_))
   | exact ih0 _ _ _
   | exact ih1 _ _ _ _
   | exact ih2 _ _ _ _ _
   | exact chandleryref19_Name.mono _ _
   | exact chandleryref20_stands.mono _ _ _
   | exact LeO.none _
   | refine LeO.ite ?_ ?_
   | refine LeO.bind ?_ (fun _ => ?_)
  ·intro y0 y1 y2 y3
   unfold chandleryref20_Find.l1
   repeat' first
   | (with_reducible exact ih0 _ _ _)
   | (with_reducible exact ih1 _ _ _ _)
   | (with_reducible exact ih2 _ _ _ _ _)
   | (with_reducible exact chandleryref19_Name.mono _ _)
   | (with_reducible exact chandleryref20_stands.mono _ _ _)
   | (with_reducible exact LeO.refl _)
   | (with_reducible exact LeO.none _)
   | (with_reducible refine LeO.ite ?_ ?_)
   | (with_reducible refine LeO.bind ?_ (fun _ => ?_))
   | exact ih0 _ _ _
   | exact ih1 _ _ _ _
   | exact ih2 _ _ _ _ _
   | exact chandleryref19_Name.mono _ _
   | exact chandleryref20_stands.mono _ _ _
   | exact LeO.none _
   | refine LeO.ite ?_ ?_
   | refine LeO.bind ?_ (fun _ => ?_)
  ·intro y0 y1 y2 y3 y4
   unfold chandleryref20_Find.l2
   repeat' first
   | (with_reducible exact ih0 _ _ _)
   | (with_reducible exact ih1 _ _ _ _)
   | (with_reducible exact ih2 _ _ _ _ _)
   | (with_reducible exact chandleryref19_Name.mono _ _)
   | (with_reducible exact chandleryref20_stands.mono _ _ _)
   | (with_reducible exact LeO.refl _)
   | (with_reducible exact LeO.none _)
   | (with_reducible refine LeO.ite ?_ ?_)
   | (with_reducible refine LeO.bind ?_ (fun _ => ?_))
   | exact ih0 _ _ _
   | exact ih1 _ _ _ _
   | exact ih2 _ _ _ _ _
   | exact chandleryref19_Name.mono _ _
   | exact chandleryref20_stands.mono _ _ _
   | exact LeO.none _
   | refine LeO.ite ?_ ?_
   | refine LeO.bind ?_ (fun _ => ?_)
theorem chandleryref20_Find.mono : ∀ a0 a1 k, LeO (chandleryref20_Find.f k a0 a1) (chandleryref20_Find.f (k + 1) a0 a1) := by
 intro a0 a1 k
 obtain ⟨ih0, ih1, ih2⟩ := chandleryref20_Find.mono_l k
 unfold chandleryref20_Find.f
 repeat' first
   | (with_reducible exact ih0 _ _ _)
   | (with_reducible exact ih1 _ _ _ _)
   | (with_reducible exact ih2 _ _ _ _ _)
   | (with_reducible exact chandleryref19_Name.mono _ _)
   | (with_reducible exact chandleryref20_stands.mono _ _ _)
   | (with_reducible exact LeO.refl _)
   | (with_reducible exact LeO.none _)
   | (with_reducible refine LeO.ite ?_ ?_)
   | (with_reducible refine LeO.bind ?_ (fun _ => ?_))
   | exact ih0 _ _ _
   | exact ih1 _ _ _ _
   | exact ih2 _ _ _ _ _
   | exact chandleryref19_Name.mono _ _
   | exact chandleryref20_stands.mono _ _ _
   | exact LeO.none _
   | refine LeO.ite ?_ ?_
   | refine LeO.bind ?_ (fun _ => ?_)
set_option maxHeartbeats 8000000 in
set_option maxRecDepth 100000 in
theorem chandleryref20_Find.calls (k : Nat) (A0 : Option Addr) (c0 : Nat) (l0 : List Int) (A1 : Option Addr) (c1 : Nat) (l1 : List ByteArray) (r1 : List ByteArray) (r2 : Int) (w : World) (hr0 : Kd.C (Kd.int .u8) w A0 l0.length l0) (hc0 : l0.length ≤ c0) (hr1 : Kd.C Kd.string w A1 l1.length l1) (hc1 : l1.length ≤ c1) (h : chandleryref20_Find.f k l0 l1 = some (r1, r2)) :
  Calls Try.prog 10 #[.slice A0 l0.length c0, .slice A1 l1.length c1] w fun e w' => ∃ v0_ : Value, e = .returned (.tuple #[v0_, .int .i64 r2]) ∧ Kd.R Kd.string 9 w' w.heap.size (fun _ => True) v0_ r1 ∧ Below w.heap.size w w' := by
 have HR0 := Aside0.mk hr0
 have HC0 := Aside0.mk hc0
 clear hr0 hc0
 have HR1 := Aside0.mk hr1
 have HC1 := Aside0.mk hc1
 clear hr1 hc1
 have HB := Aside0.mk (Below.refl w.heap.size w)
 have H : (chandleryref20_Find.l0 k l0 l1 0) = some (r1, r2) := h
 clear h
 have H' := Aside0.mk H
 clear H
 go_enter Try.func10, Try.ntmps10
 go_wp2
 repeat (go_quiet (fail); try go_wp2)
 go_loopg [7] k (fun kq v7 w' => ∃ (x7_1 : Int), v7 = .int .i64 x7_1 ∧ Aside0 (chandleryref20_Find.l0 kq l0 l1 x7_1 = some (r1, r2)) ∧ Aside0 (kq ≤ k) ∧ Aside0 (Below w.heap.size w w'))
 case atStart => exact ⟨(0), (by first | rfl | (simp; done) | exact congrArg Value.bool (Go.Proofs.YtkmnjekbacdfoaaX.isEmpty_ne_ _) | exact congrArg Value.bool (Go.Proofs.YtkmnjekbacdfoaaX.ne_isEmpty_ _) | (simp [*]; done)), H', ⟨Nat.le_refl _⟩, ⟨by repeat (first | (with_reducible first | exact HB.out | apply below_alloc | apply pw_below_drewN | apply below_drew1) | exact HB.out)⟩⟩
 case round =>
  clear H'
  try clear c1
  try clear p2
  obtain ⟨x7_1, rfl, HA, HK1, HB⟩ := hrel
  cases gk with
  | zero => exact absurd HA.out (by simp [chandleryref20_Find.l0])
  | succ k1 =>
   have H := HA.out
   clear HA
   simp only [chandleryref20_Find.l0] at H
   by_cases c3 : x7_1 < (l1.length : Int)
   ·rw [if_pos c3] at H
    have c3b0 : decide (x7_1 < (l1.length : Int)) = true := decide_eq_true c3
    clear c3
    by_cases c4 : 0 ≤ x7_1
    ·rw [if_pos c4] at H
     have c4b0 : decide (0 ≤ x7_1) = true := decide_eq_true c4
     clear c4
     replace H := Option.bind_eq_some_iff.mp H
     obtain ⟨t108, A50, H⟩ := H
     replace H : (if t108 = true then (chandleryref20_Find.l0 k1 l0 l1 (wrap64 (x7_1 + 1))) else (some (([] : List ByteArray), 190))) = some (r1, r2) := H
     have A5 := Aside0.mk A50
     clear A50
     by_cases c6 : t108 = true
     ·subst c6
      have H1 : (chandleryref20_Find.l0 k1 l0 l1 (wrap64 (x7_1 + 1))) = some (r1, r2) := by rw [if_pos rfl] at H; exact H
      clear H
      have H := H1
      clear H1
      have H' := Aside0.mk H
      clear H
      have p107 : 0 ≤ (x7_1 : Int) := of_decide_eq_true (by first | (with_reducible assumption) | assumption)
      have q107 : x7_1 < (l1.length : Int) := of_decide_eq_true (by first | (with_reducible assumption) | assumption)
      obtain ⟨ad107, e107, hx107_0⟩ := Kd.at_string HR1.out x7_1 p107 q107
      cases e107
      replace hx107_0 := (HB.out.cell (World.block_lt_of_cell? w _ hx107_0)).trans hx107_0
      replace p107 := eq_true p107
      replace q107 := eq_true q107
      go_wp2_with (first | (go_at_call 16; (with_reducible refine (chandleryref19_Name.calls k1 (rdOf ByteArray.empty l1 x7_1) true _ A5.out).mono ?_); rintro e w' ⟨rfl, ⟨nd, rfl⟩⟩; (try first | exact ⟨rfl, _, World.drewN_drewN _ _ _⟩ | exact ⟨rfl, _, Eq.trans (World.drewN_drewN _ _ _) (congrArg (World.drewN _) (Nat.add_assoc _ _ _))⟩)))
      repeat (go_quiet (first | (go_at_call 16; (with_reducible refine (chandleryref19_Name.calls k1 (rdOf ByteArray.empty l1 x7_1) true _ A5.out).mono ?_); rintro e w' ⟨rfl, ⟨nd, rfl⟩⟩; (try first | exact ⟨rfl, _, World.drewN_drewN _ _ _⟩ | exact ⟨rfl, _, Eq.trans (World.drewN_drewN _ _ _) (congrArg (World.drewN _) (Nat.add_assoc _ _ _))⟩))); try go_wp2_with (first | (go_at_call 16; (with_reducible refine (chandleryref19_Name.calls k1 (rdOf ByteArray.empty l1 x7_1) true _ A5.out).mono ?_); rintro e w' ⟨rfl, ⟨nd, rfl⟩⟩; (try first | exact ⟨rfl, _, World.drewN_drewN _ _ _⟩ | exact ⟨rfl, _, Eq.trans (World.drewN_drewN _ _ _) (congrArg (World.drewN _) (Nat.add_assoc _ _ _))⟩))))
      go_roundg k1
      case measure => have := HK1.out; omega
      case rel => exact ⟨(wrap64 (x7_1 + 1)), (by first | rfl | (simp; done) | exact congrArg Value.bool (Go.Proofs.YtkmnjekbacdfoaaX.isEmpty_ne_ _) | exact congrArg Value.bool (Go.Proofs.YtkmnjekbacdfoaaX.ne_isEmpty_ _) | (simp [*]; done)), H', ⟨by have := HK1.out; omega⟩, ⟨by repeat (first | (with_reducible first | exact HB.out | apply below_alloc | apply pw_below_drewN | apply below_drew1) | exact HB.out)⟩⟩
     ·replace c6 := Bool.eq_false_iff.mpr c6
      subst c6
      have H1 : (some (([] : List ByteArray), 190)) = some (r1, r2) := by rw [if_neg (show ¬ (false = true) by decide)] at H; exact H
      clear H
      have H := H1
      clear H1
      simp only [Option.some.injEq, Prod.mk.injEq] at H
      obtain ⟨rfl, rfl⟩ := H
      have p107 : 0 ≤ (x7_1 : Int) := of_decide_eq_true (by first | (with_reducible assumption) | assumption)
      have q107 : x7_1 < (l1.length : Int) := of_decide_eq_true (by first | (with_reducible assumption) | assumption)
      obtain ⟨ad107, e107, hx107_0⟩ := Kd.at_string HR1.out x7_1 p107 q107
      cases e107
      replace hx107_0 := (HB.out.cell (World.block_lt_of_cell? w _ hx107_0)).trans hx107_0
      replace p107 := eq_true p107
      replace q107 := eq_true q107
      go_wp2_with (first | (go_at_call 16; (with_reducible refine (chandleryref19_Name.calls k1 (rdOf ByteArray.empty l1 x7_1) false _ A5.out).mono ?_); rintro e w' ⟨rfl, ⟨nd, rfl⟩⟩; (try first | exact ⟨rfl, _, World.drewN_drewN _ _ _⟩ | exact ⟨rfl, _, Eq.trans (World.drewN_drewN _ _ _) (congrArg (World.drewN _) (Nat.add_assoc _ _ _))⟩)))
      repeat (go_quiet (first | (go_at_call 16; (with_reducible refine (chandleryref19_Name.calls k1 (rdOf ByteArray.empty l1 x7_1) false _ A5.out).mono ?_); rintro e w' ⟨rfl, ⟨nd, rfl⟩⟩; (try first | exact ⟨rfl, _, World.drewN_drewN _ _ _⟩ | exact ⟨rfl, _, Eq.trans (World.drewN_drewN _ _ _) (congrArg (World.drewN _) (Nat.add_assoc _ _ _))⟩))); try go_wp2_with (first | (go_at_call 16; (with_reducible refine (chandleryref19_Name.calls k1 (rdOf ByteArray.empty l1 x7_1) false _ A5.out).mono ?_); rintro e w' ⟨rfl, ⟨nd, rfl⟩⟩; (try first | exact ⟨rfl, _, World.drewN_drewN _ _ _⟩ | exact ⟨rfl, _, Eq.trans (World.drewN_drewN _ _ _) (congrArg (World.drewN _) (Nat.add_assoc _ _ _))⟩))))
      go_ret2
      exact ⟨_, by first | rfl | (simp [errW_none, errW_some] <;> rfl) | (simp [*, errW_none, errW_some] <;> rfl), by first | exact Kd.R_nil _ _ _ _ _ | exact Kd.N_nil _ _ _ _ _ | exact Kd.V_nil _ _ _ _ _ | exact Kd.Q_nil _ _ _ _ _ | exact Kd.S_nil _ _ _ _ _, by repeat (first | (with_reducible first | exact HB.out | apply below_alloc | apply pw_below_drewN | apply below_drew1) | exact HB.out)⟩
    ·rw [if_neg c4] at H
     exact absurd H (by simp)
   ·rw [if_neg c3] at H
    have c3b0 : decide (x7_1 < (l1.length : Int)) = false := decide_eq_false c3
    clear c3
    have H' := Aside0.mk H
    clear H
    go_wp2
    repeat (go_quiet (fail); try go_wp2)
    go_loopg [6, 8] k1 (fun kq v6 v8 w' => ∃ (x6_2 : List ByteArray) (x8_2 : Int), v8 = .int .i64 x8_2 ∧ Aside0 (chandleryref20_Find.l1 kq l0 l1 x6_2 x8_2 = some (r1, r2)) ∧ Aside0 (kq ≤ k1) ∧ Aside0 (Kd.R Kd.string 9 w' w.heap.size (fun _ => True) v6 x6_2) ∧ Aside0 (Below w.heap.size w w'))
    case atStart => exact ⟨(([] : List ByteArray)), (0), (by first | rfl | (simp; done) | exact congrArg Value.bool (Go.Proofs.YtkmnjekbacdfoaaX.isEmpty_ne_ _) | exact congrArg Value.bool (Go.Proofs.YtkmnjekbacdfoaaX.ne_isEmpty_ _) | (simp [*]; done)), H', ⟨Nat.le_refl _⟩, ⟨by first | exact Kd.R_nil _ _ _ _ _ | exact Kd.N_nil _ _ _ _ _ | exact Kd.V_nil _ _ _ _ _ | exact Kd.Q_nil _ _ _ _ _ | exact Kd.S_nil _ _ _ _ _⟩, ⟨by repeat (first | (with_reducible first | exact HB.out | apply below_alloc | apply pw_below_drewN | apply below_drew1) | exact HB.out)⟩⟩
    case round =>
     clear H'
     try clear c1
     try clear p1
     try clear q1
     try clear hx1
     try clear p2
     try clear c3
     try clear c3b0
     try clear c4
     try clear c4b0
     try clear c6
     try clear p6
     try clear hx107_0
     try clear p107
     try clear p2
     try clear q107
     obtain ⟨x6_2, x8_2, rfl, HA, HK2, HO_6, HB⟩ := hrel
     cases gk with
     | zero => exact absurd HA.out (by simp [chandleryref20_Find.l1])
     | succ k2 =>
      have H := HA.out
      clear HA
      simp only [chandleryref20_Find.l1] at H
      by_cases c7 : x8_2 < (l1.length : Int)
      ·rw [if_pos c7] at H
       have c7b0 : decide (x8_2 < (l1.length : Int)) = true := decide_eq_true c7
       clear c7
       by_cases c8 : 0 ≤ x8_2
       ·rw [if_pos c8] at H
        have c8b0 : decide (0 ≤ x8_2) = true := decide_eq_true c8
        clear c8
        by_cases c9 : 0 ≤ 32
        ·rw [if_pos c9] at H
         have c9b0 := eq_true c9
         have c9b1 : decide (0 ≤ 32) = true := decide_eq_true c9
         clear c9
         by_cases c10 : 32 ≤ ((rdOf ByteArray.empty l1 x8_2).size : Int)
         ·rw [if_pos c10] at H
          have c10b0 := eq_true c10
          have c10b1 : decide (32 ≤ ((rdOf ByteArray.empty l1 x8_2).size : Int)) = true := decide_eq_true c10
          clear c10
          replace H := Option.bind_eq_some_iff.mp H
          obtain ⟨t110, A110, H⟩ := H
          replace H : (if t110 = true then (chandleryref20_Find.l2 k2 l0 l1 x6_2 x8_2 0) else (chandleryref20_Find.l1 k2 l0 l1 x6_2 (wrap64 (x8_2 + 1)))) = some (r1, r2) := H
          have A11 := Aside0.mk A110
          clear A110
          by_cases c12 : t110 = true
          ·subst c12
           have H1 : (chandleryref20_Find.l2 k2 l0 l1 x6_2 x8_2 0) = some (r1, r2) := by rw [if_pos rfl] at H; exact H
           clear H
           have H := H1
           clear H1
           have H' := Aside0.mk H
           clear H
           have p109 : 0 ≤ (x8_2 : Int) := of_decide_eq_true (by first | (with_reducible assumption) | assumption)
           have q109 : x8_2 < (l1.length : Int) := of_decide_eq_true (by first | (with_reducible assumption) | assumption)
           obtain ⟨ad109, e109, hx109_0⟩ := Kd.at_string HR1.out x8_2 p109 q109
           cases e109
           replace hx109_0 := (HB.out.cell (World.block_lt_of_cell? w _ hx109_0)).trans hx109_0
           replace p109 := eq_true p109
           replace q109 := eq_true q109
           go_wp2_with (first | (go_at_call 17; (with_reducible refine (chandleryref20_stands.calls k2 _ _ l0 ((rdOf ByteArray.empty l1 x8_2).extract 0 32) true _ ?side1 ?side2 A11.out).mono ?_); (case side1 => repeat (first | exact (Kd.C_below HR0.out HB.out) | (with_reducible refine Kd.C_alloc ?_ _) | (with_reducible refine Kd.C_drewN ?_ _) | (with_reducible refine Kd.C_drew ?_))); (case side2 => exact HC0.out); rintro e w' ⟨rfl, ⟨nd, rfl⟩⟩; (try first | exact ⟨rfl, _, World.drewN_drewN _ _ _⟩ | exact ⟨rfl, _, Eq.trans (World.drewN_drewN _ _ _) (congrArg (World.drewN _) (Nat.add_assoc _ _ _))⟩)))
           repeat (go_quiet (first | (go_at_call 17; (with_reducible refine (chandleryref20_stands.calls k2 _ _ l0 ((rdOf ByteArray.empty l1 x8_2).extract 0 32) true _ ?side1 ?side2 A11.out).mono ?_); (case side1 => repeat (first | exact (Kd.C_below HR0.out HB.out) | (with_reducible refine Kd.C_alloc ?_ _) | (with_reducible refine Kd.C_drewN ?_ _) | (with_reducible refine Kd.C_drew ?_))); (case side2 => exact HC0.out); rintro e w' ⟨rfl, ⟨nd, rfl⟩⟩; (try first | exact ⟨rfl, _, World.drewN_drewN _ _ _⟩ | exact ⟨rfl, _, Eq.trans (World.drewN_drewN _ _ _) (congrArg (World.drewN _) (Nat.add_assoc _ _ _))⟩))); try go_wp2_with (first | (go_at_call 17; (with_reducible refine (chandleryref20_stands.calls k2 _ _ l0 ((rdOf ByteArray.empty l1 x8_2).extract 0 32) true _ ?side1 ?side2 A11.out).mono ?_); (case side1 => repeat (first | exact (Kd.C_below HR0.out HB.out) | (with_reducible refine Kd.C_alloc ?_ _) | (with_reducible refine Kd.C_drewN ?_ _) | (with_reducible refine Kd.C_drew ?_))); (case side2 => exact HC0.out); rintro e w' ⟨rfl, ⟨nd, rfl⟩⟩; (try first | exact ⟨rfl, _, World.drewN_drewN _ _ _⟩ | exact ⟨rfl, _, Eq.trans (World.drewN_drewN _ _ _) (congrArg (World.drewN _) (Nat.add_assoc _ _ _))⟩))))
           go_loopg [9] k2 (fun kq v9 w' => ∃ (x9_3 : Int), v9 = .int .i64 x9_3 ∧ Aside0 (chandleryref20_Find.l2 kq l0 l1 x6_2 x8_2 x9_3 = some (r1, r2)) ∧ Aside0 (kq ≤ k2) ∧ Aside0 (Kd.R Kd.string 9 w' w.heap.size (fun _ => True) u6 x6_2) ∧ Aside0 (Below w.heap.size w w'))
           case atStart => exact ⟨(0), (by first | rfl | (simp; done) | exact congrArg Value.bool (Go.Proofs.YtkmnjekbacdfoaaX.isEmpty_ne_ _) | exact congrArg Value.bool (Go.Proofs.YtkmnjekbacdfoaaX.ne_isEmpty_ _) | (simp [*]; done)), H', ⟨Nat.le_refl _⟩, ⟨by (with_reducible repeat (first | apply Kd.R_alloc | apply Kd.R_drewN | apply Kd.R_drew)); exact HO_6.out⟩, ⟨by repeat (first | (with_reducible first | exact HB.out | apply below_alloc | apply pw_below_drewN | apply below_drew1) | exact HB.out)⟩⟩
           case round =>
            clear H'
            try clear c1
            try clear p1
            try clear q1
            try clear hx1
            try clear p2
            try clear c3
            try clear c3b0
            try clear c4
            try clear c4b0
            try clear c6
            try clear p6
            try clear c7
            try clear c7b0
            try clear c8
            try clear c8b0
            try clear c9
            try clear c9b0
            try clear c9b1
            try clear c10
            try clear c10b0
            try clear c10b1
            try clear p10
            try clear q10
            try clear hx10
            try clear c12
            try clear hx107_0
            try clear hx109_0
            try clear p1
            try clear p107
            try clear p109
            try clear p2
            try clear p6
            try clear q1
            try clear q107
            try clear q109
            obtain ⟨x9_3, rfl, HA, HK3, HO_6, HB⟩ := hrel
            cases gk with
            | zero => exact absurd HA.out (by simp [chandleryref20_Find.l2])
            | succ k3 =>
             have H := HA.out
             clear HA
             simp only [chandleryref20_Find.l2] at H
             by_cases c13 : x9_3 < (x6_2.length : Int)
             ·rw [if_pos c13] at H
              have c13b0 : decide (x9_3 < (x6_2.length : Int)) = true := decide_eq_true c13
              clear c13
              by_cases c14 : 0 ≤ x9_3
              ·rw [if_pos c14] at H
               have c14b0 : decide (0 ≤ x9_3) = true := decide_eq_true c14
               clear c14
               by_cases c15 : 0 ≤ x8_2
               ·rw [if_pos c15] at H
                have c15b0 : decide (0 ≤ x8_2) = true := decide_eq_true c15
                clear c15
                by_cases c16 : x8_2 < (l1.length : Int)
                ·rw [if_pos c16] at H
                 have c16b0 : decide (x8_2 < (l1.length : Int)) = true := decide_eq_true c16
                 clear c16
                 by_cases c17 : (Op.bytesLess ((rdOf ByteArray.empty x6_2 x9_3).toList) ((rdOf ByteArray.empty l1 x8_2).toList)) = true
                 ·rw [if_pos c17] at H
                  have c17b0 : (Op.bytesLess ((rdOf ByteArray.empty x6_2 x9_3).toList) ((rdOf ByteArray.empty l1 x8_2).toList)) = true := c17
                  clear c17
                  have H' := Aside0.mk H
                  clear H
                  obtain ⟨Ao18, co18, eo18⟩ := Kd.R_slice HO_6.out
                  subst eo18
                  have p111 : 0 ≤ (x9_3 : Int) := of_decide_eq_true (by first | (with_reducible assumption) | assumption)
                  have q111 : x9_3 < (x6_2.length : Int) := of_decide_eq_true (by first | (with_reducible assumption) | assumption)
                  obtain ⟨ad111, e111, hx111_0⟩ := Kd.at_string (Kd.R_reads' HO_6.out).2.2 x9_3 p111 q111
                  cases e111
                  replace p111 := eq_true p111
                  replace q111 := eq_true q111
                  have p112 : 0 ≤ (x8_2 : Int) := of_decide_eq_true (by first | (with_reducible assumption) | assumption)
                  have q112 : x8_2 < (l1.length : Int) := of_decide_eq_true (by first | (with_reducible assumption) | assumption)
                  obtain ⟨ad112, e112, hx112_0⟩ := Kd.at_string HR1.out x8_2 p112 q112
                  obtain rfl : ad109 = ad112 := (by injection e112)
                  replace hx112_0 := (HB.out.cell (World.block_lt_of_cell? w _ hx112_0)).trans hx112_0
                  replace p112 := eq_true p112
                  replace q112 := eq_true q112
                  go_wp2
                  repeat (go_quiet (fail); try go_wp2)
                  go_roundg k3
                  case measure => have := HK1.out; have := HK2.out; have := HK3.out; omega
                  case rel => exact ⟨(wrap64 (x9_3 + 1)), (by first | rfl | (simp; done) | exact congrArg Value.bool (Go.Proofs.YtkmnjekbacdfoaaX.isEmpty_ne_ _) | exact congrArg Value.bool (Go.Proofs.YtkmnjekbacdfoaaX.ne_isEmpty_ _) | (simp [*]; done)), H', ⟨by have := HK1.out; have := HK2.out; have := HK3.out; omega⟩, ⟨by (with_reducible repeat (first | apply Kd.R_alloc | apply Kd.R_drewN | apply Kd.R_drew)); exact HO_6.out⟩, ⟨by repeat (first | (with_reducible first | exact HB.out | apply below_alloc | apply pw_below_drewN | apply below_drew1) | exact HB.out)⟩⟩
                 ·rw [if_neg c17] at H
                  have c17b0 : (Op.bytesLess ((rdOf ByteArray.empty x6_2 x9_3).toList) ((rdOf ByteArray.empty l1 x8_2).toList)) = false := by simpa using c17
                  clear c17
                  by_cases c19 : (rdOf ByteArray.empty x6_2 x9_3).toList = (rdOf ByteArray.empty l1 x8_2).toList
                  ·rw [if_pos c19] at H
                   have c19b0 : ((rdOf ByteArray.empty x6_2 x9_3).toList == (rdOf ByteArray.empty l1 x8_2).toList) = true := beq_iff_eq.mpr c19
                   have c19b1 : ((rdOf ByteArray.empty x6_2 x9_3).toList != (rdOf ByteArray.empty l1 x8_2).toList) = false := bne_eq_false_iff_eq.mpr c19
                   clear c19
                   have H' := Aside0.mk H
                   clear H
                   obtain ⟨Ao20, co20, eo20⟩ := Kd.R_slice HO_6.out
                   subst eo20
                   have p111 : 0 ≤ (x9_3 : Int) := of_decide_eq_true (by first | (with_reducible assumption) | assumption)
                   have q111 : x9_3 < (x6_2.length : Int) := of_decide_eq_true (by first | (with_reducible assumption) | assumption)
                   obtain ⟨ad111, e111, hx111_0⟩ := Kd.at_string (Kd.R_reads' HO_6.out).2.2 x9_3 p111 q111
                   cases e111
                   replace p111 := eq_true p111
                   replace q111 := eq_true q111
                   have p112 : 0 ≤ (x8_2 : Int) := of_decide_eq_true (by first | (with_reducible assumption) | assumption)
                   have q112 : x8_2 < (l1.length : Int) := of_decide_eq_true (by first | (with_reducible assumption) | assumption)
                   obtain ⟨ad112, e112, hx112_0⟩ := Kd.at_string HR1.out x8_2 p112 q112
                   obtain rfl : ad109 = ad112 := (by injection e112)
                   replace hx112_0 := (HB.out.cell (World.block_lt_of_cell? w _ hx112_0)).trans hx112_0
                   replace p112 := eq_true p112
                   replace q112 := eq_true q112
                   have p113 : 0 ≤ (x9_3 : Int) := of_decide_eq_true (by first | (with_reducible assumption) | assumption)
                   have q113 : x9_3 < (x6_2.length : Int) := of_decide_eq_true (by first | (with_reducible assumption) | assumption)
                   obtain ⟨ad113, e113, hx113_0⟩ := Kd.at_string (Kd.R_reads' HO_6.out).2.2 x9_3 p113 q113
                   obtain rfl : ad111 = ad113 := (by injection e113)
                   replace p113 := eq_true p113
                   replace q113 := eq_true q113
                   have p114 : 0 ≤ (x8_2 : Int) := of_decide_eq_true (by first | (with_reducible assumption) | assumption)
                   have q114 : x8_2 < (l1.length : Int) := of_decide_eq_true (by first | (with_reducible assumption) | assumption)
                   obtain ⟨ad114, e114, hx114_0⟩ := Kd.at_string HR1.out x8_2 p114 q114
                   obtain rfl : ad109 = ad114 := (by injection e114)
                   replace hx114_0 := (HB.out.cell (World.block_lt_of_cell? w _ hx114_0)).trans hx114_0
                   replace p114 := eq_true p114
                   replace q114 := eq_true q114
                   go_wp2
                   repeat (go_quiet (fail); try go_wp2)
                   go_roundg k3
                   case measure => have := HK1.out; have := HK2.out; have := HK3.out; omega
                   case rel => exact ⟨(x6_2), (wrap64 (x8_2 + 1)), (by first | rfl | (simp; done) | exact congrArg Value.bool (Go.Proofs.YtkmnjekbacdfoaaX.isEmpty_ne_ _) | exact congrArg Value.bool (Go.Proofs.YtkmnjekbacdfoaaX.ne_isEmpty_ _) | (simp [*]; done)), H', ⟨by have := HK1.out; have := HK2.out; have := HK3.out; omega⟩, ⟨by (with_reducible repeat (first | apply Kd.R_alloc | apply Kd.R_drewN | apply Kd.R_drew)); exact HO_6.out⟩, ⟨by repeat (first | (with_reducible first | exact HB.out | apply below_alloc | apply pw_below_drewN | apply below_drew1) | exact HB.out)⟩⟩
                  ·rw [if_neg c19] at H
                   have c19b0 : ((rdOf ByteArray.empty x6_2 x9_3).toList == (rdOf ByteArray.empty l1 x8_2).toList) = false := beq_eq_false_iff_ne.mpr c19
                   have c19b1 : ((rdOf ByteArray.empty x6_2 x9_3).toList != (rdOf ByteArray.empty l1 x8_2).toList) = true := bne_iff_ne.mpr c19
                   have c21b0 := eq_true (of_decide_eq_true (by first | (with_reducible assumption) | assumption) : 0 ≤ x9_3)
                   by_cases c22 : x9_3 ≤ (x6_2.length : Int)
                   ·rw [if_pos c22] at H
                    have c22b0 := eq_true c22
                    have c22b1 : decide (x9_3 ≤ (x6_2.length : Int)) = true := decide_eq_true c22
                    clear c22
                    obtain ⟨y115, hy115⟩ : ∃ y_ : List ByteArray, y_ = (x6_2.take (x9_3 : Int).toNat) := ⟨_, rfl⟩
                    replace H : (if ([] : List ByteArray).length + y115.length < 8796093022208 then ((some (([] : List ByteArray) ++ y115 : List ByteArray)).bind fun y119 => (if y119.length < 8796093022208 then ((some (y119 ++ [rdOf ByteArray.empty l1 x8_2] : List ByteArray)).bind fun y123 => ((some (x6_2.drop (x9_3 : Int).toNat : List ByteArray)).bind fun y126 => (if y123.length + y126.length < 8796093022208 then (chandleryref20_Find.l1 k3 l0 l1 (y123 ++ y126) (wrap64 (x8_2 + 1))) else (none)))) else (none))) else (none)) = some (r1, r2) := by first | (rw [hy115]; with_reducible exact H) | (have H2_ := (Option.bind_some _ _).symm.trans H; rw [hy115]; with_reducible exact H2_) | (have H2_ := (Option.bind_some _ _).symm.trans H; with_reducible exact H2_) | with_reducible exact H | (rw [hy115]; exact H) | exact H
                    have Ny115 := Aside0.mk hy115
                    clear hy115
                    by_cases c23 : ([] : List ByteArray).length + y115.length < 8796093022208
                    ·rw [if_pos c23] at H
                     have LMc23 := Aside0.mk c23
                     clear c23
                     obtain ⟨y119, hy119⟩ : ∃ y_ : List ByteArray, y_ = (([] : List ByteArray) ++ y115) := ⟨_, rfl⟩
                     replace H : (if y119.length < 8796093022208 then ((some (y119 ++ [rdOf ByteArray.empty l1 x8_2] : List ByteArray)).bind fun y123 => ((some (x6_2.drop (x9_3 : Int).toNat : List ByteArray)).bind fun y126 => (if y123.length + y126.length < 8796093022208 then (chandleryref20_Find.l1 k3 l0 l1 (y123 ++ y126) (wrap64 (x8_2 + 1))) else (none)))) else (none)) = some (r1, r2) := by first | (rw [hy119]; with_reducible exact H) | (have H2_ := (Option.bind_some _ _).symm.trans H; rw [hy119]; with_reducible exact H2_) | (have H2_ := (Option.bind_some _ _).symm.trans H; with_reducible exact H2_) | with_reducible exact H | (rw [hy119]; exact H) | exact H
                     have Ny119 := Aside0.mk hy119
                     clear hy119
                     by_cases c24 : y119.length < 8796093022208
                     ·rw [if_pos c24] at H
                      have LMc24 := Aside0.mk c24
                      clear c24
                      obtain ⟨y123, hy123⟩ : ∃ y_ : List ByteArray, y_ = (y119 ++ [rdOf ByteArray.empty l1 x8_2]) := ⟨_, rfl⟩
                      replace H : ((some (x6_2.drop (x9_3 : Int).toNat : List ByteArray)).bind fun y126 => (if y123.length + y126.length < 8796093022208 then (chandleryref20_Find.l1 k3 l0 l1 (y123 ++ y126) (wrap64 (x8_2 + 1))) else (none))) = some (r1, r2) := by first | (rw [hy123]; with_reducible exact H) | (have H2_ := (Option.bind_some _ _).symm.trans H; rw [hy123]; with_reducible exact H2_) | (have H2_ := (Option.bind_some _ _).symm.trans H; with_reducible exact H2_) | with_reducible exact H | (rw [hy123]; exact H) | exact H
                      have Ny123 := Aside0.mk hy123
                      clear hy123
                      have c25b0 := eq_true (of_decide_eq_true (by first | (with_reducible assumption) | assumption) : 0 ≤ x9_3)
                      have c26b0 := eq_true (of_decide_eq_true (by first | (with_reducible assumption) | assumption) : x9_3 ≤ (x6_2.length : Int))
                      obtain ⟨y126, hy126⟩ : ∃ y_ : List ByteArray, y_ = (x6_2.drop (x9_3 : Int).toNat) := ⟨_, rfl⟩
                      replace H : (if y123.length + y126.length < 8796093022208 then (chandleryref20_Find.l1 k3 l0 l1 (y123 ++ y126) (wrap64 (x8_2 + 1))) else (none)) = some (r1, r2) := by first | (rw [hy126]; with_reducible exact H) | (have H2_ := (Option.bind_some _ _).symm.trans H; rw [hy126]; with_reducible exact H2_) | (have H2_ := (Option.bind_some _ _).symm.trans H; with_reducible exact H2_) | with_reducible exact H | (rw [hy126]; exact H) | exact H
                      have Ny126 := Aside0.mk hy126
                      clear hy126
                      by_cases c27 : y123.length + y126.length < 8796093022208
                      ·rw [if_pos c27] at H
                       have LMc27 := Aside0.mk c27
                       clear c27
                       obtain ⟨y130, hy130⟩ : ∃ y_ : List ByteArray, y_ = (y123 ++ y126) := ⟨_, rfl⟩
                       replace H : (chandleryref20_Find.l1 k3 l0 l1 y130 (wrap64 (x8_2 + 1))) = some (r1, r2) := by first | (rw [hy130]; with_reducible exact H) | (have H2_ := (Option.bind_some _ _).symm.trans H; rw [hy130]; with_reducible exact H2_) | (have H2_ := (Option.bind_some _ _).symm.trans H; with_reducible exact H2_) | with_reducible exact H | (rw [hy130]; exact H) | exact H
                       have Ny130 := Aside0.mk hy130
                       clear hy130
                       have H' := Aside0.mk H
                       clear H
                       obtain ⟨Ao28, co28, eo28⟩ := Kd.R_slice HO_6.out
                       subst eo28
                       have p111 : 0 ≤ (x9_3 : Int) := of_decide_eq_true (by first | (with_reducible assumption) | assumption)
                       have q111 : x9_3 < (x6_2.length : Int) := of_decide_eq_true (by first | (with_reducible assumption) | assumption)
                       obtain ⟨ad111, e111, hx111_0⟩ := Kd.at_string (Kd.R_reads' HO_6.out).2.2 x9_3 p111 q111
                       cases e111
                       replace p111 := eq_true p111
                       replace q111 := eq_true q111
                       have p112 : 0 ≤ (x8_2 : Int) := of_decide_eq_true (by first | (with_reducible assumption) | assumption)
                       have q112 : x8_2 < (l1.length : Int) := of_decide_eq_true (by first | (with_reducible assumption) | assumption)
                       obtain ⟨ad112, e112, hx112_0⟩ := Kd.at_string HR1.out x8_2 p112 q112
                       obtain rfl : ad109 = ad112 := (by injection e112)
                       replace hx112_0 := (HB.out.cell (World.block_lt_of_cell? w _ hx112_0)).trans hx112_0
                       replace p112 := eq_true p112
                       replace q112 := eq_true q112
                       have p113 : 0 ≤ (x9_3 : Int) := of_decide_eq_true (by first | (with_reducible assumption) | assumption)
                       have q113 : x9_3 < (x6_2.length : Int) := of_decide_eq_true (by first | (with_reducible assumption) | assumption)
                       obtain ⟨ad113, e113, hx113_0⟩ := Kd.at_string (Kd.R_reads' HO_6.out).2.2 x9_3 p113 q113
                       obtain rfl : ad111 = ad113 := (by injection e113)
                       replace p113 := eq_true p113
                       replace q113 := eq_true q113
                       have p114 : 0 ≤ (x8_2 : Int) := of_decide_eq_true (by first | (with_reducible assumption) | assumption)
                       have q114 : x8_2 < (l1.length : Int) := of_decide_eq_true (by first | (with_reducible assumption) | assumption)
                       obtain ⟨ad114, e114, hx114_0⟩ := Kd.at_string HR1.out x8_2 p114 q114
                       obtain rfl : ad109 = ad114 := (by injection e114)
                       replace hx114_0 := (HB.out.cell (World.block_lt_of_cell? w _ hx114_0)).trans hx114_0
                       replace p114 := eq_true p114
                       replace q114 := eq_true q114
                       have q29 : (x9_3 : Int) ≤ ((x6_2.length : Int) : Int) := of_decide_eq_true (by first | (with_reducible assumption) | assumption)
                       obtain ⟨i029, hi029, _, hsz29, _⟩ := info_parts info9
                       have hroom29 : x6_2.length ≤ co28 := (Kd.R_reads' HO_6.out).2.1
                       have hC29 : Kd.C Kd.string _ (some ad111) x6_2.length x6_2 := (Kd.R_reads' HO_6.out).2.2
                       have hcut29 := cut_to (P := Try.prog) 23 9 .i64 Try.underlying23 hi029 (some ad111) x6_2.length co28 x9_3 (of_decide_eq_true (by first | (with_reducible assumption) | assumption)) q29 hroom29
                       have hr29 := Kd.C_take (m := (x9_3 : Int).toNat) hC29 (by omega)
                       have hy29 : y115.length = (x9_3 : Int).toNat := (by rw [Ny115.out, List.length_take]; omega)
                       rw [← Ny115.out] at hr29
                       rw [← hy29] at hcut29
                       have HR118 := Aside0.mk hr29
                       have HC118 := Aside0.mk (show y115.length ≤ co28 from by omega)
                       clear hr29 hC29 hroom29 hi029 hsz29
                       have KY29 := Aside0.mk hy29
                       clear hy29
                       have KL29 := Aside0.mk (show (x9_3 : Int).toNat ≤ x6_2.length from by omega)
                       replace q29 := eq_true q29
                       go_wp2_with (first | ((with_reducible refine gate_builtin (b := .append) (xs := #[.tmp 69, .tmp 72]) rfl ?_); at_builtin; refine Kd.R_append_rows Kd.string (w0 := w) w.heap.size rfl (.tmp 69) (.tmp 72) 23 9 (.string ⟨#[]⟩) 16 rfl Try.underlying23 info9 rfl (by decide) (by omega) (.slice none 0 0) ([] : List ByteArray) y115 _ _ _ (fun k_ => some k_ ≠ (.slice (some ad111) x6_2.length co28 : Value).ownBlock) (fun _ => False) rfl rfl ?aO ?aR (fun _ _ h => h) (fun _ h => h.elim) ?aF ?aB ?aS ?aL ?_; (case aR => repeat (first | exact (by repeat (first | (with_reducible exact HR118.out) | (with_reducible refine Kd.C_alloc ?_ _) | (with_reducible refine Kd.C_drewN ?_ _) | (with_reducible refine Kd.C_drew ?_) | exact HR118.out)) | (with_reducible refine Kd.C_alloc ?_ _) | (with_reducible refine Kd.C_drewN ?_ _) | (with_reducible refine Kd.C_drew ?_))); (case aB => exact (by repeat (first | (with_reducible first | exact HB.out | apply below_alloc | apply pw_below_drewN | apply below_drew1) | exact HB.out))); (case aF => exact (fun k_ hk => Kd.fresh' (Kd.R_lt (by (with_reducible repeat (first | apply Kd.R_alloc | apply Kd.R_drewN | apply Kd.R_drew)); exact HO_6.out)) k_ hk)); (case aO => exact ((Kd.R_nil _ _ _ _ (fun k_ => some k_ ≠ (.slice (some ad111) x6_2.length co28 : Value).ownBlock)))); (case aS => exact (below_size (by repeat (first | (with_reducible first | exact HB.out | apply below_alloc | apply pw_below_drewN | apply below_drew1) | exact HB.out)))); (case aL => have := LMc23.out; omega); intro v120 w30 ho hb hg hat; rw [← Ny119.out] at ho; have n0_ := Aside0.mk (Kd.R_after (Kd.R_apart_nil (by (with_reducible repeat (first | apply Kd.R_alloc | apply Kd.R_drewN | apply Kd.R_drew)); exact HO_6.out)) hg hat); have n1_ := Aside0.mk (hb); have n2_ := Aside0.mk ((show Kd.C Kd.string w30 (some ad111) y115.length y115 from by rw [Ny115.out]; exact Kd.C_take (m := (x9_3 : Int).toNat) ((Kd.R_reads' (Kd.R_after (Kd.R_apart_nil (by (with_reducible repeat (first | apply Kd.R_alloc | apply Kd.R_drewN | apply Kd.R_drew)); exact HO_6.out)) hg hat)).2.2) KL29.out)); have n3_ := Aside0.mk (ho); clear HO_6; clear HB; clear HR118; have HO_6 := n0_; have HB := n1_; have HR118 := n2_; have HO121 := n3_; clear n0_ n1_ n2_ n3_; clear ho hb hg hat; have p122 : 0 ≤ (x8_2 : Int) := of_decide_eq_true (by first | (with_reducible assumption) | assumption); have q122 : x8_2 < (l1.length : Int) := of_decide_eq_true (by first | (with_reducible assumption) | assumption); obtain ⟨ad122, e122, hx122_0⟩ := Kd.at_string HR1.out x8_2 p122 q122; obtain rfl : ad109 = ad122 := (by injection e122); replace hx122_0 := (HB.out.cell (World.block_lt_of_cell? w _ hx122_0)).trans hx122_0; replace p122 := eq_true p122; replace q122 := eq_true q122) | ((with_reducible refine gate_builtin (b := .append) (xs := #[.tmp 74, .tmp 79]) rfl ?_); at_builtin; refine Kd.R_append Kd.string (w0 := w) w.heap.size rfl (.tmp 74) (.tmp 79) 23 9 (.string ⟨#[]⟩) 16 rfl Try.underlying23 info9 rfl (by decide) (by omega) v120 y119 (rdOf ByteArray.empty l1 x8_2) [.string (rdOf ByteArray.empty l1 x8_2)] (fun k_ => some k_ ≠ (.slice (some ad111) x6_2.length co28 : Value).ownBlock) (fun _ => False) rfl rfl ?aP (fun _ hk => hk.elim) ?aF ?aO ?aB ?aS ?aL ?_; (case aP => exact rfl); (case aB => exact (by repeat (first | (with_reducible first | exact HB.out | apply below_alloc | apply pw_below_drewN | apply below_drew1) | exact HB.out))); (case aF => exact (fun k_ hk => Kd.fresh' (Kd.R_lt (by (with_reducible repeat (first | apply Kd.R_alloc | apply Kd.R_drewN | apply Kd.R_drew)); exact HO_6.out)) k_ hk)); (case aO => exact (by (with_reducible repeat (first | apply Kd.R_alloc | apply Kd.R_drewN | apply Kd.R_drew)); exact HO121.out)); (case aS => exact (below_size (by repeat (first | (with_reducible first | exact HB.out | apply below_alloc | apply pw_below_drewN | apply below_drew1) | exact HB.out)))); (case aL => have := LMc24.out; omega); intro v124 w31 ho hb hg hat; rw [← Ny123.out] at ho; have n0_ := Aside0.mk (Kd.R_after (ok := (fun _ => True)) (by (with_reducible repeat (first | apply Kd.R_alloc | apply Kd.R_drewN | apply Kd.R_drew)); exact HO_6.out) hg hat); have n1_ := Aside0.mk (hb); have n2_ := Aside0.mk ((show Kd.C Kd.string w31 (some ad111) y115.length y115 from by rw [Ny115.out]; exact Kd.C_take (m := (x9_3 : Int).toNat) ((Kd.R_reads' (Kd.R_after (ok := (fun _ => True)) (by (with_reducible repeat (first | apply Kd.R_alloc | apply Kd.R_drewN | apply Kd.R_drew)); exact HO_6.out) hg hat)).2.2) KL29.out)); have n3_ := Aside0.mk (ho); clear HO_6; clear HB; clear HR118; clear HO121; have HO_6 := n0_; have HB := n1_; have HR118 := n2_; have HO125 := n3_; clear n0_ n1_ n2_ n3_; clear ho hb hg hat; have q32 : (x9_3 : Int) ≤ ((x6_2.length : Int) : Int) := of_decide_eq_true (by first | (with_reducible assumption) | assumption); obtain ⟨i032, hi032, _, hsz32, _⟩ := info_parts info9; have hroom32 : x6_2.length ≤ co28 := (Kd.R_reads' HO_6.out).2.1; have hC32 : Kd.C Kd.string _ (some ad111) x6_2.length x6_2 := (Kd.R_reads' HO_6.out).2.2; have q032 : (0 : Int) ≤ (x9_3 : Int) := of_decide_eq_true (by first | (with_reducible assumption) | assumption); have hcut32 := cut_from (P := Try.prog) 23 9 .i64 Try.underlying23 hi032 1 hsz32 (some ad111) x6_2.length co28 x9_3 q032 q32; have hr32 := Kd.C_drop (m := (x9_3 : Int).toNat) (c := co28) hC32 (by omega) hroom32; obtain ⟨A32, hA32⟩ : ∃ A1, A1 = (if co28 = (x9_3 : Int).toNat then (some ad111) else ((some ad111) : Option Addr).map (·.add ((x9_3 : Int).toNat * 1))) := ⟨_, rfl⟩; obtain ⟨c32, hc32⟩ : ∃ c1, c1 = co28 - (x9_3 : Int).toNat := ⟨_, rfl⟩; have hy32 : y126.length = x6_2.length - (x9_3 : Int).toNat := (by rw [Ny126.out, List.length_drop] <;> omega); rw [show (x6_2).drop (x9_3 : Int).toNat = y126 from Ny126.out.symm] at hr32; replace hr32 : Kd.C Kd.string _ A32 y126.length y126 := (by rw [hA32]; exact hr32); rw [← hy32, ← hA32, ← hc32] at hcut32; have HR129 := Aside0.mk hr32; have HC129 := Aside0.mk (show y126.length ≤ c32 from by rw [hy32, hc32]; exact Nat.sub_le_sub_right hroom32 _); clear hr32 hC32 hroom32 hi032 hsz32 hc32; have KY32 := Aside0.mk hy32; have KA32 := Aside0.mk hA32; clear hy32 hA32; have KL32 := Aside0.mk (show (x9_3 : Int).toNat ≤ x6_2.length from by omega); replace q32 := eq_true q32) | ((with_reducible refine gate_builtin (b := .append) (xs := #[.tmp 81, .tmp 84]) rfl ?_); at_builtin; refine Kd.R_append_rows Kd.string (w0 := w) w.heap.size rfl (.tmp 81) (.tmp 84) 23 9 (.string ⟨#[]⟩) 16 rfl Try.underlying23 info9 rfl (by decide) (by omega) v124 y123 y126 _ _ _ (fun k_ => some k_ ≠ (.slice (some ad111) x6_2.length co28 : Value).ownBlock) (fun _ => False) rfl rfl ?aO ?aR (fun _ _ h => h) (fun _ h => h.elim) ?aF ?aB ?aS ?aL ?_; (case aR => repeat (first | exact (by repeat (first | (with_reducible exact HR129.out) | (with_reducible refine Kd.C_alloc ?_ _) | (with_reducible refine Kd.C_drewN ?_ _) | (with_reducible refine Kd.C_drew ?_) | exact HR129.out)) | (with_reducible refine Kd.C_alloc ?_ _) | (with_reducible refine Kd.C_drewN ?_ _) | (with_reducible refine Kd.C_drew ?_))); (case aB => exact (by repeat (first | (with_reducible first | exact HB.out | apply below_alloc | apply pw_below_drewN | apply below_drew1) | exact HB.out))); (case aF => exact (fun k_ hk => Kd.fresh' (Kd.R_lt (by (with_reducible repeat (first | apply Kd.R_alloc | apply Kd.R_drewN | apply Kd.R_drew)); exact HO_6.out)) k_ hk)); (case aO => exact (by (with_reducible repeat (first | apply Kd.R_alloc | apply Kd.R_drewN | apply Kd.R_drew)); exact HO125.out)); (case aS => exact (below_size (by repeat (first | (with_reducible first | exact HB.out | apply below_alloc | apply pw_below_drewN | apply below_drew1) | exact HB.out)))); (case aL => have := LMc27.out; omega); intro v131 w33 ho hb hg hat; rw [← Ny130.out] at ho; have n0_ := Aside0.mk (Kd.R_after (ok := (fun _ => True)) (by (with_reducible repeat (first | apply Kd.R_alloc | apply Kd.R_drewN | apply Kd.R_drew)); exact HO_6.out) hg hat); have n1_ := Aside0.mk (hb); have n2_ := Aside0.mk ((show Kd.C Kd.string w33 (some ad111) y115.length y115 from by rw [Ny115.out]; exact Kd.C_take (m := (x9_3 : Int).toNat) ((Kd.R_reads' (Kd.R_after (ok := (fun _ => True)) (by (with_reducible repeat (first | apply Kd.R_alloc | apply Kd.R_drewN | apply Kd.R_drew)); exact HO_6.out) hg hat)).2.2) KL29.out)); have n3_ := Aside0.mk ((show Kd.C Kd.string w33 A32 y126.length y126 from by rw [Ny126.out, KA32.out]; exact Kd.C_drop (m := (x9_3 : Int).toNat) (c := co28) ((Kd.R_reads' (Kd.R_after (ok := (fun _ => True)) (by (with_reducible repeat (first | apply Kd.R_alloc | apply Kd.R_drewN | apply Kd.R_drew)); exact HO_6.out) hg hat)).2.2) KL32.out ((Kd.R_reads' (Kd.R_after (ok := (fun _ => True)) (by (with_reducible repeat (first | apply Kd.R_alloc | apply Kd.R_drewN | apply Kd.R_drew)); exact HO_6.out) hg hat)).2.1))); have n4_ := Aside0.mk (ho); clear HO_6; clear HB; clear HR118; clear HR129; clear HO125; have HO_6 := n0_; have HB := n1_; have HR118 := n2_; have HR129 := n3_; have HO132 := n4_; clear n0_ n1_ n2_ n3_ n4_; clear ho hb hg hat))
                       repeat (go_quiet (first | ((with_reducible refine gate_builtin (b := .append) (xs := #[.tmp 69, .tmp 72]) rfl ?_); at_builtin; refine Kd.R_append_rows Kd.string (w0 := w) w.heap.size rfl (.tmp 69) (.tmp 72) 23 9 (.string ⟨#[]⟩) 16 rfl Try.underlying23 info9 rfl (by decide) (by omega) (.slice none 0 0) ([] : List ByteArray) y115 _ _ _ (fun k_ => some k_ ≠ (.slice (some ad111) x6_2.length co28 : Value).ownBlock) (fun _ => False) rfl rfl ?aO ?aR (fun _ _ h => h) (fun _ h => h.elim) ?aF ?aB ?aS ?aL ?_; (case aR => repeat (first | exact (by repeat (first | (with_reducible exact HR118.out) | (with_reducible refine Kd.C_alloc ?_ _) | (with_reducible refine Kd.C_drewN ?_ _) | (with_reducible refine Kd.C_drew ?_) | exact HR118.out)) | (with_reducible refine Kd.C_alloc ?_ _) | (with_reducible refine Kd.C_drewN ?_ _) | (with_reducible refine Kd.C_drew ?_))); (case aB => exact (by repeat (first | (with_reducible first | exact HB.out | apply below_alloc | apply pw_below_drewN | apply below_drew1) | exact HB.out))); (case aF => exact (fun k_ hk => Kd.fresh' (Kd.R_lt (by (with_reducible repeat (first | apply Kd.R_alloc | apply Kd.R_drewN | apply Kd.R_drew)); exact HO_6.out)) k_ hk)); (case aO => exact ((Kd.R_nil _ _ _ _ (fun k_ => some k_ ≠ (.slice (some ad111) x6_2.length co28 : Value).ownBlock)))); (case aS => exact (below_size (by repeat (first | (with_reducible first | exact HB.out | apply below_alloc | apply pw_below_drewN | apply below_drew1) | exact HB.out)))); (case aL => have := LMc23.out; omega); intro v120 w30 ho hb hg hat; rw [← Ny119.out] at ho; have n0_ := Aside0.mk (Kd.R_after (Kd.R_apart_nil (by (with_reducible repeat (first | apply Kd.R_alloc | apply Kd.R_drewN | apply Kd.R_drew)); exact HO_6.out)) hg hat); have n1_ := Aside0.mk (hb); have n2_ := Aside0.mk ((show Kd.C Kd.string w30 (some ad111) y115.length y115 from by rw [Ny115.out]; exact Kd.C_take (m := (x9_3 : Int).toNat) ((Kd.R_reads' (Kd.R_after (Kd.R_apart_nil (by (with_reducible repeat (first | apply Kd.R_alloc | apply Kd.R_drewN | apply Kd.R_drew)); exact HO_6.out)) hg hat)).2.2) KL29.out)); have n3_ := Aside0.mk (ho); clear HO_6; clear HB; clear HR118; have HO_6 := n0_; have HB := n1_; have HR118 := n2_; have HO121 := n3_; clear n0_ n1_ n2_ n3_; clear ho hb hg hat; have p122 : 0 ≤ (x8_2 : Int) := of_decide_eq_true (by first | (with_reducible assumption) | assumption); have q122 : x8_2 < (l1.length : Int) := of_decide_eq_true (by first | (with_reducible assumption) | assumption); obtain ⟨ad122, e122, hx122_0⟩ := Kd.at_string HR1.out x8_2 p122 q122; obtain rfl : ad109 = ad122 := (by injection e122); replace hx122_0 := (HB.out.cell (World.block_lt_of_cell? w _ hx122_0)).trans hx122_0; replace p122 := eq_true p122; replace q122 := eq_true q122) | ((with_reducible refine gate_builtin (b := .append) (xs := #[.tmp 74, .tmp 79]) rfl ?_); at_builtin; refine Kd.R_append Kd.string (w0 := w) w.heap.size rfl (.tmp 74) (.tmp 79) 23 9 (.string ⟨#[]⟩) 16 rfl Try.underlying23 info9 rfl (by decide) (by omega) v120 y119 (rdOf ByteArray.empty l1 x8_2) [.string (rdOf ByteArray.empty l1 x8_2)] (fun k_ => some k_ ≠ (.slice (some ad111) x6_2.length co28 : Value).ownBlock) (fun _ => False) rfl rfl ?aP (fun _ hk => hk.elim) ?aF ?aO ?aB ?aS ?aL ?_; (case aP => exact rfl); (case aB => exact (by repeat (first | (with_reducible first | exact HB.out | apply below_alloc | apply pw_below_drewN | apply below_drew1) | exact HB.out))); (case aF => exact (fun k_ hk => Kd.fresh' (Kd.R_lt (by (with_reducible repeat (first | apply Kd.R_alloc | apply Kd.R_drewN | apply Kd.R_drew)); exact HO_6.out)) k_ hk)); (case aO => exact (by (with_reducible repeat (first | apply Kd.R_alloc | apply Kd.R_drewN | apply Kd.R_drew)); exact HO121.out)); (case aS => exact (below_size (by repeat (first | (with_reducible first | exact HB.out | apply below_alloc | apply pw_below_drewN | apply below_drew1) | exact HB.out)))); (case aL => have := LMc24.out; omega); intro v124 w31 ho hb hg hat; rw [← Ny123.out] at ho; have n0_ := Aside0.mk (Kd.R_after (ok := (fun _ => True)) (by (with_reducible repeat (first | apply Kd.R_alloc | apply Kd.R_drewN | apply Kd.R_drew)); exact HO_6.out) hg hat); have n1_ := Aside0.mk (hb); have n2_ := Aside0.mk ((show Kd.C Kd.string w31 (some ad111) y115.length y115 from by rw [Ny115.out]; exact Kd.C_take (m := (x9_3 : Int).toNat) ((Kd.R_reads' (Kd.R_after (ok := (fun _ => True)) (by (with_reducible repeat (first | apply Kd.R_alloc | apply Kd.R_drewN | apply Kd.R_drew)); exact HO_6.out) hg hat)).2.2) KL29.out)); have n3_ := Aside0.mk (ho); clear HO_6; clear HB; clear HR118; clear HO121; have HO_6 := n0_; have HB := n1_; have HR118 := n2_; have HO125 := n3_; clear n0_ n1_ n2_ n3_; clear ho hb hg hat; have q32 : (x9_3 : Int) ≤ ((x6_2.length : Int) : Int) := of_decide_eq_true (by first | (with_reducible assumption) | assumption); obtain ⟨i032, hi032, _, hsz32, _⟩ := info_parts info9; have hroom32 : x6_2.length ≤ co28 := (Kd.R_reads' HO_6.out).2.1; have hC32 : Kd.C Kd.string _ (some ad111) x6_2.length x6_2 := (Kd.R_reads' HO_6.out).2.2; have q032 : (0 : Int) ≤ (x9_3 : Int) := of_decide_eq_true (by first | (with_reducible assumption) | assumption); have hcut32 := cut_from (P := Try.prog) 23 9 .i64 Try.underlying23 hi032 1 hsz32 (some ad111) x6_2.length co28 x9_3 q032 q32; have hr32 := Kd.C_drop (m := (x9_3 : Int).toNat) (c := co28) hC32 (by omega) hroom32; obtain ⟨A32, hA32⟩ : ∃ A1, A1 = (if co28 = (x9_3 : Int).toNat then (some ad111) else ((some ad111) : Option Addr).map (·.add ((x9_3 : Int).toNat * 1))) := ⟨_, rfl⟩; obtain ⟨c32, hc32⟩ : ∃ c1, c1 = co28 - (x9_3 : Int).toNat := ⟨_, rfl⟩; have hy32 : y126.length = x6_2.length - (x9_3 : Int).toNat := (by rw [Ny126.out, List.length_drop] <;> omega); rw [show (x6_2).drop (x9_3 : Int).toNat = y126 from Ny126.out.symm] at hr32; replace hr32 : Kd.C Kd.string _ A32 y126.length y126 := (by rw [hA32]; exact hr32); rw [← hy32, ← hA32, ← hc32] at hcut32; have HR129 := Aside0.mk hr32; have HC129 := Aside0.mk (show y126.length ≤ c32 from by rw [hy32, hc32]; exact Nat.sub_le_sub_right hroom32 _); clear hr32 hC32 hroom32 hi032 hsz32 hc32; have KY32 := Aside0.mk hy32; have KA32 := Aside0.mk hA32; clear hy32 hA32; have KL32 := Aside0.mk (show (x9_3 : Int).toNat ≤ x6_2.length from by omega); replace q32 := eq_true q32) | ((with_reducible refine gate_builtin (b := .append) (xs := #[.tmp 81, .tmp 84]) rfl ?_); at_builtin; refine Kd.R_append_rows Kd.string (w0 := w) w.heap.size rfl (.tmp 81) (.tmp 84) 23 9 (.string ⟨#[]⟩) 16 rfl Try.underlying23 info9 rfl (by decide) (by omega) v124 y123 y126 _ _ _ (fun k_ => some k_ ≠ (.slice (some ad111) x6_2.length co28 : Value).ownBlock) (fun _ => False) rfl rfl ?aO ?aR (fun _ _ h => h) (fun _ h => h.elim) ?aF ?aB ?aS ?aL ?_; (case aR => repeat (first | exact (by repeat (first | (with_reducible exact HR129.out) | (with_reducible refine Kd.C_alloc ?_ _) | (with_reducible refine Kd.C_drewN ?_ _) | (with_reducible refine Kd.C_drew ?_) | exact HR129.out)) | (with_reducible refine Kd.C_alloc ?_ _) | (with_reducible refine Kd.C_drewN ?_ _) | (with_reducible refine Kd.C_drew ?_))); (case aB => exact (by repeat (first | (with_reducible first | exact HB.out | apply below_alloc | apply pw_below_drewN | apply below_drew1) | exact HB.out))); (case aF => exact (fun k_ hk => Kd.fresh' (Kd.R_lt (by (with_reducible repeat (first | apply Kd.R_alloc | apply Kd.R_drewN | apply Kd.R_drew)); exact HO_6.out)) k_ hk)); (case aO => exact (by (with_reducible repeat (first | apply Kd.R_alloc | apply Kd.R_drewN | apply Kd.R_drew)); exact HO125.out)); (case aS => exact (below_size (by repeat (first | (with_reducible first | exact HB.out | apply below_alloc | apply pw_below_drewN | apply below_drew1) | exact HB.out)))); (case aL => have := LMc27.out; omega); intro v131 w33 ho hb hg hat; rw [← Ny130.out] at ho; have n0_ := Aside0.mk (Kd.R_after (ok := (fun _ => True)) (by (with_reducible repeat (first | apply Kd.R_alloc | apply Kd.R_drewN | apply Kd.R_drew)); exact HO_6.out) hg hat); have n1_ := Aside0.mk (hb); have n2_ := Aside0.mk ((show Kd.C Kd.string w33 (some ad111) y115.length y115 from by rw [Ny115.out]; exact Kd.C_take (m := (x9_3 : Int).toNat) ((Kd.R_reads' (Kd.R_after (ok := (fun _ => True)) (by (with_reducible repeat (first | apply Kd.R_alloc | apply Kd.R_drewN | apply Kd.R_drew)); exact HO_6.out) hg hat)).2.2) KL29.out)); have n3_ := Aside0.mk ((show Kd.C Kd.string w33 A32 y126.length y126 from by rw [Ny126.out, KA32.out]; exact Kd.C_drop (m := (x9_3 : Int).toNat) (c := co28) ((Kd.R_reads' (Kd.R_after (ok := (fun _ => True)) (by (with_reducible repeat (first | apply Kd.R_alloc | apply Kd.R_drewN | apply Kd.R_drew)); exact HO_6.out) hg hat)).2.2) KL32.out ((Kd.R_reads' (Kd.R_after (ok := (fun _ => True)) (by (with_reducible repeat (first | apply Kd.R_alloc | apply Kd.R_drewN | apply Kd.R_drew)); exact HO_6.out) hg hat)).2.1))); have n4_ := Aside0.mk (ho); clear HO_6; clear HB; clear HR118; clear HR129; clear HO125; have HO_6 := n0_; have HB := n1_; have HR118 := n2_; have HR129 := n3_; have HO132 := n4_; clear n0_ n1_ n2_ n3_ n4_; clear ho hb hg hat)); try go_wp2_with (first | ((with_reducible refine gate_builtin (b := .append) (xs := #[.tmp 69, .tmp 72]) rfl ?_); at_builtin; refine Kd.R_append_rows Kd.string (w0 := w) w.heap.size rfl (.tmp 69) (.tmp 72) 23 9 (.string ⟨#[]⟩) 16 rfl Try.underlying23 info9 rfl (by decide) (by omega) (.slice none 0 0) ([] : List ByteArray) y115 _ _ _ (fun k_ => some k_ ≠ (.slice (some ad111) x6_2.length co28 : Value).ownBlock) (fun _ => False) rfl rfl ?aO ?aR (fun _ _ h => h) (fun _ h => h.elim) ?aF ?aB ?aS ?aL ?_; (case aR => repeat (first | exact (by repeat (first | (with_reducible exact HR118.out) | (with_reducible refine Kd.C_alloc ?_ _) | (with_reducible refine Kd.C_drewN ?_ _) | (with_reducible refine Kd.C_drew ?_) | exact HR118.out)) | (with_reducible refine Kd.C_alloc ?_ _) | (with_reducible refine Kd.C_drewN ?_ _) | (with_reducible refine Kd.C_drew ?_))); (case aB => exact (by repeat (first | (with_reducible first | exact HB.out | apply below_alloc | apply pw_below_drewN | apply below_drew1) | exact HB.out))); (case aF => exact (fun k_ hk => Kd.fresh' (Kd.R_lt (by (with_reducible repeat (first | apply Kd.R_alloc | apply Kd.R_drewN | apply Kd.R_drew)); exact HO_6.out)) k_ hk)); (case aO => exact ((Kd.R_nil _ _ _ _ (fun k_ => some k_ ≠ (.slice (some ad111) x6_2.length co28 : Value).ownBlock)))); (case aS => exact (below_size (by repeat (first | (with_reducible first | exact HB.out | apply below_alloc | apply pw_below_drewN | apply below_drew1) | exact HB.out)))); (case aL => have := LMc23.out; omega); intro v120 w30 ho hb hg hat; rw [← Ny119.out] at ho; have n0_ := Aside0.mk (Kd.R_after (Kd.R_apart_nil (by (with_reducible repeat (first | apply Kd.R_alloc | apply Kd.R_drewN | apply Kd.R_drew)); exact HO_6.out)) hg hat); have n1_ := Aside0.mk (hb); have n2_ := Aside0.mk ((show Kd.C Kd.string w30 (some ad111) y115.length y115 from by rw [Ny115.out]; exact Kd.C_take (m := (x9_3 : Int).toNat) ((Kd.R_reads' (Kd.R_after (Kd.R_apart_nil (by (with_reducible repeat (first | apply Kd.R_alloc | apply Kd.R_drewN | apply Kd.R_drew)); exact HO_6.out)) hg hat)).2.2) KL29.out)); have n3_ := Aside0.mk (ho); clear HO_6; clear HB; clear HR118; have HO_6 := n0_; have HB := n1_; have HR118 := n2_; have HO121 := n3_; clear n0_ n1_ n2_ n3_; clear ho hb hg hat; have p122 : 0 ≤ (x8_2 : Int) := of_decide_eq_true (by first | (with_reducible assumption) | assumption); have q122 : x8_2 < (l1.length : Int) := of_decide_eq_true (by first | (with_reducible assumption) | assumption); obtain ⟨ad122, e122, hx122_0⟩ := Kd.at_string HR1.out x8_2 p122 q122; obtain rfl : ad109 = ad122 := (by injection e122); replace hx122_0 := (HB.out.cell (World.block_lt_of_cell? w _ hx122_0)).trans hx122_0; replace p122 := eq_true p122; replace q122 := eq_true q122) | ((with_reducible refine gate_builtin (b := .append) (xs := #[.tmp 74, .tmp 79]) rfl ?_); at_builtin; refine Kd.R_append Kd.string (w0 := w) w.heap.size rfl (.tmp 74) (.tmp 79) 23 9 (.string ⟨#[]⟩) 16 rfl Try.underlying23 info9 rfl (by decide) (by omega) v120 y119 (rdOf ByteArray.empty l1 x8_2) [.string (rdOf ByteArray.empty l1 x8_2)] (fun k_ => some k_ ≠ (.slice (some ad111) x6_2.length co28 : Value).ownBlock) (fun _ => False) rfl rfl ?aP (fun _ hk => hk.elim) ?aF ?aO ?aB ?aS ?aL ?_; (case aP => exact rfl); (case aB => exact (by repeat (first | (with_reducible first | exact HB.out | apply below_alloc | apply pw_below_drewN | apply below_drew1) | exact HB.out))); (case aF => exact (fun k_ hk => Kd.fresh' (Kd.R_lt (by (with_reducible repeat (first | apply Kd.R_alloc | apply Kd.R_drewN | apply Kd.R_drew)); exact HO_6.out)) k_ hk)); (case aO => exact (by (with_reducible repeat (first | apply Kd.R_alloc | apply Kd.R_drewN | apply Kd.R_drew)); exact HO121.out)); (case aS => exact (below_size (by repeat (first | (with_reducible first | exact HB.out | apply below_alloc | apply pw_below_drewN | apply below_drew1) | exact HB.out)))); (case aL => have := LMc24.out; omega); intro v124 w31 ho hb hg hat; rw [← Ny123.out] at ho; have n0_ := Aside0.mk (Kd.R_after (ok := (fun _ => True)) (by (with_reducible repeat (first | apply Kd.R_alloc | apply Kd.R_drewN | apply Kd.R_drew)); exact HO_6.out) hg hat); have n1_ := Aside0.mk (hb); have n2_ := Aside0.mk ((show Kd.C Kd.string w31 (some ad111) y115.length y115 from by rw [Ny115.out]; exact Kd.C_take (m := (x9_3 : Int).toNat) ((Kd.R_reads' (Kd.R_after (ok := (fun _ => True)) (by (with_reducible repeat (first | apply Kd.R_alloc | apply Kd.R_drewN | apply Kd.R_drew)); exact HO_6.out) hg hat)).2.2) KL29.out)); have n3_ := Aside0.mk (ho); clear HO_6; clear HB; clear HR118; clear HO121; have HO_6 := n0_; have HB := n1_; have HR118 := n2_; have HO125 := n3_; clear n0_ n1_ n2_ n3_; clear ho hb hg hat; have q32 : (x9_3 : Int) ≤ ((x6_2.length : Int) : Int) := of_decide_eq_true (by first | (with_reducible assumption) | assumption); obtain ⟨i032, hi032, _, hsz32, _⟩ := info_parts info9; have hroom32 : x6_2.length ≤ co28 := (Kd.R_reads' HO_6.out).2.1; have hC32 : Kd.C Kd.string _ (some ad111) x6_2.length x6_2 := (Kd.R_reads' HO_6.out).2.2; have q032 : (0 : Int) ≤ (x9_3 : Int) := of_decide_eq_true (by first | (with_reducible assumption) | assumption); have hcut32 := cut_from (P := Try.prog) 23 9 .i64 Try.underlying23 hi032 1 hsz32 (some ad111) x6_2.length co28 x9_3 q032 q32; have hr32 := Kd.C_drop (m := (x9_3 : Int).toNat) (c := co28) hC32 (by omega) hroom32; obtain ⟨A32, hA32⟩ : ∃ A1, A1 = (if co28 = (x9_3 : Int).toNat then (some ad111) else ((some ad111) : Option Addr).map (·.add ((x9_3 : Int).toNat * 1))) := ⟨_, rfl⟩; obtain ⟨c32, hc32⟩ : ∃ c1, c1 = co28 - (x9_3 : Int).toNat := ⟨_, rfl⟩; have hy32 : y126.length = x6_2.length - (x9_3 : Int).toNat := (by rw [Ny126.out, List.length_drop] <;> omega); rw [show (x6_2).drop (x9_3 : Int).toNat = y126 from Ny126.out.symm] at hr32; replace hr32 : Kd.C Kd.string _ A32 y126.length y126 := (by rw [hA32]; exact hr32); rw [← hy32, ← hA32, ← hc32] at hcut32; have HR129 := Aside0.mk hr32; have HC129 := Aside0.mk (show y126.length ≤ c32 from by rw [hy32, hc32]; exact Nat.sub_le_sub_right hroom32 _); clear hr32 hC32 hroom32 hi032 hsz32 hc32; have KY32 := Aside0.mk hy32; have KA32 := Aside0.mk hA32; clear hy32 hA32; have KL32 := Aside0.mk (show (x9_3 : Int).toNat ≤ x6_2.length from by omega); replace q32 := eq_true q32) | ((with_reducible refine gate_builtin (b := .append) (xs := #[.tmp 81, .tmp 84]) rfl ?_); at_builtin; refine Kd.R_append_rows Kd.string (w0 := w) w.heap.size rfl (.tmp 81) (.tmp 84) 23 9 (.string ⟨#[]⟩) 16 rfl Try.underlying23 info9 rfl (by decide) (by omega) v124 y123 y126 _ _ _ (fun k_ => some k_ ≠ (.slice (some ad111) x6_2.length co28 : Value).ownBlock) (fun _ => False) rfl rfl ?aO ?aR (fun _ _ h => h) (fun _ h => h.elim) ?aF ?aB ?aS ?aL ?_; (case aR => repeat (first | exact (by repeat (first | (with_reducible exact HR129.out) | (with_reducible refine Kd.C_alloc ?_ _) | (with_reducible refine Kd.C_drewN ?_ _) | (with_reducible refine Kd.C_drew ?_) | exact HR129.out)) | (with_reducible refine Kd.C_alloc ?_ _) | (with_reducible refine Kd.C_drewN ?_ _) | (with_reducible refine Kd.C_drew ?_))); (case aB => exact (by repeat (first | (with_reducible first | exact HB.out | apply below_alloc | apply pw_below_drewN | apply below_drew1) | exact HB.out))); (case aF => exact (fun k_ hk => Kd.fresh' (Kd.R_lt (by (with_reducible repeat (first | apply Kd.R_alloc | apply Kd.R_drewN | apply Kd.R_drew)); exact HO_6.out)) k_ hk)); (case aO => exact (by (with_reducible repeat (first | apply Kd.R_alloc | apply Kd.R_drewN | apply Kd.R_drew)); exact HO125.out)); (case aS => exact (below_size (by repeat (first | (with_reducible first | exact HB.out | apply below_alloc | apply pw_below_drewN | apply below_drew1) | exact HB.out)))); (case aL => have := LMc27.out; omega); intro v131 w33 ho hb hg hat; rw [← Ny130.out] at ho; have n0_ := Aside0.mk (Kd.R_after (ok := (fun _ => True)) (by (with_reducible repeat (first | apply Kd.R_alloc | apply Kd.R_drewN | apply Kd.R_drew)); exact HO_6.out) hg hat); have n1_ := Aside0.mk (hb); have n2_ := Aside0.mk ((show Kd.C Kd.string w33 (some ad111) y115.length y115 from by rw [Ny115.out]; exact Kd.C_take (m := (x9_3 : Int).toNat) ((Kd.R_reads' (Kd.R_after (ok := (fun _ => True)) (by (with_reducible repeat (first | apply Kd.R_alloc | apply Kd.R_drewN | apply Kd.R_drew)); exact HO_6.out) hg hat)).2.2) KL29.out)); have n3_ := Aside0.mk ((show Kd.C Kd.string w33 A32 y126.length y126 from by rw [Ny126.out, KA32.out]; exact Kd.C_drop (m := (x9_3 : Int).toNat) (c := co28) ((Kd.R_reads' (Kd.R_after (ok := (fun _ => True)) (by (with_reducible repeat (first | apply Kd.R_alloc | apply Kd.R_drewN | apply Kd.R_drew)); exact HO_6.out) hg hat)).2.2) KL32.out ((Kd.R_reads' (Kd.R_after (ok := (fun _ => True)) (by (with_reducible repeat (first | apply Kd.R_alloc | apply Kd.R_drewN | apply Kd.R_drew)); exact HO_6.out) hg hat)).2.1))); have n4_ := Aside0.mk (ho); clear HO_6; clear HB; clear HR118; clear HR129; clear HO125; have HO_6 := n0_; have HB := n1_; have HR118 := n2_; have HR129 := n3_; have HO132 := n4_; clear n0_ n1_ n2_ n3_ n4_; clear ho hb hg hat)))
                       go_roundg k3
                       case measure => have := HK1.out; have := HK2.out; have := HK3.out; omega
                       case rel => exact ⟨(y130), (wrap64 (x8_2 + 1)), (by first | rfl | (simp; done) | exact congrArg Value.bool (Go.Proofs.YtkmnjekbacdfoaaX.isEmpty_ne_ _) | exact congrArg Value.bool (Go.Proofs.YtkmnjekbacdfoaaX.ne_isEmpty_ _) | (simp [*]; done)), H', ⟨by have := HK1.out; have := HK2.out; have := HK3.out; omega⟩, ⟨by (with_reducible repeat (first | apply Kd.R_alloc | apply Kd.R_drewN | apply Kd.R_drew)); exact Kd.R_mono HO132.out (fun _ hk => trivial)⟩, ⟨by repeat (first | (with_reducible first | exact HB.out | apply below_alloc | apply pw_below_drewN | apply below_drew1) | exact HB.out)⟩⟩
                      ·rw [if_neg c27] at H
                       exact absurd H (by simp)
                     ·rw [if_neg c24] at H
                      exact absurd H (by simp)
                    ·rw [if_neg c23] at H
                     exact absurd H (by simp)
                   ·rw [if_neg c22] at H
                    exact absurd H (by simp)
                ·rw [if_neg c16] at H
                 exact absurd H (by simp)
               ·rw [if_neg c15] at H
                exact absurd H (by simp)
              ·rw [if_neg c14] at H
               exact absurd H (by simp)
             ·rw [if_neg c13] at H
              have c13b0 : decide (x9_3 < (x6_2.length : Int)) = false := decide_eq_false c13
              clear c13
              by_cases c34 : 0 ≤ x9_3
              ·rw [if_pos c34] at H
               have c34b0 := eq_true c34
               have c34b1 : decide (0 ≤ x9_3) = true := decide_eq_true c34
               clear c34
               by_cases c35 : x9_3 ≤ (x6_2.length : Int)
               ·rw [if_pos c35] at H
                have c35b0 := eq_true c35
                have c35b1 : decide (x9_3 ≤ (x6_2.length : Int)) = true := decide_eq_true c35
                clear c35
                obtain ⟨y133, hy133⟩ : ∃ y_ : List ByteArray, y_ = (x6_2.take (x9_3 : Int).toNat) := ⟨_, rfl⟩
                replace H : (if ([] : List ByteArray).length + y133.length < 8796093022208 then ((some (([] : List ByteArray) ++ y133 : List ByteArray)).bind fun y137 => (if 0 ≤ x8_2 then (if x8_2 < (l1.length : Int) then (if y137.length < 8796093022208 then ((some (y137 ++ [rdOf ByteArray.empty l1 x8_2] : List ByteArray)).bind fun y141 => ((some (x6_2.drop (x9_3 : Int).toNat : List ByteArray)).bind fun y144 => (if y141.length + y144.length < 8796093022208 then (chandleryref20_Find.l1 k3 l0 l1 (y141 ++ y144) (wrap64 (x8_2 + 1))) else (none)))) else (none)) else (none)) else (none))) else (none)) = some (r1, r2) := by first | (rw [hy133]; with_reducible exact H) | (have H2_ := (Option.bind_some _ _).symm.trans H; rw [hy133]; with_reducible exact H2_) | (have H2_ := (Option.bind_some _ _).symm.trans H; with_reducible exact H2_) | with_reducible exact H | (rw [hy133]; exact H) | exact H
                have Ny133 := Aside0.mk hy133
                clear hy133
                by_cases c36 : ([] : List ByteArray).length + y133.length < 8796093022208
                ·rw [if_pos c36] at H
                 have LMc36 := Aside0.mk c36
                 clear c36
                 obtain ⟨y137, hy137⟩ : ∃ y_ : List ByteArray, y_ = (([] : List ByteArray) ++ y133) := ⟨_, rfl⟩
                 replace H : (if 0 ≤ x8_2 then (if x8_2 < (l1.length : Int) then (if y137.length < 8796093022208 then ((some (y137 ++ [rdOf ByteArray.empty l1 x8_2] : List ByteArray)).bind fun y141 => ((some (x6_2.drop (x9_3 : Int).toNat : List ByteArray)).bind fun y144 => (if y141.length + y144.length < 8796093022208 then (chandleryref20_Find.l1 k3 l0 l1 (y141 ++ y144) (wrap64 (x8_2 + 1))) else (none)))) else (none)) else (none)) else (none)) = some (r1, r2) := by first | (rw [hy137]; with_reducible exact H) | (have H2_ := (Option.bind_some _ _).symm.trans H; rw [hy137]; with_reducible exact H2_) | (have H2_ := (Option.bind_some _ _).symm.trans H; with_reducible exact H2_) | with_reducible exact H | (rw [hy137]; exact H) | exact H
                 have Ny137 := Aside0.mk hy137
                 clear hy137
                 by_cases c37 : 0 ≤ x8_2
                 ·rw [if_pos c37] at H
                  have c37b0 : decide (0 ≤ x8_2) = true := decide_eq_true c37
                  clear c37
                  by_cases c38 : x8_2 < (l1.length : Int)
                  ·rw [if_pos c38] at H
                   have c38b0 : decide (x8_2 < (l1.length : Int)) = true := decide_eq_true c38
                   clear c38
                   by_cases c39 : y137.length < 8796093022208
                   ·rw [if_pos c39] at H
                    have LMc39 := Aside0.mk c39
                    clear c39
                    obtain ⟨y141, hy141⟩ : ∃ y_ : List ByteArray, y_ = (y137 ++ [rdOf ByteArray.empty l1 x8_2]) := ⟨_, rfl⟩
                    replace H : ((some (x6_2.drop (x9_3 : Int).toNat : List ByteArray)).bind fun y144 => (if y141.length + y144.length < 8796093022208 then (chandleryref20_Find.l1 k3 l0 l1 (y141 ++ y144) (wrap64 (x8_2 + 1))) else (none))) = some (r1, r2) := by first | (rw [hy141]; with_reducible exact H) | (have H2_ := (Option.bind_some _ _).symm.trans H; rw [hy141]; with_reducible exact H2_) | (have H2_ := (Option.bind_some _ _).symm.trans H; with_reducible exact H2_) | with_reducible exact H | (rw [hy141]; exact H) | exact H
                    have Ny141 := Aside0.mk hy141
                    clear hy141
                    have c40b0 := eq_true (of_decide_eq_true (by first | (with_reducible assumption) | assumption) : 0 ≤ x9_3)
                    have c41b0 := eq_true (of_decide_eq_true (by first | (with_reducible assumption) | assumption) : x9_3 ≤ (x6_2.length : Int))
                    obtain ⟨y144, hy144⟩ : ∃ y_ : List ByteArray, y_ = (x6_2.drop (x9_3 : Int).toNat) := ⟨_, rfl⟩
                    replace H : (if y141.length + y144.length < 8796093022208 then (chandleryref20_Find.l1 k3 l0 l1 (y141 ++ y144) (wrap64 (x8_2 + 1))) else (none)) = some (r1, r2) := by first | (rw [hy144]; with_reducible exact H) | (have H2_ := (Option.bind_some _ _).symm.trans H; rw [hy144]; with_reducible exact H2_) | (have H2_ := (Option.bind_some _ _).symm.trans H; with_reducible exact H2_) | with_reducible exact H | (rw [hy144]; exact H) | exact H
                    have Ny144 := Aside0.mk hy144
                    clear hy144
                    by_cases c42 : y141.length + y144.length < 8796093022208
                    ·rw [if_pos c42] at H
                     have LMc42 := Aside0.mk c42
                     clear c42
                     obtain ⟨y148, hy148⟩ : ∃ y_ : List ByteArray, y_ = (y141 ++ y144) := ⟨_, rfl⟩
                     replace H : (chandleryref20_Find.l1 k3 l0 l1 y148 (wrap64 (x8_2 + 1))) = some (r1, r2) := by first | (rw [hy148]; with_reducible exact H) | (have H2_ := (Option.bind_some _ _).symm.trans H; rw [hy148]; with_reducible exact H2_) | (have H2_ := (Option.bind_some _ _).symm.trans H; with_reducible exact H2_) | with_reducible exact H | (rw [hy148]; exact H) | exact H
                     have Ny148 := Aside0.mk hy148
                     clear hy148
                     have H' := Aside0.mk H
                     clear H
                     obtain ⟨Ao43, co43, eo43⟩ := Kd.R_slice HO_6.out
                     subst eo43
                     have q44 : (x9_3 : Int) ≤ ((x6_2.length : Int) : Int) := of_decide_eq_true (by first | (with_reducible assumption) | assumption)
                     obtain ⟨i044, hi044, _, hsz44, _⟩ := info_parts info9
                     have hroom44 : x6_2.length ≤ co43 := (Kd.R_reads' HO_6.out).2.1
                     have hC44 : Kd.C Kd.string _ Ao43 x6_2.length x6_2 := (Kd.R_reads' HO_6.out).2.2
                     have hcut44 := cut_to (P := Try.prog) 23 9 .i64 Try.underlying23 hi044 Ao43 x6_2.length co43 x9_3 (of_decide_eq_true (by first | (with_reducible assumption) | assumption)) q44 hroom44
                     have hr44 := Kd.C_take (m := (x9_3 : Int).toNat) hC44 (by omega)
                     have hy44 : y133.length = (x9_3 : Int).toNat := (by rw [Ny133.out, List.length_take]; omega)
                     rw [← Ny133.out] at hr44
                     rw [← hy44] at hcut44
                     have HR136 := Aside0.mk hr44
                     have HC136 := Aside0.mk (show y133.length ≤ co43 from by omega)
                     clear hr44 hC44 hroom44 hi044 hsz44
                     have KY44 := Aside0.mk hy44
                     clear hy44
                     have KL44 := Aside0.mk (show (x9_3 : Int).toNat ≤ x6_2.length from by omega)
                     replace q44 := eq_true q44
                     go_wp2_with (first | ((with_reducible refine gate_builtin (b := .append) (xs := #[.tmp 69, .tmp 72]) rfl ?_); at_builtin; refine Kd.R_append_rows Kd.string (w0 := w) w.heap.size rfl (.tmp 69) (.tmp 72) 23 9 (.string ⟨#[]⟩) 16 rfl Try.underlying23 info9 rfl (by decide) (by omega) (.slice none 0 0) ([] : List ByteArray) y133 _ _ _ (fun k_ => some k_ ≠ (.slice Ao43 x6_2.length co43 : Value).ownBlock) (fun _ => False) rfl rfl ?aO ?aR (fun _ _ h => h) (fun _ h => h.elim) ?aF ?aB ?aS ?aL ?_; (case aR => repeat (first | exact (by repeat (first | (with_reducible exact HR136.out) | (with_reducible refine Kd.C_alloc ?_ _) | (with_reducible refine Kd.C_drewN ?_ _) | (with_reducible refine Kd.C_drew ?_) | exact HR136.out)) | (with_reducible refine Kd.C_alloc ?_ _) | (with_reducible refine Kd.C_drewN ?_ _) | (with_reducible refine Kd.C_drew ?_))); (case aB => exact (by repeat (first | (with_reducible first | exact HB.out | apply below_alloc | apply pw_below_drewN | apply below_drew1) | exact HB.out))); (case aF => exact (fun k_ hk => Kd.fresh' (Kd.R_lt (by (with_reducible repeat (first | apply Kd.R_alloc | apply Kd.R_drewN | apply Kd.R_drew)); exact HO_6.out)) k_ hk)); (case aO => exact ((Kd.R_nil _ _ _ _ (fun k_ => some k_ ≠ (.slice Ao43 x6_2.length co43 : Value).ownBlock)))); (case aS => exact (below_size (by repeat (first | (with_reducible first | exact HB.out | apply below_alloc | apply pw_below_drewN | apply below_drew1) | exact HB.out)))); (case aL => have := LMc36.out; omega); intro v138 w45 ho hb hg hat; rw [← Ny137.out] at ho; have n0_ := Aside0.mk (Kd.R_after (Kd.R_apart_nil (by (with_reducible repeat (first | apply Kd.R_alloc | apply Kd.R_drewN | apply Kd.R_drew)); exact HO_6.out)) hg hat); have n1_ := Aside0.mk (hb); have n2_ := Aside0.mk ((show Kd.C Kd.string w45 Ao43 y133.length y133 from by rw [Ny133.out]; exact Kd.C_take (m := (x9_3 : Int).toNat) ((Kd.R_reads' (Kd.R_after (Kd.R_apart_nil (by (with_reducible repeat (first | apply Kd.R_alloc | apply Kd.R_drewN | apply Kd.R_drew)); exact HO_6.out)) hg hat)).2.2) KL44.out)); have n3_ := Aside0.mk (ho); clear HO_6; clear HB; clear HR136; have HO_6 := n0_; have HB := n1_; have HR136 := n2_; have HO139 := n3_; clear n0_ n1_ n2_ n3_; clear ho hb hg hat; have p140 : 0 ≤ (x8_2 : Int) := of_decide_eq_true (by first | (with_reducible assumption) | assumption); have q140 : x8_2 < (l1.length : Int) := of_decide_eq_true (by first | (with_reducible assumption) | assumption); obtain ⟨ad140, e140, hx140_0⟩ := Kd.at_string HR1.out x8_2 p140 q140; obtain rfl : ad109 = ad140 := (by injection e140); replace hx140_0 := (HB.out.cell (World.block_lt_of_cell? w _ hx140_0)).trans hx140_0; replace p140 := eq_true p140; replace q140 := eq_true q140) | ((with_reducible refine gate_builtin (b := .append) (xs := #[.tmp 74, .tmp 79]) rfl ?_); at_builtin; refine Kd.R_append Kd.string (w0 := w) w.heap.size rfl (.tmp 74) (.tmp 79) 23 9 (.string ⟨#[]⟩) 16 rfl Try.underlying23 info9 rfl (by decide) (by omega) v138 y137 (rdOf ByteArray.empty l1 x8_2) [.string (rdOf ByteArray.empty l1 x8_2)] (fun k_ => some k_ ≠ (.slice Ao43 x6_2.length co43 : Value).ownBlock) (fun _ => False) rfl rfl ?aP (fun _ hk => hk.elim) ?aF ?aO ?aB ?aS ?aL ?_; (case aP => exact rfl); (case aB => exact (by repeat (first | (with_reducible first | exact HB.out | apply below_alloc | apply pw_below_drewN | apply below_drew1) | exact HB.out))); (case aF => exact (fun k_ hk => Kd.fresh' (Kd.R_lt (by (with_reducible repeat (first | apply Kd.R_alloc | apply Kd.R_drewN | apply Kd.R_drew)); exact HO_6.out)) k_ hk)); (case aO => exact (by (with_reducible repeat (first | apply Kd.R_alloc | apply Kd.R_drewN | apply Kd.R_drew)); exact HO139.out)); (case aS => exact (below_size (by repeat (first | (with_reducible first | exact HB.out | apply below_alloc | apply pw_below_drewN | apply below_drew1) | exact HB.out)))); (case aL => have := LMc39.out; omega); intro v142 w46 ho hb hg hat; rw [← Ny141.out] at ho; have n0_ := Aside0.mk (Kd.R_after (ok := (fun _ => True)) (by (with_reducible repeat (first | apply Kd.R_alloc | apply Kd.R_drewN | apply Kd.R_drew)); exact HO_6.out) hg hat); have n1_ := Aside0.mk (hb); have n2_ := Aside0.mk ((show Kd.C Kd.string w46 Ao43 y133.length y133 from by rw [Ny133.out]; exact Kd.C_take (m := (x9_3 : Int).toNat) ((Kd.R_reads' (Kd.R_after (ok := (fun _ => True)) (by (with_reducible repeat (first | apply Kd.R_alloc | apply Kd.R_drewN | apply Kd.R_drew)); exact HO_6.out) hg hat)).2.2) KL44.out)); have n3_ := Aside0.mk (ho); clear HO_6; clear HB; clear HR136; clear HO139; have HO_6 := n0_; have HB := n1_; have HR136 := n2_; have HO143 := n3_; clear n0_ n1_ n2_ n3_; clear ho hb hg hat; have q47 : (x9_3 : Int) ≤ ((x6_2.length : Int) : Int) := of_decide_eq_true (by first | (with_reducible assumption) | assumption); obtain ⟨i047, hi047, _, hsz47, _⟩ := info_parts info9; have hroom47 : x6_2.length ≤ co43 := (Kd.R_reads' HO_6.out).2.1; have hC47 : Kd.C Kd.string _ Ao43 x6_2.length x6_2 := (Kd.R_reads' HO_6.out).2.2; have q047 : (0 : Int) ≤ (x9_3 : Int) := of_decide_eq_true (by first | (with_reducible assumption) | assumption); have hcut47 := cut_from (P := Try.prog) 23 9 .i64 Try.underlying23 hi047 1 hsz47 Ao43 x6_2.length co43 x9_3 q047 q47; have hr47 := Kd.C_drop (m := (x9_3 : Int).toNat) (c := co43) hC47 (by omega) hroom47; obtain ⟨A47, hA47⟩ : ∃ A1, A1 = (if co43 = (x9_3 : Int).toNat then Ao43 else (Ao43 : Option Addr).map (·.add ((x9_3 : Int).toNat * 1))) := ⟨_, rfl⟩; obtain ⟨c47, hc47⟩ : ∃ c1, c1 = co43 - (x9_3 : Int).toNat := ⟨_, rfl⟩; have hy47 : y144.length = x6_2.length - (x9_3 : Int).toNat := (by rw [Ny144.out, List.length_drop] <;> omega); rw [show (x6_2).drop (x9_3 : Int).toNat = y144 from Ny144.out.symm] at hr47; replace hr47 : Kd.C Kd.string _ A47 y144.length y144 := (by rw [hA47]; exact hr47); rw [← hy47, ← hA47, ← hc47] at hcut47; have HR147 := Aside0.mk hr47; have HC147 := Aside0.mk (show y144.length ≤ c47 from by rw [hy47, hc47]; exact Nat.sub_le_sub_right hroom47 _); clear hr47 hC47 hroom47 hi047 hsz47 hc47; have KY47 := Aside0.mk hy47; have KA47 := Aside0.mk hA47; clear hy47 hA47; have KL47 := Aside0.mk (show (x9_3 : Int).toNat ≤ x6_2.length from by omega); replace q47 := eq_true q47) | ((with_reducible refine gate_builtin (b := .append) (xs := #[.tmp 81, .tmp 84]) rfl ?_); at_builtin; refine Kd.R_append_rows Kd.string (w0 := w) w.heap.size rfl (.tmp 81) (.tmp 84) 23 9 (.string ⟨#[]⟩) 16 rfl Try.underlying23 info9 rfl (by decide) (by omega) v142 y141 y144 _ _ _ (fun k_ => some k_ ≠ (.slice Ao43 x6_2.length co43 : Value).ownBlock) (fun _ => False) rfl rfl ?aO ?aR (fun _ _ h => h) (fun _ h => h.elim) ?aF ?aB ?aS ?aL ?_; (case aR => repeat (first | exact (by repeat (first | (with_reducible exact HR147.out) | (with_reducible refine Kd.C_alloc ?_ _) | (with_reducible refine Kd.C_drewN ?_ _) | (with_reducible refine Kd.C_drew ?_) | exact HR147.out)) | (with_reducible refine Kd.C_alloc ?_ _) | (with_reducible refine Kd.C_drewN ?_ _) | (with_reducible refine Kd.C_drew ?_))); (case aB => exact (by repeat (first | (with_reducible first | exact HB.out | apply below_alloc | apply pw_below_drewN | apply below_drew1) | exact HB.out))); (case aF => exact (fun k_ hk => Kd.fresh' (Kd.R_lt (by (with_reducible repeat (first | apply Kd.R_alloc | apply Kd.R_drewN | apply Kd.R_drew)); exact HO_6.out)) k_ hk)); (case aO => exact (by (with_reducible repeat (first | apply Kd.R_alloc | apply Kd.R_drewN | apply Kd.R_drew)); exact HO143.out)); (case aS => exact (below_size (by repeat (first | (with_reducible first | exact HB.out | apply below_alloc | apply pw_below_drewN | apply below_drew1) | exact HB.out)))); (case aL => have := LMc42.out; omega); intro v149 w48 ho hb hg hat; rw [← Ny148.out] at ho; have n0_ := Aside0.mk (Kd.R_after (ok := (fun _ => True)) (by (with_reducible repeat (first | apply Kd.R_alloc | apply Kd.R_drewN | apply Kd.R_drew)); exact HO_6.out) hg hat); have n1_ := Aside0.mk (hb); have n2_ := Aside0.mk ((show Kd.C Kd.string w48 Ao43 y133.length y133 from by rw [Ny133.out]; exact Kd.C_take (m := (x9_3 : Int).toNat) ((Kd.R_reads' (Kd.R_after (ok := (fun _ => True)) (by (with_reducible repeat (first | apply Kd.R_alloc | apply Kd.R_drewN | apply Kd.R_drew)); exact HO_6.out) hg hat)).2.2) KL44.out)); have n3_ := Aside0.mk ((show Kd.C Kd.string w48 A47 y144.length y144 from by rw [Ny144.out, KA47.out]; exact Kd.C_drop (m := (x9_3 : Int).toNat) (c := co43) ((Kd.R_reads' (Kd.R_after (ok := (fun _ => True)) (by (with_reducible repeat (first | apply Kd.R_alloc | apply Kd.R_drewN | apply Kd.R_drew)); exact HO_6.out) hg hat)).2.2) KL47.out ((Kd.R_reads' (Kd.R_after (ok := (fun _ => True)) (by (with_reducible repeat (first | apply Kd.R_alloc | apply Kd.R_drewN | apply Kd.R_drew)); exact HO_6.out) hg hat)).2.1))); have n4_ := Aside0.mk (ho); clear HO_6; clear HB; clear HR136; clear HR147; clear HO143; have HO_6 := n0_; have HB := n1_; have HR136 := n2_; have HR147 := n3_; have HO150 := n4_; clear n0_ n1_ n2_ n3_ n4_; clear ho hb hg hat))
                     repeat (go_quiet (first | ((with_reducible refine gate_builtin (b := .append) (xs := #[.tmp 69, .tmp 72]) rfl ?_); at_builtin; refine Kd.R_append_rows Kd.string (w0 := w) w.heap.size rfl (.tmp 69) (.tmp 72) 23 9 (.string ⟨#[]⟩) 16 rfl Try.underlying23 info9 rfl (by decide) (by omega) (.slice none 0 0) ([] : List ByteArray) y133 _ _ _ (fun k_ => some k_ ≠ (.slice Ao43 x6_2.length co43 : Value).ownBlock) (fun _ => False) rfl rfl ?aO ?aR (fun _ _ h => h) (fun _ h => h.elim) ?aF ?aB ?aS ?aL ?_; (case aR => repeat (first | exact (by repeat (first | (with_reducible exact HR136.out) | (with_reducible refine Kd.C_alloc ?_ _) | (with_reducible refine Kd.C_drewN ?_ _) | (with_reducible refine Kd.C_drew ?_) | exact HR136.out)) | (with_reducible refine Kd.C_alloc ?_ _) | (with_reducible refine Kd.C_drewN ?_ _) | (with_reducible refine Kd.C_drew ?_))); (case aB => exact (by repeat (first | (with_reducible first | exact HB.out | apply below_alloc | apply pw_below_drewN | apply below_drew1) | exact HB.out))); (case aF => exact (fun k_ hk => Kd.fresh' (Kd.R_lt (by (with_reducible repeat (first | apply Kd.R_alloc | apply Kd.R_drewN | apply Kd.R_drew)); exact HO_6.out)) k_ hk)); (case aO => exact ((Kd.R_nil _ _ _ _ (fun k_ => some k_ ≠ (.slice Ao43 x6_2.length co43 : Value).ownBlock)))); (case aS => exact (below_size (by repeat (first | (with_reducible first | exact HB.out | apply below_alloc | apply pw_below_drewN | apply below_drew1) | exact HB.out)))); (case aL => have := LMc36.out; omega); intro v138 w45 ho hb hg hat; rw [← Ny137.out] at ho; have n0_ := Aside0.mk (Kd.R_after (Kd.R_apart_nil (by (with_reducible repeat (first | apply Kd.R_alloc | apply Kd.R_drewN | apply Kd.R_drew)); exact HO_6.out)) hg hat); have n1_ := Aside0.mk (hb); have n2_ := Aside0.mk ((show Kd.C Kd.string w45 Ao43 y133.length y133 from by rw [Ny133.out]; exact Kd.C_take (m := (x9_3 : Int).toNat) ((Kd.R_reads' (Kd.R_after (Kd.R_apart_nil (by (with_reducible repeat (first | apply Kd.R_alloc | apply Kd.R_drewN | apply Kd.R_drew)); exact HO_6.out)) hg hat)).2.2) KL44.out)); have n3_ := Aside0.mk (ho); clear HO_6; clear HB; clear HR136; have HO_6 := n0_; have HB := n1_; have HR136 := n2_; have HO139 := n3_; clear n0_ n1_ n2_ n3_; clear ho hb hg hat; have p140 : 0 ≤ (x8_2 : Int) := of_decide_eq_true (by first | (with_reducible assumption) | assumption); have q140 : x8_2 < (l1.length : Int) := of_decide_eq_true (by first | (with_reducible assumption) | assumption); obtain ⟨ad140, e140, hx140_0⟩ := Kd.at_string HR1.out x8_2 p140 q140; obtain rfl : ad109 = ad140 := (by injection e140); replace hx140_0 := (HB.out.cell (World.block_lt_of_cell? w _ hx140_0)).trans hx140_0; replace p140 := eq_true p140; replace q140 := eq_true q140) | ((with_reducible refine gate_builtin (b := .append) (xs := #[.tmp 74, .tmp 79]) rfl ?_); at_builtin; refine Kd.R_append Kd.string (w0 := w) w.heap.size rfl (.tmp 74) (.tmp 79) 23 9 (.string ⟨#[]⟩) 16 rfl Try.underlying23 info9 rfl (by decide) (by omega) v138 y137 (rdOf ByteArray.empty l1 x8_2) [.string (rdOf ByteArray.empty l1 x8_2)] (fun k_ => some k_ ≠ (.slice Ao43 x6_2.length co43 : Value).ownBlock) (fun _ => False) rfl rfl ?aP (fun _ hk => hk.elim) ?aF ?aO ?aB ?aS ?aL ?_; (case aP => exact rfl); (case aB => exact (by repeat (first | (with_reducible first | exact HB.out | apply below_alloc | apply pw_below_drewN | apply below_drew1) | exact HB.out))); (case aF => exact (fun k_ hk => Kd.fresh' (Kd.R_lt (by (with_reducible repeat (first | apply Kd.R_alloc | apply Kd.R_drewN | apply Kd.R_drew)); exact HO_6.out)) k_ hk)); (case aO => exact (by (with_reducible repeat (first | apply Kd.R_alloc | apply Kd.R_drewN | apply Kd.R_drew)); exact HO139.out)); (case aS => exact (below_size (by repeat (first | (with_reducible first | exact HB.out | apply below_alloc | apply pw_below_drewN | apply below_drew1) | exact HB.out)))); (case aL => have := LMc39.out; omega); intro v142 w46 ho hb hg hat; rw [← Ny141.out] at ho; have n0_ := Aside0.mk (Kd.R_after (ok := (fun _ => True)) (by (with_reducible repeat (first | apply Kd.R_alloc | apply Kd.R_drewN | apply Kd.R_drew)); exact HO_6.out) hg hat); have n1_ := Aside0.mk (hb); have n2_ := Aside0.mk ((show Kd.C Kd.string w46 Ao43 y133.length y133 from by rw [Ny133.out]; exact Kd.C_take (m := (x9_3 : Int).toNat) ((Kd.R_reads' (Kd.R_after (ok := (fun _ => True)) (by (with_reducible repeat (first | apply Kd.R_alloc | apply Kd.R_drewN | apply Kd.R_drew)); exact HO_6.out) hg hat)).2.2) KL44.out)); have n3_ := Aside0.mk (ho); clear HO_6; clear HB; clear HR136; clear HO139; have HO_6 := n0_; have HB := n1_; have HR136 := n2_; have HO143 := n3_; clear n0_ n1_ n2_ n3_; clear ho hb hg hat; have q47 : (x9_3 : Int) ≤ ((x6_2.length : Int) : Int) := of_decide_eq_true (by first | (with_reducible assumption) | assumption); obtain ⟨i047, hi047, _, hsz47, _⟩ := info_parts info9; have hroom47 : x6_2.length ≤ co43 := (Kd.R_reads' HO_6.out).2.1; have hC47 : Kd.C Kd.string _ Ao43 x6_2.length x6_2 := (Kd.R_reads' HO_6.out).2.2; have q047 : (0 : Int) ≤ (x9_3 : Int) := of_decide_eq_true (by first | (with_reducible assumption) | assumption); have hcut47 := cut_from (P := Try.prog) 23 9 .i64 Try.underlying23 hi047 1 hsz47 Ao43 x6_2.length co43 x9_3 q047 q47; have hr47 := Kd.C_drop (m := (x9_3 : Int).toNat) (c := co43) hC47 (by omega) hroom47; obtain ⟨A47, hA47⟩ : ∃ A1, A1 = (if co43 = (x9_3 : Int).toNat then Ao43 else (Ao43 : Option Addr).map (·.add ((x9_3 : Int).toNat * 1))) := ⟨_, rfl⟩; obtain ⟨c47, hc47⟩ : ∃ c1, c1 = co43 - (x9_3 : Int).toNat := ⟨_, rfl⟩; have hy47 : y144.length = x6_2.length - (x9_3 : Int).toNat := (by rw [Ny144.out, List.length_drop] <;> omega); rw [show (x6_2).drop (x9_3 : Int).toNat = y144 from Ny144.out.symm] at hr47; replace hr47 : Kd.C Kd.string _ A47 y144.length y144 := (by rw [hA47]; exact hr47); rw [← hy47, ← hA47, ← hc47] at hcut47; have HR147 := Aside0.mk hr47; have HC147 := Aside0.mk (show y144.length ≤ c47 from by rw [hy47, hc47]; exact Nat.sub_le_sub_right hroom47 _); clear hr47 hC47 hroom47 hi047 hsz47 hc47; have KY47 := Aside0.mk hy47; have KA47 := Aside0.mk hA47; clear hy47 hA47; have KL47 := Aside0.mk (show (x9_3 : Int).toNat ≤ x6_2.length from by omega); replace q47 := eq_true q47) | ((with_reducible refine gate_builtin (b := .append) (xs := #[.tmp 81, .tmp 84]) rfl ?_); at_builtin; refine Kd.R_append_rows Kd.string (w0 := w) w.heap.size rfl (.tmp 81) (.tmp 84) 23 9 (.string ⟨#[]⟩) 16 rfl Try.underlying23 info9 rfl (by decide) (by omega) v142 y141 y144 _ _ _ (fun k_ => some k_ ≠ (.slice Ao43 x6_2.length co43 : Value).ownBlock) (fun _ => False) rfl rfl ?aO ?aR (fun _ _ h => h) (fun _ h => h.elim) ?aF ?aB ?aS ?aL ?_; (case aR => repeat (first | exact (by repeat (first | (with_reducible exact HR147.out) | (with_reducible refine Kd.C_alloc ?_ _) | (with_reducible refine Kd.C_drewN ?_ _) | (with_reducible refine Kd.C_drew ?_) | exact HR147.out)) | (with_reducible refine Kd.C_alloc ?_ _) | (with_reducible refine Kd.C_drewN ?_ _) | (with_reducible refine Kd.C_drew ?_))); (case aB => exact (by repeat (first | (with_reducible first | exact HB.out | apply below_alloc | apply pw_below_drewN | apply below_drew1) | exact HB.out))); (case aF => exact (fun k_ hk => Kd.fresh' (Kd.R_lt (by (with_reducible repeat (first | apply Kd.R_alloc | apply Kd.R_drewN | apply Kd.R_drew)); exact HO_6.out)) k_ hk)); (case aO => exact (by (with_reducible repeat (first | apply Kd.R_alloc | apply Kd.R_drewN | apply Kd.R_drew)); exact HO143.out)); (case aS => exact (below_size (by repeat (first | (with_reducible first | exact HB.out | apply below_alloc | apply pw_below_drewN | apply below_drew1) | exact HB.out)))); (case aL => have := LMc42.out; omega); intro v149 w48 ho hb hg hat; rw [← Ny148.out] at ho; have n0_ := Aside0.mk (Kd.R_after (ok := (fun _ => True)) (by (with_reducible repeat (first | apply Kd.R_alloc | apply Kd.R_drewN | apply Kd.R_drew)); exact HO_6.out) hg hat); have n1_ := Aside0.mk (hb); have n2_ := Aside0.mk ((show Kd.C Kd.string w48 Ao43 y133.length y133 from by rw [Ny133.out]; exact Kd.C_take (m := (x9_3 : Int).toNat) ((Kd.R_reads' (Kd.R_after (ok := (fun _ => True)) (by (with_reducible repeat (first | apply Kd.R_alloc | apply Kd.R_drewN | apply Kd.R_drew)); exact HO_6.out) hg hat)).2.2) KL44.out)); have n3_ := Aside0.mk ((show Kd.C Kd.string w48 A47 y144.length y144 from by rw [Ny144.out, KA47.out]; exact Kd.C_drop (m := (x9_3 : Int).toNat) (c := co43) ((Kd.R_reads' (Kd.R_after (ok := (fun _ => True)) (by (with_reducible repeat (first | apply Kd.R_alloc | apply Kd.R_drewN | apply Kd.R_drew)); exact HO_6.out) hg hat)).2.2) KL47.out ((Kd.R_reads' (Kd.R_after (ok := (fun _ => True)) (by (with_reducible repeat (first | apply Kd.R_alloc | apply Kd.R_drewN | apply Kd.R_drew)); exact HO_6.out) hg hat)).2.1))); have n4_ := Aside0.mk (ho); clear HO_6; clear HB; clear HR136; clear HR147; clear HO143; have HO_6 := n0_; have HB := n1_; have HR136 := n2_; have HR147 := n3_; have HO150 := n4_; clear n0_ n1_ n2_ n3_ n4_; clear ho hb hg hat)); try go_wp2_with (first | ((with_reducible refine gate_builtin (b := .append) (xs := #[.tmp 69, .tmp 72]) rfl ?_); at_builtin; refine Kd.R_append_rows Kd.string (w0 := w) w.heap.size rfl (.tmp 69) (.tmp 72) 23 9 (.string ⟨#[]⟩) 16 rfl Try.underlying23 info9 rfl (by decide) (by omega) (.slice none 0 0) ([] : List ByteArray) y133 _ _ _ (fun k_ => some k_ ≠ (.slice Ao43 x6_2.length co43 : Value).ownBlock) (fun _ => False) rfl rfl ?aO ?aR (fun _ _ h => h) (fun _ h => h.elim) ?aF ?aB ?aS ?aL ?_; (case aR => repeat (first | exact (by repeat (first | (with_reducible exact HR136.out) | (with_reducible refine Kd.C_alloc ?_ _) | (with_reducible refine Kd.C_drewN ?_ _) | (with_reducible refine Kd.C_drew ?_) | exact HR136.out)) | (with_reducible refine Kd.C_alloc ?_ _) | (with_reducible refine Kd.C_drewN ?_ _) | (with_reducible refine Kd.C_drew ?_))); (case aB => exact (by repeat (first | (with_reducible first | exact HB.out | apply below_alloc | apply pw_below_drewN | apply below_drew1) | exact HB.out))); (case aF => exact (fun k_ hk => Kd.fresh' (Kd.R_lt (by (with_reducible repeat (first | apply Kd.R_alloc | apply Kd.R_drewN | apply Kd.R_drew)); exact HO_6.out)) k_ hk)); (case aO => exact ((Kd.R_nil _ _ _ _ (fun k_ => some k_ ≠ (.slice Ao43 x6_2.length co43 : Value).ownBlock)))); (case aS => exact (below_size (by repeat (first | (with_reducible first | exact HB.out | apply below_alloc | apply pw_below_drewN | apply below_drew1) | exact HB.out)))); (case aL => have := LMc36.out; omega); intro v138 w45 ho hb hg hat; rw [← Ny137.out] at ho; have n0_ := Aside0.mk (Kd.R_after (Kd.R_apart_nil (by (with_reducible repeat (first | apply Kd.R_alloc | apply Kd.R_drewN | apply Kd.R_drew)); exact HO_6.out)) hg hat); have n1_ := Aside0.mk (hb); have n2_ := Aside0.mk ((show Kd.C Kd.string w45 Ao43 y133.length y133 from by rw [Ny133.out]; exact Kd.C_take (m := (x9_3 : Int).toNat) ((Kd.R_reads' (Kd.R_after (Kd.R_apart_nil (by (with_reducible repeat (first | apply Kd.R_alloc | apply Kd.R_drewN | apply Kd.R_drew)); exact HO_6.out)) hg hat)).2.2) KL44.out)); have n3_ := Aside0.mk (ho); clear HO_6; clear HB; clear HR136; have HO_6 := n0_; have HB := n1_; have HR136 := n2_; have HO139 := n3_; clear n0_ n1_ n2_ n3_; clear ho hb hg hat; have p140 : 0 ≤ (x8_2 : Int) := of_decide_eq_true (by first | (with_reducible assumption) | assumption); have q140 : x8_2 < (l1.length : Int) := of_decide_eq_true (by first | (with_reducible assumption) | assumption); obtain ⟨ad140, e140, hx140_0⟩ := Kd.at_string HR1.out x8_2 p140 q140; obtain rfl : ad109 = ad140 := (by injection e140); replace hx140_0 := (HB.out.cell (World.block_lt_of_cell? w _ hx140_0)).trans hx140_0; replace p140 := eq_true p140; replace q140 := eq_true q140) | ((with_reducible refine gate_builtin (b := .append) (xs := #[.tmp 74, .tmp 79]) rfl ?_); at_builtin; refine Kd.R_append Kd.string (w0 := w) w.heap.size rfl (.tmp 74) (.tmp 79) 23 9 (.string ⟨#[]⟩) 16 rfl Try.underlying23 info9 rfl (by decide) (by omega) v138 y137 (rdOf ByteArray.empty l1 x8_2) [.string (rdOf ByteArray.empty l1 x8_2)] (fun k_ => some k_ ≠ (.slice Ao43 x6_2.length co43 : Value).ownBlock) (fun _ => False) rfl rfl ?aP (fun _ hk => hk.elim) ?aF ?aO ?aB ?aS ?aL ?_; (case aP => exact rfl); (case aB => exact (by repeat (first | (with_reducible first | exact HB.out | apply below_alloc | apply pw_below_drewN | apply below_drew1) | exact HB.out))); (case aF => exact (fun k_ hk => Kd.fresh' (Kd.R_lt (by (with_reducible repeat (first | apply Kd.R_alloc | apply Kd.R_drewN | apply Kd.R_drew)); exact HO_6.out)) k_ hk)); (case aO => exact (by (with_reducible repeat (first | apply Kd.R_alloc | apply Kd.R_drewN | apply Kd.R_drew)); exact HO139.out)); (case aS => exact (below_size (by repeat (first | (with_reducible first | exact HB.out | apply below_alloc | apply pw_below_drewN | apply below_drew1) | exact HB.out)))); (case aL => have := LMc39.out; omega); intro v142 w46 ho hb hg hat; rw [← Ny141.out] at ho; have n0_ := Aside0.mk (Kd.R_after (ok := (fun _ => True)) (by (with_reducible repeat (first | apply Kd.R_alloc | apply Kd.R_drewN | apply Kd.R_drew)); exact HO_6.out) hg hat); have n1_ := Aside0.mk (hb); have n2_ := Aside0.mk ((show Kd.C Kd.string w46 Ao43 y133.length y133 from by rw [Ny133.out]; exact Kd.C_take (m := (x9_3 : Int).toNat) ((Kd.R_reads' (Kd.R_after (ok := (fun _ => True)) (by (with_reducible repeat (first | apply Kd.R_alloc | apply Kd.R_drewN | apply Kd.R_drew)); exact HO_6.out) hg hat)).2.2) KL44.out)); have n3_ := Aside0.mk (ho); clear HO_6; clear HB; clear HR136; clear HO139; have HO_6 := n0_; have HB := n1_; have HR136 := n2_; have HO143 := n3_; clear n0_ n1_ n2_ n3_; clear ho hb hg hat; have q47 : (x9_3 : Int) ≤ ((x6_2.length : Int) : Int) := of_decide_eq_true (by first | (with_reducible assumption) | assumption); obtain ⟨i047, hi047, _, hsz47, _⟩ := info_parts info9; have hroom47 : x6_2.length ≤ co43 := (Kd.R_reads' HO_6.out).2.1; have hC47 : Kd.C Kd.string _ Ao43 x6_2.length x6_2 := (Kd.R_reads' HO_6.out).2.2; have q047 : (0 : Int) ≤ (x9_3 : Int) := of_decide_eq_true (by first | (with_reducible assumption) | assumption); have hcut47 := cut_from (P := Try.prog) 23 9 .i64 Try.underlying23 hi047 1 hsz47 Ao43 x6_2.length co43 x9_3 q047 q47; have hr47 := Kd.C_drop (m := (x9_3 : Int).toNat) (c := co43) hC47 (by omega) hroom47; obtain ⟨A47, hA47⟩ : ∃ A1, A1 = (if co43 = (x9_3 : Int).toNat then Ao43 else (Ao43 : Option Addr).map (·.add ((x9_3 : Int).toNat * 1))) := ⟨_, rfl⟩; obtain ⟨c47, hc47⟩ : ∃ c1, c1 = co43 - (x9_3 : Int).toNat := ⟨_, rfl⟩; have hy47 : y144.length = x6_2.length - (x9_3 : Int).toNat := (by rw [Ny144.out, List.length_drop] <;> omega); rw [show (x6_2).drop (x9_3 : Int).toNat = y144 from Ny144.out.symm] at hr47; replace hr47 : Kd.C Kd.string _ A47 y144.length y144 := (by rw [hA47]; exact hr47); rw [← hy47, ← hA47, ← hc47] at hcut47; have HR147 := Aside0.mk hr47; have HC147 := Aside0.mk (show y144.length ≤ c47 from by rw [hy47, hc47]; exact Nat.sub_le_sub_right hroom47 _); clear hr47 hC47 hroom47 hi047 hsz47 hc47; have KY47 := Aside0.mk hy47; have KA47 := Aside0.mk hA47; clear hy47 hA47; have KL47 := Aside0.mk (show (x9_3 : Int).toNat ≤ x6_2.length from by omega); replace q47 := eq_true q47) | ((with_reducible refine gate_builtin (b := .append) (xs := #[.tmp 81, .tmp 84]) rfl ?_); at_builtin; refine Kd.R_append_rows Kd.string (w0 := w) w.heap.size rfl (.tmp 81) (.tmp 84) 23 9 (.string ⟨#[]⟩) 16 rfl Try.underlying23 info9 rfl (by decide) (by omega) v142 y141 y144 _ _ _ (fun k_ => some k_ ≠ (.slice Ao43 x6_2.length co43 : Value).ownBlock) (fun _ => False) rfl rfl ?aO ?aR (fun _ _ h => h) (fun _ h => h.elim) ?aF ?aB ?aS ?aL ?_; (case aR => repeat (first | exact (by repeat (first | (with_reducible exact HR147.out) | (with_reducible refine Kd.C_alloc ?_ _) | (with_reducible refine Kd.C_drewN ?_ _) | (with_reducible refine Kd.C_drew ?_) | exact HR147.out)) | (with_reducible refine Kd.C_alloc ?_ _) | (with_reducible refine Kd.C_drewN ?_ _) | (with_reducible refine Kd.C_drew ?_))); (case aB => exact (by repeat (first | (with_reducible first | exact HB.out | apply below_alloc | apply pw_below_drewN | apply below_drew1) | exact HB.out))); (case aF => exact (fun k_ hk => Kd.fresh' (Kd.R_lt (by (with_reducible repeat (first | apply Kd.R_alloc | apply Kd.R_drewN | apply Kd.R_drew)); exact HO_6.out)) k_ hk)); (case aO => exact (by (with_reducible repeat (first | apply Kd.R_alloc | apply Kd.R_drewN | apply Kd.R_drew)); exact HO143.out)); (case aS => exact (below_size (by repeat (first | (with_reducible first | exact HB.out | apply below_alloc | apply pw_below_drewN | apply below_drew1) | exact HB.out)))); (case aL => have := LMc42.out; omega); intro v149 w48 ho hb hg hat; rw [← Ny148.out] at ho; have n0_ := Aside0.mk (Kd.R_after (ok := (fun _ => True)) (by (with_reducible repeat (first | apply Kd.R_alloc | apply Kd.R_drewN | apply Kd.R_drew)); exact HO_6.out) hg hat); have n1_ := Aside0.mk (hb); have n2_ := Aside0.mk ((show Kd.C Kd.string w48 Ao43 y133.length y133 from by rw [Ny133.out]; exact Kd.C_take (m := (x9_3 : Int).toNat) ((Kd.R_reads' (Kd.R_after (ok := (fun _ => True)) (by (with_reducible repeat (first | apply Kd.R_alloc | apply Kd.R_drewN | apply Kd.R_drew)); exact HO_6.out) hg hat)).2.2) KL44.out)); have n3_ := Aside0.mk ((show Kd.C Kd.string w48 A47 y144.length y144 from by rw [Ny144.out, KA47.out]; exact Kd.C_drop (m := (x9_3 : Int).toNat) (c := co43) ((Kd.R_reads' (Kd.R_after (ok := (fun _ => True)) (by (with_reducible repeat (first | apply Kd.R_alloc | apply Kd.R_drewN | apply Kd.R_drew)); exact HO_6.out) hg hat)).2.2) KL47.out ((Kd.R_reads' (Kd.R_after (ok := (fun _ => True)) (by (with_reducible repeat (first | apply Kd.R_alloc | apply Kd.R_drewN | apply Kd.R_drew)); exact HO_6.out) hg hat)).2.1))); have n4_ := Aside0.mk (ho); clear HO_6; clear HB; clear HR136; clear HR147; clear HO143; have HO_6 := n0_; have HB := n1_; have HR136 := n2_; have HR147 := n3_; have HO150 := n4_; clear n0_ n1_ n2_ n3_ n4_; clear ho hb hg hat)))
                     go_roundg k3
                     case measure => have := HK1.out; have := HK2.out; have := HK3.out; omega
                     case rel => exact ⟨(y148), (wrap64 (x8_2 + 1)), (by first | rfl | (simp; done) | exact congrArg Value.bool (Go.Proofs.YtkmnjekbacdfoaaX.isEmpty_ne_ _) | exact congrArg Value.bool (Go.Proofs.YtkmnjekbacdfoaaX.ne_isEmpty_ _) | (simp [*]; done)), H', ⟨by have := HK1.out; have := HK2.out; have := HK3.out; omega⟩, ⟨by (with_reducible repeat (first | apply Kd.R_alloc | apply Kd.R_drewN | apply Kd.R_drew)); exact Kd.R_mono HO150.out (fun _ hk => trivial)⟩, ⟨by repeat (first | (with_reducible first | exact HB.out | apply below_alloc | apply pw_below_drewN | apply below_drew1) | exact HB.out)⟩⟩
                    ·rw [if_neg c42] at H
                     exact absurd H (by simp)
                   ·rw [if_neg c39] at H
                    exact absurd H (by simp)
                  ·rw [if_neg c38] at H
                   exact absurd H (by simp)
                 ·rw [if_neg c37] at H
                  exact absurd H (by simp)
                ·rw [if_neg c36] at H
                 exact absurd H (by simp)
               ·rw [if_neg c35] at H
                exact absurd H (by simp)
              ·rw [if_neg c34] at H
               exact absurd H (by simp)
          ·replace c12 := Bool.eq_false_iff.mpr c12
           subst c12
           have H1 : (chandleryref20_Find.l1 k2 l0 l1 x6_2 (wrap64 (x8_2 + 1))) = some (r1, r2) := by rw [if_neg (show ¬ (false = true) by decide)] at H; exact H
           clear H
           have H := H1
           clear H1
           have H' := Aside0.mk H
           clear H
           have p109 : 0 ≤ (x8_2 : Int) := of_decide_eq_true (by first | (with_reducible assumption) | assumption)
           have q109 : x8_2 < (l1.length : Int) := of_decide_eq_true (by first | (with_reducible assumption) | assumption)
           obtain ⟨ad109, e109, hx109_0⟩ := Kd.at_string HR1.out x8_2 p109 q109
           cases e109
           replace hx109_0 := (HB.out.cell (World.block_lt_of_cell? w _ hx109_0)).trans hx109_0
           replace p109 := eq_true p109
           replace q109 := eq_true q109
           go_wp2_with (first | (go_at_call 17; (with_reducible refine (chandleryref20_stands.calls k2 _ _ l0 ((rdOf ByteArray.empty l1 x8_2).extract 0 32) false _ ?side1 ?side2 A11.out).mono ?_); (case side1 => repeat (first | exact (Kd.C_below HR0.out HB.out) | (with_reducible refine Kd.C_alloc ?_ _) | (with_reducible refine Kd.C_drewN ?_ _) | (with_reducible refine Kd.C_drew ?_))); (case side2 => exact HC0.out); rintro e w' ⟨rfl, ⟨nd, rfl⟩⟩; (try first | exact ⟨rfl, _, World.drewN_drewN _ _ _⟩ | exact ⟨rfl, _, Eq.trans (World.drewN_drewN _ _ _) (congrArg (World.drewN _) (Nat.add_assoc _ _ _))⟩)))
           repeat (go_quiet (first | (go_at_call 17; (with_reducible refine (chandleryref20_stands.calls k2 _ _ l0 ((rdOf ByteArray.empty l1 x8_2).extract 0 32) false _ ?side1 ?side2 A11.out).mono ?_); (case side1 => repeat (first | exact (Kd.C_below HR0.out HB.out) | (with_reducible refine Kd.C_alloc ?_ _) | (with_reducible refine Kd.C_drewN ?_ _) | (with_reducible refine Kd.C_drew ?_))); (case side2 => exact HC0.out); rintro e w' ⟨rfl, ⟨nd, rfl⟩⟩; (try first | exact ⟨rfl, _, World.drewN_drewN _ _ _⟩ | exact ⟨rfl, _, Eq.trans (World.drewN_drewN _ _ _) (congrArg (World.drewN _) (Nat.add_assoc _ _ _))⟩))); try go_wp2_with (first | (go_at_call 17; (with_reducible refine (chandleryref20_stands.calls k2 _ _ l0 ((rdOf ByteArray.empty l1 x8_2).extract 0 32) false _ ?side1 ?side2 A11.out).mono ?_); (case side1 => repeat (first | exact (Kd.C_below HR0.out HB.out) | (with_reducible refine Kd.C_alloc ?_ _) | (with_reducible refine Kd.C_drewN ?_ _) | (with_reducible refine Kd.C_drew ?_))); (case side2 => exact HC0.out); rintro e w' ⟨rfl, ⟨nd, rfl⟩⟩; (try first | exact ⟨rfl, _, World.drewN_drewN _ _ _⟩ | exact ⟨rfl, _, Eq.trans (World.drewN_drewN _ _ _) (congrArg (World.drewN _) (Nat.add_assoc _ _ _))⟩))))
           go_roundg k2
           case measure => have := HK1.out; have := HK2.out; omega
           case rel => exact ⟨(x6_2), (wrap64 (x8_2 + 1)), (by first | rfl | (simp; done) | exact congrArg Value.bool (Go.Proofs.YtkmnjekbacdfoaaX.isEmpty_ne_ _) | exact congrArg Value.bool (Go.Proofs.YtkmnjekbacdfoaaX.ne_isEmpty_ _) | (simp [*]; done)), H', ⟨by have := HK1.out; have := HK2.out; omega⟩, ⟨by (with_reducible repeat (first | apply Kd.R_alloc | apply Kd.R_drewN | apply Kd.R_drew)); exact HO_6.out⟩, ⟨by repeat (first | (with_reducible first | exact HB.out | apply below_alloc | apply pw_below_drewN | apply below_drew1) | exact HB.out)⟩⟩
         ·rw [if_neg c10] at H
          exact absurd H (by simp)
        ·rw [if_neg c9] at H
         exact absurd H (by simp)
       ·rw [if_neg c8] at H
        exact absurd H (by simp)
      ·rw [if_neg c7] at H
       have c7b0 : decide (x8_2 < (l1.length : Int)) = false := decide_eq_false c7
       clear c7
       simp only [Option.some.injEq, Prod.mk.injEq] at H
       obtain ⟨rfl, rfl⟩ := H
       go_wp2
       repeat (go_quiet (fail); try go_wp2)
       go_ret2
       exact ⟨_, by first | rfl | (simp [errW_none, errW_some] <;> rfl) | (simp [*, errW_none, errW_some] <;> rfl), by (with_reducible repeat (first | apply Kd.R_alloc | apply Kd.R_drewN | apply Kd.R_drew)); exact HO_6.out, by repeat (first | (with_reducible first | exact HB.out | apply below_alloc | apply pw_below_drewN | apply below_drew1) | exact HB.out)⟩

/-! ### chandlerylaw20_awake: function 11 -/
def chandlerylaw20_awake.f : Option Bool := some true
theorem chandlerylaw20_awake.calls (r : Bool) (w : World) (h : chandlerylaw20_awake.f = some r) :
  Calls Try.prog 11 #[] w fun e w' => e = .returned (.bool r) ∧ Below w.heap.size w w' := by
 rw [← Option.some.inj h]
 exact YtkmnjekbacdfoaaX.awake_calls w

/-! ### chandleryref01_Texts: function 12 -/
def chandleryref01_Texts.l0 : Nat → List ByteArray → List ByteArray → Int → Option (Bool)
 | 0, _, _, _ => none
 | k + 1, x0, x1, x5 => if x5 < (x0.length : Int) then (if 0 ≤ x5 then (if x5 < (x1.length : Int) then (if (rdOf ByteArray.empty x0 x5).toList = (rdOf ByteArray.empty x1 x5).toList then (chandleryref01_Texts.l0 k x0 x1 (wrap64 (x5 + 1))) else (some false)) else (none)) else (none)) else (some true)
def chandleryref01_Texts.f (k : Nat) (l0 : List ByteArray) (l1 : List ByteArray) : Option (Bool) := if (l0.length : Int) = (l1.length : Int) then (chandleryref01_Texts.l0 k l0 l1 0) else (some false)
theorem chandleryref01_Texts.mono_l : ∀ k, (∀ y0 y1 y2, LeO (chandleryref01_Texts.l0 k y0 y1 y2) (chandleryref01_Texts.l0 (k + 1) y0 y1 y2))
 | 0 => fun _ _ _ r h => by simp [chandleryref01_Texts.l0] at h
 | k + 1 => by
  have ih0 := chandleryref01_Texts.mono_l k
  ·intro y0 y1 y2
   unfold chandleryref01_Texts.l0
   repeat' first
   | (with_reducible exact ih0 _ _ _)
   | (with_reducible exact LeO.refl _)
   | (with_reducible exact LeO.none _)
   | (with_reducible refine LeO.ite ?_ ?_)
   | (with_reducible refine LeO.bind ?_ (fun _ => ?_))
   | exact ih0 _ _ _
   | exact LeO.none _
   | refine LeO.ite ?_ ?_
   | refine LeO.bind ?_ (fun _ => ?_)
theorem chandleryref01_Texts.mono : ∀ a0 a1 k, LeO (chandleryref01_Texts.f k a0 a1) (chandleryref01_Texts.f (k + 1) a0 a1) := by
 intro a0 a1 k
 have ih0 := chandleryref01_Texts.mono_l k
 unfold chandleryref01_Texts.f
 repeat' first
   | (with_reducible exact ih0 _ _ _)
   | (with_reducible exact LeO.refl _)
   | (with_reducible exact LeO.none _)
   | (with_reducible refine LeO.ite ?_ ?_)
   | (with_reducible refine LeO.bind ?_ (fun _ => ?_))
   | exact ih0 _ _ _
   | exact LeO.none _
   | refine LeO.ite ?_ ?_
   | refine LeO.bind ?_ (fun _ => ?_)
set_option maxHeartbeats 8000000 in
set_option maxRecDepth 100000 in
theorem chandleryref01_Texts.calls (k : Nat) (A0 : Option Addr) (c0 : Nat) (l0 : List ByteArray) (A1 : Option Addr) (c1 : Nat) (l1 : List ByteArray) (r : Bool) (w : World) (hr0 : Kd.C Kd.string w A0 l0.length l0) (hc0 : l0.length ≤ c0) (hr1 : Kd.C Kd.string w A1 l1.length l1) (hc1 : l1.length ≤ c1) (h : chandleryref01_Texts.f k l0 l1 = some r) :
  Calls Try.prog 12 #[.slice A0 l0.length c0, .slice A1 l1.length c1] w fun e w' => e = .returned (.bool r) ∧ Drawn0 w w' := by
 have HR0 := Aside0.mk hr0
 have HC0 := Aside0.mk hc0
 clear hr0 hc0
 have HR1 := Aside0.mk hr1
 have HC1 := Aside0.mk hc1
 clear hr1 hc1
 have H : (if (l0.length : Int) = (l1.length : Int) then (chandleryref01_Texts.l0 k l0 l1 0) else (some false)) = some r := h
 clear h
 by_cases c3 : (l0.length : Int) = (l1.length : Int)
 ·rw [if_pos c3] at H
  have c3b0 : ((l0.length : Int) == (l1.length : Int)) = true := beq_iff_eq.mpr c3
  have c3b1 : ((l0.length : Int) != (l1.length : Int)) = false := bne_eq_false_iff_eq.mpr c3
  have c3b2 : (l0.length == l1.length) = true := by first | simpa using c3 | (simp at c3 ⊢; omega)
  clear c3
  have H' := Aside0.mk H
  clear H
  go_enter Try.func12, Try.ntmps12
  go_wp2
  repeat (go_quiet (fail); try go_wp2)
  go_loopg [5] k (fun kq v5 w' => ∃ (x5_1 : Int), v5 = .int .i64 x5_1 ∧ Aside0 (chandleryref01_Texts.l0 kq l0 l1 x5_1 = some r) ∧ Aside0 (kq ≤ k) ∧ Drawn0 w w')
  case atStart => exact ⟨(0), (by first | rfl | (simp; done) | exact congrArg Value.bool (Go.Proofs.YtkmnjekbacdfoaaX.isEmpty_ne_ _) | exact congrArg Value.bool (Go.Proofs.YtkmnjekbacdfoaaX.ne_isEmpty_ _) | (simp [*]; done)), H', ⟨Nat.le_refl _⟩, by repeat (first | exact Drawn0.refl _ | apply Drawn0.step)⟩
  case round =>
   clear H'
   try clear c1
   try clear p2
   try clear c3
   try clear c3b0
   try clear c3b1
   try clear c3b2
   obtain ⟨x5_1, rfl, HA, HK1, ⟨m1, rfl⟩⟩ := hrel
   cases gk with
   | zero => exact absurd HA.out (by simp [chandleryref01_Texts.l0])
   | succ k1 =>
    have H := HA.out
    clear HA
    simp only [chandleryref01_Texts.l0] at H
    by_cases c4 : x5_1 < (l0.length : Int)
    ·rw [if_pos c4] at H
     have c4b0 : decide (x5_1 < (l0.length : Int)) = true := decide_eq_true c4
     clear c4
     by_cases c5 : 0 ≤ x5_1
     ·rw [if_pos c5] at H
      have c5b0 : decide (0 ≤ x5_1) = true := decide_eq_true c5
      clear c5
      by_cases c6 : x5_1 < (l1.length : Int)
      ·rw [if_pos c6] at H
       have c6b0 : decide (x5_1 < (l1.length : Int)) = true := decide_eq_true c6
       clear c6
       by_cases c7 : (rdOf ByteArray.empty l0 x5_1).toList = (rdOf ByteArray.empty l1 x5_1).toList
       ·rw [if_pos c7] at H
        have c7b0 : ((rdOf ByteArray.empty l0 x5_1).toList == (rdOf ByteArray.empty l1 x5_1).toList) = true := beq_iff_eq.mpr c7
        have c7b1 : ((rdOf ByteArray.empty l0 x5_1).toList != (rdOf ByteArray.empty l1 x5_1).toList) = false := bne_eq_false_iff_eq.mpr c7
        clear c7
        have H' := Aside0.mk H
        clear H
        have p151 : 0 ≤ (x5_1 : Int) := of_decide_eq_true (by first | (with_reducible assumption) | assumption)
        have q151 : x5_1 < (l0.length : Int) := of_decide_eq_true (by first | (with_reducible assumption) | assumption)
        obtain ⟨ad151, e151, hx151_0⟩ := Kd.at_string HR0.out x5_1 p151 q151
        cases e151
        replace p151 := eq_true p151
        replace q151 := eq_true q151
        have p152 : 0 ≤ (x5_1 : Int) := of_decide_eq_true (by first | (with_reducible assumption) | assumption)
        have q152 : x5_1 < (l1.length : Int) := of_decide_eq_true (by first | (with_reducible assumption) | assumption)
        obtain ⟨ad152, e152, hx152_0⟩ := Kd.at_string HR1.out x5_1 p152 q152
        cases e152
        replace p152 := eq_true p152
        replace q152 := eq_true q152
        go_wp2
        repeat (go_quiet (fail); try go_wp2)
        go_roundg k1
        case measure => have := HK1.out; omega
        case rel => exact ⟨(wrap64 (x5_1 + 1)), (by first | rfl | (simp; done) | exact congrArg Value.bool (Go.Proofs.YtkmnjekbacdfoaaX.isEmpty_ne_ _) | exact congrArg Value.bool (Go.Proofs.YtkmnjekbacdfoaaX.ne_isEmpty_ _) | (simp [*]; done)), H', ⟨by have := HK1.out; omega⟩, by repeat (first | exact Drawn0.refl _ | apply Drawn0.step)⟩
       ·rw [if_neg c7] at H
        have c7b0 : ((rdOf ByteArray.empty l0 x5_1).toList == (rdOf ByteArray.empty l1 x5_1).toList) = false := beq_eq_false_iff_ne.mpr c7
        have c7b1 : ((rdOf ByteArray.empty l0 x5_1).toList != (rdOf ByteArray.empty l1 x5_1).toList) = true := bne_iff_ne.mpr c7
        obtain rfl := Option.some.inj H
        have p151 : 0 ≤ (x5_1 : Int) := of_decide_eq_true (by first | (with_reducible assumption) | assumption)
        have q151 : x5_1 < (l0.length : Int) := of_decide_eq_true (by first | (with_reducible assumption) | assumption)
        obtain ⟨ad151, e151, hx151_0⟩ := Kd.at_string HR0.out x5_1 p151 q151
        cases e151
        replace p151 := eq_true p151
        replace q151 := eq_true q151
        have p152 : 0 ≤ (x5_1 : Int) := of_decide_eq_true (by first | (with_reducible assumption) | assumption)
        have q152 : x5_1 < (l1.length : Int) := of_decide_eq_true (by first | (with_reducible assumption) | assumption)
        obtain ⟨ad152, e152, hx152_0⟩ := Kd.at_string HR1.out x5_1 p152 q152
        cases e152
        replace p152 := eq_true p152
        replace q152 := eq_true q152
        go_wp2
        repeat (go_quiet (fail); try go_wp2)
        go_ret
        exact ⟨by first | rfl | (simp; done) | (simp [*]; done), by repeat (first | exact Drawn0.refl _ | apply Drawn0.step)⟩
      ·rw [if_neg c6] at H
       exact absurd H (by simp)
     ·rw [if_neg c5] at H
      exact absurd H (by simp)
    ·rw [if_neg c4] at H
     have c4b0 : decide (x5_1 < (l0.length : Int)) = false := decide_eq_false c4
     clear c4
     obtain rfl := Option.some.inj H
     go_wp2
     repeat (go_quiet (fail); try go_wp2)
     go_ret
     exact ⟨by first | rfl | (simp; done) | (simp [*]; done), by repeat (first | exact Drawn0.refl _ | apply Drawn0.step)⟩
 ·rw [if_neg c3] at H
  have c3b0 : ((l0.length : Int) == (l1.length : Int)) = false := beq_eq_false_iff_ne.mpr c3
  have c3b1 : ((l0.length : Int) != (l1.length : Int)) = true := bne_iff_ne.mpr c3
  have c3b2 : (l0.length == l1.length) = false := by first | simpa using c3 | (simp at c3 ⊢; omega)
  obtain rfl := Option.some.inj H
  go_enter Try.func12, Try.ntmps12
  go_wp2
  repeat (go_quiet (fail); try go_wp2)
  go_ret
  exact ⟨by first | rfl | (simp; done) | (simp [*]; done), by repeat (first | exact Drawn0.refl _ | apply Drawn0.step)⟩

end Go.Proofs.Ytkmnjekbacdfoaa.PScanL
