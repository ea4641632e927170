-- printed with xprint.py over the kit's print
import Derived.Test.YtcohfhclcoiigaaQKeysx0
import Derived.Test.YtcohfhclcoiigaaQKeysx4
import Derived.Test.YtcohfhclcoiigaaQKeysx5
namespace Go.Proofs.Ytcohfhclcoiigaa.PKeys
open Go.RowKit Go.Proofs.YtcohfhclcoiigaaW.PrintWords Go.Proofs.YtcohfhclcoiigaaW.PrintLast Go.Proofs.YtcohfhclcoiigaaW.PrintMore
attribute [local go_sem] max2_int min2_int max_two min_two max_three min_three max_four min_four   -- for this text's walks alone
set_option linter.unusedVariables false
set_option linter.unusedSimpArgs false

/-! ### chandleryref11_Prefix: function 13 -/
mutual
def chandleryref11_Prefix.j0 : Nat → Bool → Int → ByteArray → ByteArray → Int → Int → Option (ByteArray × Bool)
  | 0, _, _, _, _, _, _ => none
  | k + 1, x12, x129000, x129001, x129002, x129003, x129004 => if x12 = true then (some ((⟨#[]⟩ : ByteArray), false)) else (if 0 ≤ x129000 then (if x129000 ≤ (wrap64 (x129000 + 1)) then (if (wrap64 (x129000 + 1)) ≤ 11 then (if x129000 = 3 then (chandleryref11_Prefix.j1 k ((⟨#[32, 110, 105, 99, 100, 112, 114, 117, 102, 103, 116]⟩ : ByteArray).extract (x129000 : Int).toNat ((wrap64 (x129000 + 1)) : Int).toNat) x129000 (x129000 == 3) x129000 x129001 x129002 x129003 x129004) else (chandleryref11_Prefix.j1 k ((⟨#[32, 110, 105, 99, 100, 112, 114, 117, 102, 103, 116]⟩ : ByteArray).extract (x129000 : Int).toNat ((wrap64 (x129000 + 1)) : Int).toNat) x129000 (x129000 == 4) x129000 x129001 x129002 x129003 x129004)) else (none)) else (none)) else (none))
def chandleryref11_Prefix.j1 : Nat → ByteArray → Int → Bool → Int → ByteArray → ByteArray → Int → Int → Option (ByteArray × Bool)
  | 0, _, _, _, _, _, _, _, _ => none
  | k + 1, x4, x20, x21, x129000, x129001, x129002, x129003, x129004 => if x21 = true then ((chandleryref11_three.f (mx x129003 0)).bind fun t129 => (if x4.size + t129.size ≤ 9223372036854775807 then ((chandleryref11_number.f x129000 x129003).bind fun t130 => (some (x4 ++ t129, t130))) else (none))) else (if x20 = 6 then (if x4.size + x129001.size ≤ 9223372036854775807 then (if (x4 ++ x129001).size + 1 ≤ 9223372036854775807 then ((chandleryref11_Name.f k x129001).bind fun t131 => (some ((x4 ++ x129001) ++ (⟨#[0]⟩ : ByteArray), t131))) else (none)) else (none)) else (if x20 = 7 then (if x4.size + x129001.size ≤ 9223372036854775807 then (if (x4 ++ x129001).size + 1 ≤ 9223372036854775807 then ((chandleryref11_Name.f k x129001).bind fun t132 => (some ((x4 ++ x129001) ++ (⟨#[0]⟩ : ByteArray), t132))) else (none)) else (none)) else (if x20 = 9 then (if x4.size + x129001.size ≤ 9223372036854775807 then (if (x4 ++ x129001).size + 1 ≤ 9223372036854775807 then ((chandleryref11_Name.f k x129001).bind fun t133 => (some ((x4 ++ x129001) ++ (⟨#[0]⟩ : ByteArray), t133))) else (none)) else (none)) else (some (x4, true)))))
end
def chandleryref11_Prefix.f (k : Nat) (a0_0 : Int) (a0_1 : ByteArray) (a0_2 : ByteArray) (a0_3 : Int) (a0_4 : Int) : Option (ByteArray × Bool) := if a0_0 < 1 then (chandleryref11_Prefix.j0 k true a0_0 a0_1 a0_2 a0_3 a0_4) else (chandleryref11_Prefix.j0 k (decide (a0_0 > 10)) a0_0 a0_1 a0_2 a0_3 a0_4)
theorem chandleryref11_Prefix.mono_l : ∀ k, (∀ y0 y1 y2 y3 y4 y5, LeO (chandleryref11_Prefix.j0 k y0 y1 y2 y3 y4 y5) (chandleryref11_Prefix.j0 (k + 1) y0 y1 y2 y3 y4 y5)) ∧ (∀ y0 y1 y2 y3 y4 y5 y6 y7, LeO (chandleryref11_Prefix.j1 k y0 y1 y2 y3 y4 y5 y6 y7) (chandleryref11_Prefix.j1 (k + 1) y0 y1 y2 y3 y4 y5 y6 y7))
  | 0 => ⟨fun _ _ _ _ _ _ r h => by simp [chandleryref11_Prefix.j0] at h, fun _ _ _ _ _ _ _ _ r h => by simp [chandleryref11_Prefix.j1] at h⟩
  | k + 1 => by
    obtain ⟨ih0, ih1⟩ := chandleryref11_Prefix.mono_l k
    refine ⟨?_, ?_⟩
    · intro y0 y1 y2 y3 y4 y5
      unfold chandleryref11_Prefix.j0
      repeat' first
      | (with_reducible exact ih0 _ _ _ _ _ _)
      | (with_reducible exact ih1 _ _ _ _ _ _ _ _)
      | (with_reducible exact chandleryref11_Name.mono _ _)
      | (with_reducible exact LeO.refl _)
      | (with_reducible exact LeO.none _)
      | (with_reducible refine LeO.ite ?_ ?_)
      | (with_reducible refine LeO.bind ?_ (fun _ => ?_))
      | exact ih0 _ _ _ _ _ _
      | exact ih1 _ _ _ _ _ _ _ _
      | exact chandleryref11_Name.mono _ _
      | exact LeO.none _
      | refine LeO.ite ?_ ?_
      | refine LeO.bind ?_ (fun _ => ?_)
    · intro y0 y1 y2 y3 y4 y5 y6 y7
      unfold chandleryref11_Prefix.j1
      repeat' first
      | (with_reducible exact ih0 _ _ _ _ _ _)
      | (with_reducible exact ih1 _ _ _ _ _ _ _ _)
      | (with_reducible exact chandleryref11_Name.mono _ _)
      | (with_reducible exact LeO.refl _)
      | (with_reducible exact LeO.none _)
      | (with_reducible refine LeO.ite ?_ ?_)
      | (with_reducible refine LeO.bind ?_ (fun _ => ?_))
      | exact ih0 _ _ _ _ _ _
      | exact ih1 _ _ _ _ _ _ _ _
      | exact chandleryref11_Name.mono _ _
      | exact LeO.none _
      | refine LeO.ite ?_ ?_
      | refine LeO.bind ?_ (fun _ => ?_)
theorem chandleryref11_Prefix.mono : ∀ a0 a1 a2 a3 a4 k, LeO (chandleryref11_Prefix.f k a0 a1 a2 a3 a4) (chandleryref11_Prefix.f (k + 1) a0 a1 a2 a3 a4) := by
  intro a0 a1 a2 a3 a4 k
  obtain ⟨ih0, ih1⟩ := chandleryref11_Prefix.mono_l k
  unfold chandleryref11_Prefix.f
  repeat' first
      | (with_reducible exact ih0 _ _ _ _ _ _)
      | (with_reducible exact ih1 _ _ _ _ _ _ _ _)
      | (with_reducible exact chandleryref11_Name.mono _ _)
      | (with_reducible exact LeO.refl _)
      | (with_reducible exact LeO.none _)
      | (with_reducible refine LeO.ite ?_ ?_)
      | (with_reducible refine LeO.bind ?_ (fun _ => ?_))
      | exact ih0 _ _ _ _ _ _
      | exact ih1 _ _ _ _ _ _ _ _
      | exact chandleryref11_Name.mono _ _
      | exact LeO.none _
      | refine LeO.ite ?_ ?_
      | refine LeO.bind ?_ (fun _ => ?_)
def chandleryref11_Prefix.T7 : Bool × List (List Nat × List Nat) := (true, [([], []), ([], []), ([1], [1]), ([2], [2]), ([3], [3]), ([0, 4], [0, 4]), ([], []), ([6], [6]), ([], []), ([8], [8]), ([7, 9, 4], [7, 9]), ([5, 10, 0, 1, 2, 3, 4, 5], [5]), ([10, 11, 0, 1, 2, 3, 4, 5, 6, 7, 8, 9, 10, 11], [10])])
def chandleryref11_Prefix.B7 : List Nat := [0, 0, 2, 6, 14, 31, 0, 64, 0, 256, 990, 2047, 4095]
theorem chandleryref11_Prefix.tab7 : rtab .any (opsOf Try.f13 7) = chandleryref11_Prefix.T7 := by kernel_rfl
theorem chandleryref11_Prefix.bits7 : waitsOk chandleryref11_Prefix.T7.2 chandleryref11_Prefix.B7 = true := by kernel_rfl
def chandleryref11_Prefix.T11 : Bool × List (List Nat × List Nat) := (true, [([], []), ([], []), ([1], [1]), ([0, 2], [0, 2]), ([3], [3]), ([], []), ([5], [5]), ([6], [6]), ([4, 7, 0, 1, 2, 3, 4], [4]), ([7, 8, 0, 1, 2, 3, 4, 5, 6, 7, 8], [7])])
def chandleryref11_Prefix.B11 : List Nat := [0, 0, 2, 7, 15, 0, 32, 96, 255, 511]
theorem chandleryref11_Prefix.tab11 : rtab .any (opsOf Try.f13 11) = chandleryref11_Prefix.T11 := by kernel_rfl
theorem chandleryref11_Prefix.bits11 : waitsOk chandleryref11_Prefix.T11.2 chandleryref11_Prefix.B11 = true := by kernel_rfl
set_option maxHeartbeats 8000000 in
set_option maxRecDepth 100000 in
theorem chandleryref11_Prefix.calls (k : Nat) (a0_0 : Int) (a0_1 : ByteArray) (a0_2 : ByteArray) (a0_3 : Int) (a0_4 : Int) (r1 : ByteArray) (r2 : Bool) (w : World) (h : chandleryref11_Prefix.f k a0_0 a0_1 a0_2 a0_3 a0_4 = some (r1, r2)) :
    Calls Try.prog 13 #[.agg #[.int .i64 a0_0, .string a0_1, .string a0_2, .int .i64 a0_3, .int .i64 a0_4]] w fun e w' => e = .returned (.tuple #[.string r1, .bool r2]) ∧ Below w.heap.size w w' := by
  have hu23 := Try.underlying23
  have HB := Aside0.mk (Below.refl w.heap.size w)
  have H : (if a0_0 < 1 then (chandleryref11_Prefix.j0 k true a0_0 a0_1 a0_2 a0_3 a0_4) else (chandleryref11_Prefix.j0 k (decide (a0_0 > 10)) a0_0 a0_1 a0_2 a0_3 a0_4)) = some (r1, r2) := h
  clear h
  have HC2 := Aside0.mk H
  clear H
  go_enter Try.func13, Try.ntmps13
  go_upto_region 1 with (first | ((with_reducible refine gate_dst (N := 1) rfl ?_); refine box_event ?hg (N := 1) ?hd (cs := #[.int .i64 a0_0, .string a0_1, .string a0_2, .int .i64 a0_3, .int .i64 a0_4]) (t := 23) ?hr ?_; (case hd => rfl); (case hg => rfl); (case hr => first | (go_simp; done) | (go_simp; rfl)); intro gb128 hg w3 hbox hb; have n0_ := Aside0.mk (below_step (by repeat (first | (with_reducible first | exact HB.out | apply below_alloc | apply pw_below_drewN | apply below_drew1) | exact HB.out)) hb); have n1_ := Aside0.mk (hbox); have n2_ := Aside0.mk ((by rw [hg]; exact (below_size (by repeat (first | (with_reducible first | exact HB.out | apply below_alloc | apply pw_below_drewN | apply below_drew1) | exact HB.out))) : w.heap.size ≤ gb128)); have n3_ := Aside0.mk ((by rw [hg]; exact (below_size (by repeat (first | (with_reducible first | exact HB.out | apply below_alloc | apply pw_below_drewN | apply below_drew1) | exact HB.out))) : w.heap.size ≤ gb128)); clear HB; have HB := n0_; have BK128 := n1_; have GW128 := n2_; have GE128 := n3_; clear n0_ n1_ n2_ n3_; clear hb hbox hg))
  (try simp only [Act.put, List.setIfInBounds_toArray, List.set_cons_zero, List.set_cons_succ])
  go_cut [12] (fun v12 wc => ∃ (kq : Nat) (x12_1 : Bool), v12 = .bool x12_1 ∧ Aside0 (chandleryref11_Prefix.j0 kq x12_1 a0_0 a0_1 a0_2 a0_3 a0_4 = some (r1, r2)) ∧ Aside0 (kq ≤ k) ∧ Aside0 (wc.heap[gb128]? = some (.cells #[.int .i64 a0_0, .string a0_1, .string a0_2, .int .i64 a0_3, .int .i64 a0_4] 23 (0, 0))) ∧ Aside0 (Below w.heap.size w wc))
  case first =>
    have H := HC2.out
    clear HC2
    by_cases c4 : a0_0 < 1
    · rw [if_pos c4] at H
      have c4b0 : decide (a0_0 < 1) = true := decide_eq_true c4
      clear c4
      (first | rw [c4b0] | (simp only [i64_w, i32_w]; rw [c4b0]) | skip)
      have H' := Aside0.mk H
      clear H
      have hcz5_0 : w3.cell? ⟨gb128, 0, none⟩ = some (.int .i64 a0_0) := (blk_cell BK128.out 0).trans rfl
      have hcz5_1 : w3.cell? ⟨gb128, 1, none⟩ = some (.string a0_1) := (blk_cell BK128.out 1).trans rfl
      have hcz5_2 : w3.cell? ⟨gb128, 2, none⟩ = some (.string a0_2) := (blk_cell BK128.out 2).trans rfl
      have hcz5_3 : w3.cell? ⟨gb128, 3, none⟩ = some (.int .i64 a0_3) := (blk_cell BK128.out 3).trans rfl
      have hcz5_4 : w3.cell? ⟨gb128, 4, none⟩ = some (.int .i64 a0_4) := (blk_cell BK128.out 4).trans rfl
      have hfz5_0 := blk_frozen BK128.out 0
      have hfz5_1 := blk_frozen BK128.out 1
      have hfz5_2 := blk_frozen BK128.out 2
      have hfz5_3 := blk_frozen BK128.out 3
      have hfz5_4 := blk_frozen BK128.out 4
      go_wp2
      go_meet
      case rel => exact ⟨_, (true), (by first | rfl | (simp; done) | exact congrArg Value.bool (Go.Proofs.YtcohfhclcoiigaaX.isEmpty_ne_ _) | exact congrArg Value.bool (Go.Proofs.YtcohfhclcoiigaaX.ne_isEmpty_ _) | (simp [*]; done)), H', ⟨by first | omega | exact Nat.le_refl _⟩, ⟨by (with_reducible repeat (first | refine blk_drewN ?_ _ | refine blk_drew ?_ | refine blk_alloc ?_ _)); exact BK128.out⟩, ⟨by repeat (first | (with_reducible first | exact HB.out | apply below_alloc | apply pw_below_drewN | apply below_drew1 | refine below_set ?_ GE128.out) | exact HB.out)⟩⟩
    · rw [if_neg c4] at H
      have c4b0 : decide (a0_0 < 1) = false := decide_eq_false c4
      clear c4
      (first | rw [c4b0] | (simp only [i64_w, i32_w]; rw [c4b0]) | skip)
      have H' := Aside0.mk H
      clear H
      have hcz6_0 : w3.cell? ⟨gb128, 0, none⟩ = some (.int .i64 a0_0) := (blk_cell BK128.out 0).trans rfl
      have hcz6_1 : w3.cell? ⟨gb128, 1, none⟩ = some (.string a0_1) := (blk_cell BK128.out 1).trans rfl
      have hcz6_2 : w3.cell? ⟨gb128, 2, none⟩ = some (.string a0_2) := (blk_cell BK128.out 2).trans rfl
      have hcz6_3 : w3.cell? ⟨gb128, 3, none⟩ = some (.int .i64 a0_3) := (blk_cell BK128.out 3).trans rfl
      have hcz6_4 : w3.cell? ⟨gb128, 4, none⟩ = some (.int .i64 a0_4) := (blk_cell BK128.out 4).trans rfl
      have hfz6_0 := blk_frozen BK128.out 0
      have hfz6_1 := blk_frozen BK128.out 1
      have hfz6_2 := blk_frozen BK128.out 2
      have hfz6_3 := blk_frozen BK128.out 3
      have hfz6_4 := blk_frozen BK128.out 4
      go_wp2
      go_meet
      case rel => exact ⟨_, (decide (a0_0 > 10)), (by first | rfl | (simp; done) | exact congrArg Value.bool (Go.Proofs.YtcohfhclcoiigaaX.isEmpty_ne_ _) | exact congrArg Value.bool (Go.Proofs.YtcohfhclcoiigaaX.ne_isEmpty_ _) | (simp [*]; done)), H', ⟨by first | omega | exact Nat.le_refl _⟩, ⟨by (with_reducible repeat (first | refine blk_drewN ?_ _ | refine blk_drew ?_ | refine blk_alloc ?_ _)); exact BK128.out⟩, ⟨by repeat (first | (with_reducible first | exact HB.out | apply below_alloc | apply pw_below_drewN | apply below_drew1 | refine below_set ?_ GE128.out) | exact HB.out)⟩⟩
  case rest =>
    clear HC2
    try clear c1
    try clear p2
    try clear c4
    try clear c4b0
    try clear hcz5_0
    try clear hcz5_1
    try clear hcz5_2
    try clear hcz5_3
    try clear hcz5_4
    try clear hcz6_0
    try clear hcz6_1
    try clear hcz6_2
    try clear hcz6_3
    try clear hcz6_4
    try clear hfz5_0
    try clear hfz5_1
    try clear hfz5_2
    try clear hfz5_3
    try clear hfz5_4
    try clear hfz6_0
    try clear hfz6_1
    try clear hfz6_2
    try clear hfz6_3
    try clear hfz6_4
    obtain ⟨kq, x12_1, rfl, HA, HJ1, BK128, HB⟩ := hcut
    cases kq with
    | zero => exact absurd HA.out (by simp [chandleryref11_Prefix.j0])
    | succ kj1 =>
      have H := HA.out
      clear HA
      simp only [chandleryref11_Prefix.j0] at H
      by_cases c7 : x12_1 = true
      · subst c7
        have H1 : (some ((⟨#[]⟩ : ByteArray), false)) = some (r1, r2) := by rw [if_pos rfl] at H; exact H
        clear H
        have H := H1
        clear H1
        simp only [Option.some.injEq, Prod.mk.injEq] at H
        obtain ⟨rfl, rfl⟩ := H
        go_wp2
        go_ret2
        exact ⟨by first | rfl | (simp [errW_none, errW_some] <;> rfl) | (simp [*, errW_none, errW_some] <;> rfl), by repeat (first | (with_reducible first | exact HB.out | apply below_alloc | apply pw_below_drewN | apply below_drew1 | refine below_set ?_ GE128.out) | exact HB.out)⟩
      · replace c7 := Bool.eq_false_iff.mpr c7
        subst c7
        have H1 : (if 0 ≤ a0_0 then (if a0_0 ≤ (wrap64 (a0_0 + 1)) then (if (wrap64 (a0_0 + 1)) ≤ 11 then (if a0_0 = 3 then (chandleryref11_Prefix.j1 kj1 ((⟨#[32, 110, 105, 99, 100, 112, 114, 117, 102, 103, 116]⟩ : ByteArray).extract (a0_0 : Int).toNat ((wrap64 (a0_0 + 1)) : Int).toNat) a0_0 (a0_0 == 3) a0_0 a0_1 a0_2 a0_3 a0_4) else (chandleryref11_Prefix.j1 kj1 ((⟨#[32, 110, 105, 99, 100, 112, 114, 117, 102, 103, 116]⟩ : ByteArray).extract (a0_0 : Int).toNat ((wrap64 (a0_0 + 1)) : Int).toNat) a0_0 (a0_0 == 4) a0_0 a0_1 a0_2 a0_3 a0_4)) else (none)) else (none)) else (none)) = some (r1, r2) := by rw [if_neg (show ¬ (false = true) by decide)] at H; exact H
        clear H
        have H := H1
        clear H1
        by_cases c8 : 0 ≤ a0_0
        · rw [if_pos c8] at H
          have c8b0 := eq_true c8
          have c8b1 : decide (0 ≤ a0_0) = true := decide_eq_true c8
          clear c8
          by_cases c9 : a0_0 ≤ (wrap64 (a0_0 + 1))
          · rw [if_pos c9] at H
            have c9b0 := eq_true c9
            have c9b1 : decide (a0_0 ≤ (wrap64 (a0_0 + 1))) = true := decide_eq_true c9
            by_cases c10 : (wrap64 (a0_0 + 1)) ≤ 11
            · rw [if_pos c10] at H
              have c10b0 := eq_true c10
              have c10b1 : decide ((wrap64 (a0_0 + 1)) ≤ 11) = true := decide_eq_true c10
              have HC11 := Aside0.mk H
              clear H
              have hcz12_0 : wc.cell? ⟨gb128, 0, none⟩ = some (.int .i64 a0_0) := (blk_cell BK128.out 0).trans rfl
              have hcz12_1 : wc.cell? ⟨gb128, 1, none⟩ = some (.string a0_1) := (blk_cell BK128.out 1).trans rfl
              have hcz12_2 : wc.cell? ⟨gb128, 2, none⟩ = some (.string a0_2) := (blk_cell BK128.out 2).trans rfl
              have hcz12_3 : wc.cell? ⟨gb128, 3, none⟩ = some (.int .i64 a0_3) := (blk_cell BK128.out 3).trans rfl
              have hcz12_4 : wc.cell? ⟨gb128, 4, none⟩ = some (.int .i64 a0_4) := (blk_cell BK128.out 4).trans rfl
              have hfz12_0 := blk_frozen BK128.out 0
              have hfz12_1 := blk_frozen BK128.out 1
              have hfz12_2 := blk_frozen BK128.out 2
              have hfz12_3 := blk_frozen BK128.out 3
              have hfz12_4 := blk_frozen BK128.out 4
              go_upto_if 21 with (fail)
              go_cut [21] (fun v21 wc => ∃ (kq : Nat) (x21_10 : Bool), v21 = .bool x21_10 ∧ Aside0 (chandleryref11_Prefix.j1 kq ((⟨#[32, 110, 105, 99, 100, 112, 114, 117, 102, 103, 116]⟩ : ByteArray).extract (a0_0 : Int).toNat ((wrap64 (a0_0 + 1)) : Int).toNat) a0_0 x21_10 a0_0 a0_1 a0_2 a0_3 a0_4 = some (r1, r2)) ∧ Aside0 (kq ≤ kj1) ∧ Aside0 (wc.heap[gb128]? = some (.cells #[.int .i64 a0_0, .string a0_1, .string a0_2, .int .i64 a0_3, .int .i64 a0_4] 23 (0, 0))) ∧ Aside0 (Below w.heap.size w wc))
              case first =>
                have H := HC11.out
                clear HC11
                by_cases c13 : a0_0 = 3
                · rw [if_pos c13] at H
                  have c13b0 : (a0_0 == 3) = true := beq_iff_eq.mpr c13
                  have c13b1 : (a0_0 != 3) = false := bne_eq_false_iff_eq.mpr c13
                  clear c13
                  (first | rw [c13b0] | (simp only [i64_w, i32_w]; rw [c13b0]) | skip)
                  have H' := Aside0.mk H
                  clear H
                  go_wp2
                  go_meet
                  case rel => exact ⟨_, ((a0_0 == 3)), (by first | rfl | (simp; done) | exact congrArg Value.bool (Go.Proofs.YtcohfhclcoiigaaX.isEmpty_ne_ _) | exact congrArg Value.bool (Go.Proofs.YtcohfhclcoiigaaX.ne_isEmpty_ _) | (simp [*]; done)), H', ⟨by have := HJ1.out; first | omega | exact Nat.le_refl _⟩, ⟨by (with_reducible repeat (first | refine blk_drewN ?_ _ | refine blk_drew ?_ | refine blk_alloc ?_ _)); exact BK128.out⟩, ⟨by repeat (first | (with_reducible first | exact HB.out | apply below_alloc | apply pw_below_drewN | apply below_drew1 | refine below_set ?_ GE128.out) | exact HB.out)⟩⟩
                · rw [if_neg c13] at H
                  have c13b0 : (a0_0 == 3) = false := beq_eq_false_iff_ne.mpr c13
                  have c13b1 : (a0_0 != 3) = true := bne_iff_ne.mpr c13
                  (first | rw [c13b0] | (simp only [i64_w, i32_w]; rw [c13b0]) | skip)
                  have H' := Aside0.mk H
                  clear H
                  go_wp2
                  go_meet
                  case rel => exact ⟨_, ((a0_0 == 4)), (by first | rfl | (simp; done) | exact congrArg Value.bool (Go.Proofs.YtcohfhclcoiigaaX.isEmpty_ne_ _) | exact congrArg Value.bool (Go.Proofs.YtcohfhclcoiigaaX.ne_isEmpty_ _) | (simp [*]; done)), H', ⟨by have := HJ1.out; first | omega | exact Nat.le_refl _⟩, ⟨by (with_reducible repeat (first | refine blk_drewN ?_ _ | refine blk_drew ?_ | refine blk_alloc ?_ _)); exact BK128.out⟩, ⟨by repeat (first | (with_reducible first | exact HB.out | apply below_alloc | apply pw_below_drewN | apply below_drew1 | refine below_set ?_ GE128.out) | exact HB.out)⟩⟩
              case rest =>
                clear HC11
                try clear c1
                try clear p2
                try clear c4
                try clear c4b0
                try clear p6
                try clear c7
                try clear c8
                try clear c8b0
                try clear c8b1
                try clear c9
                try clear c9b0
                try clear c9b1
                try clear c10
                try clear c10b0
                try clear c10b1
                try clear c13
                try clear c13b0
                try clear c13b1
                try clear hcz12_0
                try clear hcz12_1
                try clear hcz12_2
                try clear hcz12_3
                try clear hcz12_4
                try clear hcz5_0
                try clear hcz5_1
                try clear hcz5_2
                try clear hcz5_3
                try clear hcz5_4
                try clear hcz6_0
                try clear hcz6_1
                try clear hcz6_2
                try clear hcz6_3
                try clear hcz6_4
                try clear hfz12_0
                try clear hfz12_1
                try clear hfz12_2
                try clear hfz12_3
                try clear hfz12_4
                try clear hfz5_0
                try clear hfz5_1
                try clear hfz5_2
                try clear hfz5_3
                try clear hfz5_4
                try clear hfz6_0
                try clear hfz6_1
                try clear hfz6_2
                try clear hfz6_3
                try clear hfz6_4
                try clear p2
                obtain ⟨kq, x21_10, rfl, HA, HJ10, BK128, HB⟩ := hcut
                cases kq with
                | zero => exact absurd HA.out (by simp [chandleryref11_Prefix.j1])
                | succ kj10 =>
                  have H := HA.out
                  clear HA
                  simp only [chandleryref11_Prefix.j1] at H
                  by_cases c14 : x21_10 = true
                  · subst c14
                    have H1 : ((chandleryref11_three.f (mx a0_3 0)).bind fun t129 => (if ((⟨#[32, 110, 105, 99, 100, 112, 114, 117, 102, 103, 116]⟩ : ByteArray).extract (a0_0 : Int).toNat ((wrap64 (a0_0 + 1)) : Int).toNat).size + t129.size ≤ 9223372036854775807 then ((chandleryref11_number.f a0_0 a0_3).bind fun t130 => (some (((⟨#[32, 110, 105, 99, 100, 112, 114, 117, 102, 103, 116]⟩ : ByteArray).extract (a0_0 : Int).toNat ((wrap64 (a0_0 + 1)) : Int).toNat) ++ t129, t130))) else (none))) = some (r1, r2) := by rw [if_pos rfl] at H; exact H
                    clear H
                    have H := H1
                    clear H1
                    obtain ⟨ji15, hji15⟩ : ∃ j_ : Int, (mx a0_3 0) = j_ := ⟨_, rfl⟩
                    replace H : ((chandleryref11_three.f (ji15)).bind fun t129 => (if ((⟨#[32, 110, 105, 99, 100, 112, 114, 117, 102, 103, 116]⟩ : ByteArray).extract (a0_0 : Int).toNat ((wrap64 (a0_0 + 1)) : Int).toNat).size + t129.size ≤ 9223372036854775807 then ((chandleryref11_number.f a0_0 a0_3).bind fun t130 => (some (((⟨#[32, 110, 105, 99, 100, 112, 114, 117, 102, 103, 116]⟩ : ByteArray).extract (a0_0 : Int).toNat ((wrap64 (a0_0 + 1)) : Int).toNat) ++ t129, t130))) else (none))) = some (r1, r2) := by first | (rw [hji15] at H; exact H) | (simp only [hji15] at H ⊢; exact H)
                    have hji15_ : (if a0_3 < 0 then 0 else a0_3) = ji15 := hji15
                    replace H := Option.bind_eq_some_iff.mp H
                    obtain ⟨t129, A160, H⟩ := H
                    replace H : (if ((⟨#[32, 110, 105, 99, 100, 112, 114, 117, 102, 103, 116]⟩ : ByteArray).extract (a0_0 : Int).toNat ((wrap64 (a0_0 + 1)) : Int).toNat).size + t129.size ≤ 9223372036854775807 then ((chandleryref11_number.f a0_0 a0_3).bind fun t130 => (some (((⟨#[32, 110, 105, 99, 100, 112, 114, 117, 102, 103, 116]⟩ : ByteArray).extract (a0_0 : Int).toNat ((wrap64 (a0_0 + 1)) : Int).toNat) ++ t129, t130))) else (none)) = some (r1, r2) := H
                    have A16 := Aside0.mk A160
                    clear A160
                    by_cases c17 : ((⟨#[32, 110, 105, 99, 100, 112, 114, 117, 102, 103, 116]⟩ : ByteArray).extract (a0_0 : Int).toNat ((wrap64 (a0_0 + 1)) : Int).toNat).size + t129.size ≤ 9223372036854775807
                    · rw [if_pos c17] at H
                      have c17b0 := eq_true c17
                      have c17b1 : decide (((⟨#[32, 110, 105, 99, 100, 112, 114, 117, 102, 103, 116]⟩ : ByteArray).extract (a0_0 : Int).toNat ((wrap64 (a0_0 + 1)) : Int).toNat).size + t129.size ≤ 9223372036854775807) = true := decide_eq_true c17
                      try have c17b2 : (9223372036854775807 < ((⟨#[32, 110, 105, 99, 100, 112, 114, 117, 102, 103, 116]⟩ : ByteArray).extract (a0_0 : Int).toNat ((wrap64 (a0_0 + 1)) : Int).toNat).size + t129.size) = False := eq_false (Nat.not_lt.2 c17)
                      try have c17b3 : (9223372036854775807 < ((⟨#[32, 110, 105, 99, 100, 112, 114, 117, 102, 103, 116]⟩ : ByteArray).extract (a0_0 : Int).toNat ((wrap64 (a0_0 + 1)) : Int).toNat).size + t129.size) = False := eq_false (by (have h0_ := Nat.not_lt.2 c17); (simp only [ByteArray.size_append, ByteArray.size_extract] at h0_);  omega)
                      try have c17b5 : (9223372036854775807 < ((min ((wrap64 (a0_0 + 1)) : Int).toNat 11) - (a0_0 : Int).toNat) + t129.size) = False := eq_false (by (have h0_ := Nat.not_lt.2 c17); (simp only [ByteArray.size_append, ByteArray.size_extract] at h0_);  (try simp only [show (⟨#[32, 110, 105, 99, 100, 112, 114, 117, 102, 103, 116]⟩ : ByteArray).size = 11 from rfl] at h0_); omega)
                      try have c17b6 : (9223372036854775807 < (((wrap64 (a0_0 + 1)) : Int).toNat - (a0_0 : Int).toNat) + t129.size) = False := eq_false (by (have h0_ := Nat.not_lt.2 c17); (simp only [ByteArray.size_append, ByteArray.size_extract] at h0_); (try have hc10_ := of_decide_eq_true c10b1); (try simp only [show (⟨#[32, 110, 105, 99, 100, 112, 114, 117, 102, 103, 116]⟩ : ByteArray).size = 11 from rfl] at h0_); omega)
                      replace H := Option.bind_eq_some_iff.mp H
                      obtain ⟨t130, A180, H⟩ := H
                      replace H : (some (((⟨#[32, 110, 105, 99, 100, 112, 114, 117, 102, 103, 116]⟩ : ByteArray).extract (a0_0 : Int).toNat ((wrap64 (a0_0 + 1)) : Int).toNat) ++ t129, t130)) = some (r1, r2) := H
                      have A18 := Aside0.mk A180
                      clear A180
                      simp only [Option.some.injEq, Prod.mk.injEq] at H
                      obtain ⟨rfl, rfl⟩ := H
                      try go_wp2
                      have n0_ := Aside0.mk (blk_drew BK128.out)
                      have n1_ := Aside0.mk (below_drew1 HB.out)
                      clear BK128
                      clear HB
                      have BK128 := n0_
                      have HB := n1_
                      clear n0_ n1_
                      refine start_ (n := 13) (S := fun w' => w'.cell? ⟨gb128, 0, none⟩ = some (.int .i64 a0_0) ∧ w'.cell? ⟨gb128, 1, none⟩ = some (.string a0_1) ∧ w'.cell? ⟨gb128, 2, none⟩ = some (.string a0_2) ∧ w'.cell? ⟨gb128, 3, none⟩ = some (.int .i64 a0_3) ∧ w'.cell? ⟨gb128, 4, none⟩ = some (.int .i64 a0_4)) (ds := []) #[false, false, false, false, false, false, false, false, false, false, false, false, false] (by kernel_rfl) rfl rfl ⟨(blk_cell BK128.out 0).trans rfl, (blk_cell BK128.out 1).trans rfl, (blk_cell BK128.out 2).trans rfl, (blk_cell BK128.out 3).trans rfl, (blk_cell BK128.out 4).trans rfl⟩ (fun hHeld => ?_); refine with_tabW chandleryref11_Prefix.tab7 chandleryref11_Prefix.bits7 (fun HT_ HW_ => ?_)
                      generalize wc.drew = w19 at BK128 HB hHeld ⊢
                      refine pure_ (i := 0) (N := some 24) (v := ?_) (a' := ?_) #[true, false, false, false, false, false, false, false, false, false, false, false, false] rfl rfl (any_of HT_.out (by kernel_rfl)) (fun _ _ _ h => h) (Or.inl ⟨by rfl, ?_⟩) ?_ ?_
                      rotate_left
                      · intro w'
                        go_simp
                        with_reducible rfl
                      rotate_left
                      · simp only [Act.put, List.setIfInBounds_toArray, List.set_cons_zero, List.set_cons_succ, i64_w, i32_w]
                        rfl
                      refine pure_ (i := 1) (N := some 25) (v := ?_) (a' := ?_) #[true, true, false, false, false, false, false, false, false, false, false, false, false] rfl rfl (any_of HT_.out (by kernel_rfl)) (fun _ _ _ h => h) (Or.inl ⟨by rfl, ?_⟩) ?_ ?_
                      rotate_left
                      · intro w'
                        go_simp
                        with_reducible rfl
                      rotate_left
                      · simp only [Act.put, List.setIfInBounds_toArray, List.set_cons_zero, List.set_cons_succ, i64_w, i32_w]
                        rfl
                      refine pure_ (i := 6) (N := some 30) (v := ?_) (a' := ?_) #[true, true, false, false, false, false, true, false, false, false, false, false, false] rfl rfl (any_of HT_.out (by kernel_rfl)) (fun _ _ _ h => h) (Or.inl ⟨by rfl, ?_⟩) ?_ ?_
                      rotate_left
                      · intro w'
                        go_simp
                        with_reducible rfl
                      rotate_left
                      · simp only [Act.put, List.setIfInBounds_toArray, List.set_cons_zero, List.set_cons_succ, i64_w, i32_w]
                        rfl
                      refine pure_ (i := 8) (N := some 32) (v := ?_) (a' := ?_) #[true, true, false, false, false, false, true, false, true, false, false, false, false] rfl rfl (any_of HT_.out (by kernel_rfl)) (fun _ _ _ h => h) (Or.inl ⟨by rfl, ?_⟩) ?_ ?_
                      rotate_left
                      · intro w'
                        go_simp
                        with_reducible rfl
                      rotate_left
                      · simp only [Act.put, List.setIfInBounds_toArray, List.set_cons_zero, List.set_cons_succ, i64_w, i32_w]
                        rfl
                      refine take_ (i := 2) (N := some 26) (v := ?_) (a' := ?_) #[true, true, true, false, false, false, true, false, true, false, false, false, false] rfl rfl (take_ofW HT_.out HW_.out (by kernel_rfl)) (fun _ _ _ h => h) (Or.inl ⟨by rfl, ?_⟩) hHeld ?_ ?_
                      rotate_left
                      · rintro w' ⟨s0, s1, s2, s3, s4⟩
                        go_simp
                        with_reducible rfl
                      rotate_left
                      · simp only [Act.put, List.setIfInBounds_toArray, List.set_cons_zero, List.set_cons_succ, i64_w, i32_w]
                        rfl
                      refine pure_ (i := 3) (N := some 27) (v := ?_) (a' := ?_) #[true, true, true, true, false, false, true, false, true, false, false, false, false] rfl rfl (any_of HT_.out (by kernel_rfl)) (fun _ _ _ h => h) (Or.inl ⟨by rfl, ?_⟩) ?_ ?_
                      rotate_left
                      · intro w'
                        go_simp
                        with_reducible rfl
                      rotate_left
                      · simp only [Act.put, List.setIfInBounds_toArray, List.set_cons_zero, List.set_cons_succ, i64_w, i32_w]
                        rfl
                      refine take_ (i := 7) (N := some 31) (v := ?_) (a' := ?_) #[true, true, true, true, false, false, true, true, true, false, false, false, false] rfl rfl (take_ofW HT_.out HW_.out (by kernel_rfl)) (fun _ _ _ h => h) (Or.inl ⟨by rfl, ?_⟩) hHeld ?_ ?_
                      rotate_left
                      · rintro w' ⟨s0, s1, s2, s3, s4⟩
                        go_simp
                        with_reducible rfl
                      rotate_left
                      · simp only [Act.put, List.setIfInBounds_toArray, List.set_cons_zero, List.set_cons_succ, i64_w, i32_w]
                        rfl
                      refine take_ (i := 9) (N := some 33) (v := ?_) (a' := ?_) #[true, true, true, true, false, false, true, true, true, true, false, false, false] rfl rfl (take_ofW HT_.out HW_.out (by kernel_rfl)) (fun _ _ _ h => h) (Or.inl ⟨by rfl, ?_⟩) hHeld ?_ ?_
                      rotate_left
                      · rintro w' ⟨s0, s1, s2, s3, s4⟩
                        go_simp
                        with_reducible rfl
                      rotate_left
                      · simp only [Act.put, List.setIfInBounds_toArray, List.set_cons_zero, List.set_cons_succ, i64_w, i32_w]
                        rfl
                      refine one_ (i := 4) (N := some 28) #[true, true, true, true, true, false, true, true, true, true, false, false, false] rfl rfl (one_of HT_.out (by kernel_rfl)) (by decide) (fun K hK => ?_)
                      refine goes_ Try.func26 (by kernel_rfl) rfl #[.int .i64 ji15] (by rfl) rfl rfl (by (try simp only [List.map_toArray, List.map_cons, List.map_nil]); first | done | (simp only [hji15]; rfl) | rfl | (simp only [List.length_drop, List.length_take]; rfl)) ?_
                      with_reducible refine (chandleryref11_three.calls ji15 t129 _ A16.out).mono ?_
                      rintro e w20 ⟨rfl, hb⟩
                      refine ⟨_, rfl, ?_⟩
                      have n0_ := Aside0.mk (blk_below (g := gb128) (o := .cells #[.int .i64 a0_0, .string a0_1, .string a0_2, .int .i64 a0_3, .int .i64 a0_4] 23 (0, 0)) (by (with_reducible repeat (first | refine blk_drewN ?_ _ | refine blk_drew ?_ | refine blk_alloc ?_ _)); exact BK128.out) hb)
                      have n1_ := Aside0.mk (below_step (by repeat (first | (with_reducible first | exact HB.out | apply below_alloc | apply pw_below_drewN | apply below_drew1 | refine below_set ?_ GE128.out) | exact HB.out)) hb)
                      clear BK128
                      clear HB
                      have BK128 := n0_
                      have HB := n1_
                      clear n0_ n1_
                      (try clear hb)
                      (try clear hb2)
                      (try clear hk)
                      (try clear hi)
                      refine hK.out _ _ ⟨(blk_cell BK128.out 0).trans rfl, (blk_cell BK128.out 1).trans rfl, (blk_cell BK128.out 2).trans rfl, (blk_cell BK128.out 3).trans rfl, (blk_cell BK128.out 4).trans rfl⟩ (fun hHeld => ?_)
                      clear hK K
                      refine norm_ (a' := ?_) ?_ ?_
                      rotate_left
                      · show Act.put _ (some 28) _ = _
                        simp only [Act.put, List.setIfInBounds_toArray, List.set_cons_zero, List.set_cons_succ, i64_w, i32_w]
                        rfl
                      refine pure_ (i := 5) (N := some 29) (v := ?_) (a' := ?_) #[true, true, true, true, true, true, true, true, true, true, false, false, false] rfl rfl (any_of HT_.out (by kernel_rfl)) (fun _ _ _ h => h) (Or.inl ⟨by rfl, ?_⟩) ?_ ?_
                      rotate_left
                      · intro w'
                        go_simp
                        with_reducible rfl
                      rotate_left
                      · simp only [Act.put, List.setIfInBounds_toArray, List.set_cons_zero, List.set_cons_succ, i64_w, i32_w]
                        rfl
                      refine one_ (i := 10) (N := some 34) #[true, true, true, true, true, true, true, true, true, true, true, false, false] rfl rfl (one_of HT_.out (by kernel_rfl)) (by decide) (fun K hK => ?_)
                      refine goes_ Try.func27 (by kernel_rfl) rfl #[.int .i64 a0_0, .int .i64 a0_3] (by rfl) rfl rfl (by (try simp only [List.map_toArray, List.map_cons, List.map_nil]); first | done | rfl | (simp only [List.length_drop, List.length_take]; rfl)) ?_
                      with_reducible refine (chandleryref11_number.calls a0_0 a0_3 t130 _ A18.out).mono ?_
                      rintro e w' ⟨rfl, ⟨nd, rfl⟩⟩
                      refine ⟨_, rfl, ?_⟩
                      refine hK.out _ _ ⟨(blk_cell BK128.out 0).trans rfl, (blk_cell BK128.out 1).trans rfl, (blk_cell BK128.out 2).trans rfl, (blk_cell BK128.out 3).trans rfl, (blk_cell BK128.out 4).trans rfl⟩ (fun hHeld => ?_)
                      clear hK K
                      refine norm_ (a' := ?_) ?_ ?_
                      rotate_left
                      · show Act.put _ (some 34) _ = _
                        simp only [Act.put, List.setIfInBounds_toArray, List.set_cons_zero, List.set_cons_succ, i64_w, i32_w]
                        rfl
                      refine pure_ (i := 11) (N := some 2) (v := ?_) (a' := ?_) #[true, true, true, true, true, true, true, true, true, true, true, true, false] rfl rfl (any_of HT_.out (by kernel_rfl)) (fun _ _ _ h => h) (Or.inl ⟨by rfl, ?_⟩) ?_ ?_
                      rotate_left
                      · intro w'
                        go_simp
                        with_reducible rfl
                      rotate_left
                      · simp only [Act.put, List.setIfInBounds_toArray, List.set_cons_zero, List.set_cons_succ, i64_w, i32_w]
                        rfl
                      refine pure_ (i := 12) (N := some 3) (v := ?_) (a' := ?_) #[true, true, true, true, true, true, true, true, true, true, true, true, true] rfl rfl (any_of HT_.out (by kernel_rfl)) (fun _ _ _ h => h) (Or.inl ⟨by rfl, ?_⟩) ?_ ?_
                      rotate_left
                      · intro w'
                        go_simp
                        with_reducible rfl
                      rotate_left
                      · simp only [Act.put, List.setIfInBounds_toArray, List.set_cons_zero, List.set_cons_succ, i64_w, i32_w]
                        rfl
                      refine done_ (done_of HT_.out (by kernel_rfl)) ?_
                      try go_wp2
                      go_ret2
                      exact ⟨by first | rfl | (simp [errW_none, errW_some] <;> rfl) | (simp only [← hji15]; first | rfl | (simp [errW_none, errW_some] <;> rfl)) | (simp [*, errW_none, errW_some] <;> rfl), by repeat (first | (with_reducible first | exact HB.out | apply below_alloc | apply pw_below_drewN | apply below_drew1 | refine below_set ?_ GE128.out) | exact HB.out)⟩
                    · rw [if_neg c17] at H
                      exact absurd H (by simp)
                  · replace c14 := Bool.eq_false_iff.mpr c14
                    subst c14
                    have H1 : (if a0_0 = 6 then (if ((⟨#[32, 110, 105, 99, 100, 112, 114, 117, 102, 103, 116]⟩ : ByteArray).extract (a0_0 : Int).toNat ((wrap64 (a0_0 + 1)) : Int).toNat).size + a0_1.size ≤ 9223372036854775807 then (if (((⟨#[32, 110, 105, 99, 100, 112, 114, 117, 102, 103, 116]⟩ : ByteArray).extract (a0_0 : Int).toNat ((wrap64 (a0_0 + 1)) : Int).toNat) ++ a0_1).size + 1 ≤ 9223372036854775807 then ((chandleryref11_Name.f kj10 a0_1).bind fun t131 => (some ((((⟨#[32, 110, 105, 99, 100, 112, 114, 117, 102, 103, 116]⟩ : ByteArray).extract (a0_0 : Int).toNat ((wrap64 (a0_0 + 1)) : Int).toNat) ++ a0_1) ++ (⟨#[0]⟩ : ByteArray), t131))) else (none)) else (none)) else (if a0_0 = 7 then (if ((⟨#[32, 110, 105, 99, 100, 112, 114, 117, 102, 103, 116]⟩ : ByteArray).extract (a0_0 : Int).toNat ((wrap64 (a0_0 + 1)) : Int).toNat).size + a0_1.size ≤ 9223372036854775807 then (if (((⟨#[32, 110, 105, 99, 100, 112, 114, 117, 102, 103, 116]⟩ : ByteArray).extract (a0_0 : Int).toNat ((wrap64 (a0_0 + 1)) : Int).toNat) ++ a0_1).size + 1 ≤ 9223372036854775807 then ((chandleryref11_Name.f kj10 a0_1).bind fun t132 => (some ((((⟨#[32, 110, 105, 99, 100, 112, 114, 117, 102, 103, 116]⟩ : ByteArray).extract (a0_0 : Int).toNat ((wrap64 (a0_0 + 1)) : Int).toNat) ++ a0_1) ++ (⟨#[0]⟩ : ByteArray), t132))) else (none)) else (none)) else (if a0_0 = 9 then (if ((⟨#[32, 110, 105, 99, 100, 112, 114, 117, 102, 103, 116]⟩ : ByteArray).extract (a0_0 : Int).toNat ((wrap64 (a0_0 + 1)) : Int).toNat).size + a0_1.size ≤ 9223372036854775807 then (if (((⟨#[32, 110, 105, 99, 100, 112, 114, 117, 102, 103, 116]⟩ : ByteArray).extract (a0_0 : Int).toNat ((wrap64 (a0_0 + 1)) : Int).toNat) ++ a0_1).size + 1 ≤ 9223372036854775807 then ((chandleryref11_Name.f kj10 a0_1).bind fun t133 => (some ((((⟨#[32, 110, 105, 99, 100, 112, 114, 117, 102, 103, 116]⟩ : ByteArray).extract (a0_0 : Int).toNat ((wrap64 (a0_0 + 1)) : Int).toNat) ++ a0_1) ++ (⟨#[0]⟩ : ByteArray), t133))) else (none)) else (none)) else (some (((⟨#[32, 110, 105, 99, 100, 112, 114, 117, 102, 103, 116]⟩ : ByteArray).extract (a0_0 : Int).toNat ((wrap64 (a0_0 + 1)) : Int).toNat), true))))) = some (r1, r2) := by rw [if_neg (show ¬ (false = true) by decide)] at H; exact H
                    clear H
                    have H := H1
                    clear H1
                    by_cases c21 : a0_0 = 6
                    · rw [if_pos c21] at H
                      have c21b0 : (a0_0 == 6) = true := beq_iff_eq.mpr c21
                      have c21b1 : (a0_0 != 6) = false := bne_eq_false_iff_eq.mpr c21
                      clear c21
                      by_cases c22 : ((⟨#[32, 110, 105, 99, 100, 112, 114, 117, 102, 103, 116]⟩ : ByteArray).extract (a0_0 : Int).toNat ((wrap64 (a0_0 + 1)) : Int).toNat).size + a0_1.size ≤ 9223372036854775807
                      · rw [if_pos c22] at H
                        have c22b0 := eq_true c22
                        have c22b1 : decide (((⟨#[32, 110, 105, 99, 100, 112, 114, 117, 102, 103, 116]⟩ : ByteArray).extract (a0_0 : Int).toNat ((wrap64 (a0_0 + 1)) : Int).toNat).size + a0_1.size ≤ 9223372036854775807) = true := decide_eq_true c22
                        try have c22b2 : (9223372036854775807 < ((⟨#[32, 110, 105, 99, 100, 112, 114, 117, 102, 103, 116]⟩ : ByteArray).extract (a0_0 : Int).toNat ((wrap64 (a0_0 + 1)) : Int).toNat).size + a0_1.size) = False := eq_false (Nat.not_lt.2 c22)
                        try have c22b3 : (9223372036854775807 < ((⟨#[32, 110, 105, 99, 100, 112, 114, 117, 102, 103, 116]⟩ : ByteArray).extract (a0_0 : Int).toNat ((wrap64 (a0_0 + 1)) : Int).toNat).size + a0_1.size) = False := eq_false (by (have h0_ := Nat.not_lt.2 c22); (simp only [ByteArray.size_append, ByteArray.size_extract] at h0_);  omega)
                        try have c22b5 : (9223372036854775807 < ((min ((wrap64 (a0_0 + 1)) : Int).toNat 11) - (a0_0 : Int).toNat) + a0_1.size) = False := eq_false (by (have h0_ := Nat.not_lt.2 c22); (simp only [ByteArray.size_append, ByteArray.size_extract] at h0_);  (try simp only [show (⟨#[32, 110, 105, 99, 100, 112, 114, 117, 102, 103, 116]⟩ : ByteArray).size = 11 from rfl] at h0_); omega)
                        try have c22b6 : (9223372036854775807 < (((wrap64 (a0_0 + 1)) : Int).toNat - (a0_0 : Int).toNat) + a0_1.size) = False := eq_false (by (have h0_ := Nat.not_lt.2 c22); (simp only [ByteArray.size_append, ByteArray.size_extract] at h0_); (try have hc10_ := of_decide_eq_true c10b1); (try simp only [show (⟨#[32, 110, 105, 99, 100, 112, 114, 117, 102, 103, 116]⟩ : ByteArray).size = 11 from rfl] at h0_); omega)
                        by_cases c23 : (((⟨#[32, 110, 105, 99, 100, 112, 114, 117, 102, 103, 116]⟩ : ByteArray).extract (a0_0 : Int).toNat ((wrap64 (a0_0 + 1)) : Int).toNat) ++ a0_1).size + 1 ≤ 9223372036854775807
                        · rw [if_pos c23] at H
                          have c23b0 := eq_true c23
                          have c23b1 : decide ((((⟨#[32, 110, 105, 99, 100, 112, 114, 117, 102, 103, 116]⟩ : ByteArray).extract (a0_0 : Int).toNat ((wrap64 (a0_0 + 1)) : Int).toNat) ++ a0_1).size + 1 ≤ 9223372036854775807) = true := decide_eq_true c23
                          try have c23b2 : (9223372036854775807 < (((⟨#[32, 110, 105, 99, 100, 112, 114, 117, 102, 103, 116]⟩ : ByteArray).extract (a0_0 : Int).toNat ((wrap64 (a0_0 + 1)) : Int).toNat) ++ a0_1).size + 1) = False := eq_false (Nat.not_lt.2 c23)
                          try have c23b3 : (9223372036854775807 < (((⟨#[32, 110, 105, 99, 100, 112, 114, 117, 102, 103, 116]⟩ : ByteArray).extract (a0_0 : Int).toNat ((wrap64 (a0_0 + 1)) : Int).toNat) ++ a0_1).size + 1) = False := eq_false (by (have h0_ := Nat.not_lt.2 c23); (simp only [ByteArray.size_append, ByteArray.size_extract] at h0_);  omega)
                          try have c23b5 : (9223372036854775807 < (((min ((wrap64 (a0_0 + 1)) : Int).toNat 11) - (a0_0 : Int).toNat) + a0_1.size) + 1) = False := eq_false (by (have h0_ := Nat.not_lt.2 c23); (simp only [ByteArray.size_append, ByteArray.size_extract] at h0_);  (try simp only [show (⟨#[32, 110, 105, 99, 100, 112, 114, 117, 102, 103, 116]⟩ : ByteArray).size = 11 from rfl] at h0_); omega)
                          try have c23b6 : (9223372036854775807 < ((((wrap64 (a0_0 + 1)) : Int).toNat - (a0_0 : Int).toNat) + a0_1.size) + 1) = False := eq_false (by (have h0_ := Nat.not_lt.2 c23); (simp only [ByteArray.size_append, ByteArray.size_extract] at h0_); (try have hc10_ := of_decide_eq_true c10b1); (try simp only [show (⟨#[32, 110, 105, 99, 100, 112, 114, 117, 102, 103, 116]⟩ : ByteArray).size = 11 from rfl] at h0_); omega)
                          replace H := Option.bind_eq_some_iff.mp H
                          obtain ⟨t131, A240, H⟩ := H
                          replace H : (some ((((⟨#[32, 110, 105, 99, 100, 112, 114, 117, 102, 103, 116]⟩ : ByteArray).extract (a0_0 : Int).toNat ((wrap64 (a0_0 + 1)) : Int).toNat) ++ a0_1) ++ (⟨#[0]⟩ : ByteArray), t131)) = some (r1, r2) := H
                          have A24 := Aside0.mk A240
                          clear A240
                          simp only [Option.some.injEq, Prod.mk.injEq] at H
                          obtain ⟨rfl, rfl⟩ := H
                          try go_wp2
                          have n0_ := Aside0.mk (blk_drew BK128.out)
                          have n1_ := Aside0.mk (below_drew1 HB.out)
                          clear BK128
                          clear HB
                          have BK128 := n0_
                          have HB := n1_
                          clear n0_ n1_
                          refine start_ (n := 10) (S := fun w' => w'.cell? ⟨gb128, 0, none⟩ = some (.int .i64 a0_0) ∧ w'.cell? ⟨gb128, 1, none⟩ = some (.string a0_1) ∧ w'.cell? ⟨gb128, 2, none⟩ = some (.string a0_2) ∧ w'.cell? ⟨gb128, 3, none⟩ = some (.int .i64 a0_3) ∧ w'.cell? ⟨gb128, 4, none⟩ = some (.int .i64 a0_4)) (ds := []) #[false, false, false, false, false, false, false, false, false, false] (by kernel_rfl) rfl rfl ⟨(blk_cell BK128.out 0).trans rfl, (blk_cell BK128.out 1).trans rfl, (blk_cell BK128.out 2).trans rfl, (blk_cell BK128.out 3).trans rfl, (blk_cell BK128.out 4).trans rfl⟩ (fun hHeld => ?_); refine with_tabW chandleryref11_Prefix.tab11 chandleryref11_Prefix.bits11 (fun HT_ HW_ => ?_)
                          generalize wc.drew = w25 at BK128 HB hHeld ⊢
                          refine pure_ (i := 0) (N := some 39) (v := ?_) (a' := ?_) #[true, false, false, false, false, false, false, false, false, false] rfl rfl (any_of HT_.out (by kernel_rfl)) (fun _ _ _ h => h) (Or.inl ⟨by rfl, ?_⟩) ?_ ?_
                          rotate_left
                          · intro w'
                            go_simp
                            with_reducible rfl
                          rotate_left
                          · simp only [Act.put, List.setIfInBounds_toArray, List.set_cons_zero, List.set_cons_succ, i64_w, i32_w]
                            rfl
                          refine pure_ (i := 1) (N := some 40) (v := ?_) (a' := ?_) #[true, true, false, false, false, false, false, false, false, false] rfl rfl (any_of HT_.out (by kernel_rfl)) (fun _ _ _ h => h) (Or.inl ⟨by rfl, ?_⟩) ?_ ?_
                          rotate_left
                          · intro w'
                            go_simp
                            with_reducible rfl
                          rotate_left
                          · simp only [Act.put, List.setIfInBounds_toArray, List.set_cons_zero, List.set_cons_succ, i64_w, i32_w]
                            rfl
                          refine pure_ (i := 5) (N := some 44) (v := ?_) (a' := ?_) #[true, true, false, false, false, true, false, false, false, false] rfl rfl (any_of HT_.out (by kernel_rfl)) (fun _ _ _ h => h) (Or.inl ⟨by rfl, ?_⟩) ?_ ?_
                          rotate_left
                          · intro w'
                            go_simp
                            with_reducible rfl
                          rotate_left
                          · simp only [Act.put, List.setIfInBounds_toArray, List.set_cons_zero, List.set_cons_succ, i64_w, i32_w]
                            rfl
                          refine take_ (i := 2) (N := some 41) (v := ?_) (a' := ?_) #[true, true, true, false, false, true, false, false, false, false] rfl rfl (take_ofW HT_.out HW_.out (by kernel_rfl)) (fun _ _ _ h => h) (Or.inl ⟨by rfl, ?_⟩) hHeld ?_ ?_
                          rotate_left
                          · rintro w' ⟨s0, s1, s2, s3, s4⟩
                            go_simp
                            with_reducible rfl
                          rotate_left
                          · simp only [Act.put, List.setIfInBounds_toArray, List.set_cons_zero, List.set_cons_succ, i64_w, i32_w]
                            rfl
                          refine pure_ (i := 3) (N := some 42) (v := ?_) (a' := ?_) #[true, true, true, true, false, true, false, false, false, false] rfl rfl (any_of HT_.out (by kernel_rfl)) (fun _ _ _ h => h) (Or.inl ⟨by rfl, ?_⟩) ?_ ?_
                          rotate_left
                          · intro w'
                            go_simp
                            with_reducible rfl
                          rotate_left
                          · simp only [Act.put, List.setIfInBounds_toArray, List.set_cons_zero, List.set_cons_succ, i64_w, i32_w]
                            rfl
                          refine pure_ (i := 4) (N := some 43) (v := ?_) (a' := ?_) #[true, true, true, true, true, true, false, false, false, false] rfl rfl (any_of HT_.out (by kernel_rfl)) (fun _ _ _ h => h) (Or.inl ⟨by rfl, ?_⟩) ?_ ?_
                          rotate_left
                          · intro w'
                            go_simp
                            with_reducible rfl
                          rotate_left
                          · simp only [Act.put, List.setIfInBounds_toArray, List.set_cons_zero, List.set_cons_succ, i64_w, i32_w]
                            rfl
                          refine take_ (i := 6) (N := some 45) (v := ?_) (a' := ?_) #[true, true, true, true, true, true, true, false, false, false] rfl rfl (take_ofW HT_.out HW_.out (by kernel_rfl)) (fun _ _ _ h => h) (Or.inl ⟨by rfl, ?_⟩) hHeld ?_ ?_
                          rotate_left
                          · rintro w' ⟨s0, s1, s2, s3, s4⟩
                            go_simp
                            with_reducible rfl
                          rotate_left
                          · simp only [Act.put, List.setIfInBounds_toArray, List.set_cons_zero, List.set_cons_succ, i64_w, i32_w]
                            rfl
                          refine one_ (i := 7) (N := some 46) #[true, true, true, true, true, true, true, true, false, false] rfl rfl (one_of HT_.out (by kernel_rfl)) (by decide) (fun K hK => ?_)
                          refine goes_ Try.func28 (by kernel_rfl) rfl #[.string a0_1] (by rfl) rfl rfl (by (try simp only [List.map_toArray, List.map_cons, List.map_nil]); first | done | rfl | (simp only [List.length_drop, List.length_take]; rfl)) ?_
                          with_reducible refine (chandleryref11_Name.calls kj10 a0_1 t131 _ A24.out).mono ?_
                          rintro e w' ⟨rfl, ⟨nd, rfl⟩⟩
                          refine ⟨_, rfl, ?_⟩
                          refine hK.out _ _ ⟨(blk_cell BK128.out 0).trans rfl, (blk_cell BK128.out 1).trans rfl, (blk_cell BK128.out 2).trans rfl, (blk_cell BK128.out 3).trans rfl, (blk_cell BK128.out 4).trans rfl⟩ (fun hHeld => ?_)
                          clear hK K
                          refine norm_ (a' := ?_) ?_ ?_
                          rotate_left
                          · show Act.put _ (some 46) _ = _
                            simp only [Act.put, List.setIfInBounds_toArray, List.set_cons_zero, List.set_cons_succ, i64_w, i32_w]
                            rfl
                          refine pure_ (i := 8) (N := some 2) (v := ?_) (a' := ?_) #[true, true, true, true, true, true, true, true, true, false] rfl rfl (any_of HT_.out (by kernel_rfl)) (fun _ _ _ h => h) (Or.inl ⟨by rfl, ?_⟩) ?_ ?_
                          rotate_left
                          · intro w'
                            go_simp
                            with_reducible rfl
                          rotate_left
                          · simp only [Act.put, List.setIfInBounds_toArray, List.set_cons_zero, List.set_cons_succ, i64_w, i32_w]
                            rfl
                          refine pure_ (i := 9) (N := some 3) (v := ?_) (a' := ?_) #[true, true, true, true, true, true, true, true, true, true] rfl rfl (any_of HT_.out (by kernel_rfl)) (fun _ _ _ h => h) (Or.inl ⟨by rfl, ?_⟩) ?_ ?_
                          rotate_left
                          · intro w'
                            go_simp
                            with_reducible rfl
                          rotate_left
                          · simp only [Act.put, List.setIfInBounds_toArray, List.set_cons_zero, List.set_cons_succ, i64_w, i32_w]
                            rfl
                          refine done_ (done_of HT_.out (by kernel_rfl)) ?_
                          try go_wp2
                          go_ret2
                          exact ⟨by first | rfl | (simp [errW_none, errW_some] <;> rfl) | (simp [*, errW_none, errW_some] <;> rfl), by repeat (first | (with_reducible first | exact HB.out | apply below_alloc | apply pw_below_drewN | apply below_drew1 | refine below_set ?_ GE128.out) | exact HB.out)⟩
                        · rw [if_neg c23] at H
                          exact absurd H (by simp)
                      · rw [if_neg c22] at H
                        exact absurd H (by simp)
                    · rw [if_neg c21] at H
                      have c21b0 : (a0_0 == 6) = false := beq_eq_false_iff_ne.mpr c21
                      have c21b1 : (a0_0 != 6) = true := bne_iff_ne.mpr c21
                      by_cases c26 : a0_0 = 7
                      · rw [if_pos c26] at H
                        have c26b0 : (a0_0 == 7) = true := beq_iff_eq.mpr c26
                        have c26b1 : (a0_0 != 7) = false := bne_eq_false_iff_eq.mpr c26
                        clear c26
                        by_cases c27 : ((⟨#[32, 110, 105, 99, 100, 112, 114, 117, 102, 103, 116]⟩ : ByteArray).extract (a0_0 : Int).toNat ((wrap64 (a0_0 + 1)) : Int).toNat).size + a0_1.size ≤ 9223372036854775807
                        · rw [if_pos c27] at H
                          have c27b0 := eq_true c27
                          have c27b1 : decide (((⟨#[32, 110, 105, 99, 100, 112, 114, 117, 102, 103, 116]⟩ : ByteArray).extract (a0_0 : Int).toNat ((wrap64 (a0_0 + 1)) : Int).toNat).size + a0_1.size ≤ 9223372036854775807) = true := decide_eq_true c27
                          try have c27b2 : (9223372036854775807 < ((⟨#[32, 110, 105, 99, 100, 112, 114, 117, 102, 103, 116]⟩ : ByteArray).extract (a0_0 : Int).toNat ((wrap64 (a0_0 + 1)) : Int).toNat).size + a0_1.size) = False := eq_false (Nat.not_lt.2 c27)
                          try have c27b3 : (9223372036854775807 < ((⟨#[32, 110, 105, 99, 100, 112, 114, 117, 102, 103, 116]⟩ : ByteArray).extract (a0_0 : Int).toNat ((wrap64 (a0_0 + 1)) : Int).toNat).size + a0_1.size) = False := eq_false (by (have h0_ := Nat.not_lt.2 c27); (simp only [ByteArray.size_append, ByteArray.size_extract] at h0_);  omega)
                          try have c27b5 : (9223372036854775807 < ((min ((wrap64 (a0_0 + 1)) : Int).toNat 11) - (a0_0 : Int).toNat) + a0_1.size) = False := eq_false (by (have h0_ := Nat.not_lt.2 c27); (simp only [ByteArray.size_append, ByteArray.size_extract] at h0_);  (try simp only [show (⟨#[32, 110, 105, 99, 100, 112, 114, 117, 102, 103, 116]⟩ : ByteArray).size = 11 from rfl] at h0_); omega)
                          try have c27b6 : (9223372036854775807 < (((wrap64 (a0_0 + 1)) : Int).toNat - (a0_0 : Int).toNat) + a0_1.size) = False := eq_false (by (have h0_ := Nat.not_lt.2 c27); (simp only [ByteArray.size_append, ByteArray.size_extract] at h0_); (try have hc10_ := of_decide_eq_true c10b1); (try simp only [show (⟨#[32, 110, 105, 99, 100, 112, 114, 117, 102, 103, 116]⟩ : ByteArray).size = 11 from rfl] at h0_); omega)
                          by_cases c28 : (((⟨#[32, 110, 105, 99, 100, 112, 114, 117, 102, 103, 116]⟩ : ByteArray).extract (a0_0 : Int).toNat ((wrap64 (a0_0 + 1)) : Int).toNat) ++ a0_1).size + 1 ≤ 9223372036854775807
                          · rw [if_pos c28] at H
                            have c28b0 := eq_true c28
                            have c28b1 : decide ((((⟨#[32, 110, 105, 99, 100, 112, 114, 117, 102, 103, 116]⟩ : ByteArray).extract (a0_0 : Int).toNat ((wrap64 (a0_0 + 1)) : Int).toNat) ++ a0_1).size + 1 ≤ 9223372036854775807) = true := decide_eq_true c28
                            try have c28b2 : (9223372036854775807 < (((⟨#[32, 110, 105, 99, 100, 112, 114, 117, 102, 103, 116]⟩ : ByteArray).extract (a0_0 : Int).toNat ((wrap64 (a0_0 + 1)) : Int).toNat) ++ a0_1).size + 1) = False := eq_false (Nat.not_lt.2 c28)
                            try have c28b3 : (9223372036854775807 < (((⟨#[32, 110, 105, 99, 100, 112, 114, 117, 102, 103, 116]⟩ : ByteArray).extract (a0_0 : Int).toNat ((wrap64 (a0_0 + 1)) : Int).toNat) ++ a0_1).size + 1) = False := eq_false (by (have h0_ := Nat.not_lt.2 c28); (simp only [ByteArray.size_append, ByteArray.size_extract] at h0_);  omega)
                            try have c28b5 : (9223372036854775807 < (((min ((wrap64 (a0_0 + 1)) : Int).toNat 11) - (a0_0 : Int).toNat) + a0_1.size) + 1) = False := eq_false (by (have h0_ := Nat.not_lt.2 c28); (simp only [ByteArray.size_append, ByteArray.size_extract] at h0_);  (try simp only [show (⟨#[32, 110, 105, 99, 100, 112, 114, 117, 102, 103, 116]⟩ : ByteArray).size = 11 from rfl] at h0_); omega)
                            try have c28b6 : (9223372036854775807 < ((((wrap64 (a0_0 + 1)) : Int).toNat - (a0_0 : Int).toNat) + a0_1.size) + 1) = False := eq_false (by (have h0_ := Nat.not_lt.2 c28); (simp only [ByteArray.size_append, ByteArray.size_extract] at h0_); (try have hc10_ := of_decide_eq_true c10b1); (try simp only [show (⟨#[32, 110, 105, 99, 100, 112, 114, 117, 102, 103, 116]⟩ : ByteArray).size = 11 from rfl] at h0_); omega)
                            replace H := Option.bind_eq_some_iff.mp H
                            obtain ⟨t132, A290, H⟩ := H
                            replace H : (some ((((⟨#[32, 110, 105, 99, 100, 112, 114, 117, 102, 103, 116]⟩ : ByteArray).extract (a0_0 : Int).toNat ((wrap64 (a0_0 + 1)) : Int).toNat) ++ a0_1) ++ (⟨#[0]⟩ : ByteArray), t132)) = some (r1, r2) := H
                            have A29 := Aside0.mk A290
                            clear A290
                            simp only [Option.some.injEq, Prod.mk.injEq] at H
                            obtain ⟨rfl, rfl⟩ := H
                            try go_wp2
                            have n0_ := Aside0.mk (blk_drew BK128.out)
                            have n1_ := Aside0.mk (below_drew1 HB.out)
                            clear BK128
                            clear HB
                            have BK128 := n0_
                            have HB := n1_
                            clear n0_ n1_
                            refine start_ (n := 10) (S := fun w' => w'.cell? ⟨gb128, 0, none⟩ = some (.int .i64 a0_0) ∧ w'.cell? ⟨gb128, 1, none⟩ = some (.string a0_1) ∧ w'.cell? ⟨gb128, 2, none⟩ = some (.string a0_2) ∧ w'.cell? ⟨gb128, 3, none⟩ = some (.int .i64 a0_3) ∧ w'.cell? ⟨gb128, 4, none⟩ = some (.int .i64 a0_4)) (ds := []) #[false, false, false, false, false, false, false, false, false, false] (by kernel_rfl) rfl rfl ⟨(blk_cell BK128.out 0).trans rfl, (blk_cell BK128.out 1).trans rfl, (blk_cell BK128.out 2).trans rfl, (blk_cell BK128.out 3).trans rfl, (blk_cell BK128.out 4).trans rfl⟩ (fun hHeld => ?_); refine with_tabW chandleryref11_Prefix.tab11 chandleryref11_Prefix.bits11 (fun HT_ HW_ => ?_)
                            generalize wc.drew = w30 at BK128 HB hHeld ⊢
                            refine pure_ (i := 0) (N := some 39) (v := ?_) (a' := ?_) #[true, false, false, false, false, false, false, false, false, false] rfl rfl (any_of HT_.out (by kernel_rfl)) (fun _ _ _ h => h) (Or.inl ⟨by rfl, ?_⟩) ?_ ?_
                            rotate_left
                            · intro w'
                              go_simp
                              with_reducible rfl
                            rotate_left
                            · simp only [Act.put, List.setIfInBounds_toArray, List.set_cons_zero, List.set_cons_succ, i64_w, i32_w]
                              rfl
                            refine pure_ (i := 1) (N := some 40) (v := ?_) (a' := ?_) #[true, true, false, false, false, false, false, false, false, false] rfl rfl (any_of HT_.out (by kernel_rfl)) (fun _ _ _ h => h) (Or.inl ⟨by rfl, ?_⟩) ?_ ?_
                            rotate_left
                            · intro w'
                              go_simp
                              with_reducible rfl
                            rotate_left
                            · simp only [Act.put, List.setIfInBounds_toArray, List.set_cons_zero, List.set_cons_succ, i64_w, i32_w]
                              rfl
                            refine pure_ (i := 5) (N := some 44) (v := ?_) (a' := ?_) #[true, true, false, false, false, true, false, false, false, false] rfl rfl (any_of HT_.out (by kernel_rfl)) (fun _ _ _ h => h) (Or.inl ⟨by rfl, ?_⟩) ?_ ?_
                            rotate_left
                            · intro w'
                              go_simp
                              with_reducible rfl
                            rotate_left
                            · simp only [Act.put, List.setIfInBounds_toArray, List.set_cons_zero, List.set_cons_succ, i64_w, i32_w]
                              rfl
                            refine take_ (i := 2) (N := some 41) (v := ?_) (a' := ?_) #[true, true, true, false, false, true, false, false, false, false] rfl rfl (take_ofW HT_.out HW_.out (by kernel_rfl)) (fun _ _ _ h => h) (Or.inl ⟨by rfl, ?_⟩) hHeld ?_ ?_
                            rotate_left
                            · rintro w' ⟨s0, s1, s2, s3, s4⟩
                              go_simp
                              with_reducible rfl
                            rotate_left
                            · simp only [Act.put, List.setIfInBounds_toArray, List.set_cons_zero, List.set_cons_succ, i64_w, i32_w]
                              rfl
                            refine pure_ (i := 3) (N := some 42) (v := ?_) (a' := ?_) #[true, true, true, true, false, true, false, false, false, false] rfl rfl (any_of HT_.out (by kernel_rfl)) (fun _ _ _ h => h) (Or.inl ⟨by rfl, ?_⟩) ?_ ?_
                            rotate_left
                            · intro w'
                              go_simp
                              with_reducible rfl
                            rotate_left
                            · simp only [Act.put, List.setIfInBounds_toArray, List.set_cons_zero, List.set_cons_succ, i64_w, i32_w]
                              rfl
                            refine pure_ (i := 4) (N := some 43) (v := ?_) (a' := ?_) #[true, true, true, true, true, true, false, false, false, false] rfl rfl (any_of HT_.out (by kernel_rfl)) (fun _ _ _ h => h) (Or.inl ⟨by rfl, ?_⟩) ?_ ?_
                            rotate_left
                            · intro w'
                              go_simp
                              with_reducible rfl
                            rotate_left
                            · simp only [Act.put, List.setIfInBounds_toArray, List.set_cons_zero, List.set_cons_succ, i64_w, i32_w]
                              rfl
                            refine take_ (i := 6) (N := some 45) (v := ?_) (a' := ?_) #[true, true, true, true, true, true, true, false, false, false] rfl rfl (take_ofW HT_.out HW_.out (by kernel_rfl)) (fun _ _ _ h => h) (Or.inl ⟨by rfl, ?_⟩) hHeld ?_ ?_
                            rotate_left
                            · rintro w' ⟨s0, s1, s2, s3, s4⟩
                              go_simp
                              with_reducible rfl
                            rotate_left
                            · simp only [Act.put, List.setIfInBounds_toArray, List.set_cons_zero, List.set_cons_succ, i64_w, i32_w]
                              rfl
                            refine one_ (i := 7) (N := some 46) #[true, true, true, true, true, true, true, true, false, false] rfl rfl (one_of HT_.out (by kernel_rfl)) (by decide) (fun K hK => ?_)
                            refine goes_ Try.func28 (by kernel_rfl) rfl #[.string a0_1] (by rfl) rfl rfl (by (try simp only [List.map_toArray, List.map_cons, List.map_nil]); first | done | rfl | (simp only [List.length_drop, List.length_take]; rfl)) ?_
                            with_reducible refine (chandleryref11_Name.calls kj10 a0_1 t132 _ A29.out).mono ?_
                            rintro e w' ⟨rfl, ⟨nd, rfl⟩⟩
                            refine ⟨_, rfl, ?_⟩
                            refine hK.out _ _ ⟨(blk_cell BK128.out 0).trans rfl, (blk_cell BK128.out 1).trans rfl, (blk_cell BK128.out 2).trans rfl, (blk_cell BK128.out 3).trans rfl, (blk_cell BK128.out 4).trans rfl⟩ (fun hHeld => ?_)
                            clear hK K
                            refine norm_ (a' := ?_) ?_ ?_
                            rotate_left
                            · show Act.put _ (some 46) _ = _
                              simp only [Act.put, List.setIfInBounds_toArray, List.set_cons_zero, List.set_cons_succ, i64_w, i32_w]
                              rfl
                            refine pure_ (i := 8) (N := some 2) (v := ?_) (a' := ?_) #[true, true, true, true, true, true, true, true, true, false] rfl rfl (any_of HT_.out (by kernel_rfl)) (fun _ _ _ h => h) (Or.inl ⟨by rfl, ?_⟩) ?_ ?_
                            rotate_left
                            · intro w'
                              go_simp
                              with_reducible rfl
                            rotate_left
                            · simp only [Act.put, List.setIfInBounds_toArray, List.set_cons_zero, List.set_cons_succ, i64_w, i32_w]
                              rfl
                            refine pure_ (i := 9) (N := some 3) (v := ?_) (a' := ?_) #[true, true, true, true, true, true, true, true, true, true] rfl rfl (any_of HT_.out (by kernel_rfl)) (fun _ _ _ h => h) (Or.inl ⟨by rfl, ?_⟩) ?_ ?_
                            rotate_left
                            · intro w'
                              go_simp
                              with_reducible rfl
                            rotate_left
                            · simp only [Act.put, List.setIfInBounds_toArray, List.set_cons_zero, List.set_cons_succ, i64_w, i32_w]
                              rfl
                            refine done_ (done_of HT_.out (by kernel_rfl)) ?_
                            try go_wp2
                            go_ret2
                            exact ⟨by first | rfl | (simp [errW_none, errW_some] <;> rfl) | (simp [*, errW_none, errW_some] <;> rfl), by repeat (first | (with_reducible first | exact HB.out | apply below_alloc | apply pw_below_drewN | apply below_drew1 | refine below_set ?_ GE128.out) | exact HB.out)⟩
                          · rw [if_neg c28] at H
                            exact absurd H (by simp)
                        · rw [if_neg c27] at H
                          exact absurd H (by simp)
                      · rw [if_neg c26] at H
                        have c26b0 : (a0_0 == 7) = false := beq_eq_false_iff_ne.mpr c26
                        have c26b1 : (a0_0 != 7) = true := bne_iff_ne.mpr c26
                        by_cases c31 : a0_0 = 9
                        · rw [if_pos c31] at H
                          have c31b0 : (a0_0 == 9) = true := beq_iff_eq.mpr c31
                          have c31b1 : (a0_0 != 9) = false := bne_eq_false_iff_eq.mpr c31
                          clear c31
                          by_cases c32 : ((⟨#[32, 110, 105, 99, 100, 112, 114, 117, 102, 103, 116]⟩ : ByteArray).extract (a0_0 : Int).toNat ((wrap64 (a0_0 + 1)) : Int).toNat).size + a0_1.size ≤ 9223372036854775807
                          · rw [if_pos c32] at H
                            have c32b0 := eq_true c32
                            have c32b1 : decide (((⟨#[32, 110, 105, 99, 100, 112, 114, 117, 102, 103, 116]⟩ : ByteArray).extract (a0_0 : Int).toNat ((wrap64 (a0_0 + 1)) : Int).toNat).size + a0_1.size ≤ 9223372036854775807) = true := decide_eq_true c32
                            try have c32b2 : (9223372036854775807 < ((⟨#[32, 110, 105, 99, 100, 112, 114, 117, 102, 103, 116]⟩ : ByteArray).extract (a0_0 : Int).toNat ((wrap64 (a0_0 + 1)) : Int).toNat).size + a0_1.size) = False := eq_false (Nat.not_lt.2 c32)
                            try have c32b3 : (9223372036854775807 < ((⟨#[32, 110, 105, 99, 100, 112, 114, 117, 102, 103, 116]⟩ : ByteArray).extract (a0_0 : Int).toNat ((wrap64 (a0_0 + 1)) : Int).toNat).size + a0_1.size) = False := eq_false (by (have h0_ := Nat.not_lt.2 c32); (simp only [ByteArray.size_append, ByteArray.size_extract] at h0_);  omega)
                            try have c32b5 : (9223372036854775807 < ((min ((wrap64 (a0_0 + 1)) : Int).toNat 11) - (a0_0 : Int).toNat) + a0_1.size) = False := eq_false (by (have h0_ := Nat.not_lt.2 c32); (simp only [ByteArray.size_append, ByteArray.size_extract] at h0_);  (try simp only [show (⟨#[32, 110, 105, 99, 100, 112, 114, 117, 102, 103, 116]⟩ : ByteArray).size = 11 from rfl] at h0_); omega)
                            try have c32b6 : (9223372036854775807 < (((wrap64 (a0_0 + 1)) : Int).toNat - (a0_0 : Int).toNat) + a0_1.size) = False := eq_false (by (have h0_ := Nat.not_lt.2 c32); (simp only [ByteArray.size_append, ByteArray.size_extract] at h0_); (try have hc10_ := of_decide_eq_true c10b1); (try simp only [show (⟨#[32, 110, 105, 99, 100, 112, 114, 117, 102, 103, 116]⟩ : ByteArray).size = 11 from rfl] at h0_); omega)
                            by_cases c33 : (((⟨#[32, 110, 105, 99, 100, 112, 114, 117, 102, 103, 116]⟩ : ByteArray).extract (a0_0 : Int).toNat ((wrap64 (a0_0 + 1)) : Int).toNat) ++ a0_1).size + 1 ≤ 9223372036854775807
                            · rw [if_pos c33] at H
                              have c33b0 := eq_true c33
                              have c33b1 : decide ((((⟨#[32, 110, 105, 99, 100, 112, 114, 117, 102, 103, 116]⟩ : ByteArray).extract (a0_0 : Int).toNat ((wrap64 (a0_0 + 1)) : Int).toNat) ++ a0_1).size + 1 ≤ 9223372036854775807) = true := decide_eq_true c33
                              try have c33b2 : (9223372036854775807 < (((⟨#[32, 110, 105, 99, 100, 112, 114, 117, 102, 103, 116]⟩ : ByteArray).extract (a0_0 : Int).toNat ((wrap64 (a0_0 + 1)) : Int).toNat) ++ a0_1).size + 1) = False := eq_false (Nat.not_lt.2 c33)
                              try have c33b3 : (9223372036854775807 < (((⟨#[32, 110, 105, 99, 100, 112, 114, 117, 102, 103, 116]⟩ : ByteArray).extract (a0_0 : Int).toNat ((wrap64 (a0_0 + 1)) : Int).toNat) ++ a0_1).size + 1) = False := eq_false (by (have h0_ := Nat.not_lt.2 c33); (simp only [ByteArray.size_append, ByteArray.size_extract] at h0_);  omega)
                              try have c33b5 : (9223372036854775807 < (((min ((wrap64 (a0_0 + 1)) : Int).toNat 11) - (a0_0 : Int).toNat) + a0_1.size) + 1) = False := eq_false (by (have h0_ := Nat.not_lt.2 c33); (simp only [ByteArray.size_append, ByteArray.size_extract] at h0_);  (try simp only [show (⟨#[32, 110, 105, 99, 100, 112, 114, 117, 102, 103, 116]⟩ : ByteArray).size = 11 from rfl] at h0_); omega)
                              try have c33b6 : (9223372036854775807 < ((((wrap64 (a0_0 + 1)) : Int).toNat - (a0_0 : Int).toNat) + a0_1.size) + 1) = False := eq_false (by (have h0_ := Nat.not_lt.2 c33); (simp only [ByteArray.size_append, ByteArray.size_extract] at h0_); (try have hc10_ := of_decide_eq_true c10b1); (try simp only [show (⟨#[32, 110, 105, 99, 100, 112, 114, 117, 102, 103, 116]⟩ : ByteArray).size = 11 from rfl] at h0_); omega)
                              replace H := Option.bind_eq_some_iff.mp H
                              obtain ⟨t133, A340, H⟩ := H
                              replace H : (some ((((⟨#[32, 110, 105, 99, 100, 112, 114, 117, 102, 103, 116]⟩ : ByteArray).extract (a0_0 : Int).toNat ((wrap64 (a0_0 + 1)) : Int).toNat) ++ a0_1) ++ (⟨#[0]⟩ : ByteArray), t133)) = some (r1, r2) := H
                              have A34 := Aside0.mk A340
                              clear A340
                              simp only [Option.some.injEq, Prod.mk.injEq] at H
                              obtain ⟨rfl, rfl⟩ := H
                              try go_wp2
                              have n0_ := Aside0.mk (blk_drew BK128.out)
                              have n1_ := Aside0.mk (below_drew1 HB.out)
                              clear BK128
                              clear HB
                              have BK128 := n0_
                              have HB := n1_
                              clear n0_ n1_
                              refine start_ (n := 10) (S := fun w' => w'.cell? ⟨gb128, 0, none⟩ = some (.int .i64 a0_0) ∧ w'.cell? ⟨gb128, 1, none⟩ = some (.string a0_1) ∧ w'.cell? ⟨gb128, 2, none⟩ = some (.string a0_2) ∧ w'.cell? ⟨gb128, 3, none⟩ = some (.int .i64 a0_3) ∧ w'.cell? ⟨gb128, 4, none⟩ = some (.int .i64 a0_4)) (ds := []) #[false, false, false, false, false, false, false, false, false, false] (by kernel_rfl) rfl rfl ⟨(blk_cell BK128.out 0).trans rfl, (blk_cell BK128.out 1).trans rfl, (blk_cell BK128.out 2).trans rfl, (blk_cell BK128.out 3).trans rfl, (blk_cell BK128.out 4).trans rfl⟩ (fun hHeld => ?_); refine with_tabW chandleryref11_Prefix.tab11 chandleryref11_Prefix.bits11 (fun HT_ HW_ => ?_)
                              generalize wc.drew = w35 at BK128 HB hHeld ⊢
                              refine pure_ (i := 0) (N := some 39) (v := ?_) (a' := ?_) #[true, false, false, false, false, false, false, false, false, false] rfl rfl (any_of HT_.out (by kernel_rfl)) (fun _ _ _ h => h) (Or.inl ⟨by rfl, ?_⟩) ?_ ?_
                              rotate_left
                              · intro w'
                                go_simp
                                with_reducible rfl
                              rotate_left
                              · simp only [Act.put, List.setIfInBounds_toArray, List.set_cons_zero, List.set_cons_succ, i64_w, i32_w]
                                rfl
                              refine pure_ (i := 1) (N := some 40) (v := ?_) (a' := ?_) #[true, true, false, false, false, false, false, false, false, false] rfl rfl (any_of HT_.out (by kernel_rfl)) (fun _ _ _ h => h) (Or.inl ⟨by rfl, ?_⟩) ?_ ?_
                              rotate_left
                              · intro w'
                                go_simp
                                with_reducible rfl
                              rotate_left
                              · simp only [Act.put, List.setIfInBounds_toArray, List.set_cons_zero, List.set_cons_succ, i64_w, i32_w]
                                rfl
                              refine pure_ (i := 5) (N := some 44) (v := ?_) (a' := ?_) #[true, true, false, false, false, true, false, false, false, false] rfl rfl (any_of HT_.out (by kernel_rfl)) (fun _ _ _ h => h) (Or.inl ⟨by rfl, ?_⟩) ?_ ?_
                              rotate_left
                              · intro w'
                                go_simp
                                with_reducible rfl
                              rotate_left
                              · simp only [Act.put, List.setIfInBounds_toArray, List.set_cons_zero, List.set_cons_succ, i64_w, i32_w]
                                rfl
                              refine take_ (i := 2) (N := some 41) (v := ?_) (a' := ?_) #[true, true, true, false, false, true, false, false, false, false] rfl rfl (take_ofW HT_.out HW_.out (by kernel_rfl)) (fun _ _ _ h => h) (Or.inl ⟨by rfl, ?_⟩) hHeld ?_ ?_
                              rotate_left
                              · rintro w' ⟨s0, s1, s2, s3, s4⟩
                                go_simp
                                with_reducible rfl
                              rotate_left
                              · simp only [Act.put, List.setIfInBounds_toArray, List.set_cons_zero, List.set_cons_succ, i64_w, i32_w]
                                rfl
                              refine pure_ (i := 3) (N := some 42) (v := ?_) (a' := ?_) #[true, true, true, true, false, true, false, false, false, false] rfl rfl (any_of HT_.out (by kernel_rfl)) (fun _ _ _ h => h) (Or.inl ⟨by rfl, ?_⟩) ?_ ?_
                              rotate_left
                              · intro w'
                                go_simp
                                with_reducible rfl
                              rotate_left
                              · simp only [Act.put, List.setIfInBounds_toArray, List.set_cons_zero, List.set_cons_succ, i64_w, i32_w]
                                rfl
                              refine pure_ (i := 4) (N := some 43) (v := ?_) (a' := ?_) #[true, true, true, true, true, true, false, false, false, false] rfl rfl (any_of HT_.out (by kernel_rfl)) (fun _ _ _ h => h) (Or.inl ⟨by rfl, ?_⟩) ?_ ?_
                              rotate_left
                              · intro w'
                                go_simp
                                with_reducible rfl
                              rotate_left
                              · simp only [Act.put, List.setIfInBounds_toArray, List.set_cons_zero, List.set_cons_succ, i64_w, i32_w]
                                rfl
                              refine take_ (i := 6) (N := some 45) (v := ?_) (a' := ?_) #[true, true, true, true, true, true, true, false, false, false] rfl rfl (take_ofW HT_.out HW_.out (by kernel_rfl)) (fun _ _ _ h => h) (Or.inl ⟨by rfl, ?_⟩) hHeld ?_ ?_
                              rotate_left
                              · rintro w' ⟨s0, s1, s2, s3, s4⟩
                                go_simp
                                with_reducible rfl
                              rotate_left
                              · simp only [Act.put, List.setIfInBounds_toArray, List.set_cons_zero, List.set_cons_succ, i64_w, i32_w]
                                rfl
                              refine one_ (i := 7) (N := some 46) #[true, true, true, true, true, true, true, true, false, false] rfl rfl (one_of HT_.out (by kernel_rfl)) (by decide) (fun K hK => ?_)
                              refine goes_ Try.func28 (by kernel_rfl) rfl #[.string a0_1] (by rfl) rfl rfl (by (try simp only [List.map_toArray, List.map_cons, List.map_nil]); first | done | rfl | (simp only [List.length_drop, List.length_take]; rfl)) ?_
                              with_reducible refine (chandleryref11_Name.calls kj10 a0_1 t133 _ A34.out).mono ?_
                              rintro e w' ⟨rfl, ⟨nd, rfl⟩⟩
                              refine ⟨_, rfl, ?_⟩
                              refine hK.out _ _ ⟨(blk_cell BK128.out 0).trans rfl, (blk_cell BK128.out 1).trans rfl, (blk_cell BK128.out 2).trans rfl, (blk_cell BK128.out 3).trans rfl, (blk_cell BK128.out 4).trans rfl⟩ (fun hHeld => ?_)
                              clear hK K
                              refine norm_ (a' := ?_) ?_ ?_
                              rotate_left
                              · show Act.put _ (some 46) _ = _
                                simp only [Act.put, List.setIfInBounds_toArray, List.set_cons_zero, List.set_cons_succ, i64_w, i32_w]
                                rfl
                              refine pure_ (i := 8) (N := some 2) (v := ?_) (a' := ?_) #[true, true, true, true, true, true, true, true, true, false] rfl rfl (any_of HT_.out (by kernel_rfl)) (fun _ _ _ h => h) (Or.inl ⟨by rfl, ?_⟩) ?_ ?_
                              rotate_left
                              · intro w'
                                go_simp
                                with_reducible rfl
                              rotate_left
                              · simp only [Act.put, List.setIfInBounds_toArray, List.set_cons_zero, List.set_cons_succ, i64_w, i32_w]
                                rfl
                              refine pure_ (i := 9) (N := some 3) (v := ?_) (a' := ?_) #[true, true, true, true, true, true, true, true, true, true] rfl rfl (any_of HT_.out (by kernel_rfl)) (fun _ _ _ h => h) (Or.inl ⟨by rfl, ?_⟩) ?_ ?_
                              rotate_left
                              · intro w'
                                go_simp
                                with_reducible rfl
                              rotate_left
                              · simp only [Act.put, List.setIfInBounds_toArray, List.set_cons_zero, List.set_cons_succ, i64_w, i32_w]
                                rfl
                              refine done_ (done_of HT_.out (by kernel_rfl)) ?_
                              try go_wp2
                              go_ret2
                              exact ⟨by first | rfl | (simp [errW_none, errW_some] <;> rfl) | (simp [*, errW_none, errW_some] <;> rfl), by repeat (first | (with_reducible first | exact HB.out | apply below_alloc | apply pw_below_drewN | apply below_drew1 | refine below_set ?_ GE128.out) | exact HB.out)⟩
                            · rw [if_neg c33] at H
                              exact absurd H (by simp)
                          · rw [if_neg c32] at H
                            exact absurd H (by simp)
                        · rw [if_neg c31] at H
                          have c31b0 : (a0_0 == 9) = false := beq_eq_false_iff_ne.mpr c31
                          have c31b1 : (a0_0 != 9) = true := bne_iff_ne.mpr c31
                          simp only [Option.some.injEq, Prod.mk.injEq] at H
                          obtain ⟨rfl, rfl⟩ := H
                          go_wp2
                          go_ret2
                          exact ⟨by first | rfl | (simp [errW_none, errW_some] <;> rfl) | (simp [*, errW_none, errW_some] <;> rfl), by repeat (first | (with_reducible first | exact HB.out | apply below_alloc | apply pw_below_drewN | apply below_drew1 | refine below_set ?_ GE128.out) | exact HB.out)⟩
            · rw [if_neg c10] at H
              exact absurd H (by simp)
          · rw [if_neg c9] at H
            exact absurd H (by simp)
        · rw [if_neg c8] at H
          exact absurd H (by simp)

end Go.Proofs.Ytcohfhclcoiigaa.PKeys
