-- printed with xprint.py over the kit's print
import Derived.Test.YtcohfhclcoiigaaQKeysx0
import Derived.Test.YtcohfhclcoiigaaQKeysx5
import Derived.Test.YtcohfhclcoiigaaQKeysx6
namespace Go.Proofs.Ytcohfhclcoiigaa.PKeys
open Go.RowKit Go.Proofs.YtcohfhclcoiigaaW.PrintWords Go.Proofs.YtcohfhclcoiigaaW.PrintLast Go.Proofs.YtcohfhclcoiigaaW.PrintMore
attribute [local go_sem] max2_int min2_int max_two min_two max_three min_three max_four min_four   -- for this text's walks alone
set_option linter.unusedVariables false
set_option linter.unusedSimpArgs false

/-! ### chandleryref11_May: function 14 -/
mutual
def chandleryref11_May.j0 : Nat → Bool → Int → ByteArray → ByteArray → Int → Int → Option (Bool)
  | 0, _, _, _, _, _, _ => none
  | k + 1, x14, x147000, x147001, x147002, x147003, x147004 => if x14 = true then (some false) else ((chandleryref11_shape.f k x147000).bind fun bt147 => (if bt147.1 = true then ((chandleryref11_Name.f k x147001).bind fun t151 => (if t151 = true then (if bt147.2.1 = true then ((chandleryref11_Name.f k x147002).bind fun t152 => (if t152 = true then (chandleryref11_May.j1 k bt147.2.2.1 bt147.2.2.2 false x147000 x147001 x147002 x147003 x147004) else (chandleryref11_May.j1 k bt147.2.2.1 bt147.2.2.2 true x147000 x147001 x147002 x147003 x147004))) else (chandleryref11_May.j1 k bt147.2.2.1 bt147.2.2.2 (x147002.toList != ([] : List UInt8)) x147000 x147001 x147002 x147003 x147004)) else (chandleryref11_May.j1 k bt147.2.2.1 bt147.2.2.2 true x147000 x147001 x147002 x147003 x147004))) else (if x147001.toList = ([] : List UInt8) then (if bt147.2.1 = true then ((chandleryref11_Name.f k x147002).bind fun t153 => (if t153 = true then (chandleryref11_May.j1 k bt147.2.2.1 bt147.2.2.2 false x147000 x147001 x147002 x147003 x147004) else (chandleryref11_May.j1 k bt147.2.2.1 bt147.2.2.2 true x147000 x147001 x147002 x147003 x147004))) else (chandleryref11_May.j1 k bt147.2.2.1 bt147.2.2.2 (x147002.toList != ([] : List UInt8)) x147000 x147001 x147002 x147003 x147004)) else (chandleryref11_May.j1 k bt147.2.2.1 bt147.2.2.2 true x147000 x147001 x147002 x147003 x147004))))
def chandleryref11_May.j1 : Nat → Bool → Bool → Bool → Int → ByteArray → ByteArray → Int → Int → Option (Bool)
  | 0, _, _, _, _, _, _, _, _ => none
  | k + 1, x5, x6, x56, x147000, x147001, x147002, x147003, x147004 => if x56 = true then (some false) else (if x5 = true then ((chandleryref11_number.f x147000 x147003).bind fun t154 => (if t154 = true then (if x6 = true then (if x147004 ≥ 0 then (if x147004 ≤ 65535 then (some true) else (some false)) else (some false)) else (some (x147004 == 0))) else (some false))) else (if x147003 = 0 then (if x6 = true then (if x147004 ≥ 0 then (if x147004 ≤ 65535 then (some true) else (some false)) else (some false)) else (some (x147004 == 0))) else (some false)))
end
def chandleryref11_May.f (k : Nat) (a0_0 : Int) (a0_1 : ByteArray) (a0_2 : ByteArray) (a0_3 : Int) (a0_4 : Int) : Option (Bool) := if a0_0 < 1 then (chandleryref11_May.j0 k true a0_0 a0_1 a0_2 a0_3 a0_4) else (chandleryref11_May.j0 k (decide (a0_0 > 10)) a0_0 a0_1 a0_2 a0_3 a0_4)
theorem chandleryref11_May.mono_l : ∀ k, (∀ y0 y1 y2 y3 y4 y5, LeO (chandleryref11_May.j0 k y0 y1 y2 y3 y4 y5) (chandleryref11_May.j0 (k + 1) y0 y1 y2 y3 y4 y5)) ∧ (∀ y0 y1 y2 y3 y4 y5 y6 y7, LeO (chandleryref11_May.j1 k y0 y1 y2 y3 y4 y5 y6 y7) (chandleryref11_May.j1 (k + 1) y0 y1 y2 y3 y4 y5 y6 y7))
  | 0 => ⟨fun _ _ _ _ _ _ r h => by simp [chandleryref11_May.j0] at h, fun _ _ _ _ _ _ _ _ r h => by simp [chandleryref11_May.j1] at h⟩
  | k + 1 => by
    obtain ⟨ih0, ih1⟩ := chandleryref11_May.mono_l k
    refine ⟨?_, ?_⟩
    · intro y0 y1 y2 y3 y4 y5
      unfold chandleryref11_May.j0
      repeat' first
      | (with_reducible exact ih0 _ _ _ _ _ _)
      | (with_reducible exact ih1 _ _ _ _ _ _ _ _)
      | (with_reducible exact chandleryref11_Name.mono _ _)
      | (with_reducible exact chandleryref11_shape.mono _ _)
      | (with_reducible exact LeO.refl _)
      | (with_reducible exact LeO.none _)
      | (with_reducible refine LeO.ite ?_ ?_)
      | (with_reducible refine LeO.bind ?_ (fun _ => ?_))
      | exact ih0 _ _ _ _ _ _
      | exact ih1 _ _ _ _ _ _ _ _
      | exact chandleryref11_Name.mono _ _
      | exact chandleryref11_shape.mono _ _
      | exact LeO.none _
      | refine LeO.ite ?_ ?_
      | refine LeO.bind ?_ (fun _ => ?_)
    · intro y0 y1 y2 y3 y4 y5 y6 y7
      unfold chandleryref11_May.j1
      repeat' first
      | (with_reducible exact ih0 _ _ _ _ _ _)
      | (with_reducible exact ih1 _ _ _ _ _ _ _ _)
      | (with_reducible exact chandleryref11_Name.mono _ _)
      | (with_reducible exact chandleryref11_shape.mono _ _)
      | (with_reducible exact LeO.refl _)
      | (with_reducible exact LeO.none _)
      | (with_reducible refine LeO.ite ?_ ?_)
      | (with_reducible refine LeO.bind ?_ (fun _ => ?_))
      | exact ih0 _ _ _ _ _ _
      | exact ih1 _ _ _ _ _ _ _ _
      | exact chandleryref11_Name.mono _ _
      | exact chandleryref11_shape.mono _ _
      | exact LeO.none _
      | refine LeO.ite ?_ ?_
      | refine LeO.bind ?_ (fun _ => ?_)
theorem chandleryref11_May.mono : ∀ a0 a1 a2 a3 a4 k, LeO (chandleryref11_May.f k a0 a1 a2 a3 a4) (chandleryref11_May.f (k + 1) a0 a1 a2 a3 a4) := by
  intro a0 a1 a2 a3 a4 k
  obtain ⟨ih0, ih1⟩ := chandleryref11_May.mono_l k
  unfold chandleryref11_May.f
  repeat' first
      | (with_reducible exact ih0 _ _ _ _ _ _)
      | (with_reducible exact ih1 _ _ _ _ _ _ _ _)
      | (with_reducible exact chandleryref11_Name.mono _ _)
      | (with_reducible exact chandleryref11_shape.mono _ _)
      | (with_reducible exact LeO.refl _)
      | (with_reducible exact LeO.none _)
      | (with_reducible refine LeO.ite ?_ ?_)
      | (with_reducible refine LeO.bind ?_ (fun _ => ?_))
      | exact ih0 _ _ _ _ _ _
      | exact ih1 _ _ _ _ _ _ _ _
      | exact chandleryref11_Name.mono _ _
      | exact chandleryref11_shape.mono _ _
      | exact LeO.none _
      | refine LeO.ite ?_ ?_
      | refine LeO.bind ?_ (fun _ => ?_)
set_option maxHeartbeats 8000000 in
set_option maxRecDepth 100000 in
theorem chandleryref11_May.calls (k : Nat) (a0_0 : Int) (a0_1 : ByteArray) (a0_2 : ByteArray) (a0_3 : Int) (a0_4 : Int) (r : Bool) (w : World) (h : chandleryref11_May.f k a0_0 a0_1 a0_2 a0_3 a0_4 = some r) :
    Calls Try.prog 14 #[.agg #[.int .i64 a0_0, .string a0_1, .string a0_2, .int .i64 a0_3, .int .i64 a0_4]] w fun e w' => e = .returned (.bool r) ∧ Below w.heap.size w w' := by
  have hu23 := Try.underlying23
  have HB := Aside0.mk (Below.refl w.heap.size w)
  have H : (if a0_0 < 1 then (chandleryref11_May.j0 k true a0_0 a0_1 a0_2 a0_3 a0_4) else (chandleryref11_May.j0 k (decide (a0_0 > 10)) a0_0 a0_1 a0_2 a0_3 a0_4)) = some r := h
  clear h
  have HC2 := Aside0.mk H
  clear H
  go_enter Try.func14, Try.ntmps14
  go_upto_region 1 with (first | ((with_reducible refine gate_dst (N := 1) rfl ?_); refine box_event ?hg (N := 1) ?hd (cs := #[.int .i64 a0_0, .string a0_1, .string a0_2, .int .i64 a0_3, .int .i64 a0_4]) (t := 23) ?hr ?_; (case hd => rfl); (case hg => rfl); (case hr => first | (go_simp; done) | (go_simp; rfl)); intro gb146 hg w3 hbox hb; have n0_ := Aside0.mk (below_step (by repeat (first | (with_reducible first | exact HB.out | apply below_alloc | apply pw_below_drewN | apply below_drew1) | exact HB.out)) hb); have n1_ := Aside0.mk (hbox); have n2_ := Aside0.mk ((by rw [hg]; exact (below_size (by repeat (first | (with_reducible first | exact HB.out | apply below_alloc | apply pw_below_drewN | apply below_drew1) | exact HB.out))) : w.heap.size ≤ gb146)); have n3_ := Aside0.mk ((by rw [hg]; exact (below_size (by repeat (first | (with_reducible first | exact HB.out | apply below_alloc | apply pw_below_drewN | apply below_drew1) | exact HB.out))) : w.heap.size ≤ gb146)); clear HB; have HB := n0_; have BK146 := n1_; have GW146 := n2_; have GE146 := n3_; clear n0_ n1_ n2_ n3_; clear hb hbox hg))
  (try simp only [Act.put, List.setIfInBounds_toArray, List.set_cons_zero, List.set_cons_succ])
  go_cut [14] (fun v14 wc => ∃ (kq : Nat) (x14_1 : Bool), v14 = .bool x14_1 ∧ Aside0 (chandleryref11_May.j0 kq x14_1 a0_0 a0_1 a0_2 a0_3 a0_4 = some r) ∧ Aside0 (kq ≤ k) ∧ Aside0 (wc.heap[gb146]? = some (.cells #[.int .i64 a0_0, .string a0_1, .string a0_2, .int .i64 a0_3, .int .i64 a0_4] 23 (0, 0))) ∧ Aside0 (Below w.heap.size w wc))
  case first =>
    have H := HC2.out
    clear HC2
    by_cases c4 : a0_0 < 1
    · rw [if_pos c4] at H
      have c4b0 : decide (a0_0 < 1) = true := decide_eq_true c4
      clear c4
      (first | rw [c4b0] | (simp only [i64_w, i32_w]; rw [c4b0]) | skip)
      have H' := Aside0.mk H
      clear H
      have hcz5_0 : w3.cell? ⟨gb146, 0, none⟩ = some (.int .i64 a0_0) := (blk_cell BK146.out 0).trans rfl
      have hcz5_1 : w3.cell? ⟨gb146, 1, none⟩ = some (.string a0_1) := (blk_cell BK146.out 1).trans rfl
      have hcz5_2 : w3.cell? ⟨gb146, 2, none⟩ = some (.string a0_2) := (blk_cell BK146.out 2).trans rfl
      have hcz5_3 : w3.cell? ⟨gb146, 3, none⟩ = some (.int .i64 a0_3) := (blk_cell BK146.out 3).trans rfl
      have hcz5_4 : w3.cell? ⟨gb146, 4, none⟩ = some (.int .i64 a0_4) := (blk_cell BK146.out 4).trans rfl
      have hfz5_0 := blk_frozen BK146.out 0
      have hfz5_1 := blk_frozen BK146.out 1
      have hfz5_2 := blk_frozen BK146.out 2
      have hfz5_3 := blk_frozen BK146.out 3
      have hfz5_4 := blk_frozen BK146.out 4
      go_wp2
      go_meet
      case rel => exact ⟨_, (true), (by first | rfl | (simp; done) | exact congrArg Value.bool (Go.Proofs.YtcohfhclcoiigaaX.isEmpty_ne_ _) | exact congrArg Value.bool (Go.Proofs.YtcohfhclcoiigaaX.ne_isEmpty_ _) | (simp [*]; done)), H', ⟨by first | omega | exact Nat.le_refl _⟩, ⟨by (with_reducible repeat (first | refine blk_drewN ?_ _ | refine blk_drew ?_ | refine blk_alloc ?_ _)); exact BK146.out⟩, ⟨by repeat (first | (with_reducible first | exact HB.out | apply below_alloc | apply pw_below_drewN | apply below_drew1 | refine below_set ?_ GE146.out) | exact HB.out)⟩⟩
    · rw [if_neg c4] at H
      have c4b0 : decide (a0_0 < 1) = false := decide_eq_false c4
      clear c4
      (first | rw [c4b0] | (simp only [i64_w, i32_w]; rw [c4b0]) | skip)
      have H' := Aside0.mk H
      clear H
      have hcz6_0 : w3.cell? ⟨gb146, 0, none⟩ = some (.int .i64 a0_0) := (blk_cell BK146.out 0).trans rfl
      have hcz6_1 : w3.cell? ⟨gb146, 1, none⟩ = some (.string a0_1) := (blk_cell BK146.out 1).trans rfl
      have hcz6_2 : w3.cell? ⟨gb146, 2, none⟩ = some (.string a0_2) := (blk_cell BK146.out 2).trans rfl
      have hcz6_3 : w3.cell? ⟨gb146, 3, none⟩ = some (.int .i64 a0_3) := (blk_cell BK146.out 3).trans rfl
      have hcz6_4 : w3.cell? ⟨gb146, 4, none⟩ = some (.int .i64 a0_4) := (blk_cell BK146.out 4).trans rfl
      have hfz6_0 := blk_frozen BK146.out 0
      have hfz6_1 := blk_frozen BK146.out 1
      have hfz6_2 := blk_frozen BK146.out 2
      have hfz6_3 := blk_frozen BK146.out 3
      have hfz6_4 := blk_frozen BK146.out 4
      go_wp2
      go_meet
      case rel => exact ⟨_, (decide (a0_0 > 10)), (by first | rfl | (simp; done) | exact congrArg Value.bool (Go.Proofs.YtcohfhclcoiigaaX.isEmpty_ne_ _) | exact congrArg Value.bool (Go.Proofs.YtcohfhclcoiigaaX.ne_isEmpty_ _) | (simp [*]; done)), H', ⟨by first | omega | exact Nat.le_refl _⟩, ⟨by (with_reducible repeat (first | refine blk_drewN ?_ _ | refine blk_drew ?_ | refine blk_alloc ?_ _)); exact BK146.out⟩, ⟨by repeat (first | (with_reducible first | exact HB.out | apply below_alloc | apply pw_below_drewN | apply below_drew1 | refine below_set ?_ GE146.out) | exact HB.out)⟩⟩
  case rest =>
    clear HC2
    try clear c1
    try clear p2
    try clear c4
    try clear c4b0
    try clear hcz5_0
    try clear hcz5_1
    try clear hcz5_2
    try clear hcz5_3
    try clear hcz5_4
    try clear hcz6_0
    try clear hcz6_1
    try clear hcz6_2
    try clear hcz6_3
    try clear hcz6_4
    try clear hfz5_0
    try clear hfz5_1
    try clear hfz5_2
    try clear hfz5_3
    try clear hfz5_4
    try clear hfz6_0
    try clear hfz6_1
    try clear hfz6_2
    try clear hfz6_3
    try clear hfz6_4
    obtain ⟨kq, x14_1, rfl, HA, HJ1, BK146, HB⟩ := hcut
    cases kq with
    | zero => exact absurd HA.out (by simp [chandleryref11_May.j0])
    | succ kj1 =>
      have H := HA.out
      clear HA
      simp only [chandleryref11_May.j0] at H
      by_cases c7 : x14_1 = true
      · subst c7
        have H1 : (some false) = some r := by rw [if_pos rfl] at H; exact H
        clear H
        have H := H1
        clear H1
        obtain rfl := Option.some.inj H
        go_wp2
        go_ret
        exact ⟨by first | rfl | (simp [errW_none, errW_some] <;> rfl) | (simp [*, errW_none, errW_some] <;> rfl), by repeat (first | (with_reducible first | exact HB.out | apply below_alloc | apply pw_below_drewN | apply below_drew1 | refine below_set ?_ GE146.out) | exact HB.out)⟩
      · replace c7 := Bool.eq_false_iff.mpr c7
        subst c7
        have H1 : ((chandleryref11_shape.f kj1 a0_0).bind fun bt147 => (if bt147.1 = true then ((chandleryref11_Name.f kj1 a0_1).bind fun t151 => (if t151 = true then (if bt147.2.1 = true then ((chandleryref11_Name.f kj1 a0_2).bind fun t152 => (if t152 = true then (chandleryref11_May.j1 kj1 bt147.2.2.1 bt147.2.2.2 false a0_0 a0_1 a0_2 a0_3 a0_4) else (chandleryref11_May.j1 kj1 bt147.2.2.1 bt147.2.2.2 true a0_0 a0_1 a0_2 a0_3 a0_4))) else (chandleryref11_May.j1 kj1 bt147.2.2.1 bt147.2.2.2 (a0_2.toList != ([] : List UInt8)) a0_0 a0_1 a0_2 a0_3 a0_4)) else (chandleryref11_May.j1 kj1 bt147.2.2.1 bt147.2.2.2 true a0_0 a0_1 a0_2 a0_3 a0_4))) else (if a0_1.toList = ([] : List UInt8) then (if bt147.2.1 = true then ((chandleryref11_Name.f kj1 a0_2).bind fun t153 => (if t153 = true then (chandleryref11_May.j1 kj1 bt147.2.2.1 bt147.2.2.2 false a0_0 a0_1 a0_2 a0_3 a0_4) else (chandleryref11_May.j1 kj1 bt147.2.2.1 bt147.2.2.2 true a0_0 a0_1 a0_2 a0_3 a0_4))) else (chandleryref11_May.j1 kj1 bt147.2.2.1 bt147.2.2.2 (a0_2.toList != ([] : List UInt8)) a0_0 a0_1 a0_2 a0_3 a0_4)) else (chandleryref11_May.j1 kj1 bt147.2.2.1 bt147.2.2.2 true a0_0 a0_1 a0_2 a0_3 a0_4)))) = some r := by rw [if_neg (show ¬ (false = true) by decide)] at H; exact H
        clear H
        have H := H1
        clear H1
        replace H := Option.bind_eq_some_iff.mp H
        obtain ⟨⟨t147, t148, t149, t150⟩, A80, H⟩ := H
        replace H : (if t147 = true then ((chandleryref11_Name.f kj1 a0_1).bind fun t151 => (if t151 = true then (if t148 = true then ((chandleryref11_Name.f kj1 a0_2).bind fun t152 => (if t152 = true then (chandleryref11_May.j1 kj1 t149 t150 false a0_0 a0_1 a0_2 a0_3 a0_4) else (chandleryref11_May.j1 kj1 t149 t150 true a0_0 a0_1 a0_2 a0_3 a0_4))) else (chandleryref11_May.j1 kj1 t149 t150 (a0_2.toList != ([] : List UInt8)) a0_0 a0_1 a0_2 a0_3 a0_4)) else (chandleryref11_May.j1 kj1 t149 t150 true a0_0 a0_1 a0_2 a0_3 a0_4))) else (if a0_1.toList = ([] : List UInt8) then (if t148 = true then ((chandleryref11_Name.f kj1 a0_2).bind fun t153 => (if t153 = true then (chandleryref11_May.j1 kj1 t149 t150 false a0_0 a0_1 a0_2 a0_3 a0_4) else (chandleryref11_May.j1 kj1 t149 t150 true a0_0 a0_1 a0_2 a0_3 a0_4))) else (chandleryref11_May.j1 kj1 t149 t150 (a0_2.toList != ([] : List UInt8)) a0_0 a0_1 a0_2 a0_3 a0_4)) else (chandleryref11_May.j1 kj1 t149 t150 true a0_0 a0_1 a0_2 a0_3 a0_4))) = some r := H
        have A8 := Aside0.mk A80
        clear A80
        have HC9 := Aside0.mk H
        clear H
        have hcz10_0 : wc.cell? ⟨gb146, 0, none⟩ = some (.int .i64 a0_0) := (blk_cell BK146.out 0).trans rfl
        have hcz10_1 : wc.cell? ⟨gb146, 1, none⟩ = some (.string a0_1) := (blk_cell BK146.out 1).trans rfl
        have hcz10_2 : wc.cell? ⟨gb146, 2, none⟩ = some (.string a0_2) := (blk_cell BK146.out 2).trans rfl
        have hcz10_3 : wc.cell? ⟨gb146, 3, none⟩ = some (.int .i64 a0_3) := (blk_cell BK146.out 3).trans rfl
        have hcz10_4 : wc.cell? ⟨gb146, 4, none⟩ = some (.int .i64 a0_4) := (blk_cell BK146.out 4).trans rfl
        have hfz10_0 := blk_frozen BK146.out 0
        have hfz10_1 := blk_frozen BK146.out 1
        have hfz10_2 := blk_frozen BK146.out 2
        have hfz10_3 := blk_frozen BK146.out 3
        have hfz10_4 := blk_frozen BK146.out 4
        go_upto_region 4 with (first | ((with_reducible refine gate_callee (f := 29) rfl ?_); refine goesL_ (some 18) rfl rfl Try.func29 (by kernel_rfl) rfl #[.int .i64 a0_0] rfl (by (try simp only [List.map_toArray, List.map_cons, List.map_nil]); first | done | rfl | (simp only [List.length_drop, List.length_take]; rfl)) ?_; (with_reducible refine (chandleryref11_shape.calls kj1 a0_0 t147 t148 t149 t150 _ A8.out).mono ?_); rintro e w' ⟨rfl, ⟨nd, rfl⟩⟩; refine ⟨_, rfl, ?_⟩))
        (try simp only [Act.put, List.setIfInBounds_toArray, List.set_cons_zero, List.set_cons_succ])
        go_cut [56] (fun v56 wc => ∃ (kq : Nat) (x56_8 : Bool), v56 = .bool x56_8 ∧ Aside0 (chandleryref11_May.j1 kq t149 t150 x56_8 a0_0 a0_1 a0_2 a0_3 a0_4 = some r) ∧ Aside0 (kq ≤ kj1) ∧ Aside0 (wc.heap[gb146]? = some (.cells #[.int .i64 a0_0, .string a0_1, .string a0_2, .int .i64 a0_3, .int .i64 a0_4] 23 (0, 0))) ∧ Aside0 (Below w.heap.size w wc))
        case first =>
          have H := HC9.out
          clear HC9
          by_cases c11 : t147 = true
          · subst c11
            have H1 : ((chandleryref11_Name.f kj1 a0_1).bind fun t151 => (if t151 = true then (if t148 = true then ((chandleryref11_Name.f kj1 a0_2).bind fun t152 => (if t152 = true then (chandleryref11_May.j1 kj1 t149 t150 false a0_0 a0_1 a0_2 a0_3 a0_4) else (chandleryref11_May.j1 kj1 t149 t150 true a0_0 a0_1 a0_2 a0_3 a0_4))) else (chandleryref11_May.j1 kj1 t149 t150 (a0_2.toList != ([] : List UInt8)) a0_0 a0_1 a0_2 a0_3 a0_4)) else (chandleryref11_May.j1 kj1 t149 t150 true a0_0 a0_1 a0_2 a0_3 a0_4))) = some r := by rw [if_pos rfl] at H; exact H
            clear H
            have H := H1
            clear H1
            replace H := Option.bind_eq_some_iff.mp H
            obtain ⟨t151, A120, H⟩ := H
            replace H : (if t151 = true then (if t148 = true then ((chandleryref11_Name.f kj1 a0_2).bind fun t152 => (if t152 = true then (chandleryref11_May.j1 kj1 t149 t150 false a0_0 a0_1 a0_2 a0_3 a0_4) else (chandleryref11_May.j1 kj1 t149 t150 true a0_0 a0_1 a0_2 a0_3 a0_4))) else (chandleryref11_May.j1 kj1 t149 t150 (a0_2.toList != ([] : List UInt8)) a0_0 a0_1 a0_2 a0_3 a0_4)) else (chandleryref11_May.j1 kj1 t149 t150 true a0_0 a0_1 a0_2 a0_3 a0_4)) = some r := H
            have A12 := Aside0.mk A120
            clear A120
            by_cases c13 : t151 = true
            · subst c13
              have H1 : (if t148 = true then ((chandleryref11_Name.f kj1 a0_2).bind fun t152 => (if t152 = true then (chandleryref11_May.j1 kj1 t149 t150 false a0_0 a0_1 a0_2 a0_3 a0_4) else (chandleryref11_May.j1 kj1 t149 t150 true a0_0 a0_1 a0_2 a0_3 a0_4))) else (chandleryref11_May.j1 kj1 t149 t150 (a0_2.toList != ([] : List UInt8)) a0_0 a0_1 a0_2 a0_3 a0_4)) = some r := by rw [if_pos rfl] at H; exact H
              clear H
              have H := H1
              clear H1
              by_cases c14 : t148 = true
              · subst c14
                have H1 : ((chandleryref11_Name.f kj1 a0_2).bind fun t152 => (if t152 = true then (chandleryref11_May.j1 kj1 t149 t150 false a0_0 a0_1 a0_2 a0_3 a0_4) else (chandleryref11_May.j1 kj1 t149 t150 true a0_0 a0_1 a0_2 a0_3 a0_4))) = some r := by rw [if_pos rfl] at H; exact H
                clear H
                have H := H1
                clear H1
                replace H := Option.bind_eq_some_iff.mp H
                obtain ⟨t152, A150, H⟩ := H
                replace H : (if t152 = true then (chandleryref11_May.j1 kj1 t149 t150 false a0_0 a0_1 a0_2 a0_3 a0_4) else (chandleryref11_May.j1 kj1 t149 t150 true a0_0 a0_1 a0_2 a0_3 a0_4)) = some r := H
                have A15 := Aside0.mk A150
                clear A150
                by_cases c16 : t152 = true
                · subst c16
                  have H1 : (chandleryref11_May.j1 kj1 t149 t150 false a0_0 a0_1 a0_2 a0_3 a0_4) = some r := by rw [if_pos rfl] at H; exact H
                  clear H
                  have H := H1
                  clear H1
                  have H' := Aside0.mk H
                  clear H
                  have hcz17_0 : wc.cell? ⟨gb146, 0, none⟩ = some (.int .i64 a0_0) := (blk_cell BK146.out 0).trans rfl
                  have hcz17_1 : wc.cell? ⟨gb146, 1, none⟩ = some (.string a0_1) := (blk_cell BK146.out 1).trans rfl
                  have hcz17_2 : wc.cell? ⟨gb146, 2, none⟩ = some (.string a0_2) := (blk_cell BK146.out 2).trans rfl
                  have hcz17_3 : wc.cell? ⟨gb146, 3, none⟩ = some (.int .i64 a0_3) := (blk_cell BK146.out 3).trans rfl
                  have hcz17_4 : wc.cell? ⟨gb146, 4, none⟩ = some (.int .i64 a0_4) := (blk_cell BK146.out 4).trans rfl
                  have hfz17_0 := blk_frozen BK146.out 0
                  have hfz17_1 := blk_frozen BK146.out 1
                  have hfz17_2 := blk_frozen BK146.out 2
                  have hfz17_3 := blk_frozen BK146.out 3
                  have hfz17_4 := blk_frozen BK146.out 4
                  go_wp2_with (first | (go_at_call 28; (with_reducible refine (chandleryref11_Name.calls kj1 a0_1 true _ A12.out).mono ?_); rintro e w' ⟨rfl, ⟨nd, rfl⟩⟩) | (go_at_call 28; (with_reducible refine (chandleryref11_Name.calls kj1 a0_2 true _ A15.out).mono ?_); rintro e w' ⟨rfl, ⟨nd, rfl⟩⟩))
                  go_meet
                  case rel => exact ⟨_, (false), (by first | rfl | (simp; done) | exact congrArg Value.bool (Go.Proofs.YtcohfhclcoiigaaX.isEmpty_ne_ _) | exact congrArg Value.bool (Go.Proofs.YtcohfhclcoiigaaX.ne_isEmpty_ _) | (simp [*]; done)), H', ⟨by have := HJ1.out; first | omega | exact Nat.le_refl _⟩, ⟨by (with_reducible repeat (first | refine blk_drewN ?_ _ | refine blk_drew ?_ | refine blk_alloc ?_ _)); exact BK146.out⟩, ⟨by repeat (first | (with_reducible first | exact HB.out | apply below_alloc | apply pw_below_drewN | apply below_drew1 | refine below_set ?_ GE146.out) | exact HB.out)⟩⟩
                · replace c16 := Bool.eq_false_iff.mpr c16
                  subst c16
                  have H1 : (chandleryref11_May.j1 kj1 t149 t150 true a0_0 a0_1 a0_2 a0_3 a0_4) = some r := by rw [if_neg (show ¬ (false = true) by decide)] at H; exact H
                  clear H
                  have H := H1
                  clear H1
                  have H' := Aside0.mk H
                  clear H
                  have hcz18_0 : wc.cell? ⟨gb146, 0, none⟩ = some (.int .i64 a0_0) := (blk_cell BK146.out 0).trans rfl
                  have hcz18_1 : wc.cell? ⟨gb146, 1, none⟩ = some (.string a0_1) := (blk_cell BK146.out 1).trans rfl
                  have hcz18_2 : wc.cell? ⟨gb146, 2, none⟩ = some (.string a0_2) := (blk_cell BK146.out 2).trans rfl
                  have hcz18_3 : wc.cell? ⟨gb146, 3, none⟩ = some (.int .i64 a0_3) := (blk_cell BK146.out 3).trans rfl
                  have hcz18_4 : wc.cell? ⟨gb146, 4, none⟩ = some (.int .i64 a0_4) := (blk_cell BK146.out 4).trans rfl
                  have hfz18_0 := blk_frozen BK146.out 0
                  have hfz18_1 := blk_frozen BK146.out 1
                  have hfz18_2 := blk_frozen BK146.out 2
                  have hfz18_3 := blk_frozen BK146.out 3
                  have hfz18_4 := blk_frozen BK146.out 4
                  go_wp2_with (first | (go_at_call 28; (with_reducible refine (chandleryref11_Name.calls kj1 a0_1 true _ A12.out).mono ?_); rintro e w' ⟨rfl, ⟨nd, rfl⟩⟩) | (go_at_call 28; (with_reducible refine (chandleryref11_Name.calls kj1 a0_2 false _ A15.out).mono ?_); rintro e w' ⟨rfl, ⟨nd, rfl⟩⟩))
                  go_meet
                  case rel => exact ⟨_, (true), (by first | rfl | (simp; done) | exact congrArg Value.bool (Go.Proofs.YtcohfhclcoiigaaX.isEmpty_ne_ _) | exact congrArg Value.bool (Go.Proofs.YtcohfhclcoiigaaX.ne_isEmpty_ _) | (simp [*]; done)), H', ⟨by have := HJ1.out; first | omega | exact Nat.le_refl _⟩, ⟨by (with_reducible repeat (first | refine blk_drewN ?_ _ | refine blk_drew ?_ | refine blk_alloc ?_ _)); exact BK146.out⟩, ⟨by repeat (first | (with_reducible first | exact HB.out | apply below_alloc | apply pw_below_drewN | apply below_drew1 | refine below_set ?_ GE146.out) | exact HB.out)⟩⟩
              · replace c14 := Bool.eq_false_iff.mpr c14
                subst c14
                have H1 : (chandleryref11_May.j1 kj1 t149 t150 (a0_2.toList != ([] : List UInt8)) a0_0 a0_1 a0_2 a0_3 a0_4) = some r := by rw [if_neg (show ¬ (false = true) by decide)] at H; exact H
                clear H
                have H := H1
                clear H1
                have H' := Aside0.mk H
                clear H
                have hcz19_0 : wc.cell? ⟨gb146, 0, none⟩ = some (.int .i64 a0_0) := (blk_cell BK146.out 0).trans rfl
                have hcz19_1 : wc.cell? ⟨gb146, 1, none⟩ = some (.string a0_1) := (blk_cell BK146.out 1).trans rfl
                have hcz19_2 : wc.cell? ⟨gb146, 2, none⟩ = some (.string a0_2) := (blk_cell BK146.out 2).trans rfl
                have hcz19_3 : wc.cell? ⟨gb146, 3, none⟩ = some (.int .i64 a0_3) := (blk_cell BK146.out 3).trans rfl
                have hcz19_4 : wc.cell? ⟨gb146, 4, none⟩ = some (.int .i64 a0_4) := (blk_cell BK146.out 4).trans rfl
                have hfz19_0 := blk_frozen BK146.out 0
                have hfz19_1 := blk_frozen BK146.out 1
                have hfz19_2 := blk_frozen BK146.out 2
                have hfz19_3 := blk_frozen BK146.out 3
                have hfz19_4 := blk_frozen BK146.out 4
                go_wp2_with (first | (go_at_call 28; (with_reducible refine (chandleryref11_Name.calls kj1 a0_1 true _ A12.out).mono ?_); rintro e w' ⟨rfl, ⟨nd, rfl⟩⟩))
                go_meet
                case rel => exact ⟨_, ((a0_2.toList != ([] : List UInt8))), (by first | rfl | (simp; done) | exact congrArg Value.bool (Go.Proofs.YtcohfhclcoiigaaX.isEmpty_ne_ _) | exact congrArg Value.bool (Go.Proofs.YtcohfhclcoiigaaX.ne_isEmpty_ _) | (simp [*]; done)), H', ⟨by have := HJ1.out; first | omega | exact Nat.le_refl _⟩, ⟨by (with_reducible repeat (first | refine blk_drewN ?_ _ | refine blk_drew ?_ | refine blk_alloc ?_ _)); exact BK146.out⟩, ⟨by repeat (first | (with_reducible first | exact HB.out | apply below_alloc | apply pw_below_drewN | apply below_drew1 | refine below_set ?_ GE146.out) | exact HB.out)⟩⟩
            · replace c13 := Bool.eq_false_iff.mpr c13
              subst c13
              have H1 : (chandleryref11_May.j1 kj1 t149 t150 true a0_0 a0_1 a0_2 a0_3 a0_4) = some r := by rw [if_neg (show ¬ (false = true) by decide)] at H; exact H
              clear H
              have H := H1
              clear H1
              have H' := Aside0.mk H
              clear H
              have hcz20_0 : wc.cell? ⟨gb146, 0, none⟩ = some (.int .i64 a0_0) := (blk_cell BK146.out 0).trans rfl
              have hcz20_1 : wc.cell? ⟨gb146, 1, none⟩ = some (.string a0_1) := (blk_cell BK146.out 1).trans rfl
              have hcz20_2 : wc.cell? ⟨gb146, 2, none⟩ = some (.string a0_2) := (blk_cell BK146.out 2).trans rfl
              have hcz20_3 : wc.cell? ⟨gb146, 3, none⟩ = some (.int .i64 a0_3) := (blk_cell BK146.out 3).trans rfl
              have hcz20_4 : wc.cell? ⟨gb146, 4, none⟩ = some (.int .i64 a0_4) := (blk_cell BK146.out 4).trans rfl
              have hfz20_0 := blk_frozen BK146.out 0
              have hfz20_1 := blk_frozen BK146.out 1
              have hfz20_2 := blk_frozen BK146.out 2
              have hfz20_3 := blk_frozen BK146.out 3
              have hfz20_4 := blk_frozen BK146.out 4
              go_wp2_with (first | (go_at_call 28; (with_reducible refine (chandleryref11_Name.calls kj1 a0_1 false _ A12.out).mono ?_); rintro e w' ⟨rfl, ⟨nd, rfl⟩⟩))
              go_meet
              case rel => exact ⟨_, (true), (by first | rfl | (simp; done) | exact congrArg Value.bool (Go.Proofs.YtcohfhclcoiigaaX.isEmpty_ne_ _) | exact congrArg Value.bool (Go.Proofs.YtcohfhclcoiigaaX.ne_isEmpty_ _) | (simp [*]; done)), H', ⟨by have := HJ1.out; first | omega | exact Nat.le_refl _⟩, ⟨by (with_reducible repeat (first | refine blk_drewN ?_ _ | refine blk_drew ?_ | refine blk_alloc ?_ _)); exact BK146.out⟩, ⟨by repeat (first | (with_reducible first | exact HB.out | apply below_alloc | apply pw_below_drewN | apply below_drew1 | refine below_set ?_ GE146.out) | exact HB.out)⟩⟩
          · replace c11 := Bool.eq_false_iff.mpr c11
            subst c11
            have H1 : (if a0_1.toList = ([] : List UInt8) then (if t148 = true then ((chandleryref11_Name.f kj1 a0_2).bind fun t153 => (if t153 = true then (chandleryref11_May.j1 kj1 t149 t150 false a0_0 a0_1 a0_2 a0_3 a0_4) else (chandleryref11_May.j1 kj1 t149 t150 true a0_0 a0_1 a0_2 a0_3 a0_4))) else (chandleryref11_May.j1 kj1 t149 t150 (a0_2.toList != ([] : List UInt8)) a0_0 a0_1 a0_2 a0_3 a0_4)) else (chandleryref11_May.j1 kj1 t149 t150 true a0_0 a0_1 a0_2 a0_3 a0_4)) = some r := by rw [if_neg (show ¬ (false = true) by decide)] at H; exact H
            clear H
            have H := H1
            clear H1
            by_cases c21 : a0_1.toList = ([] : List UInt8)
            · rw [if_pos c21] at H
              have c21b0 : (a0_1.toList == ([] : List UInt8)) = true := beq_iff_eq.mpr c21
              have c21b1 : (a0_1.toList != ([] : List UInt8)) = false := bne_eq_false_iff_eq.mpr c21
              clear c21
              (first | rw [c21b0] | (simp only [i64_w, i32_w]; rw [c21b0]) | skip)
              by_cases c22 : t148 = true
              · subst c22
                have H1 : ((chandleryref11_Name.f kj1 a0_2).bind fun t153 => (if t153 = true then (chandleryref11_May.j1 kj1 t149 t150 false a0_0 a0_1 a0_2 a0_3 a0_4) else (chandleryref11_May.j1 kj1 t149 t150 true a0_0 a0_1 a0_2 a0_3 a0_4))) = some r := by rw [if_pos rfl] at H; exact H
                clear H
                have H := H1
                clear H1
                replace H := Option.bind_eq_some_iff.mp H
                obtain ⟨t153, A230, H⟩ := H
                replace H : (if t153 = true then (chandleryref11_May.j1 kj1 t149 t150 false a0_0 a0_1 a0_2 a0_3 a0_4) else (chandleryref11_May.j1 kj1 t149 t150 true a0_0 a0_1 a0_2 a0_3 a0_4)) = some r := H
                have A23 := Aside0.mk A230
                clear A230
                by_cases c24 : t153 = true
                · subst c24
                  have H1 : (chandleryref11_May.j1 kj1 t149 t150 false a0_0 a0_1 a0_2 a0_3 a0_4) = some r := by rw [if_pos rfl] at H; exact H
                  clear H
                  have H := H1
                  clear H1
                  have H' := Aside0.mk H
                  clear H
                  have hcz25_0 : wc.cell? ⟨gb146, 0, none⟩ = some (.int .i64 a0_0) := (blk_cell BK146.out 0).trans rfl
                  have hcz25_1 : wc.cell? ⟨gb146, 1, none⟩ = some (.string a0_1) := (blk_cell BK146.out 1).trans rfl
                  have hcz25_2 : wc.cell? ⟨gb146, 2, none⟩ = some (.string a0_2) := (blk_cell BK146.out 2).trans rfl
                  have hcz25_3 : wc.cell? ⟨gb146, 3, none⟩ = some (.int .i64 a0_3) := (blk_cell BK146.out 3).trans rfl
                  have hcz25_4 : wc.cell? ⟨gb146, 4, none⟩ = some (.int .i64 a0_4) := (blk_cell BK146.out 4).trans rfl
                  have hfz25_0 := blk_frozen BK146.out 0
                  have hfz25_1 := blk_frozen BK146.out 1
                  have hfz25_2 := blk_frozen BK146.out 2
                  have hfz25_3 := blk_frozen BK146.out 3
                  have hfz25_4 := blk_frozen BK146.out 4
                  go_wp2_with (first | (go_at_call 28; (with_reducible refine (chandleryref11_Name.calls kj1 a0_2 true _ A23.out).mono ?_); rintro e w' ⟨rfl, ⟨nd, rfl⟩⟩))
                  go_meet
                  case rel => exact ⟨_, (false), (by first | rfl | (simp; done) | exact congrArg Value.bool (Go.Proofs.YtcohfhclcoiigaaX.isEmpty_ne_ _) | exact congrArg Value.bool (Go.Proofs.YtcohfhclcoiigaaX.ne_isEmpty_ _) | (simp [*]; done)), H', ⟨by have := HJ1.out; first | omega | exact Nat.le_refl _⟩, ⟨by (with_reducible repeat (first | refine blk_drewN ?_ _ | refine blk_drew ?_ | refine blk_alloc ?_ _)); exact BK146.out⟩, ⟨by repeat (first | (with_reducible first | exact HB.out | apply below_alloc | apply pw_below_drewN | apply below_drew1 | refine below_set ?_ GE146.out) | exact HB.out)⟩⟩
                · replace c24 := Bool.eq_false_iff.mpr c24
                  subst c24
                  have H1 : (chandleryref11_May.j1 kj1 t149 t150 true a0_0 a0_1 a0_2 a0_3 a0_4) = some r := by rw [if_neg (show ¬ (false = true) by decide)] at H; exact H
                  clear H
                  have H := H1
                  clear H1
                  have H' := Aside0.mk H
                  clear H
                  have hcz26_0 : wc.cell? ⟨gb146, 0, none⟩ = some (.int .i64 a0_0) := (blk_cell BK146.out 0).trans rfl
                  have hcz26_1 : wc.cell? ⟨gb146, 1, none⟩ = some (.string a0_1) := (blk_cell BK146.out 1).trans rfl
                  have hcz26_2 : wc.cell? ⟨gb146, 2, none⟩ = some (.string a0_2) := (blk_cell BK146.out 2).trans rfl
                  have hcz26_3 : wc.cell? ⟨gb146, 3, none⟩ = some (.int .i64 a0_3) := (blk_cell BK146.out 3).trans rfl
                  have hcz26_4 : wc.cell? ⟨gb146, 4, none⟩ = some (.int .i64 a0_4) := (blk_cell BK146.out 4).trans rfl
                  have hfz26_0 := blk_frozen BK146.out 0
                  have hfz26_1 := blk_frozen BK146.out 1
                  have hfz26_2 := blk_frozen BK146.out 2
                  have hfz26_3 := blk_frozen BK146.out 3
                  have hfz26_4 := blk_frozen BK146.out 4
                  go_wp2_with (first | (go_at_call 28; (with_reducible refine (chandleryref11_Name.calls kj1 a0_2 false _ A23.out).mono ?_); rintro e w' ⟨rfl, ⟨nd, rfl⟩⟩))
                  go_meet
                  case rel => exact ⟨_, (true), (by first | rfl | (simp; done) | exact congrArg Value.bool (Go.Proofs.YtcohfhclcoiigaaX.isEmpty_ne_ _) | exact congrArg Value.bool (Go.Proofs.YtcohfhclcoiigaaX.ne_isEmpty_ _) | (simp [*]; done)), H', ⟨by have := HJ1.out; first | omega | exact Nat.le_refl _⟩, ⟨by (with_reducible repeat (first | refine blk_drewN ?_ _ | refine blk_drew ?_ | refine blk_alloc ?_ _)); exact BK146.out⟩, ⟨by repeat (first | (with_reducible first | exact HB.out | apply below_alloc | apply pw_below_drewN | apply below_drew1 | refine below_set ?_ GE146.out) | exact HB.out)⟩⟩
              · replace c22 := Bool.eq_false_iff.mpr c22
                subst c22
                have H1 : (chandleryref11_May.j1 kj1 t149 t150 (a0_2.toList != ([] : List UInt8)) a0_0 a0_1 a0_2 a0_3 a0_4) = some r := by rw [if_neg (show ¬ (false = true) by decide)] at H; exact H
                clear H
                have H := H1
                clear H1
                have H' := Aside0.mk H
                clear H
                have hcz27_0 : wc.cell? ⟨gb146, 0, none⟩ = some (.int .i64 a0_0) := (blk_cell BK146.out 0).trans rfl
                have hcz27_1 : wc.cell? ⟨gb146, 1, none⟩ = some (.string a0_1) := (blk_cell BK146.out 1).trans rfl
                have hcz27_2 : wc.cell? ⟨gb146, 2, none⟩ = some (.string a0_2) := (blk_cell BK146.out 2).trans rfl
                have hcz27_3 : wc.cell? ⟨gb146, 3, none⟩ = some (.int .i64 a0_3) := (blk_cell BK146.out 3).trans rfl
                have hcz27_4 : wc.cell? ⟨gb146, 4, none⟩ = some (.int .i64 a0_4) := (blk_cell BK146.out 4).trans rfl
                have hfz27_0 := blk_frozen BK146.out 0
                have hfz27_1 := blk_frozen BK146.out 1
                have hfz27_2 := blk_frozen BK146.out 2
                have hfz27_3 := blk_frozen BK146.out 3
                have hfz27_4 := blk_frozen BK146.out 4
                go_wp2
                go_meet
                case rel => exact ⟨_, ((a0_2.toList != ([] : List UInt8))), (by first | rfl | (simp; done) | exact congrArg Value.bool (Go.Proofs.YtcohfhclcoiigaaX.isEmpty_ne_ _) | exact congrArg Value.bool (Go.Proofs.YtcohfhclcoiigaaX.ne_isEmpty_ _) | (simp [*]; done)), H', ⟨by have := HJ1.out; first | omega | exact Nat.le_refl _⟩, ⟨by (with_reducible repeat (first | refine blk_drewN ?_ _ | refine blk_drew ?_ | refine blk_alloc ?_ _)); exact BK146.out⟩, ⟨by repeat (first | (with_reducible first | exact HB.out | apply below_alloc | apply pw_below_drewN | apply below_drew1 | refine below_set ?_ GE146.out) | exact HB.out)⟩⟩
            · rw [if_neg c21] at H
              have c21b0 : (a0_1.toList == ([] : List UInt8)) = false := beq_eq_false_iff_ne.mpr c21
              have c21b1 : (a0_1.toList != ([] : List UInt8)) = true := bne_iff_ne.mpr c21
              (first | rw [c21b0] | (simp only [i64_w, i32_w]; rw [c21b0]) | skip)
              have H' := Aside0.mk H
              clear H
              have hcz28_0 : wc.cell? ⟨gb146, 0, none⟩ = some (.int .i64 a0_0) := (blk_cell BK146.out 0).trans rfl
              have hcz28_1 : wc.cell? ⟨gb146, 1, none⟩ = some (.string a0_1) := (blk_cell BK146.out 1).trans rfl
              have hcz28_2 : wc.cell? ⟨gb146, 2, none⟩ = some (.string a0_2) := (blk_cell BK146.out 2).trans rfl
              have hcz28_3 : wc.cell? ⟨gb146, 3, none⟩ = some (.int .i64 a0_3) := (blk_cell BK146.out 3).trans rfl
              have hcz28_4 : wc.cell? ⟨gb146, 4, none⟩ = some (.int .i64 a0_4) := (blk_cell BK146.out 4).trans rfl
              have hfz28_0 := blk_frozen BK146.out 0
              have hfz28_1 := blk_frozen BK146.out 1
              have hfz28_2 := blk_frozen BK146.out 2
              have hfz28_3 := blk_frozen BK146.out 3
              have hfz28_4 := blk_frozen BK146.out 4
              go_wp2
              go_meet
              case rel => exact ⟨_, (true), (by first | rfl | (simp; done) | exact congrArg Value.bool (Go.Proofs.YtcohfhclcoiigaaX.isEmpty_ne_ _) | exact congrArg Value.bool (Go.Proofs.YtcohfhclcoiigaaX.ne_isEmpty_ _) | (simp [*]; done)), H', ⟨by have := HJ1.out; first | omega | exact Nat.le_refl _⟩, ⟨by (with_reducible repeat (first | refine blk_drewN ?_ _ | refine blk_drew ?_ | refine blk_alloc ?_ _)); exact BK146.out⟩, ⟨by repeat (first | (with_reducible first | exact HB.out | apply below_alloc | apply pw_below_drewN | apply below_drew1 | refine below_set ?_ GE146.out) | exact HB.out)⟩⟩
        case rest =>
          clear HC9
          try clear c1
          try clear c2
          try clear p2
          try clear c4
          try clear c4b0
          try clear c7
          try clear c11
          try clear c13
          try clear c14
          try clear c16
          try clear c21
          try clear c21b0
          try clear c21b1
          try clear c22
          try clear c24
          try clear hcz10_0
          try clear hcz10_1
          try clear hcz10_2
          try clear hcz10_3
          try clear hcz10_4
          try clear hcz17_0
          try clear hcz17_1
          try clear hcz17_2
          try clear hcz17_3
          try clear hcz17_4
          try clear hcz18_0
          try clear hcz18_1
          try clear hcz18_2
          try clear hcz18_3
          try clear hcz18_4
          try clear hcz19_0
          try clear hcz19_1
          try clear hcz19_2
          try clear hcz19_3
          try clear hcz19_4
          try clear hcz20_0
          try clear hcz20_1
          try clear hcz20_2
          try clear hcz20_3
          try clear hcz20_4
          try clear hcz25_0
          try clear hcz25_1
          try clear hcz25_2
          try clear hcz25_3
          try clear hcz25_4
          try clear hcz26_0
          try clear hcz26_1
          try clear hcz26_2
          try clear hcz26_3
          try clear hcz26_4
          try clear hcz27_0
          try clear hcz27_1
          try clear hcz27_2
          try clear hcz27_3
          try clear hcz27_4
          try clear hcz28_0
          try clear hcz28_1
          try clear hcz28_2
          try clear hcz28_3
          try clear hcz28_4
          try clear hcz5_0
          try clear hcz5_1
          try clear hcz5_2
          try clear hcz5_3
          try clear hcz5_4
          try clear hcz6_0
          try clear hcz6_1
          try clear hcz6_2
          try clear hcz6_3
          try clear hcz6_4
          try clear hfz10_0
          try clear hfz10_1
          try clear hfz10_2
          try clear hfz10_3
          try clear hfz10_4
          try clear hfz17_0
          try clear hfz17_1
          try clear hfz17_2
          try clear hfz17_3
          try clear hfz17_4
          try clear hfz18_0
          try clear hfz18_1
          try clear hfz18_2
          try clear hfz18_3
          try clear hfz18_4
          try clear hfz19_0
          try clear hfz19_1
          try clear hfz19_2
          try clear hfz19_3
          try clear hfz19_4
          try clear hfz20_0
          try clear hfz20_1
          try clear hfz20_2
          try clear hfz20_3
          try clear hfz20_4
          try clear hfz25_0
          try clear hfz25_1
          try clear hfz25_2
          try clear hfz25_3
          try clear hfz25_4
          try clear hfz26_0
          try clear hfz26_1
          try clear hfz26_2
          try clear hfz26_3
          try clear hfz26_4
          try clear hfz27_0
          try clear hfz27_1
          try clear hfz27_2
          try clear hfz27_3
          try clear hfz27_4
          try clear hfz28_0
          try clear hfz28_1
          try clear hfz28_2
          try clear hfz28_3
          try clear hfz28_4
          try clear hfz5_0
          try clear hfz5_1
          try clear hfz5_2
          try clear hfz5_3
          try clear hfz5_4
          try clear hfz6_0
          try clear hfz6_1
          try clear hfz6_2
          try clear hfz6_3
          try clear hfz6_4
          try clear p2
          obtain ⟨kq, x56_8, rfl, HA, HJ8, BK146, HB⟩ := hcut
          cases kq with
          | zero => exact absurd HA.out (by simp [chandleryref11_May.j1])
          | succ kj8 =>
            have H := HA.out
            clear HA
            simp only [chandleryref11_May.j1] at H
            by_cases c29 : x56_8 = true
            · subst c29
              have H1 : (some false) = some r := by rw [if_pos rfl] at H; exact H
              clear H
              have H := H1
              clear H1
              obtain rfl := Option.some.inj H
              go_wp2
              go_ret
              exact ⟨by first | rfl | (simp [errW_none, errW_some] <;> rfl) | (simp [*, errW_none, errW_some] <;> rfl), by repeat (first | (with_reducible first | exact HB.out | apply below_alloc | apply pw_below_drewN | apply below_drew1 | refine below_set ?_ GE146.out) | exact HB.out)⟩
            · replace c29 := Bool.eq_false_iff.mpr c29
              subst c29
              have H1 : (if t149 = true then ((chandleryref11_number.f a0_0 a0_3).bind fun t154 => (if t154 = true then (if t150 = true then (if a0_4 ≥ 0 then (if a0_4 ≤ 65535 then (some true) else (some false)) else (some false)) else (some (a0_4 == 0))) else (some false))) else (if a0_3 = 0 then (if t150 = true then (if a0_4 ≥ 0 then (if a0_4 ≤ 65535 then (some true) else (some false)) else (some false)) else (some (a0_4 == 0))) else (some false))) = some r := by rw [if_neg (show ¬ (false = true) by decide)] at H; exact H
              clear H
              have H := H1
              clear H1
              by_cases c30 : t149 = true
              · subst c30
                have H1 : ((chandleryref11_number.f a0_0 a0_3).bind fun t154 => (if t154 = true then (if t150 = true then (if a0_4 ≥ 0 then (if a0_4 ≤ 65535 then (some true) else (some false)) else (some false)) else (some (a0_4 == 0))) else (some false))) = some r := by rw [if_pos rfl] at H; exact H
                clear H
                have H := H1
                clear H1
                replace H := Option.bind_eq_some_iff.mp H
                obtain ⟨t154, A310, H⟩ := H
                replace H : (if t154 = true then (if t150 = true then (if a0_4 ≥ 0 then (if a0_4 ≤ 65535 then (some true) else (some false)) else (some false)) else (some (a0_4 == 0))) else (some false)) = some r := H
                have A31 := Aside0.mk A310
                clear A310
                by_cases c32 : t154 = true
                · subst c32
                  have H1 : (if t150 = true then (if a0_4 ≥ 0 then (if a0_4 ≤ 65535 then (some true) else (some false)) else (some false)) else (some (a0_4 == 0))) = some r := by rw [if_pos rfl] at H; exact H
                  clear H
                  have H := H1
                  clear H1
                  by_cases c33 : t150 = true
                  · subst c33
                    have H1 : (if a0_4 ≥ 0 then (if a0_4 ≤ 65535 then (some true) else (some false)) else (some false)) = some r := by rw [if_pos rfl] at H; exact H
                    clear H
                    have H := H1
                    clear H1
                    by_cases c34 : a0_4 ≥ 0
                    · rw [if_pos c34] at H
                      have c34b0 : decide (0 ≤ a0_4) = true := decide_eq_true c34
                      clear c34
                      by_cases c35 : a0_4 ≤ 65535
                      · rw [if_pos c35] at H
                        have c35b0 : decide (a0_4 ≤ 65535) = true := decide_eq_true c35
                        clear c35
                        obtain rfl := Option.some.inj H
                        have hcz36_0 : wc.cell? ⟨gb146, 0, none⟩ = some (.int .i64 a0_0) := (blk_cell BK146.out 0).trans rfl
                        have hcz36_1 : wc.cell? ⟨gb146, 1, none⟩ = some (.string a0_1) := (blk_cell BK146.out 1).trans rfl
                        have hcz36_2 : wc.cell? ⟨gb146, 2, none⟩ = some (.string a0_2) := (blk_cell BK146.out 2).trans rfl
                        have hcz36_3 : wc.cell? ⟨gb146, 3, none⟩ = some (.int .i64 a0_3) := (blk_cell BK146.out 3).trans rfl
                        have hcz36_4 : wc.cell? ⟨gb146, 4, none⟩ = some (.int .i64 a0_4) := (blk_cell BK146.out 4).trans rfl
                        have hfz36_0 := blk_frozen BK146.out 0
                        have hfz36_1 := blk_frozen BK146.out 1
                        have hfz36_2 := blk_frozen BK146.out 2
                        have hfz36_3 := blk_frozen BK146.out 3
                        have hfz36_4 := blk_frozen BK146.out 4
                        go_wp2_with (first | (go_at_call 27; (with_reducible refine (chandleryref11_number.calls a0_0 a0_3 true _ A31.out).mono ?_); rintro e w' ⟨rfl, ⟨nd, rfl⟩⟩))
                        go_ret
                        exact ⟨by first | rfl | (simp [errW_none, errW_some] <;> rfl) | (simp [*, errW_none, errW_some] <;> rfl), by repeat (first | (with_reducible first | exact HB.out | apply below_alloc | apply pw_below_drewN | apply below_drew1 | refine below_set ?_ GE146.out) | exact HB.out)⟩
                      · rw [if_neg c35] at H
                        have c35b0 : decide (a0_4 ≤ 65535) = false := decide_eq_false c35
                        clear c35
                        obtain rfl := Option.some.inj H
                        have hcz37_0 : wc.cell? ⟨gb146, 0, none⟩ = some (.int .i64 a0_0) := (blk_cell BK146.out 0).trans rfl
                        have hcz37_1 : wc.cell? ⟨gb146, 1, none⟩ = some (.string a0_1) := (blk_cell BK146.out 1).trans rfl
                        have hcz37_2 : wc.cell? ⟨gb146, 2, none⟩ = some (.string a0_2) := (blk_cell BK146.out 2).trans rfl
                        have hcz37_3 : wc.cell? ⟨gb146, 3, none⟩ = some (.int .i64 a0_3) := (blk_cell BK146.out 3).trans rfl
                        have hcz37_4 : wc.cell? ⟨gb146, 4, none⟩ = some (.int .i64 a0_4) := (blk_cell BK146.out 4).trans rfl
                        have hfz37_0 := blk_frozen BK146.out 0
                        have hfz37_1 := blk_frozen BK146.out 1
                        have hfz37_2 := blk_frozen BK146.out 2
                        have hfz37_3 := blk_frozen BK146.out 3
                        have hfz37_4 := blk_frozen BK146.out 4
                        go_wp2_with (first | (go_at_call 27; (with_reducible refine (chandleryref11_number.calls a0_0 a0_3 true _ A31.out).mono ?_); rintro e w' ⟨rfl, ⟨nd, rfl⟩⟩))
                        go_ret
                        exact ⟨by first | rfl | (simp [errW_none, errW_some] <;> rfl) | (simp [*, errW_none, errW_some] <;> rfl), by repeat (first | (with_reducible first | exact HB.out | apply below_alloc | apply pw_below_drewN | apply below_drew1 | refine below_set ?_ GE146.out) | exact HB.out)⟩
                    · rw [if_neg c34] at H
                      have c34b0 : decide (0 ≤ a0_4) = false := decide_eq_false c34
                      clear c34
                      obtain rfl := Option.some.inj H
                      have hcz38_0 : wc.cell? ⟨gb146, 0, none⟩ = some (.int .i64 a0_0) := (blk_cell BK146.out 0).trans rfl
                      have hcz38_1 : wc.cell? ⟨gb146, 1, none⟩ = some (.string a0_1) := (blk_cell BK146.out 1).trans rfl
                      have hcz38_2 : wc.cell? ⟨gb146, 2, none⟩ = some (.string a0_2) := (blk_cell BK146.out 2).trans rfl
                      have hcz38_3 : wc.cell? ⟨gb146, 3, none⟩ = some (.int .i64 a0_3) := (blk_cell BK146.out 3).trans rfl
                      have hcz38_4 : wc.cell? ⟨gb146, 4, none⟩ = some (.int .i64 a0_4) := (blk_cell BK146.out 4).trans rfl
                      have hfz38_0 := blk_frozen BK146.out 0
                      have hfz38_1 := blk_frozen BK146.out 1
                      have hfz38_2 := blk_frozen BK146.out 2
                      have hfz38_3 := blk_frozen BK146.out 3
                      have hfz38_4 := blk_frozen BK146.out 4
                      go_wp2_with (first | (go_at_call 27; (with_reducible refine (chandleryref11_number.calls a0_0 a0_3 true _ A31.out).mono ?_); rintro e w' ⟨rfl, ⟨nd, rfl⟩⟩))
                      go_ret
                      exact ⟨by first | rfl | (simp [errW_none, errW_some] <;> rfl) | (simp [*, errW_none, errW_some] <;> rfl), by repeat (first | (with_reducible first | exact HB.out | apply below_alloc | apply pw_below_drewN | apply below_drew1 | refine below_set ?_ GE146.out) | exact HB.out)⟩
                  · replace c33 := Bool.eq_false_iff.mpr c33
                    subst c33
                    have H1 : (some (a0_4 == 0)) = some r := by rw [if_neg (show ¬ (false = true) by decide)] at H; exact H
                    clear H
                    have H := H1
                    clear H1
                    obtain rfl := Option.some.inj H
                    have hcz39_0 : wc.cell? ⟨gb146, 0, none⟩ = some (.int .i64 a0_0) := (blk_cell BK146.out 0).trans rfl
                    have hcz39_1 : wc.cell? ⟨gb146, 1, none⟩ = some (.string a0_1) := (blk_cell BK146.out 1).trans rfl
                    have hcz39_2 : wc.cell? ⟨gb146, 2, none⟩ = some (.string a0_2) := (blk_cell BK146.out 2).trans rfl
                    have hcz39_3 : wc.cell? ⟨gb146, 3, none⟩ = some (.int .i64 a0_3) := (blk_cell BK146.out 3).trans rfl
                    have hcz39_4 : wc.cell? ⟨gb146, 4, none⟩ = some (.int .i64 a0_4) := (blk_cell BK146.out 4).trans rfl
                    have hfz39_0 := blk_frozen BK146.out 0
                    have hfz39_1 := blk_frozen BK146.out 1
                    have hfz39_2 := blk_frozen BK146.out 2
                    have hfz39_3 := blk_frozen BK146.out 3
                    have hfz39_4 := blk_frozen BK146.out 4
                    go_wp2_with (first | (go_at_call 27; (with_reducible refine (chandleryref11_number.calls a0_0 a0_3 true _ A31.out).mono ?_); rintro e w' ⟨rfl, ⟨nd, rfl⟩⟩))
                    go_ret
                    exact ⟨by first | rfl | (simp [errW_none, errW_some] <;> rfl) | (simp [*, errW_none, errW_some] <;> rfl), by repeat (first | (with_reducible first | exact HB.out | apply below_alloc | apply pw_below_drewN | apply below_drew1 | refine below_set ?_ GE146.out) | exact HB.out)⟩
                · replace c32 := Bool.eq_false_iff.mpr c32
                  subst c32
                  have H1 : (some false) = some r := by rw [if_neg (show ¬ (false = true) by decide)] at H; exact H
                  clear H
                  have H := H1
                  clear H1
                  obtain rfl := Option.some.inj H
                  have hcz40_0 : wc.cell? ⟨gb146, 0, none⟩ = some (.int .i64 a0_0) := (blk_cell BK146.out 0).trans rfl
                  have hcz40_1 : wc.cell? ⟨gb146, 1, none⟩ = some (.string a0_1) := (blk_cell BK146.out 1).trans rfl
                  have hcz40_2 : wc.cell? ⟨gb146, 2, none⟩ = some (.string a0_2) := (blk_cell BK146.out 2).trans rfl
                  have hcz40_3 : wc.cell? ⟨gb146, 3, none⟩ = some (.int .i64 a0_3) := (blk_cell BK146.out 3).trans rfl
                  have hcz40_4 : wc.cell? ⟨gb146, 4, none⟩ = some (.int .i64 a0_4) := (blk_cell BK146.out 4).trans rfl
                  have hfz40_0 := blk_frozen BK146.out 0
                  have hfz40_1 := blk_frozen BK146.out 1
                  have hfz40_2 := blk_frozen BK146.out 2
                  have hfz40_3 := blk_frozen BK146.out 3
                  have hfz40_4 := blk_frozen BK146.out 4
                  go_wp2_with (first | (go_at_call 27; (with_reducible refine (chandleryref11_number.calls a0_0 a0_3 false _ A31.out).mono ?_); rintro e w' ⟨rfl, ⟨nd, rfl⟩⟩))
                  go_ret
                  exact ⟨by first | rfl | (simp [errW_none, errW_some] <;> rfl) | (simp [*, errW_none, errW_some] <;> rfl), by repeat (first | (with_reducible first | exact HB.out | apply below_alloc | apply pw_below_drewN | apply below_drew1 | refine below_set ?_ GE146.out) | exact HB.out)⟩
              · replace c30 := Bool.eq_false_iff.mpr c30
                subst c30
                have H1 : (if a0_3 = 0 then (if t150 = true then (if a0_4 ≥ 0 then (if a0_4 ≤ 65535 then (some true) else (some false)) else (some false)) else (some (a0_4 == 0))) else (some false)) = some r := by rw [if_neg (show ¬ (false = true) by decide)] at H; exact H
                clear H
                have H := H1
                clear H1
                by_cases c41 : a0_3 = 0
                · rw [if_pos c41] at H
                  have c41b0 : (a0_3 == 0) = true := beq_iff_eq.mpr c41
                  have c41b1 : (a0_3 != 0) = false := bne_eq_false_iff_eq.mpr c41
                  clear c41
                  by_cases c42 : t150 = true
                  · subst c42
                    have H1 : (if a0_4 ≥ 0 then (if a0_4 ≤ 65535 then (some true) else (some false)) else (some false)) = some r := by rw [if_pos rfl] at H; exact H
                    clear H
                    have H := H1
                    clear H1
                    by_cases c43 : a0_4 ≥ 0
                    · rw [if_pos c43] at H
                      have c43b0 : decide (0 ≤ a0_4) = true := decide_eq_true c43
                      clear c43
                      by_cases c44 : a0_4 ≤ 65535
                      · rw [if_pos c44] at H
                        have c44b0 : decide (a0_4 ≤ 65535) = true := decide_eq_true c44
                        clear c44
                        obtain rfl := Option.some.inj H
                        have hcz45_0 : wc.cell? ⟨gb146, 0, none⟩ = some (.int .i64 a0_0) := (blk_cell BK146.out 0).trans rfl
                        have hcz45_1 : wc.cell? ⟨gb146, 1, none⟩ = some (.string a0_1) := (blk_cell BK146.out 1).trans rfl
                        have hcz45_2 : wc.cell? ⟨gb146, 2, none⟩ = some (.string a0_2) := (blk_cell BK146.out 2).trans rfl
                        have hcz45_3 : wc.cell? ⟨gb146, 3, none⟩ = some (.int .i64 a0_3) := (blk_cell BK146.out 3).trans rfl
                        have hcz45_4 : wc.cell? ⟨gb146, 4, none⟩ = some (.int .i64 a0_4) := (blk_cell BK146.out 4).trans rfl
                        have hfz45_0 := blk_frozen BK146.out 0
                        have hfz45_1 := blk_frozen BK146.out 1
                        have hfz45_2 := blk_frozen BK146.out 2
                        have hfz45_3 := blk_frozen BK146.out 3
                        have hfz45_4 := blk_frozen BK146.out 4
                        go_wp2
                        go_ret
                        exact ⟨by first | rfl | (simp [errW_none, errW_some] <;> rfl) | (simp [*, errW_none, errW_some] <;> rfl), by repeat (first | (with_reducible first | exact HB.out | apply below_alloc | apply pw_below_drewN | apply below_drew1 | refine below_set ?_ GE146.out) | exact HB.out)⟩
                      · rw [if_neg c44] at H
                        have c44b0 : decide (a0_4 ≤ 65535) = false := decide_eq_false c44
                        clear c44
                        obtain rfl := Option.some.inj H
                        have hcz46_0 : wc.cell? ⟨gb146, 0, none⟩ = some (.int .i64 a0_0) := (blk_cell BK146.out 0).trans rfl
                        have hcz46_1 : wc.cell? ⟨gb146, 1, none⟩ = some (.string a0_1) := (blk_cell BK146.out 1).trans rfl
                        have hcz46_2 : wc.cell? ⟨gb146, 2, none⟩ = some (.string a0_2) := (blk_cell BK146.out 2).trans rfl
                        have hcz46_3 : wc.cell? ⟨gb146, 3, none⟩ = some (.int .i64 a0_3) := (blk_cell BK146.out 3).trans rfl
                        have hcz46_4 : wc.cell? ⟨gb146, 4, none⟩ = some (.int .i64 a0_4) := (blk_cell BK146.out 4).trans rfl
                        have hfz46_0 := blk_frozen BK146.out 0
                        have hfz46_1 := blk_frozen BK146.out 1
                        have hfz46_2 := blk_frozen BK146.out 2
                        have hfz46_3 := blk_frozen BK146.out 3
                        have hfz46_4 := blk_frozen BK146.out 4
                        go_wp2
                        go_ret
                        exact ⟨by first | rfl | (simp [errW_none, errW_some] <;> rfl) | (simp [*, errW_none, errW_some] <;> rfl), by repeat (first | (with_reducible first | exact HB.out | apply below_alloc | apply pw_below_drewN | apply below_drew1 | refine below_set ?_ GE146.out) | exact HB.out)⟩
                    · rw [if_neg c43] at H
                      have c43b0 : decide (0 ≤ a0_4) = false := decide_eq_false c43
                      clear c43
                      obtain rfl := Option.some.inj H
                      have hcz47_0 : wc.cell? ⟨gb146, 0, none⟩ = some (.int .i64 a0_0) := (blk_cell BK146.out 0).trans rfl
                      have hcz47_1 : wc.cell? ⟨gb146, 1, none⟩ = some (.string a0_1) := (blk_cell BK146.out 1).trans rfl
                      have hcz47_2 : wc.cell? ⟨gb146, 2, none⟩ = some (.string a0_2) := (blk_cell BK146.out 2).trans rfl
                      have hcz47_3 : wc.cell? ⟨gb146, 3, none⟩ = some (.int .i64 a0_3) := (blk_cell BK146.out 3).trans rfl
                      have hcz47_4 : wc.cell? ⟨gb146, 4, none⟩ = some (.int .i64 a0_4) := (blk_cell BK146.out 4).trans rfl
                      have hfz47_0 := blk_frozen BK146.out 0
                      have hfz47_1 := blk_frozen BK146.out 1
                      have hfz47_2 := blk_frozen BK146.out 2
                      have hfz47_3 := blk_frozen BK146.out 3
                      have hfz47_4 := blk_frozen BK146.out 4
                      go_wp2
                      go_ret
                      exact ⟨by first | rfl | (simp [errW_none, errW_some] <;> rfl) | (simp [*, errW_none, errW_some] <;> rfl), by repeat (first | (with_reducible first | exact HB.out | apply below_alloc | apply pw_below_drewN | apply below_drew1 | refine below_set ?_ GE146.out) | exact HB.out)⟩
                  · replace c42 := Bool.eq_false_iff.mpr c42
                    subst c42
                    have H1 : (some (a0_4 == 0)) = some r := by rw [if_neg (show ¬ (false = true) by decide)] at H; exact H
                    clear H
                    have H := H1
                    clear H1
                    obtain rfl := Option.some.inj H
                    have hcz48_0 : wc.cell? ⟨gb146, 0, none⟩ = some (.int .i64 a0_0) := (blk_cell BK146.out 0).trans rfl
                    have hcz48_1 : wc.cell? ⟨gb146, 1, none⟩ = some (.string a0_1) := (blk_cell BK146.out 1).trans rfl
                    have hcz48_2 : wc.cell? ⟨gb146, 2, none⟩ = some (.string a0_2) := (blk_cell BK146.out 2).trans rfl
                    have hcz48_3 : wc.cell? ⟨gb146, 3, none⟩ = some (.int .i64 a0_3) := (blk_cell BK146.out 3).trans rfl
                    have hcz48_4 : wc.cell? ⟨gb146, 4, none⟩ = some (.int .i64 a0_4) := (blk_cell BK146.out 4).trans rfl
                    have hfz48_0 := blk_frozen BK146.out 0
                    have hfz48_1 := blk_frozen BK146.out 1
                    have hfz48_2 := blk_frozen BK146.out 2
                    have hfz48_3 := blk_frozen BK146.out 3
                    have hfz48_4 := blk_frozen BK146.out 4
                    go_wp2
                    go_ret
                    exact ⟨by first | rfl | (simp [errW_none, errW_some] <;> rfl) | (simp [*, errW_none, errW_some] <;> rfl), by repeat (first | (with_reducible first | exact HB.out | apply below_alloc | apply pw_below_drewN | apply below_drew1 | refine below_set ?_ GE146.out) | exact HB.out)⟩
                · rw [if_neg c41] at H
                  have c41b0 : (a0_3 == 0) = false := beq_eq_false_iff_ne.mpr c41
                  have c41b1 : (a0_3 != 0) = true := bne_iff_ne.mpr c41
                  obtain rfl := Option.some.inj H
                  have hcz49_0 : wc.cell? ⟨gb146, 0, none⟩ = some (.int .i64 a0_0) := (blk_cell BK146.out 0).trans rfl
                  have hcz49_1 : wc.cell? ⟨gb146, 1, none⟩ = some (.string a0_1) := (blk_cell BK146.out 1).trans rfl
                  have hcz49_2 : wc.cell? ⟨gb146, 2, none⟩ = some (.string a0_2) := (blk_cell BK146.out 2).trans rfl
                  have hcz49_3 : wc.cell? ⟨gb146, 3, none⟩ = some (.int .i64 a0_3) := (blk_cell BK146.out 3).trans rfl
                  have hcz49_4 : wc.cell? ⟨gb146, 4, none⟩ = some (.int .i64 a0_4) := (blk_cell BK146.out 4).trans rfl
                  have hfz49_0 := blk_frozen BK146.out 0
                  have hfz49_1 := blk_frozen BK146.out 1
                  have hfz49_2 := blk_frozen BK146.out 2
                  have hfz49_3 := blk_frozen BK146.out 3
                  have hfz49_4 := blk_frozen BK146.out 4
                  go_wp2
                  go_ret
                  exact ⟨by first | rfl | (simp [errW_none, errW_some] <;> rfl) | (simp [*, errW_none, errW_some] <;> rfl), by repeat (first | (with_reducible first | exact HB.out | apply below_alloc | apply pw_below_drewN | apply below_drew1 | refine below_set ?_ GE146.out) | exact HB.out)⟩

/-! ### chandleryref11_three: function 26 -/
def chandleryref11_three.f (a0 : Int) : Option (ByteArray) := some (strOfNums (([(wrap64 (Int.tdiv a0 65536)) % 256, (Int.tmod (wrap64 (Int.tdiv a0 256)) 256) % 256, (Int.tmod a0 256) % 256] : List Int)))
set_option maxHeartbeats 8000000 in
set_option maxRecDepth 100000 in
theorem chandleryref11_three.calls (a0 : Int) (r : ByteArray) (w : World) (h : chandleryref11_three.f a0 = some r) :
    Calls Try.prog 26 #[.int .i64 a0] w fun e w' => e = .returned (.string r) ∧ Below w.heap.size w w' := by
  have HB := Aside0.mk (Below.refl w.heap.size w)
  have H : (some (strOfNums (([(wrap64 (Int.tdiv a0 65536)) % 256, (Int.tmod (wrap64 (Int.tdiv a0 256)) 256) % 256, (Int.tmod a0 256) % 256] : List Int)))) = some r := h
  clear h
  obtain ⟨y155, hy155⟩ : ∃ y_ : List Int, y_ = (([(wrap64 (Int.tdiv a0 65536)) % 256, (Int.tmod (wrap64 (Int.tdiv a0 256)) 256) % 256, (Int.tmod a0 256) % 256] : List Int)) := ⟨_, rfl⟩
  replace H : (some (strOfNums y155)) = some r := by first | (rw [hy155]; with_reducible exact H) | (have H2_ := (Option.bind_some _ _).symm.trans H; rw [hy155]; with_reducible exact H2_) | (have H2_ := (Option.bind_some _ _).symm.trans H; with_reducible exact H2_) | with_reducible exact H | (rw [hy155]; exact H) | exact H
  have Ny155 := Aside0.mk hy155
  clear hy155
  obtain rfl := Option.some.inj H
  go_enter Try.func26, Try.ntmps26
  go_wp2_with (first | ((with_reducible refine gate_dst (N := 13) rfl ?_); refine Kd.R_lit (Kd.int .u8) _ 5 ?hg (N := 13) ?hd (xs := ([(wrap64 (Int.tdiv a0 65536)) % 256, (Int.tmod (wrap64 (Int.tdiv a0 256)) 256) % 256, (Int.tmod a0 256) % 256] : List Int)) (inner := [.int .u8 ((wrap64 (Int.tdiv a0 65536)) % 256), .int .u8 ((Int.tmod (wrap64 (Int.tdiv a0 256)) 256) % 256), .int .u8 ((Int.tmod a0 256) % 256)]) (ok := fun _ => True) (okp := fun _ => True) ?hr ?hp (fun _ hk => hk) trivial (Below.refl _ _) (Nat.le_refl _) (by simp) ?_; (case hd => rfl); (case hg => rfl); (case hr => first | (go_simp; done) | (go_simp; rfl)); (case hp => exact (Reps.one (show Kd.M (Kd.int .u8) _ _ _ ((wrap64 (Int.tdiv a0 65536)) % 256) [.int .u8 ((wrap64 (Int.tdiv a0 65536)) % 256)] from rfl) (Reps.one (show Kd.M (Kd.int .u8) _ _ _ ((Int.tmod (wrap64 (Int.tdiv a0 256)) 256) % 256) [.int .u8 ((Int.tmod (wrap64 (Int.tdiv a0 256)) 256) % 256)] from rfl) (Reps.one (show Kd.M (Kd.int .u8) _ _ _ ((Int.tmod a0 256) % 256) [.int .u8 ((Int.tmod a0 256) % 256)] from rfl) (Reps.none _ _))))); intro v156 w2 ho3 hb hg_ hnew_; clear hg_ hnew_; (first | rw [← Ny155.out] at ho3 | (simp only [Int.reduceToNat] at ho3; rw [← Ny155.out] at ho3)); have n0_ := Aside0.mk (Kd.R_lower ho3 (below_size (by repeat (first | (with_reducible first | exact HB.out | apply below_alloc | apply pw_below_drewN | apply below_drew1) | exact HB.out)))); have n1_ := Aside0.mk (below_step (by repeat (first | (with_reducible first | exact HB.out | apply below_alloc | apply pw_below_drewN | apply below_drew1) | exact HB.out)) hb); clear HB; have HO157 := n0_; have HB := n1_; clear n0_ n1_; clear hb ho3; have hcv4 := own_string (P := Try.prog) Try.underlying45 Try.underlying5 Try.underlying9 (Kd.own_of_R HO157.out); have hcv4u := fun nq_ : Nat => own_string (P := Try.prog) Try.underlying45 Try.underlying5 Try.underlying9 (Kd.own_of_R (Kd.R_drewN HO157.out nq_))))
  go_ret
  exact ⟨by first | rfl | (simp [errW_none, errW_some] <;> rfl) | (simp [*, errW_none, errW_some] <;> rfl), by repeat (first | (with_reducible first | exact HB.out | apply below_alloc | apply pw_below_drewN | apply below_drew1) | exact HB.out)⟩

end Go.Proofs.Ytcohfhclcoiigaa.PKeys
