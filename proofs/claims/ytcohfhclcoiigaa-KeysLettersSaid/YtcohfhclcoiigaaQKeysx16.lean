-- printed with xprint.py over the kit's print
import Derived.Test.YtcohfhclcoiigaaQKeysx0
import Derived.Test.YtcohfhclcoiigaaQKeysx2
import Derived.Test.YtcohfhclcoiigaaQKeysx3
import Derived.Test.YtcohfhclcoiigaaQKeysx9
namespace Go.Proofs.Ytcohfhclcoiigaa.PKeys
open Go.RowKit Go.Proofs.YtcohfhclcoiigaaW.PrintWords Go.Proofs.YtcohfhclcoiigaaW.PrintLast Go.Proofs.YtcohfhclcoiigaaW.PrintMore
attribute [local go_sem] max2_int min2_int max_two min_two max_three min_three max_four min_four   -- for this text's walks alone
set_option linter.unusedVariables false
set_option linter.unusedSimpArgs false

/-! ### chandlerylaw11_KeysLetters: function 8 -/
mutual
def chandlerylaw11_KeysLetters.j0 : Nat → Bool → Int → ByteArray → ByteArray → Int → Int → Int → ByteArray → ByteArray → Int → Int → Option (Bool)
  | 0, _, _, _, _, _, _, _, _, _, _, _ => none
  | k + 1, x17, x255000, x255001, x255002, x255003, x255004, x256000, x256001, x256002, x256003, x256004 => if x17 = true then (some true) else ((keys_Bytes.f k x255000 x255001 x255002 x255003 x255004).bind fun bt258 => ((keys_Bytes.f k x256000 x256001 x256002 x256003 x256004).bind fun bt260 => (if bt258.2 = 0 then (if bt260.2 = 0 then (if bt258.1.toList = ([] : List UInt8) then (chandlerylaw11_KeysLetters.j1 k bt258.1 bt260.1 true x255000 x255001 x255002 x255003 x255004 x256000 x256001 x256002 x256003 x256004) else (chandlerylaw11_KeysLetters.j1 k bt258.1 bt260.1 (bt260.1.toList == ([] : List UInt8)) x255000 x255001 x255002 x255003 x255004 x256000 x256001 x256002 x256003 x256004)) else (chandlerylaw11_KeysLetters.j1 k bt258.1 bt260.1 true x255000 x255001 x255002 x255003 x255004 x256000 x256001 x256002 x256003 x256004)) else (chandlerylaw11_KeysLetters.j1 k bt258.1 bt260.1 true x255000 x255001 x255002 x255003 x255004 x256000 x256001 x256002 x256003 x256004))))
def chandlerylaw11_KeysLetters.j1 : Nat → ByteArray → ByteArray → Bool → Int → ByteArray → ByteArray → Int → Int → Int → ByteArray → ByteArray → Int → Int → Option (Bool)
  | 0, _, _, _, _, _, _, _, _, _, _, _, _, _ => none
  | k + 1, x5, x7, x41, x255000, x255001, x255002, x255003, x255004, x256000, x256001, x256002, x256003, x256004 => if x41 = true then ((chandlerylaw11_awake.f k).bind fun t262 => (some t262)) else (if 0 < (x5.size : Int) then (if 0 < (x7.size : Int) then (if (((bt x5 0) == (bt x7 0)) != (x255000 == x256000)) = true then (some false) else (if x255000 = 1 then ((chandlerylaw11_awake.f k).bind fun t263 => (if t263 = true then (if x255000 = x256000 then (some ((x5.size : Int) == (x7.size : Int))) else (some true)) else (some false))) else (if x255000 = 2 then ((chandlerylaw11_awake.f k).bind fun t264 => (if t264 = true then (if x255000 = x256000 then (some ((x5.size : Int) == (x7.size : Int))) else (some true)) else (some false))) else ((chandlerylaw11_awake.f k).bind fun t265 => (if t265 = true then (if x255000 = 3 then (if x255000 = x256000 then (some ((x5.size : Int) == (x7.size : Int))) else (some true)) else (some true)) else (some false)))))) else (none)) else (none))
end
def chandlerylaw11_KeysLetters.f (k : Nat) (a0_0 : Int) (a0_1 : ByteArray) (a0_2 : ByteArray) (a0_3 : Int) (a0_4 : Int) (a1_0 : Int) (a1_1 : ByteArray) (a1_2 : ByteArray) (a1_3 : Int) (a1_4 : Int) : Option (Bool) := (chandlerylaw11_small.f a0_0 a0_1 a0_2 a0_3 a0_4).bind fun t256 => (if t256 = true then ((chandlerylaw11_small.f a1_0 a1_1 a1_2 a1_3 a1_4).bind fun t257 => (chandlerylaw11_KeysLetters.j0 k (!t257) a0_0 a0_1 a0_2 a0_3 a0_4 a1_0 a1_1 a1_2 a1_3 a1_4)) else (chandlerylaw11_KeysLetters.j0 k true a0_0 a0_1 a0_2 a0_3 a0_4 a1_0 a1_1 a1_2 a1_3 a1_4))
theorem chandlerylaw11_KeysLetters.mono_l : ∀ k, (∀ y0 y1 y2 y3 y4 y5 y6 y7 y8 y9 y10, LeO (chandlerylaw11_KeysLetters.j0 k y0 y1 y2 y3 y4 y5 y6 y7 y8 y9 y10) (chandlerylaw11_KeysLetters.j0 (k + 1) y0 y1 y2 y3 y4 y5 y6 y7 y8 y9 y10)) ∧ (∀ y0 y1 y2 y3 y4 y5 y6 y7 y8 y9 y10 y11 y12, LeO (chandlerylaw11_KeysLetters.j1 k y0 y1 y2 y3 y4 y5 y6 y7 y8 y9 y10 y11 y12) (chandlerylaw11_KeysLetters.j1 (k + 1) y0 y1 y2 y3 y4 y5 y6 y7 y8 y9 y10 y11 y12))
  | 0 => ⟨fun _ _ _ _ _ _ _ _ _ _ _ r h => by simp [chandlerylaw11_KeysLetters.j0] at h, fun _ _ _ _ _ _ _ _ _ _ _ _ _ r h => by simp [chandlerylaw11_KeysLetters.j1] at h⟩
  | k + 1 => by
    obtain ⟨ih0, ih1⟩ := chandlerylaw11_KeysLetters.mono_l k
    refine ⟨?_, ?_⟩
    · intro y0 y1 y2 y3 y4 y5 y6 y7 y8 y9 y10
      unfold chandlerylaw11_KeysLetters.j0
      repeat' first
      | (with_reducible exact ih0 _ _ _ _ _ _ _ _ _ _ _)
      | (with_reducible exact ih1 _ _ _ _ _ _ _ _ _ _ _ _ _)
      | (with_reducible exact chandlerylaw11_awake.mono _)
      | (with_reducible exact keys_Bytes.mono _ _ _ _ _ _)
      | (with_reducible exact LeO.refl _)
      | (with_reducible exact LeO.none _)
      | (with_reducible refine LeO.ite ?_ ?_)
      | (with_reducible refine LeO.bind ?_ (fun _ => ?_))
      | exact ih0 _ _ _ _ _ _ _ _ _ _ _
      | exact ih1 _ _ _ _ _ _ _ _ _ _ _ _ _
      | exact chandlerylaw11_awake.mono _
      | exact keys_Bytes.mono _ _ _ _ _ _
      | exact LeO.none _
      | refine LeO.ite ?_ ?_
      | refine LeO.bind ?_ (fun _ => ?_)
    · intro y0 y1 y2 y3 y4 y5 y6 y7 y8 y9 y10 y11 y12
      unfold chandlerylaw11_KeysLetters.j1
      repeat' first
      | (with_reducible exact ih0 _ _ _ _ _ _ _ _ _ _ _)
      | (with_reducible exact ih1 _ _ _ _ _ _ _ _ _ _ _ _ _)
      | (with_reducible exact chandlerylaw11_awake.mono _)
      | (with_reducible exact keys_Bytes.mono _ _ _ _ _ _)
      | (with_reducible exact LeO.refl _)
      | (with_reducible exact LeO.none _)
      | (with_reducible refine LeO.ite ?_ ?_)
      | (with_reducible refine LeO.bind ?_ (fun _ => ?_))
      | exact ih0 _ _ _ _ _ _ _ _ _ _ _
      | exact ih1 _ _ _ _ _ _ _ _ _ _ _ _ _
      | exact chandlerylaw11_awake.mono _
      | exact keys_Bytes.mono _ _ _ _ _ _
      | exact LeO.none _
      | refine LeO.ite ?_ ?_
      | refine LeO.bind ?_ (fun _ => ?_)
theorem chandlerylaw11_KeysLetters.mono : ∀ a0 a1 a2 a3 a4 a5 a6 a7 a8 a9 k, LeO (chandlerylaw11_KeysLetters.f k a0 a1 a2 a3 a4 a5 a6 a7 a8 a9) (chandlerylaw11_KeysLetters.f (k + 1) a0 a1 a2 a3 a4 a5 a6 a7 a8 a9) := by
  intro a0 a1 a2 a3 a4 a5 a6 a7 a8 a9 k
  obtain ⟨ih0, ih1⟩ := chandlerylaw11_KeysLetters.mono_l k
  unfold chandlerylaw11_KeysLetters.f
  repeat' first
      | (with_reducible exact ih0 _ _ _ _ _ _ _ _ _ _ _)
      | (with_reducible exact ih1 _ _ _ _ _ _ _ _ _ _ _ _ _)
      | (with_reducible exact chandlerylaw11_awake.mono _)
      | (with_reducible exact keys_Bytes.mono _ _ _ _ _ _)
      | (with_reducible exact LeO.refl _)
      | (with_reducible exact LeO.none _)
      | (with_reducible refine LeO.ite ?_ ?_)
      | (with_reducible refine LeO.bind ?_ (fun _ => ?_))
      | exact ih0 _ _ _ _ _ _ _ _ _ _ _
      | exact ih1 _ _ _ _ _ _ _ _ _ _ _ _ _
      | exact chandlerylaw11_awake.mono _
      | exact keys_Bytes.mono _ _ _ _ _ _
      | exact LeO.none _
      | refine LeO.ite ?_ ?_
      | refine LeO.bind ?_ (fun _ => ?_)
set_option maxHeartbeats 8000000 in
set_option maxRecDepth 100000 in
theorem chandlerylaw11_KeysLetters.calls (k : Nat) (a0_0 : Int) (a0_1 : ByteArray) (a0_2 : ByteArray) (a0_3 : Int) (a0_4 : Int) (a1_0 : Int) (a1_1 : ByteArray) (a1_2 : ByteArray) (a1_3 : Int) (a1_4 : Int) (r : Bool) (w : World) (h : chandlerylaw11_KeysLetters.f k a0_0 a0_1 a0_2 a0_3 a0_4 a1_0 a1_1 a1_2 a1_3 a1_4 = some r) :
    Calls Try.prog 8 #[.agg #[.int .i64 a0_0, .string a0_1, .string a0_2, .int .i64 a0_3, .int .i64 a0_4], .agg #[.int .i64 a1_0, .string a1_1, .string a1_2, .int .i64 a1_3, .int .i64 a1_4]] w fun e w' => e = .returned (.bool r) ∧ Below w.heap.size w w' := by
  have hu23 := Try.underlying23
  have HB := Aside0.mk (Below.refl w.heap.size w)
  have H : ((chandlerylaw11_small.f a0_0 a0_1 a0_2 a0_3 a0_4).bind fun t256 => (if t256 = true then ((chandlerylaw11_small.f a1_0 a1_1 a1_2 a1_3 a1_4).bind fun t257 => (chandlerylaw11_KeysLetters.j0 k (!t257) a0_0 a0_1 a0_2 a0_3 a0_4 a1_0 a1_1 a1_2 a1_3 a1_4)) else (chandlerylaw11_KeysLetters.j0 k true a0_0 a0_1 a0_2 a0_3 a0_4 a1_0 a1_1 a1_2 a1_3 a1_4))) = some r := h
  clear h
  have HC3 := Aside0.mk H
  clear H
  go_enter Try.func8, Try.ntmps8
  go_upto_region 1 with (first | ((with_reducible refine gate_dst (N := 2) rfl ?_); (try (refine gate_guard (by rfl) ?_; dsimp only)); refine box_event ?hg (N := 2) ?hd (cs := #[.int .i64 a0_0, .string a0_1, .string a0_2, .int .i64 a0_3, .int .i64 a0_4]) (t := 23) ?hr ?_; (case hd => rfl); (case hg => rfl); (case hr => first | (go_simp; done) | (go_simp; rfl)); intro gb254 hg w4 hbox hb; have n0_ := Aside0.mk (below_step (by repeat (first | (with_reducible first | exact HB.out | apply below_alloc | apply pw_below_drewN | apply below_drew1) | exact HB.out)) hb); have n1_ := Aside0.mk (hbox); have n2_ := Aside0.mk ((by rw [hg]; exact (below_size (by repeat (first | (with_reducible first | exact HB.out | apply below_alloc | apply pw_below_drewN | apply below_drew1) | exact HB.out))) : w.heap.size ≤ gb254)); have n3_ := Aside0.mk ((by rw [hg]; exact (below_size (by repeat (first | (with_reducible first | exact HB.out | apply below_alloc | apply pw_below_drewN | apply below_drew1) | exact HB.out))) : w.heap.size ≤ gb254)); clear HB; have HB := n0_; have BK254 := n1_; have GW254 := n2_; have GE254 := n3_; clear n0_ n1_ n2_ n3_; clear hb hbox hg) | ((with_reducible refine gate_dst (N := 3) rfl ?_); (try (refine gate_guard (by rfl) ?_; dsimp only)); refine box_event ?hg (N := 3) ?hd (cs := #[.int .i64 a1_0, .string a1_1, .string a1_2, .int .i64 a1_3, .int .i64 a1_4]) (t := 23) ?hr ?_; (case hd => rfl); (case hg => rfl); (case hr => first | (go_simp; done) | (go_simp; rfl)); intro gb255 hg w5 hbox hb; have n0_ := Aside0.mk (blk_below (g := gb254) (o := .cells #[.int .i64 a0_0, .string a0_1, .string a0_2, .int .i64 a0_3, .int .i64 a0_4] 23 (0, 0)) (by (with_reducible repeat (first | refine blk_drewN ?_ _ | refine blk_drew ?_ | refine blk_alloc ?_ _)); exact BK254.out) hb); have n1_ := Aside0.mk (below_step (by repeat (first | (with_reducible first | exact HB.out | apply below_alloc | apply pw_below_drewN | apply below_drew1 | refine below_set ?_ GE254.out) | exact HB.out)) hb); have n2_ := Aside0.mk (hbox); have n3_ := Aside0.mk ((by rw [hg]; exact (below_size (by repeat (first | (with_reducible first | exact HB.out | apply below_alloc | apply pw_below_drewN | apply below_drew1 | refine below_set ?_ GE254.out) | exact HB.out))) : w.heap.size ≤ gb255)); have n4_ := Aside0.mk ((by rw [hg]; exact (below_size (by repeat (first | (with_reducible first | exact HB.out | apply below_alloc | apply pw_below_drewN | apply below_drew1 | refine below_set ?_ GE254.out) | exact HB.out))) : w.heap.size ≤ gb255)); have n5_ := Aside0.mk ((by rw [hg]; exact Nat.ne_of_lt (blk_lt (g := gb254) (o := .cells #[.int .i64 a0_0, .string a0_1, .string a0_2, .int .i64 a0_3, .int .i64 a0_4] 23 (0, 0)) (by (with_reducible repeat (first | refine blk_drewN ?_ _ | refine blk_drew ?_ | refine blk_alloc ?_ _)); exact BK254.out)) : gb254 ≠ gb255)); have n6_ := Aside0.mk ((by rw [hg]; exact Nat.ne_of_gt (blk_lt (g := gb254) (o := .cells #[.int .i64 a0_0, .string a0_1, .string a0_2, .int .i64 a0_3, .int .i64 a0_4] 23 (0, 0)) (by (with_reducible repeat (first | refine blk_drewN ?_ _ | refine blk_drew ?_ | refine blk_alloc ?_ _)); exact BK254.out)) : gb255 ≠ gb254)); clear BK254; clear HB; have BK254 := n0_; have HB := n1_; have BK255 := n2_; have GW255 := n3_; have GE255 := n4_; have NB254_255 := n5_; have NB255_254 := n6_; clear n0_ n1_ n2_ n3_ n4_ n5_ n6_; clear hb hbox hg))
  repeat (go_quiet (first | ((with_reducible refine gate_dst (N := 2) rfl ?_); (try (refine gate_guard (by rfl) ?_; dsimp only)); refine box_event ?hg (N := 2) ?hd (cs := #[.int .i64 a0_0, .string a0_1, .string a0_2, .int .i64 a0_3, .int .i64 a0_4]) (t := 23) ?hr ?_; (case hd => rfl); (case hg => rfl); (case hr => first | (go_simp; done) | (go_simp; rfl)); intro gb254 hg w4 hbox hb; have n0_ := Aside0.mk (below_step (by repeat (first | (with_reducible first | exact HB.out | apply below_alloc | apply pw_below_drewN | apply below_drew1) | exact HB.out)) hb); have n1_ := Aside0.mk (hbox); have n2_ := Aside0.mk ((by rw [hg]; exact (below_size (by repeat (first | (with_reducible first | exact HB.out | apply below_alloc | apply pw_below_drewN | apply below_drew1) | exact HB.out))) : w.heap.size ≤ gb254)); have n3_ := Aside0.mk ((by rw [hg]; exact (below_size (by repeat (first | (with_reducible first | exact HB.out | apply below_alloc | apply pw_below_drewN | apply below_drew1) | exact HB.out))) : w.heap.size ≤ gb254)); clear HB; have HB := n0_; have BK254 := n1_; have GW254 := n2_; have GE254 := n3_; clear n0_ n1_ n2_ n3_; clear hb hbox hg) | ((with_reducible refine gate_dst (N := 3) rfl ?_); (try (refine gate_guard (by rfl) ?_; dsimp only)); refine box_event ?hg (N := 3) ?hd (cs := #[.int .i64 a1_0, .string a1_1, .string a1_2, .int .i64 a1_3, .int .i64 a1_4]) (t := 23) ?hr ?_; (case hd => rfl); (case hg => rfl); (case hr => first | (go_simp; done) | (go_simp; rfl)); intro gb255 hg w5 hbox hb; have n0_ := Aside0.mk (blk_below (g := gb254) (o := .cells #[.int .i64 a0_0, .string a0_1, .string a0_2, .int .i64 a0_3, .int .i64 a0_4] 23 (0, 0)) (by (with_reducible repeat (first | refine blk_drewN ?_ _ | refine blk_drew ?_ | refine blk_alloc ?_ _)); exact BK254.out) hb); have n1_ := Aside0.mk (below_step (by repeat (first | (with_reducible first | exact HB.out | apply below_alloc | apply pw_below_drewN | apply below_drew1 | refine below_set ?_ GE254.out) | exact HB.out)) hb); have n2_ := Aside0.mk (hbox); have n3_ := Aside0.mk ((by rw [hg]; exact (below_size (by repeat (first | (with_reducible first | exact HB.out | apply below_alloc | apply pw_below_drewN | apply below_drew1 | refine below_set ?_ GE254.out) | exact HB.out))) : w.heap.size ≤ gb255)); have n4_ := Aside0.mk ((by rw [hg]; exact (below_size (by repeat (first | (with_reducible first | exact HB.out | apply below_alloc | apply pw_below_drewN | apply below_drew1 | refine below_set ?_ GE254.out) | exact HB.out))) : w.heap.size ≤ gb255)); have n5_ := Aside0.mk ((by rw [hg]; exact Nat.ne_of_lt (blk_lt (g := gb254) (o := .cells #[.int .i64 a0_0, .string a0_1, .string a0_2, .int .i64 a0_3, .int .i64 a0_4] 23 (0, 0)) (by (with_reducible repeat (first | refine blk_drewN ?_ _ | refine blk_drew ?_ | refine blk_alloc ?_ _)); exact BK254.out)) : gb254 ≠ gb255)); have n6_ := Aside0.mk ((by rw [hg]; exact Nat.ne_of_gt (blk_lt (g := gb254) (o := .cells #[.int .i64 a0_0, .string a0_1, .string a0_2, .int .i64 a0_3, .int .i64 a0_4] 23 (0, 0)) (by (with_reducible repeat (first | refine blk_drewN ?_ _ | refine blk_drew ?_ | refine blk_alloc ?_ _)); exact BK254.out)) : gb255 ≠ gb254)); clear BK254; clear HB; have BK254 := n0_; have HB := n1_; have BK255 := n2_; have GW255 := n3_; have GE255 := n4_; have NB254_255 := n5_; have NB255_254 := n6_; clear n0_ n1_ n2_ n3_ n4_ n5_ n6_; clear hb hbox hg)); go_upto_region 1 with (first | ((with_reducible refine gate_dst (N := 2) rfl ?_); (try (refine gate_guard (by rfl) ?_; dsimp only)); refine box_event ?hg (N := 2) ?hd (cs := #[.int .i64 a0_0, .string a0_1, .string a0_2, .int .i64 a0_3, .int .i64 a0_4]) (t := 23) ?hr ?_; (case hd => rfl); (case hg => rfl); (case hr => first | (go_simp; done) | (go_simp; rfl)); intro gb254 hg w4 hbox hb; have n0_ := Aside0.mk (below_step (by repeat (first | (with_reducible first | exact HB.out | apply below_alloc | apply pw_below_drewN | apply below_drew1) | exact HB.out)) hb); have n1_ := Aside0.mk (hbox); have n2_ := Aside0.mk ((by rw [hg]; exact (below_size (by repeat (first | (with_reducible first | exact HB.out | apply below_alloc | apply pw_below_drewN | apply below_drew1) | exact HB.out))) : w.heap.size ≤ gb254)); have n3_ := Aside0.mk ((by rw [hg]; exact (below_size (by repeat (first | (with_reducible first | exact HB.out | apply below_alloc | apply pw_below_drewN | apply below_drew1) | exact HB.out))) : w.heap.size ≤ gb254)); clear HB; have HB := n0_; have BK254 := n1_; have GW254 := n2_; have GE254 := n3_; clear n0_ n1_ n2_ n3_; clear hb hbox hg) | ((with_reducible refine gate_dst (N := 3) rfl ?_); (try (refine gate_guard (by rfl) ?_; dsimp only)); refine box_event ?hg (N := 3) ?hd (cs := #[.int .i64 a1_0, .string a1_1, .string a1_2, .int .i64 a1_3, .int .i64 a1_4]) (t := 23) ?hr ?_; (case hd => rfl); (case hg => rfl); (case hr => first | (go_simp; done) | (go_simp; rfl)); intro gb255 hg w5 hbox hb; have n0_ := Aside0.mk (blk_below (g := gb254) (o := .cells #[.int .i64 a0_0, .string a0_1, .string a0_2, .int .i64 a0_3, .int .i64 a0_4] 23 (0, 0)) (by (with_reducible repeat (first | refine blk_drewN ?_ _ | refine blk_drew ?_ | refine blk_alloc ?_ _)); exact BK254.out) hb); have n1_ := Aside0.mk (below_step (by repeat (first | (with_reducible first | exact HB.out | apply below_alloc | apply pw_below_drewN | apply below_drew1 | refine below_set ?_ GE254.out) | exact HB.out)) hb); have n2_ := Aside0.mk (hbox); have n3_ := Aside0.mk ((by rw [hg]; exact (below_size (by repeat (first | (with_reducible first | exact HB.out | apply below_alloc | apply pw_below_drewN | apply below_drew1 | refine below_set ?_ GE254.out) | exact HB.out))) : w.heap.size ≤ gb255)); have n4_ := Aside0.mk ((by rw [hg]; exact (below_size (by repeat (first | (with_reducible first | exact HB.out | apply below_alloc | apply pw_below_drewN | apply below_drew1 | refine below_set ?_ GE254.out) | exact HB.out))) : w.heap.size ≤ gb255)); have n5_ := Aside0.mk ((by rw [hg]; exact Nat.ne_of_lt (blk_lt (g := gb254) (o := .cells #[.int .i64 a0_0, .string a0_1, .string a0_2, .int .i64 a0_3, .int .i64 a0_4] 23 (0, 0)) (by (with_reducible repeat (first | refine blk_drewN ?_ _ | refine blk_drew ?_ | refine blk_alloc ?_ _)); exact BK254.out)) : gb254 ≠ gb255)); have n6_ := Aside0.mk ((by rw [hg]; exact Nat.ne_of_gt (blk_lt (g := gb254) (o := .cells #[.int .i64 a0_0, .string a0_1, .string a0_2, .int .i64 a0_3, .int .i64 a0_4] 23 (0, 0)) (by (with_reducible repeat (first | refine blk_drewN ?_ _ | refine blk_drew ?_ | refine blk_alloc ?_ _)); exact BK254.out)) : gb255 ≠ gb254)); clear BK254; clear HB; have BK254 := n0_; have HB := n1_; have BK255 := n2_; have GW255 := n3_; have GE255 := n4_; have NB254_255 := n5_; have NB255_254 := n6_; clear n0_ n1_ n2_ n3_ n4_ n5_ n6_; clear hb hbox hg)))
  (try simp only [Act.put, List.setIfInBounds_toArray, List.set_cons_zero, List.set_cons_succ])
  go_cut [17] (fun v17 wc => ∃ (kq : Nat) (x17_2 : Bool), v17 = .bool x17_2 ∧ Aside0 (chandlerylaw11_KeysLetters.j0 kq x17_2 a0_0 a0_1 a0_2 a0_3 a0_4 a1_0 a1_1 a1_2 a1_3 a1_4 = some r) ∧ Aside0 (kq ≤ k) ∧ Aside0 (wc.heap[gb254]? = some (.cells #[.int .i64 a0_0, .string a0_1, .string a0_2, .int .i64 a0_3, .int .i64 a0_4] 23 (0, 0))) ∧ Aside0 (wc.heap[gb255]? = some (.cells #[.int .i64 a1_0, .string a1_1, .string a1_2, .int .i64 a1_3, .int .i64 a1_4] 23 (0, 0))) ∧ Aside0 (Below w.heap.size w wc))
  case first =>
    have H := HC3.out
    clear HC3
    replace H := Option.bind_eq_some_iff.mp H
    obtain ⟨t256, A60, H⟩ := H
    replace H : (if t256 = true then ((chandlerylaw11_small.f a1_0 a1_1 a1_2 a1_3 a1_4).bind fun t257 => (chandlerylaw11_KeysLetters.j0 k (!t257) a0_0 a0_1 a0_2 a0_3 a0_4 a1_0 a1_1 a1_2 a1_3 a1_4)) else (chandlerylaw11_KeysLetters.j0 k true a0_0 a0_1 a0_2 a0_3 a0_4 a1_0 a1_1 a1_2 a1_3 a1_4)) = some r := H
    have A6 := Aside0.mk A60
    clear A60
    by_cases c7 : t256 = true
    · subst c7
      have H1 : ((chandlerylaw11_small.f a1_0 a1_1 a1_2 a1_3 a1_4).bind fun t257 => (chandlerylaw11_KeysLetters.j0 k (!t257) a0_0 a0_1 a0_2 a0_3 a0_4 a1_0 a1_1 a1_2 a1_3 a1_4)) = some r := by rw [if_pos rfl] at H; exact H
      clear H
      have H := H1
      clear H1
      replace H := Option.bind_eq_some_iff.mp H
      obtain ⟨t257, A80, H⟩ := H
      replace H : (chandlerylaw11_KeysLetters.j0 k (!t257) a0_0 a0_1 a0_2 a0_3 a0_4 a1_0 a1_1 a1_2 a1_3 a1_4) = some r := H
      have A8 := Aside0.mk A80
      clear A80
      have H' := Aside0.mk H
      clear H
      have hnb9 := NB254_255.out
      have hnc9 := NB255_254.out
      have hcz10_0 : w5.cell? ⟨gb254, 0, none⟩ = some (.int .i64 a0_0) := (blk_cell BK254.out 0).trans rfl
      have hcz10_1 : w5.cell? ⟨gb254, 1, none⟩ = some (.string a0_1) := (blk_cell BK254.out 1).trans rfl
      have hcz10_2 : w5.cell? ⟨gb254, 2, none⟩ = some (.string a0_2) := (blk_cell BK254.out 2).trans rfl
      have hcz10_3 : w5.cell? ⟨gb254, 3, none⟩ = some (.int .i64 a0_3) := (blk_cell BK254.out 3).trans rfl
      have hcz10_4 : w5.cell? ⟨gb254, 4, none⟩ = some (.int .i64 a0_4) := (blk_cell BK254.out 4).trans rfl
      have hfz10_0 := blk_frozen BK254.out 0
      have hfz10_1 := blk_frozen BK254.out 1
      have hfz10_2 := blk_frozen BK254.out 2
      have hfz10_3 := blk_frozen BK254.out 3
      have hfz10_4 := blk_frozen BK254.out 4
      go_wp2_with (first | (go_at_call 9; (with_reducible refine (chandlerylaw11_small.calls a0_0 a0_1 a0_2 a0_3 a0_4 true _ A6.out).mono ?_); rintro e w11 ⟨rfl, hb⟩; have n0_ := Aside0.mk (blk_below (g := gb254) (o := .cells #[.int .i64 a0_0, .string a0_1, .string a0_2, .int .i64 a0_3, .int .i64 a0_4] 23 (0, 0)) (by (with_reducible repeat (first | refine blk_drewN ?_ _ | refine blk_drew ?_ | refine blk_alloc ?_ _)); exact BK254.out) hb); have n1_ := Aside0.mk (blk_below (g := gb255) (o := .cells #[.int .i64 a1_0, .string a1_1, .string a1_2, .int .i64 a1_3, .int .i64 a1_4] 23 (0, 0)) (by (with_reducible repeat (first | refine blk_drewN ?_ _ | refine blk_drew ?_ | refine blk_alloc ?_ _)); exact BK255.out) hb); have n2_ := Aside0.mk (below_step (by repeat (first | (with_reducible first | exact HB.out | apply below_alloc | apply pw_below_drewN | apply below_drew1 | refine below_set ?_ GE254.out | refine below_set ?_ GE255.out) | exact HB.out)) hb); clear BK254; clear BK255; clear HB; have BK254 := n0_; have BK255 := n1_; have HB := n2_; clear n0_ n1_ n2_; (try clear hb); (try clear hb2); (try clear hk); (try clear hi); have hcz12_0 : w11.cell? ⟨gb255, 0, none⟩ = some (.int .i64 a1_0) := (blk_cell BK255.out 0).trans rfl; have hcz12_1 : w11.cell? ⟨gb255, 1, none⟩ = some (.string a1_1) := (blk_cell BK255.out 1).trans rfl; have hcz12_2 : w11.cell? ⟨gb255, 2, none⟩ = some (.string a1_2) := (blk_cell BK255.out 2).trans rfl; have hcz12_3 : w11.cell? ⟨gb255, 3, none⟩ = some (.int .i64 a1_3) := (blk_cell BK255.out 3).trans rfl; have hcz12_4 : w11.cell? ⟨gb255, 4, none⟩ = some (.int .i64 a1_4) := (blk_cell BK255.out 4).trans rfl; have hfz12_0 := blk_frozen BK255.out 0; have hfz12_1 := blk_frozen BK255.out 1; have hfz12_2 := blk_frozen BK255.out 2; have hfz12_3 := blk_frozen BK255.out 3; have hfz12_4 := blk_frozen BK255.out 4) | (go_at_call 9; (with_reducible refine (chandlerylaw11_small.calls a1_0 a1_1 a1_2 a1_3 a1_4 t257 _ A8.out).mono ?_); rintro e w13 ⟨rfl, hb⟩; have n0_ := Aside0.mk (blk_below (g := gb254) (o := .cells #[.int .i64 a0_0, .string a0_1, .string a0_2, .int .i64 a0_3, .int .i64 a0_4] 23 (0, 0)) (by (with_reducible repeat (first | refine blk_drewN ?_ _ | refine blk_drew ?_ | refine blk_alloc ?_ _)); exact BK254.out) hb); have n1_ := Aside0.mk (blk_below (g := gb255) (o := .cells #[.int .i64 a1_0, .string a1_1, .string a1_2, .int .i64 a1_3, .int .i64 a1_4] 23 (0, 0)) (by (with_reducible repeat (first | refine blk_drewN ?_ _ | refine blk_drew ?_ | refine blk_alloc ?_ _)); exact BK255.out) hb); have n2_ := Aside0.mk (below_step (by repeat (first | (with_reducible first | exact HB.out | apply below_alloc | apply pw_below_drewN | apply below_drew1 | refine below_set ?_ GE254.out | refine below_set ?_ GE255.out) | exact HB.out)) hb); clear BK254; clear BK255; clear HB; have BK254 := n0_; have BK255 := n1_; have HB := n2_; clear n0_ n1_ n2_; (try clear hb); (try clear hb2); (try clear hk); (try clear hi)))
      repeat (go_quiet (first | (go_at_call 9; (with_reducible refine (chandlerylaw11_small.calls a0_0 a0_1 a0_2 a0_3 a0_4 true _ A6.out).mono ?_); rintro e w11 ⟨rfl, hb⟩; have n0_ := Aside0.mk (blk_below (g := gb254) (o := .cells #[.int .i64 a0_0, .string a0_1, .string a0_2, .int .i64 a0_3, .int .i64 a0_4] 23 (0, 0)) (by (with_reducible repeat (first | refine blk_drewN ?_ _ | refine blk_drew ?_ | refine blk_alloc ?_ _)); exact BK254.out) hb); have n1_ := Aside0.mk (blk_below (g := gb255) (o := .cells #[.int .i64 a1_0, .string a1_1, .string a1_2, .int .i64 a1_3, .int .i64 a1_4] 23 (0, 0)) (by (with_reducible repeat (first | refine blk_drewN ?_ _ | refine blk_drew ?_ | refine blk_alloc ?_ _)); exact BK255.out) hb); have n2_ := Aside0.mk (below_step (by repeat (first | (with_reducible first | exact HB.out | apply below_alloc | apply pw_below_drewN | apply below_drew1 | refine below_set ?_ GE254.out | refine below_set ?_ GE255.out) | exact HB.out)) hb); clear BK254; clear BK255; clear HB; have BK254 := n0_; have BK255 := n1_; have HB := n2_; clear n0_ n1_ n2_; (try clear hb); (try clear hb2); (try clear hk); (try clear hi); have hcz12_0 : w11.cell? ⟨gb255, 0, none⟩ = some (.int .i64 a1_0) := (blk_cell BK255.out 0).trans rfl; have hcz12_1 : w11.cell? ⟨gb255, 1, none⟩ = some (.string a1_1) := (blk_cell BK255.out 1).trans rfl; have hcz12_2 : w11.cell? ⟨gb255, 2, none⟩ = some (.string a1_2) := (blk_cell BK255.out 2).trans rfl; have hcz12_3 : w11.cell? ⟨gb255, 3, none⟩ = some (.int .i64 a1_3) := (blk_cell BK255.out 3).trans rfl; have hcz12_4 : w11.cell? ⟨gb255, 4, none⟩ = some (.int .i64 a1_4) := (blk_cell BK255.out 4).trans rfl; have hfz12_0 := blk_frozen BK255.out 0; have hfz12_1 := blk_frozen BK255.out 1; have hfz12_2 := blk_frozen BK255.out 2; have hfz12_3 := blk_frozen BK255.out 3; have hfz12_4 := blk_frozen BK255.out 4) | (go_at_call 9; (with_reducible refine (chandlerylaw11_small.calls a1_0 a1_1 a1_2 a1_3 a1_4 t257 _ A8.out).mono ?_); rintro e w13 ⟨rfl, hb⟩; have n0_ := Aside0.mk (blk_below (g := gb254) (o := .cells #[.int .i64 a0_0, .string a0_1, .string a0_2, .int .i64 a0_3, .int .i64 a0_4] 23 (0, 0)) (by (with_reducible repeat (first | refine blk_drewN ?_ _ | refine blk_drew ?_ | refine blk_alloc ?_ _)); exact BK254.out) hb); have n1_ := Aside0.mk (blk_below (g := gb255) (o := .cells #[.int .i64 a1_0, .string a1_1, .string a1_2, .int .i64 a1_3, .int .i64 a1_4] 23 (0, 0)) (by (with_reducible repeat (first | refine blk_drewN ?_ _ | refine blk_drew ?_ | refine blk_alloc ?_ _)); exact BK255.out) hb); have n2_ := Aside0.mk (below_step (by repeat (first | (with_reducible first | exact HB.out | apply below_alloc | apply pw_below_drewN | apply below_drew1 | refine below_set ?_ GE254.out | refine below_set ?_ GE255.out) | exact HB.out)) hb); clear BK254; clear BK255; clear HB; have BK254 := n0_; have BK255 := n1_; have HB := n2_; clear n0_ n1_ n2_; (try clear hb); (try clear hb2); (try clear hk); (try clear hi))); try go_wp2_with (first | (go_at_call 9; (with_reducible refine (chandlerylaw11_small.calls a0_0 a0_1 a0_2 a0_3 a0_4 true _ A6.out).mono ?_); rintro e w11 ⟨rfl, hb⟩; have n0_ := Aside0.mk (blk_below (g := gb254) (o := .cells #[.int .i64 a0_0, .string a0_1, .string a0_2, .int .i64 a0_3, .int .i64 a0_4] 23 (0, 0)) (by (with_reducible repeat (first | refine blk_drewN ?_ _ | refine blk_drew ?_ | refine blk_alloc ?_ _)); exact BK254.out) hb); have n1_ := Aside0.mk (blk_below (g := gb255) (o := .cells #[.int .i64 a1_0, .string a1_1, .string a1_2, .int .i64 a1_3, .int .i64 a1_4] 23 (0, 0)) (by (with_reducible repeat (first | refine blk_drewN ?_ _ | refine blk_drew ?_ | refine blk_alloc ?_ _)); exact BK255.out) hb); have n2_ := Aside0.mk (below_step (by repeat (first | (with_reducible first | exact HB.out | apply below_alloc | apply pw_below_drewN | apply below_drew1 | refine below_set ?_ GE254.out | refine below_set ?_ GE255.out) | exact HB.out)) hb); clear BK254; clear BK255; clear HB; have BK254 := n0_; have BK255 := n1_; have HB := n2_; clear n0_ n1_ n2_; (try clear hb); (try clear hb2); (try clear hk); (try clear hi); have hcz12_0 : w11.cell? ⟨gb255, 0, none⟩ = some (.int .i64 a1_0) := (blk_cell BK255.out 0).trans rfl; have hcz12_1 : w11.cell? ⟨gb255, 1, none⟩ = some (.string a1_1) := (blk_cell BK255.out 1).trans rfl; have hcz12_2 : w11.cell? ⟨gb255, 2, none⟩ = some (.string a1_2) := (blk_cell BK255.out 2).trans rfl; have hcz12_3 : w11.cell? ⟨gb255, 3, none⟩ = some (.int .i64 a1_3) := (blk_cell BK255.out 3).trans rfl; have hcz12_4 : w11.cell? ⟨gb255, 4, none⟩ = some (.int .i64 a1_4) := (blk_cell BK255.out 4).trans rfl; have hfz12_0 := blk_frozen BK255.out 0; have hfz12_1 := blk_frozen BK255.out 1; have hfz12_2 := blk_frozen BK255.out 2; have hfz12_3 := blk_frozen BK255.out 3; have hfz12_4 := blk_frozen BK255.out 4) | (go_at_call 9; (with_reducible refine (chandlerylaw11_small.calls a1_0 a1_1 a1_2 a1_3 a1_4 t257 _ A8.out).mono ?_); rintro e w13 ⟨rfl, hb⟩; have n0_ := Aside0.mk (blk_below (g := gb254) (o := .cells #[.int .i64 a0_0, .string a0_1, .string a0_2, .int .i64 a0_3, .int .i64 a0_4] 23 (0, 0)) (by (with_reducible repeat (first | refine blk_drewN ?_ _ | refine blk_drew ?_ | refine blk_alloc ?_ _)); exact BK254.out) hb); have n1_ := Aside0.mk (blk_below (g := gb255) (o := .cells #[.int .i64 a1_0, .string a1_1, .string a1_2, .int .i64 a1_3, .int .i64 a1_4] 23 (0, 0)) (by (with_reducible repeat (first | refine blk_drewN ?_ _ | refine blk_drew ?_ | refine blk_alloc ?_ _)); exact BK255.out) hb); have n2_ := Aside0.mk (below_step (by repeat (first | (with_reducible first | exact HB.out | apply below_alloc | apply pw_below_drewN | apply below_drew1 | refine below_set ?_ GE254.out | refine below_set ?_ GE255.out) | exact HB.out)) hb); clear BK254; clear BK255; clear HB; have BK254 := n0_; have BK255 := n1_; have HB := n2_; clear n0_ n1_ n2_; (try clear hb); (try clear hb2); (try clear hk); (try clear hi))))
      go_meet
      case rel => exact ⟨_, (!t257), (by first | rfl | (simp; done) | exact congrArg Value.bool (Go.Proofs.YtcohfhclcoiigaaX.isEmpty_ne_ _) | exact congrArg Value.bool (Go.Proofs.YtcohfhclcoiigaaX.ne_isEmpty_ _) | (simp [*]; done)), H', ⟨by first | omega | exact Nat.le_refl _⟩, ⟨by (with_reducible repeat (first | refine blk_drewN ?_ _ | refine blk_drew ?_ | refine blk_alloc ?_ _)); exact BK254.out⟩, ⟨by (with_reducible repeat (first | refine blk_drewN ?_ _ | refine blk_drew ?_ | refine blk_alloc ?_ _)); exact BK255.out⟩, ⟨by repeat (first | (with_reducible first | exact HB.out | apply below_alloc | apply pw_below_drewN | apply below_drew1 | refine below_set ?_ GE254.out | refine below_set ?_ GE255.out) | exact HB.out)⟩⟩
    · replace c7 := Bool.eq_false_iff.mpr c7
      subst c7
      have H1 : (chandlerylaw11_KeysLetters.j0 k true a0_0 a0_1 a0_2 a0_3 a0_4 a1_0 a1_1 a1_2 a1_3 a1_4) = some r := by rw [if_neg (show ¬ (false = true) by decide)] at H; exact H
      clear H
      have H := H1
      clear H1
      have H' := Aside0.mk H
      clear H
      have hnb14 := NB254_255.out
      have hnc14 := NB255_254.out
      have hcz15_0 : w5.cell? ⟨gb254, 0, none⟩ = some (.int .i64 a0_0) := (blk_cell BK254.out 0).trans rfl
      have hcz15_1 : w5.cell? ⟨gb254, 1, none⟩ = some (.string a0_1) := (blk_cell BK254.out 1).trans rfl
      have hcz15_2 : w5.cell? ⟨gb254, 2, none⟩ = some (.string a0_2) := (blk_cell BK254.out 2).trans rfl
      have hcz15_3 : w5.cell? ⟨gb254, 3, none⟩ = some (.int .i64 a0_3) := (blk_cell BK254.out 3).trans rfl
      have hcz15_4 : w5.cell? ⟨gb254, 4, none⟩ = some (.int .i64 a0_4) := (blk_cell BK254.out 4).trans rfl
      have hfz15_0 := blk_frozen BK254.out 0
      have hfz15_1 := blk_frozen BK254.out 1
      have hfz15_2 := blk_frozen BK254.out 2
      have hfz15_3 := blk_frozen BK254.out 3
      have hfz15_4 := blk_frozen BK254.out 4
      go_wp2_with (first | (go_at_call 9; (with_reducible refine (chandlerylaw11_small.calls a0_0 a0_1 a0_2 a0_3 a0_4 false _ A6.out).mono ?_); rintro e w16 ⟨rfl, hb⟩; have n0_ := Aside0.mk (blk_below (g := gb254) (o := .cells #[.int .i64 a0_0, .string a0_1, .string a0_2, .int .i64 a0_3, .int .i64 a0_4] 23 (0, 0)) (by (with_reducible repeat (first | refine blk_drewN ?_ _ | refine blk_drew ?_ | refine blk_alloc ?_ _)); exact BK254.out) hb); have n1_ := Aside0.mk (blk_below (g := gb255) (o := .cells #[.int .i64 a1_0, .string a1_1, .string a1_2, .int .i64 a1_3, .int .i64 a1_4] 23 (0, 0)) (by (with_reducible repeat (first | refine blk_drewN ?_ _ | refine blk_drew ?_ | refine blk_alloc ?_ _)); exact BK255.out) hb); have n2_ := Aside0.mk (below_step (by repeat (first | (with_reducible first | exact HB.out | apply below_alloc | apply pw_below_drewN | apply below_drew1 | refine below_set ?_ GE254.out | refine below_set ?_ GE255.out) | exact HB.out)) hb); clear BK254; clear BK255; clear HB; have BK254 := n0_; have BK255 := n1_; have HB := n2_; clear n0_ n1_ n2_; (try clear hb); (try clear hb2); (try clear hk); (try clear hi)))
      repeat (go_quiet (first | (go_at_call 9; (with_reducible refine (chandlerylaw11_small.calls a0_0 a0_1 a0_2 a0_3 a0_4 false _ A6.out).mono ?_); rintro e w16 ⟨rfl, hb⟩; have n0_ := Aside0.mk (blk_below (g := gb254) (o := .cells #[.int .i64 a0_0, .string a0_1, .string a0_2, .int .i64 a0_3, .int .i64 a0_4] 23 (0, 0)) (by (with_reducible repeat (first | refine blk_drewN ?_ _ | refine blk_drew ?_ | refine blk_alloc ?_ _)); exact BK254.out) hb); have n1_ := Aside0.mk (blk_below (g := gb255) (o := .cells #[.int .i64 a1_0, .string a1_1, .string a1_2, .int .i64 a1_3, .int .i64 a1_4] 23 (0, 0)) (by (with_reducible repeat (first | refine blk_drewN ?_ _ | refine blk_drew ?_ | refine blk_alloc ?_ _)); exact BK255.out) hb); have n2_ := Aside0.mk (below_step (by repeat (first | (with_reducible first | exact HB.out | apply below_alloc | apply pw_below_drewN | apply below_drew1 | refine below_set ?_ GE254.out | refine below_set ?_ GE255.out) | exact HB.out)) hb); clear BK254; clear BK255; clear HB; have BK254 := n0_; have BK255 := n1_; have HB := n2_; clear n0_ n1_ n2_; (try clear hb); (try clear hb2); (try clear hk); (try clear hi))); try go_wp2_with (first | (go_at_call 9; (with_reducible refine (chandlerylaw11_small.calls a0_0 a0_1 a0_2 a0_3 a0_4 false _ A6.out).mono ?_); rintro e w16 ⟨rfl, hb⟩; have n0_ := Aside0.mk (blk_below (g := gb254) (o := .cells #[.int .i64 a0_0, .string a0_1, .string a0_2, .int .i64 a0_3, .int .i64 a0_4] 23 (0, 0)) (by (with_reducible repeat (first | refine blk_drewN ?_ _ | refine blk_drew ?_ | refine blk_alloc ?_ _)); exact BK254.out) hb); have n1_ := Aside0.mk (blk_below (g := gb255) (o := .cells #[.int .i64 a1_0, .string a1_1, .string a1_2, .int .i64 a1_3, .int .i64 a1_4] 23 (0, 0)) (by (with_reducible repeat (first | refine blk_drewN ?_ _ | refine blk_drew ?_ | refine blk_alloc ?_ _)); exact BK255.out) hb); have n2_ := Aside0.mk (below_step (by repeat (first | (with_reducible first | exact HB.out | apply below_alloc | apply pw_below_drewN | apply below_drew1 | refine below_set ?_ GE254.out | refine below_set ?_ GE255.out) | exact HB.out)) hb); clear BK254; clear BK255; clear HB; have BK254 := n0_; have BK255 := n1_; have HB := n2_; clear n0_ n1_ n2_; (try clear hb); (try clear hb2); (try clear hk); (try clear hi))))
      go_meet
      case rel => exact ⟨_, (true), (by first | rfl | (simp; done) | exact congrArg Value.bool (Go.Proofs.YtcohfhclcoiigaaX.isEmpty_ne_ _) | exact congrArg Value.bool (Go.Proofs.YtcohfhclcoiigaaX.ne_isEmpty_ _) | (simp [*]; done)), H', ⟨by first | omega | exact Nat.le_refl _⟩, ⟨by (with_reducible repeat (first | refine blk_drewN ?_ _ | refine blk_drew ?_ | refine blk_alloc ?_ _)); exact BK254.out⟩, ⟨by (with_reducible repeat (first | refine blk_drewN ?_ _ | refine blk_drew ?_ | refine blk_alloc ?_ _)); exact BK255.out⟩, ⟨by repeat (first | (with_reducible first | exact HB.out | apply below_alloc | apply pw_below_drewN | apply below_drew1 | refine below_set ?_ GE254.out | refine below_set ?_ GE255.out) | exact HB.out)⟩⟩
  case rest =>
    clear HC3
    try clear c1
    try clear p2
    try clear c7
    try clear c8
    try clear c9
    try clear c14
    try clear hcz10_0
    try clear hcz10_1
    try clear hcz10_2
    try clear hcz10_3
    try clear hcz10_4
    try clear hcz12_0
    try clear hcz12_1
    try clear hcz12_2
    try clear hcz12_3
    try clear hcz12_4
    try clear hcz15_0
    try clear hcz15_1
    try clear hcz15_2
    try clear hcz15_3
    try clear hcz15_4
    try clear hfz10_0
    try clear hfz10_1
    try clear hfz10_2
    try clear hfz10_3
    try clear hfz10_4
    try clear hfz12_0
    try clear hfz12_1
    try clear hfz12_2
    try clear hfz12_3
    try clear hfz12_4
    try clear hfz15_0
    try clear hfz15_1
    try clear hfz15_2
    try clear hfz15_3
    try clear hfz15_4
    obtain ⟨kq, x17_2, rfl, HA, HJ2, BK254, BK255, HB⟩ := hcut
    cases kq with
    | zero => exact absurd HA.out (by simp [chandlerylaw11_KeysLetters.j0])
    | succ kj2 =>
      have H := HA.out
      clear HA
      simp only [chandlerylaw11_KeysLetters.j0] at H
      by_cases c17 : x17_2 = true
      · subst c17
        have H1 : (some true) = some r := by rw [if_pos rfl] at H; exact H
        clear H
        have H := H1
        clear H1
        obtain rfl := Option.some.inj H
        go_wp2
        repeat (go_quiet (fail); try go_wp2)
        go_ret
        exact ⟨by first | rfl | (simp [errW_none, errW_some] <;> rfl) | (simp [*, errW_none, errW_some] <;> rfl), by repeat (first | (with_reducible first | exact HB.out | apply below_alloc | apply pw_below_drewN | apply below_drew1 | refine below_set ?_ GE254.out | refine below_set ?_ GE255.out) | exact HB.out)⟩
      · replace c17 := Bool.eq_false_iff.mpr c17
        subst c17
        have H1 : ((keys_Bytes.f kj2 a0_0 a0_1 a0_2 a0_3 a0_4).bind fun bt258 => ((keys_Bytes.f kj2 a1_0 a1_1 a1_2 a1_3 a1_4).bind fun bt260 => (if bt258.2 = 0 then (if bt260.2 = 0 then (if bt258.1.toList = ([] : List UInt8) then (chandlerylaw11_KeysLetters.j1 kj2 bt258.1 bt260.1 true a0_0 a0_1 a0_2 a0_3 a0_4 a1_0 a1_1 a1_2 a1_3 a1_4) else (chandlerylaw11_KeysLetters.j1 kj2 bt258.1 bt260.1 (bt260.1.toList == ([] : List UInt8)) a0_0 a0_1 a0_2 a0_3 a0_4 a1_0 a1_1 a1_2 a1_3 a1_4)) else (chandlerylaw11_KeysLetters.j1 kj2 bt258.1 bt260.1 true a0_0 a0_1 a0_2 a0_3 a0_4 a1_0 a1_1 a1_2 a1_3 a1_4)) else (chandlerylaw11_KeysLetters.j1 kj2 bt258.1 bt260.1 true a0_0 a0_1 a0_2 a0_3 a0_4 a1_0 a1_1 a1_2 a1_3 a1_4)))) = some r := by rw [if_neg (show ¬ (false = true) by decide)] at H; exact H
        clear H
        have H := H1
        clear H1
        replace H := Option.bind_eq_some_iff.mp H
        obtain ⟨⟨t258, t259⟩, A180, H⟩ := H
        replace H : ((keys_Bytes.f kj2 a1_0 a1_1 a1_2 a1_3 a1_4).bind fun bt260 => (if t259 = 0 then (if bt260.2 = 0 then (if t258.toList = ([] : List UInt8) then (chandlerylaw11_KeysLetters.j1 kj2 t258 bt260.1 true a0_0 a0_1 a0_2 a0_3 a0_4 a1_0 a1_1 a1_2 a1_3 a1_4) else (chandlerylaw11_KeysLetters.j1 kj2 t258 bt260.1 (bt260.1.toList == ([] : List UInt8)) a0_0 a0_1 a0_2 a0_3 a0_4 a1_0 a1_1 a1_2 a1_3 a1_4)) else (chandlerylaw11_KeysLetters.j1 kj2 t258 bt260.1 true a0_0 a0_1 a0_2 a0_3 a0_4 a1_0 a1_1 a1_2 a1_3 a1_4)) else (chandlerylaw11_KeysLetters.j1 kj2 t258 bt260.1 true a0_0 a0_1 a0_2 a0_3 a0_4 a1_0 a1_1 a1_2 a1_3 a1_4))) = some r := H
        have A18 := Aside0.mk A180
        clear A180
        replace H := Option.bind_eq_some_iff.mp H
        obtain ⟨⟨t260, t261⟩, A190, H⟩ := H
        replace H : (if t259 = 0 then (if t261 = 0 then (if t258.toList = ([] : List UInt8) then (chandlerylaw11_KeysLetters.j1 kj2 t258 t260 true a0_0 a0_1 a0_2 a0_3 a0_4 a1_0 a1_1 a1_2 a1_3 a1_4) else (chandlerylaw11_KeysLetters.j1 kj2 t258 t260 (t260.toList == ([] : List UInt8)) a0_0 a0_1 a0_2 a0_3 a0_4 a1_0 a1_1 a1_2 a1_3 a1_4)) else (chandlerylaw11_KeysLetters.j1 kj2 t258 t260 true a0_0 a0_1 a0_2 a0_3 a0_4 a1_0 a1_1 a1_2 a1_3 a1_4)) else (chandlerylaw11_KeysLetters.j1 kj2 t258 t260 true a0_0 a0_1 a0_2 a0_3 a0_4 a1_0 a1_1 a1_2 a1_3 a1_4)) = some r := H
        have A19 := Aside0.mk A190
        clear A190
        have HC20 := Aside0.mk H
        clear H
        have hnb21 := NB254_255.out
        have hnc21 := NB255_254.out
        have hcz22_0 : wc.cell? ⟨gb254, 0, none⟩ = some (.int .i64 a0_0) := (blk_cell BK254.out 0).trans rfl
        have hcz22_1 : wc.cell? ⟨gb254, 1, none⟩ = some (.string a0_1) := (blk_cell BK254.out 1).trans rfl
        have hcz22_2 : wc.cell? ⟨gb254, 2, none⟩ = some (.string a0_2) := (blk_cell BK254.out 2).trans rfl
        have hcz22_3 : wc.cell? ⟨gb254, 3, none⟩ = some (.int .i64 a0_3) := (blk_cell BK254.out 3).trans rfl
        have hcz22_4 : wc.cell? ⟨gb254, 4, none⟩ = some (.int .i64 a0_4) := (blk_cell BK254.out 4).trans rfl
        have hfz22_0 := blk_frozen BK254.out 0
        have hfz22_1 := blk_frozen BK254.out 1
        have hfz22_2 := blk_frozen BK254.out 2
        have hfz22_3 := blk_frozen BK254.out 3
        have hfz22_4 := blk_frozen BK254.out 4
        go_upto_region 5 with (first | (go_at_call 11; (with_reducible refine (keys_Bytes.calls kj2 a0_0 a0_1 a0_2 a0_3 a0_4 t258 t259 _ A18.out).mono ?_); rintro e w23 ⟨rfl, hb⟩; have n0_ := Aside0.mk (blk_below (g := gb254) (o := .cells #[.int .i64 a0_0, .string a0_1, .string a0_2, .int .i64 a0_3, .int .i64 a0_4] 23 (0, 0)) (by (with_reducible repeat (first | refine blk_drewN ?_ _ | refine blk_drew ?_ | refine blk_alloc ?_ _)); exact BK254.out) hb); have n1_ := Aside0.mk (blk_below (g := gb255) (o := .cells #[.int .i64 a1_0, .string a1_1, .string a1_2, .int .i64 a1_3, .int .i64 a1_4] 23 (0, 0)) (by (with_reducible repeat (first | refine blk_drewN ?_ _ | refine blk_drew ?_ | refine blk_alloc ?_ _)); exact BK255.out) hb); have n2_ := Aside0.mk (below_step (by repeat (first | (with_reducible first | exact HB.out | apply below_alloc | apply pw_below_drewN | apply below_drew1 | refine below_set ?_ GE254.out | refine below_set ?_ GE255.out) | exact HB.out)) hb); clear BK254; clear BK255; clear HB; have BK254 := n0_; have BK255 := n1_; have HB := n2_; clear n0_ n1_ n2_; (try clear hb); (try clear hb2); (try clear hk); (try clear hi); have hcz24_0 : w23.cell? ⟨gb255, 0, none⟩ = some (.int .i64 a1_0) := (blk_cell BK255.out 0).trans rfl; have hcz24_1 : w23.cell? ⟨gb255, 1, none⟩ = some (.string a1_1) := (blk_cell BK255.out 1).trans rfl; have hcz24_2 : w23.cell? ⟨gb255, 2, none⟩ = some (.string a1_2) := (blk_cell BK255.out 2).trans rfl; have hcz24_3 : w23.cell? ⟨gb255, 3, none⟩ = some (.int .i64 a1_3) := (blk_cell BK255.out 3).trans rfl; have hcz24_4 : w23.cell? ⟨gb255, 4, none⟩ = some (.int .i64 a1_4) := (blk_cell BK255.out 4).trans rfl; have hfz24_0 := blk_frozen BK255.out 0; have hfz24_1 := blk_frozen BK255.out 1; have hfz24_2 := blk_frozen BK255.out 2; have hfz24_3 := blk_frozen BK255.out 3; have hfz24_4 := blk_frozen BK255.out 4) | (go_at_call 11; (with_reducible refine (keys_Bytes.calls kj2 a1_0 a1_1 a1_2 a1_3 a1_4 t260 t261 _ A19.out).mono ?_); rintro e w25 ⟨rfl, hb⟩; have n0_ := Aside0.mk (blk_below (g := gb254) (o := .cells #[.int .i64 a0_0, .string a0_1, .string a0_2, .int .i64 a0_3, .int .i64 a0_4] 23 (0, 0)) (by (with_reducible repeat (first | refine blk_drewN ?_ _ | refine blk_drew ?_ | refine blk_alloc ?_ _)); exact BK254.out) hb); have n1_ := Aside0.mk (blk_below (g := gb255) (o := .cells #[.int .i64 a1_0, .string a1_1, .string a1_2, .int .i64 a1_3, .int .i64 a1_4] 23 (0, 0)) (by (with_reducible repeat (first | refine blk_drewN ?_ _ | refine blk_drew ?_ | refine blk_alloc ?_ _)); exact BK255.out) hb); have n2_ := Aside0.mk (below_step (by repeat (first | (with_reducible first | exact HB.out | apply below_alloc | apply pw_below_drewN | apply below_drew1 | refine below_set ?_ GE254.out | refine below_set ?_ GE255.out) | exact HB.out)) hb); clear BK254; clear BK255; clear HB; have BK254 := n0_; have BK255 := n1_; have HB := n2_; clear n0_ n1_ n2_; (try clear hb); (try clear hb2); (try clear hk); (try clear hi)))
        repeat (go_quiet (first | (go_at_call 11; (with_reducible refine (keys_Bytes.calls kj2 a0_0 a0_1 a0_2 a0_3 a0_4 t258 t259 _ A18.out).mono ?_); rintro e w23 ⟨rfl, hb⟩; have n0_ := Aside0.mk (blk_below (g := gb254) (o := .cells #[.int .i64 a0_0, .string a0_1, .string a0_2, .int .i64 a0_3, .int .i64 a0_4] 23 (0, 0)) (by (with_reducible repeat (first | refine blk_drewN ?_ _ | refine blk_drew ?_ | refine blk_alloc ?_ _)); exact BK254.out) hb); have n1_ := Aside0.mk (blk_below (g := gb255) (o := .cells #[.int .i64 a1_0, .string a1_1, .string a1_2, .int .i64 a1_3, .int .i64 a1_4] 23 (0, 0)) (by (with_reducible repeat (first | refine blk_drewN ?_ _ | refine blk_drew ?_ | refine blk_alloc ?_ _)); exact BK255.out) hb); have n2_ := Aside0.mk (below_step (by repeat (first | (with_reducible first | exact HB.out | apply below_alloc | apply pw_below_drewN | apply below_drew1 | refine below_set ?_ GE254.out | refine below_set ?_ GE255.out) | exact HB.out)) hb); clear BK254; clear BK255; clear HB; have BK254 := n0_; have BK255 := n1_; have HB := n2_; clear n0_ n1_ n2_; (try clear hb); (try clear hb2); (try clear hk); (try clear hi); have hcz24_0 : w23.cell? ⟨gb255, 0, none⟩ = some (.int .i64 a1_0) := (blk_cell BK255.out 0).trans rfl; have hcz24_1 : w23.cell? ⟨gb255, 1, none⟩ = some (.string a1_1) := (blk_cell BK255.out 1).trans rfl; have hcz24_2 : w23.cell? ⟨gb255, 2, none⟩ = some (.string a1_2) := (blk_cell BK255.out 2).trans rfl; have hcz24_3 : w23.cell? ⟨gb255, 3, none⟩ = some (.int .i64 a1_3) := (blk_cell BK255.out 3).trans rfl; have hcz24_4 : w23.cell? ⟨gb255, 4, none⟩ = some (.int .i64 a1_4) := (blk_cell BK255.out 4).trans rfl; have hfz24_0 := blk_frozen BK255.out 0; have hfz24_1 := blk_frozen BK255.out 1; have hfz24_2 := blk_frozen BK255.out 2; have hfz24_3 := blk_frozen BK255.out 3; have hfz24_4 := blk_frozen BK255.out 4) | (go_at_call 11; (with_reducible refine (keys_Bytes.calls kj2 a1_0 a1_1 a1_2 a1_3 a1_4 t260 t261 _ A19.out).mono ?_); rintro e w25 ⟨rfl, hb⟩; have n0_ := Aside0.mk (blk_below (g := gb254) (o := .cells #[.int .i64 a0_0, .string a0_1, .string a0_2, .int .i64 a0_3, .int .i64 a0_4] 23 (0, 0)) (by (with_reducible repeat (first | refine blk_drewN ?_ _ | refine blk_drew ?_ | refine blk_alloc ?_ _)); exact BK254.out) hb); have n1_ := Aside0.mk (blk_below (g := gb255) (o := .cells #[.int .i64 a1_0, .string a1_1, .string a1_2, .int .i64 a1_3, .int .i64 a1_4] 23 (0, 0)) (by (with_reducible repeat (first | refine blk_drewN ?_ _ | refine blk_drew ?_ | refine blk_alloc ?_ _)); exact BK255.out) hb); have n2_ := Aside0.mk (below_step (by repeat (first | (with_reducible first | exact HB.out | apply below_alloc | apply pw_below_drewN | apply below_drew1 | refine below_set ?_ GE254.out | refine below_set ?_ GE255.out) | exact HB.out)) hb); clear BK254; clear BK255; clear HB; have BK254 := n0_; have BK255 := n1_; have HB := n2_; clear n0_ n1_ n2_; (try clear hb); (try clear hb2); (try clear hk); (try clear hi))); go_upto_region 5 with (first | (go_at_call 11; (with_reducible refine (keys_Bytes.calls kj2 a0_0 a0_1 a0_2 a0_3 a0_4 t258 t259 _ A18.out).mono ?_); rintro e w23 ⟨rfl, hb⟩; have n0_ := Aside0.mk (blk_below (g := gb254) (o := .cells #[.int .i64 a0_0, .string a0_1, .string a0_2, .int .i64 a0_3, .int .i64 a0_4] 23 (0, 0)) (by (with_reducible repeat (first | refine blk_drewN ?_ _ | refine blk_drew ?_ | refine blk_alloc ?_ _)); exact BK254.out) hb); have n1_ := Aside0.mk (blk_below (g := gb255) (o := .cells #[.int .i64 a1_0, .string a1_1, .string a1_2, .int .i64 a1_3, .int .i64 a1_4] 23 (0, 0)) (by (with_reducible repeat (first | refine blk_drewN ?_ _ | refine blk_drew ?_ | refine blk_alloc ?_ _)); exact BK255.out) hb); have n2_ := Aside0.mk (below_step (by repeat (first | (with_reducible first | exact HB.out | apply below_alloc | apply pw_below_drewN | apply below_drew1 | refine below_set ?_ GE254.out | refine below_set ?_ GE255.out) | exact HB.out)) hb); clear BK254; clear BK255; clear HB; have BK254 := n0_; have BK255 := n1_; have HB := n2_; clear n0_ n1_ n2_; (try clear hb); (try clear hb2); (try clear hk); (try clear hi); have hcz24_0 : w23.cell? ⟨gb255, 0, none⟩ = some (.int .i64 a1_0) := (blk_cell BK255.out 0).trans rfl; have hcz24_1 : w23.cell? ⟨gb255, 1, none⟩ = some (.string a1_1) := (blk_cell BK255.out 1).trans rfl; have hcz24_2 : w23.cell? ⟨gb255, 2, none⟩ = some (.string a1_2) := (blk_cell BK255.out 2).trans rfl; have hcz24_3 : w23.cell? ⟨gb255, 3, none⟩ = some (.int .i64 a1_3) := (blk_cell BK255.out 3).trans rfl; have hcz24_4 : w23.cell? ⟨gb255, 4, none⟩ = some (.int .i64 a1_4) := (blk_cell BK255.out 4).trans rfl; have hfz24_0 := blk_frozen BK255.out 0; have hfz24_1 := blk_frozen BK255.out 1; have hfz24_2 := blk_frozen BK255.out 2; have hfz24_3 := blk_frozen BK255.out 3; have hfz24_4 := blk_frozen BK255.out 4) | (go_at_call 11; (with_reducible refine (keys_Bytes.calls kj2 a1_0 a1_1 a1_2 a1_3 a1_4 t260 t261 _ A19.out).mono ?_); rintro e w25 ⟨rfl, hb⟩; have n0_ := Aside0.mk (blk_below (g := gb254) (o := .cells #[.int .i64 a0_0, .string a0_1, .string a0_2, .int .i64 a0_3, .int .i64 a0_4] 23 (0, 0)) (by (with_reducible repeat (first | refine blk_drewN ?_ _ | refine blk_drew ?_ | refine blk_alloc ?_ _)); exact BK254.out) hb); have n1_ := Aside0.mk (blk_below (g := gb255) (o := .cells #[.int .i64 a1_0, .string a1_1, .string a1_2, .int .i64 a1_3, .int .i64 a1_4] 23 (0, 0)) (by (with_reducible repeat (first | refine blk_drewN ?_ _ | refine blk_drew ?_ | refine blk_alloc ?_ _)); exact BK255.out) hb); have n2_ := Aside0.mk (below_step (by repeat (first | (with_reducible first | exact HB.out | apply below_alloc | apply pw_below_drewN | apply below_drew1 | refine below_set ?_ GE254.out | refine below_set ?_ GE255.out) | exact HB.out)) hb); clear BK254; clear BK255; clear HB; have BK254 := n0_; have BK255 := n1_; have HB := n2_; clear n0_ n1_ n2_; (try clear hb); (try clear hb2); (try clear hk); (try clear hi))))
        (try simp only [Act.put, List.setIfInBounds_toArray, List.set_cons_zero, List.set_cons_succ])
        go_cut [41] (fun v41 wc => ∃ (kq : Nat) (x41_19 : Bool), v41 = .bool x41_19 ∧ Aside0 (chandlerylaw11_KeysLetters.j1 kq t258 t260 x41_19 a0_0 a0_1 a0_2 a0_3 a0_4 a1_0 a1_1 a1_2 a1_3 a1_4 = some r) ∧ Aside0 (kq ≤ kj2) ∧ Aside0 (wc.heap[gb254]? = some (.cells #[.int .i64 a0_0, .string a0_1, .string a0_2, .int .i64 a0_3, .int .i64 a0_4] 23 (0, 0))) ∧ Aside0 (wc.heap[gb255]? = some (.cells #[.int .i64 a1_0, .string a1_1, .string a1_2, .int .i64 a1_3, .int .i64 a1_4] 23 (0, 0))) ∧ Aside0 (Below w.heap.size w wc))
        case first =>
          have H := HC20.out
          clear HC20
          by_cases c26 : t259 = 0
          · rw [if_pos c26] at H
            have c26b0 : (t259 == 0) = true := beq_iff_eq.mpr c26
            have c26b1 : (t259 != 0) = false := bne_eq_false_iff_eq.mpr c26
            clear c26
            (first | rw [c26b0] | (simp only [i64_w, i32_w]; rw [c26b0]) | skip)
            by_cases c27 : t261 = 0
            · rw [if_pos c27] at H
              have c27b0 : (t261 == 0) = true := beq_iff_eq.mpr c27
              have c27b1 : (t261 != 0) = false := bne_eq_false_iff_eq.mpr c27
              clear c27
              by_cases c28 : t258.toList = ([] : List UInt8)
              · rw [if_pos c28] at H
                have c28b0 : (t258.toList == ([] : List UInt8)) = true := beq_iff_eq.mpr c28
                have c28b1 : (t258.toList != ([] : List UInt8)) = false := bne_eq_false_iff_eq.mpr c28
                clear c28
                have H' := Aside0.mk H
                clear H
                go_wp2
                repeat (go_quiet (fail); try go_wp2)
                go_meet
                case rel => exact ⟨_, (true), (by first | rfl | (simp; done) | exact congrArg Value.bool (Go.Proofs.YtcohfhclcoiigaaX.isEmpty_ne_ _) | exact congrArg Value.bool (Go.Proofs.YtcohfhclcoiigaaX.ne_isEmpty_ _) | (simp [*]; done)), H', ⟨by have := HJ2.out; first | omega | exact Nat.le_refl _⟩, ⟨by (with_reducible repeat (first | refine blk_drewN ?_ _ | refine blk_drew ?_ | refine blk_alloc ?_ _)); exact BK254.out⟩, ⟨by (with_reducible repeat (first | refine blk_drewN ?_ _ | refine blk_drew ?_ | refine blk_alloc ?_ _)); exact BK255.out⟩, ⟨by repeat (first | (with_reducible first | exact HB.out | apply below_alloc | apply pw_below_drewN | apply below_drew1 | refine below_set ?_ GE254.out | refine below_set ?_ GE255.out) | exact HB.out)⟩⟩
              · rw [if_neg c28] at H
                have c28b0 : (t258.toList == ([] : List UInt8)) = false := beq_eq_false_iff_ne.mpr c28
                have c28b1 : (t258.toList != ([] : List UInt8)) = true := bne_iff_ne.mpr c28
                have H' := Aside0.mk H
                clear H
                go_wp2
                repeat (go_quiet (fail); try go_wp2)
                go_meet
                case rel => exact ⟨_, ((t260.toList == ([] : List UInt8))), (by first | rfl | (simp; done) | exact congrArg Value.bool (Go.Proofs.YtcohfhclcoiigaaX.isEmpty_ne_ _) | exact congrArg Value.bool (Go.Proofs.YtcohfhclcoiigaaX.ne_isEmpty_ _) | (simp [*]; done)), H', ⟨by have := HJ2.out; first | omega | exact Nat.le_refl _⟩, ⟨by (with_reducible repeat (first | refine blk_drewN ?_ _ | refine blk_drew ?_ | refine blk_alloc ?_ _)); exact BK254.out⟩, ⟨by (with_reducible repeat (first | refine blk_drewN ?_ _ | refine blk_drew ?_ | refine blk_alloc ?_ _)); exact BK255.out⟩, ⟨by repeat (first | (with_reducible first | exact HB.out | apply below_alloc | apply pw_below_drewN | apply below_drew1 | refine below_set ?_ GE254.out | refine below_set ?_ GE255.out) | exact HB.out)⟩⟩
            · rw [if_neg c27] at H
              have c27b0 : (t261 == 0) = false := beq_eq_false_iff_ne.mpr c27
              have c27b1 : (t261 != 0) = true := bne_iff_ne.mpr c27
              have H' := Aside0.mk H
              clear H
              go_wp2
              repeat (go_quiet (fail); try go_wp2)
              go_meet
              case rel => exact ⟨_, (true), (by first | rfl | (simp; done) | exact congrArg Value.bool (Go.Proofs.YtcohfhclcoiigaaX.isEmpty_ne_ _) | exact congrArg Value.bool (Go.Proofs.YtcohfhclcoiigaaX.ne_isEmpty_ _) | (simp [*]; done)), H', ⟨by have := HJ2.out; first | omega | exact Nat.le_refl _⟩, ⟨by (with_reducible repeat (first | refine blk_drewN ?_ _ | refine blk_drew ?_ | refine blk_alloc ?_ _)); exact BK254.out⟩, ⟨by (with_reducible repeat (first | refine blk_drewN ?_ _ | refine blk_drew ?_ | refine blk_alloc ?_ _)); exact BK255.out⟩, ⟨by repeat (first | (with_reducible first | exact HB.out | apply below_alloc | apply pw_below_drewN | apply below_drew1 | refine below_set ?_ GE254.out | refine below_set ?_ GE255.out) | exact HB.out)⟩⟩
          · rw [if_neg c26] at H
            have c26b0 : (t259 == 0) = false := beq_eq_false_iff_ne.mpr c26
            have c26b1 : (t259 != 0) = true := bne_iff_ne.mpr c26
            (first | rw [c26b0] | (simp only [i64_w, i32_w]; rw [c26b0]) | skip)
            have H' := Aside0.mk H
            clear H
            go_wp2
            repeat (go_quiet (fail); try go_wp2)
            go_meet
            case rel => exact ⟨_, (true), (by first | rfl | (simp; done) | exact congrArg Value.bool (Go.Proofs.YtcohfhclcoiigaaX.isEmpty_ne_ _) | exact congrArg Value.bool (Go.Proofs.YtcohfhclcoiigaaX.ne_isEmpty_ _) | (simp [*]; done)), H', ⟨by have := HJ2.out; first | omega | exact Nat.le_refl _⟩, ⟨by (with_reducible repeat (first | refine blk_drewN ?_ _ | refine blk_drew ?_ | refine blk_alloc ?_ _)); exact BK254.out⟩, ⟨by (with_reducible repeat (first | refine blk_drewN ?_ _ | refine blk_drew ?_ | refine blk_alloc ?_ _)); exact BK255.out⟩, ⟨by repeat (first | (with_reducible first | exact HB.out | apply below_alloc | apply pw_below_drewN | apply below_drew1 | refine below_set ?_ GE254.out | refine below_set ?_ GE255.out) | exact HB.out)⟩⟩
        case rest =>
          clear HC20
          try clear c1
          try clear c2
          try clear p2
          try clear c7
          try clear c8
          try clear c9
          try clear c14
          try clear c17
          try clear c21
          try clear c26
          try clear c26b0
          try clear c26b1
          try clear c27
          try clear c27b0
          try clear c27b1
          try clear c28
          try clear c28b0
          try clear c28b1
          try clear hcz10_0
          try clear hcz10_1
          try clear hcz10_2
          try clear hcz10_3
          try clear hcz10_4
          try clear hcz12_0
          try clear hcz12_1
          try clear hcz12_2
          try clear hcz12_3
          try clear hcz12_4
          try clear hcz15_0
          try clear hcz15_1
          try clear hcz15_2
          try clear hcz15_3
          try clear hcz15_4
          try clear hcz22_0
          try clear hcz22_1
          try clear hcz22_2
          try clear hcz22_3
          try clear hcz22_4
          try clear hcz24_0
          try clear hcz24_1
          try clear hcz24_2
          try clear hcz24_3
          try clear hcz24_4
          try clear hfz10_0
          try clear hfz10_1
          try clear hfz10_2
          try clear hfz10_3
          try clear hfz10_4
          try clear hfz12_0
          try clear hfz12_1
          try clear hfz12_2
          try clear hfz12_3
          try clear hfz12_4
          try clear hfz15_0
          try clear hfz15_1
          try clear hfz15_2
          try clear hfz15_3
          try clear hfz15_4
          try clear hfz22_0
          try clear hfz22_1
          try clear hfz22_2
          try clear hfz22_3
          try clear hfz22_4
          try clear hfz24_0
          try clear hfz24_1
          try clear hfz24_2
          try clear hfz24_3
          try clear hfz24_4
          try clear p2
          obtain ⟨kq, x41_19, rfl, HA, HJ19, BK254, BK255, HB⟩ := hcut
          cases kq with
          | zero => exact absurd HA.out (by simp [chandlerylaw11_KeysLetters.j1])
          | succ kj19 =>
            have H := HA.out
            clear HA
            simp only [chandlerylaw11_KeysLetters.j1] at H
            by_cases c29 : x41_19 = true
            · subst c29
              have H1 : ((chandlerylaw11_awake.f kj19).bind fun t262 => (some t262)) = some r := by rw [if_pos rfl] at H; exact H
              clear H
              have H := H1
              clear H1
              replace H := Option.bind_eq_some_iff.mp H
              obtain ⟨t262, A300, H⟩ := H
              replace H : (some t262) = some r := H
              have A30 := Aside0.mk A300
              clear A300
              obtain rfl := Option.some.inj H
              go_wp2_with (first | (go_at_call 15; (with_reducible refine (chandlerylaw11_awake.calls kj19  t262 _ A30.out).mono ?_); rintro e w31 ⟨rfl, hb⟩; have n0_ := Aside0.mk (blk_below (g := gb254) (o := .cells #[.int .i64 a0_0, .string a0_1, .string a0_2, .int .i64 a0_3, .int .i64 a0_4] 23 (0, 0)) (by (with_reducible repeat (first | refine blk_drewN ?_ _ | refine blk_drew ?_ | refine blk_alloc ?_ _)); exact BK254.out) hb); have n1_ := Aside0.mk (blk_below (g := gb255) (o := .cells #[.int .i64 a1_0, .string a1_1, .string a1_2, .int .i64 a1_3, .int .i64 a1_4] 23 (0, 0)) (by (with_reducible repeat (first | refine blk_drewN ?_ _ | refine blk_drew ?_ | refine blk_alloc ?_ _)); exact BK255.out) hb); have n2_ := Aside0.mk (below_step (by repeat (first | (with_reducible first | exact HB.out | apply below_alloc | apply pw_below_drewN | apply below_drew1 | refine below_set ?_ GE254.out | refine below_set ?_ GE255.out) | exact HB.out)) hb); clear BK254; clear BK255; clear HB; have BK254 := n0_; have BK255 := n1_; have HB := n2_; clear n0_ n1_ n2_; (try clear hb); (try clear hb2); (try clear hk); (try clear hi)))
              repeat (go_quiet (first | (go_at_call 15; (with_reducible refine (chandlerylaw11_awake.calls kj19  t262 _ A30.out).mono ?_); rintro e w31 ⟨rfl, hb⟩; have n0_ := Aside0.mk (blk_below (g := gb254) (o := .cells #[.int .i64 a0_0, .string a0_1, .string a0_2, .int .i64 a0_3, .int .i64 a0_4] 23 (0, 0)) (by (with_reducible repeat (first | refine blk_drewN ?_ _ | refine blk_drew ?_ | refine blk_alloc ?_ _)); exact BK254.out) hb); have n1_ := Aside0.mk (blk_below (g := gb255) (o := .cells #[.int .i64 a1_0, .string a1_1, .string a1_2, .int .i64 a1_3, .int .i64 a1_4] 23 (0, 0)) (by (with_reducible repeat (first | refine blk_drewN ?_ _ | refine blk_drew ?_ | refine blk_alloc ?_ _)); exact BK255.out) hb); have n2_ := Aside0.mk (below_step (by repeat (first | (with_reducible first | exact HB.out | apply below_alloc | apply pw_below_drewN | apply below_drew1 | refine below_set ?_ GE254.out | refine below_set ?_ GE255.out) | exact HB.out)) hb); clear BK254; clear BK255; clear HB; have BK254 := n0_; have BK255 := n1_; have HB := n2_; clear n0_ n1_ n2_; (try clear hb); (try clear hb2); (try clear hk); (try clear hi))); try go_wp2_with (first | (go_at_call 15; (with_reducible refine (chandlerylaw11_awake.calls kj19  t262 _ A30.out).mono ?_); rintro e w31 ⟨rfl, hb⟩; have n0_ := Aside0.mk (blk_below (g := gb254) (o := .cells #[.int .i64 a0_0, .string a0_1, .string a0_2, .int .i64 a0_3, .int .i64 a0_4] 23 (0, 0)) (by (with_reducible repeat (first | refine blk_drewN ?_ _ | refine blk_drew ?_ | refine blk_alloc ?_ _)); exact BK254.out) hb); have n1_ := Aside0.mk (blk_below (g := gb255) (o := .cells #[.int .i64 a1_0, .string a1_1, .string a1_2, .int .i64 a1_3, .int .i64 a1_4] 23 (0, 0)) (by (with_reducible repeat (first | refine blk_drewN ?_ _ | refine blk_drew ?_ | refine blk_alloc ?_ _)); exact BK255.out) hb); have n2_ := Aside0.mk (below_step (by repeat (first | (with_reducible first | exact HB.out | apply below_alloc | apply pw_below_drewN | apply below_drew1 | refine below_set ?_ GE254.out | refine below_set ?_ GE255.out) | exact HB.out)) hb); clear BK254; clear BK255; clear HB; have BK254 := n0_; have BK255 := n1_; have HB := n2_; clear n0_ n1_ n2_; (try clear hb); (try clear hb2); (try clear hk); (try clear hi))))
              go_ret
              exact ⟨by first | rfl | (simp [errW_none, errW_some] <;> rfl) | (simp [*, errW_none, errW_some] <;> rfl), by repeat (first | (with_reducible first | exact HB.out | apply below_alloc | apply pw_below_drewN | apply below_drew1 | refine below_set ?_ GE254.out | refine below_set ?_ GE255.out) | exact HB.out)⟩
            · replace c29 := Bool.eq_false_iff.mpr c29
              subst c29
              have H1 : (if 0 < (t258.size : Int) then (if 0 < (t260.size : Int) then (if (((bt t258 0) == (bt t260 0)) != (a0_0 == a1_0)) = true then (some false) else (if a0_0 = 1 then ((chandlerylaw11_awake.f kj19).bind fun t263 => (if t263 = true then (if a0_0 = a1_0 then (some ((t258.size : Int) == (t260.size : Int))) else (some true)) else (some false))) else (if a0_0 = 2 then ((chandlerylaw11_awake.f kj19).bind fun t264 => (if t264 = true then (if a0_0 = a1_0 then (some ((t258.size : Int) == (t260.size : Int))) else (some true)) else (some false))) else ((chandlerylaw11_awake.f kj19).bind fun t265 => (if t265 = true then (if a0_0 = 3 then (if a0_0 = a1_0 then (some ((t258.size : Int) == (t260.size : Int))) else (some true)) else (some true)) else (some false)))))) else (none)) else (none)) = some r := by rw [if_neg (show ¬ (false = true) by decide)] at H; exact H
              clear H
              have H := H1
              clear H1
              by_cases c32 : 0 < (t258.size : Int)
              · rw [if_pos c32] at H
                have c32b0 : decide (0 < (t258.size : Int)) = true := decide_eq_true c32
                have c32b1 : decide (0 < t258.size) = true := decide_eq_true (by omega)
                clear c32
                by_cases c34 : 0 < (t260.size : Int)
                · rw [if_pos c34] at H
                  have c34b0 : decide (0 < (t260.size : Int)) = true := decide_eq_true c34
                  have c34b1 : decide (0 < t260.size) = true := decide_eq_true (by omega)
                  clear c34
                  by_cases c36 : (((bt t258 0) == (bt t260 0)) != (a0_0 == a1_0)) = true
                  · rw [if_pos c36] at H
                    have c36b0 : (((bt t258 0) == (bt t260 0)) != (a0_0 == a1_0)) = true := c36
                    (try (have c36b1 : decide (((bt t258 0) == (bt t260 0)) = (a0_0 == a1_0)) = false := by simpa using c36))
                    (try (have c36b2 : (((bt t258 0) == (bt t260 0)) == (a0_0 == a1_0)) = false := by simpa using c36))
                    (try (have c36b3 : ¬ (((bt t258 0) == (bt t260 0)) = (a0_0 == a1_0)) := by simpa using c36))
                    clear c36
                    obtain rfl := Option.some.inj H
                    have p33 : 0 ≤ (0 : Int) := (by omega)
                    have q33 : 0 < t258.size := (by have : (0 : Int) < (t258.size : Int) := of_decide_eq_true (by first | (with_reducible assumption) | assumption); omega)
                    have hx33 : ∀ h : 0 < t258.size, ((t258[0]'h).toNat : Int) = bt t258 0 := bt_at t258 0
                    clear p33
                    have qi33 : (0 < (t258.size : Int)) = True := eq_true (of_decide_eq_true (by first | (with_reducible assumption) | assumption))
                    replace q33 := eq_true q33
                    have p35 : 0 ≤ (0 : Int) := (by omega)
                    have q35 : 0 < t260.size := (by have : (0 : Int) < (t260.size : Int) := of_decide_eq_true (by first | (with_reducible assumption) | assumption); omega)
                    have hx35 : ∀ h : 0 < t260.size, ((t260[0]'h).toNat : Int) = bt t260 0 := bt_at t260 0
                    clear p35
                    have qi35 : (0 < (t260.size : Int)) = True := eq_true (of_decide_eq_true (by first | (with_reducible assumption) | assumption))
                    replace q35 := eq_true q35
                    have hnb37 := NB254_255.out
                    have hnc37 := NB255_254.out
                    have hcz38_0 : wc.cell? ⟨gb254, 0, none⟩ = some (.int .i64 a0_0) := (blk_cell BK254.out 0).trans rfl
                    have hcz38_1 : wc.cell? ⟨gb254, 1, none⟩ = some (.string a0_1) := (blk_cell BK254.out 1).trans rfl
                    have hcz38_2 : wc.cell? ⟨gb254, 2, none⟩ = some (.string a0_2) := (blk_cell BK254.out 2).trans rfl
                    have hcz38_3 : wc.cell? ⟨gb254, 3, none⟩ = some (.int .i64 a0_3) := (blk_cell BK254.out 3).trans rfl
                    have hcz38_4 : wc.cell? ⟨gb254, 4, none⟩ = some (.int .i64 a0_4) := (blk_cell BK254.out 4).trans rfl
                    have hfz38_0 := blk_frozen BK254.out 0
                    have hfz38_1 := blk_frozen BK254.out 1
                    have hfz38_2 := blk_frozen BK254.out 2
                    have hfz38_3 := blk_frozen BK254.out 3
                    have hfz38_4 := blk_frozen BK254.out 4
                    have hcz39_0 : wc.cell? ⟨gb255, 0, none⟩ = some (.int .i64 a1_0) := (blk_cell BK255.out 0).trans rfl
                    have hcz39_1 : wc.cell? ⟨gb255, 1, none⟩ = some (.string a1_1) := (blk_cell BK255.out 1).trans rfl
                    have hcz39_2 : wc.cell? ⟨gb255, 2, none⟩ = some (.string a1_2) := (blk_cell BK255.out 2).trans rfl
                    have hcz39_3 : wc.cell? ⟨gb255, 3, none⟩ = some (.int .i64 a1_3) := (blk_cell BK255.out 3).trans rfl
                    have hcz39_4 : wc.cell? ⟨gb255, 4, none⟩ = some (.int .i64 a1_4) := (blk_cell BK255.out 4).trans rfl
                    have hfz39_0 := blk_frozen BK255.out 0
                    have hfz39_1 := blk_frozen BK255.out 1
                    have hfz39_2 := blk_frozen BK255.out 2
                    have hfz39_3 := blk_frozen BK255.out 3
                    have hfz39_4 := blk_frozen BK255.out 4
                    go_wp2
                    repeat (go_quiet (fail); try go_wp2)
                    go_ret
                    exact ⟨by first | rfl | (simp [errW_none, errW_some] <;> rfl) | (simp [*, errW_none, errW_some] <;> rfl), by repeat (first | (with_reducible first | exact HB.out | apply below_alloc | apply pw_below_drewN | apply below_drew1 | refine below_set ?_ GE254.out | refine below_set ?_ GE255.out) | exact HB.out)⟩
                  · rw [if_neg c36] at H
                    have c36b0 : (((bt t258 0) == (bt t260 0)) != (a0_0 == a1_0)) = false := by simpa using c36
                    (try (have c36b1 : decide (((bt t258 0) == (bt t260 0)) = (a0_0 == a1_0)) = true := by simpa using c36))
                    (try (have c36b2 : (((bt t258 0) == (bt t260 0)) == (a0_0 == a1_0)) = true := by simpa using c36))
                    clear c36
                    by_cases c40 : a0_0 = 1
                    · rw [if_pos c40] at H
                      have c40b0 : (a0_0 == 1) = true := beq_iff_eq.mpr c40
                      have c40b1 : (a0_0 != 1) = false := bne_eq_false_iff_eq.mpr c40
                      clear c40
                      replace H := Option.bind_eq_some_iff.mp H
                      obtain ⟨t263, A410, H⟩ := H
                      replace H : (if t263 = true then (if a0_0 = a1_0 then (some ((t258.size : Int) == (t260.size : Int))) else (some true)) else (some false)) = some r := H
                      have A41 := Aside0.mk A410
                      clear A410
                      by_cases c42 : t263 = true
                      · subst c42
                        have H1 : (if a0_0 = a1_0 then (some ((t258.size : Int) == (t260.size : Int))) else (some true)) = some r := by rw [if_pos rfl] at H; exact H
                        clear H
                        have H := H1
                        clear H1
                        by_cases c43 : a0_0 = a1_0
                        · rw [if_pos c43] at H
                          have c43b0 : (a0_0 == a1_0) = true := beq_iff_eq.mpr c43
                          have c43b1 : (a0_0 != a1_0) = false := bne_eq_false_iff_eq.mpr c43
                          try have c43b7 : ((bt t258 0) == (bt t260 0)) = true := by simpa [c43b0] using c36b0
                          clear c43
                          obtain rfl := Option.some.inj H
                          have p33 : 0 ≤ (0 : Int) := (by omega)
                          have q33 : 0 < t258.size := (by have : (0 : Int) < (t258.size : Int) := of_decide_eq_true (by first | (with_reducible assumption) | assumption); omega)
                          have hx33 : ∀ h : 0 < t258.size, ((t258[0]'h).toNat : Int) = bt t258 0 := bt_at t258 0
                          clear p33
                          have qi33 : (0 < (t258.size : Int)) = True := eq_true (of_decide_eq_true (by first | (with_reducible assumption) | assumption))
                          replace q33 := eq_true q33
                          have p35 : 0 ≤ (0 : Int) := (by omega)
                          have q35 : 0 < t260.size := (by have : (0 : Int) < (t260.size : Int) := of_decide_eq_true (by first | (with_reducible assumption) | assumption); omega)
                          have hx35 : ∀ h : 0 < t260.size, ((t260[0]'h).toNat : Int) = bt t260 0 := bt_at t260 0
                          clear p35
                          have qi35 : (0 < (t260.size : Int)) = True := eq_true (of_decide_eq_true (by first | (with_reducible assumption) | assumption))
                          replace q35 := eq_true q35
                          have hnb44 := NB254_255.out
                          have hnc44 := NB255_254.out
                          have hcz45_0 : wc.cell? ⟨gb254, 0, none⟩ = some (.int .i64 a0_0) := (blk_cell BK254.out 0).trans rfl
                          have hcz45_1 : wc.cell? ⟨gb254, 1, none⟩ = some (.string a0_1) := (blk_cell BK254.out 1).trans rfl
                          have hcz45_2 : wc.cell? ⟨gb254, 2, none⟩ = some (.string a0_2) := (blk_cell BK254.out 2).trans rfl
                          have hcz45_3 : wc.cell? ⟨gb254, 3, none⟩ = some (.int .i64 a0_3) := (blk_cell BK254.out 3).trans rfl
                          have hcz45_4 : wc.cell? ⟨gb254, 4, none⟩ = some (.int .i64 a0_4) := (blk_cell BK254.out 4).trans rfl
                          have hfz45_0 := blk_frozen BK254.out 0
                          have hfz45_1 := blk_frozen BK254.out 1
                          have hfz45_2 := blk_frozen BK254.out 2
                          have hfz45_3 := blk_frozen BK254.out 3
                          have hfz45_4 := blk_frozen BK254.out 4
                          have hcz46_0 : wc.cell? ⟨gb255, 0, none⟩ = some (.int .i64 a1_0) := (blk_cell BK255.out 0).trans rfl
                          have hcz46_1 : wc.cell? ⟨gb255, 1, none⟩ = some (.string a1_1) := (blk_cell BK255.out 1).trans rfl
                          have hcz46_2 : wc.cell? ⟨gb255, 2, none⟩ = some (.string a1_2) := (blk_cell BK255.out 2).trans rfl
                          have hcz46_3 : wc.cell? ⟨gb255, 3, none⟩ = some (.int .i64 a1_3) := (blk_cell BK255.out 3).trans rfl
                          have hcz46_4 : wc.cell? ⟨gb255, 4, none⟩ = some (.int .i64 a1_4) := (blk_cell BK255.out 4).trans rfl
                          have hfz46_0 := blk_frozen BK255.out 0
                          have hfz46_1 := blk_frozen BK255.out 1
                          have hfz46_2 := blk_frozen BK255.out 2
                          have hfz46_3 := blk_frozen BK255.out 3
                          have hfz46_4 := blk_frozen BK255.out 4
                          go_wp2_with (first | (go_at_call 15; (with_reducible refine (chandlerylaw11_awake.calls kj19  true _ A41.out).mono ?_); rintro e w47 ⟨rfl, hb⟩; have n0_ := Aside0.mk (blk_below (g := gb254) (o := .cells #[.int .i64 a0_0, .string a0_1, .string a0_2, .int .i64 a0_3, .int .i64 a0_4] 23 (0, 0)) (by (with_reducible repeat (first | refine blk_drewN ?_ _ | refine blk_drew ?_ | refine blk_alloc ?_ _)); exact BK254.out) hb); have n1_ := Aside0.mk (blk_below (g := gb255) (o := .cells #[.int .i64 a1_0, .string a1_1, .string a1_2, .int .i64 a1_3, .int .i64 a1_4] 23 (0, 0)) (by (with_reducible repeat (first | refine blk_drewN ?_ _ | refine blk_drew ?_ | refine blk_alloc ?_ _)); exact BK255.out) hb); have n2_ := Aside0.mk (below_step (by repeat (first | (with_reducible first | exact HB.out | apply below_alloc | apply pw_below_drewN | apply below_drew1 | refine below_set ?_ GE254.out | refine below_set ?_ GE255.out) | exact HB.out)) hb); clear BK254; clear BK255; clear HB; have BK254 := n0_; have BK255 := n1_; have HB := n2_; clear n0_ n1_ n2_; (try clear hb); (try clear hb2); (try clear hk); (try clear hi); have hcz48_0 : w47.cell? ⟨gb254, 0, none⟩ = some (.int .i64 a0_0) := (blk_cell BK254.out 0).trans rfl; have hcz48_1 : w47.cell? ⟨gb254, 1, none⟩ = some (.string a0_1) := (blk_cell BK254.out 1).trans rfl; have hcz48_2 : w47.cell? ⟨gb254, 2, none⟩ = some (.string a0_2) := (blk_cell BK254.out 2).trans rfl; have hcz48_3 : w47.cell? ⟨gb254, 3, none⟩ = some (.int .i64 a0_3) := (blk_cell BK254.out 3).trans rfl; have hcz48_4 : w47.cell? ⟨gb254, 4, none⟩ = some (.int .i64 a0_4) := (blk_cell BK254.out 4).trans rfl; have hfz48_0 := blk_frozen BK254.out 0; have hfz48_1 := blk_frozen BK254.out 1; have hfz48_2 := blk_frozen BK254.out 2; have hfz48_3 := blk_frozen BK254.out 3; have hfz48_4 := blk_frozen BK254.out 4; have hcz49_0 : w47.cell? ⟨gb255, 0, none⟩ = some (.int .i64 a1_0) := (blk_cell BK255.out 0).trans rfl; have hcz49_1 : w47.cell? ⟨gb255, 1, none⟩ = some (.string a1_1) := (blk_cell BK255.out 1).trans rfl; have hcz49_2 : w47.cell? ⟨gb255, 2, none⟩ = some (.string a1_2) := (blk_cell BK255.out 2).trans rfl; have hcz49_3 : w47.cell? ⟨gb255, 3, none⟩ = some (.int .i64 a1_3) := (blk_cell BK255.out 3).trans rfl; have hcz49_4 : w47.cell? ⟨gb255, 4, none⟩ = some (.int .i64 a1_4) := (blk_cell BK255.out 4).trans rfl; have hfz49_0 := blk_frozen BK255.out 0; have hfz49_1 := blk_frozen BK255.out 1; have hfz49_2 := blk_frozen BK255.out 2; have hfz49_3 := blk_frozen BK255.out 3; have hfz49_4 := blk_frozen BK255.out 4))
                          repeat (go_quiet (first | (go_at_call 15; (with_reducible refine (chandlerylaw11_awake.calls kj19  true _ A41.out).mono ?_); rintro e w47 ⟨rfl, hb⟩; have n0_ := Aside0.mk (blk_below (g := gb254) (o := .cells #[.int .i64 a0_0, .string a0_1, .string a0_2, .int .i64 a0_3, .int .i64 a0_4] 23 (0, 0)) (by (with_reducible repeat (first | refine blk_drewN ?_ _ | refine blk_drew ?_ | refine blk_alloc ?_ _)); exact BK254.out) hb); have n1_ := Aside0.mk (blk_below (g := gb255) (o := .cells #[.int .i64 a1_0, .string a1_1, .string a1_2, .int .i64 a1_3, .int .i64 a1_4] 23 (0, 0)) (by (with_reducible repeat (first | refine blk_drewN ?_ _ | refine blk_drew ?_ | refine blk_alloc ?_ _)); exact BK255.out) hb); have n2_ := Aside0.mk (below_step (by repeat (first | (with_reducible first | exact HB.out | apply below_alloc | apply pw_below_drewN | apply below_drew1 | refine below_set ?_ GE254.out | refine below_set ?_ GE255.out) | exact HB.out)) hb); clear BK254; clear BK255; clear HB; have BK254 := n0_; have BK255 := n1_; have HB := n2_; clear n0_ n1_ n2_; (try clear hb); (try clear hb2); (try clear hk); (try clear hi); have hcz48_0 : w47.cell? ⟨gb254, 0, none⟩ = some (.int .i64 a0_0) := (blk_cell BK254.out 0).trans rfl; have hcz48_1 : w47.cell? ⟨gb254, 1, none⟩ = some (.string a0_1) := (blk_cell BK254.out 1).trans rfl; have hcz48_2 : w47.cell? ⟨gb254, 2, none⟩ = some (.string a0_2) := (blk_cell BK254.out 2).trans rfl; have hcz48_3 : w47.cell? ⟨gb254, 3, none⟩ = some (.int .i64 a0_3) := (blk_cell BK254.out 3).trans rfl; have hcz48_4 : w47.cell? ⟨gb254, 4, none⟩ = some (.int .i64 a0_4) := (blk_cell BK254.out 4).trans rfl; have hfz48_0 := blk_frozen BK254.out 0; have hfz48_1 := blk_frozen BK254.out 1; have hfz48_2 := blk_frozen BK254.out 2; have hfz48_3 := blk_frozen BK254.out 3; have hfz48_4 := blk_frozen BK254.out 4; have hcz49_0 : w47.cell? ⟨gb255, 0, none⟩ = some (.int .i64 a1_0) := (blk_cell BK255.out 0).trans rfl; have hcz49_1 : w47.cell? ⟨gb255, 1, none⟩ = some (.string a1_1) := (blk_cell BK255.out 1).trans rfl; have hcz49_2 : w47.cell? ⟨gb255, 2, none⟩ = some (.string a1_2) := (blk_cell BK255.out 2).trans rfl; have hcz49_3 : w47.cell? ⟨gb255, 3, none⟩ = some (.int .i64 a1_3) := (blk_cell BK255.out 3).trans rfl; have hcz49_4 : w47.cell? ⟨gb255, 4, none⟩ = some (.int .i64 a1_4) := (blk_cell BK255.out 4).trans rfl; have hfz49_0 := blk_frozen BK255.out 0; have hfz49_1 := blk_frozen BK255.out 1; have hfz49_2 := blk_frozen BK255.out 2; have hfz49_3 := blk_frozen BK255.out 3; have hfz49_4 := blk_frozen BK255.out 4)); try go_wp2_with (first | (go_at_call 15; (with_reducible refine (chandlerylaw11_awake.calls kj19  true _ A41.out).mono ?_); rintro e w47 ⟨rfl, hb⟩; have n0_ := Aside0.mk (blk_below (g := gb254) (o := .cells #[.int .i64 a0_0, .string a0_1, .string a0_2, .int .i64 a0_3, .int .i64 a0_4] 23 (0, 0)) (by (with_reducible repeat (first | refine blk_drewN ?_ _ | refine blk_drew ?_ | refine blk_alloc ?_ _)); exact BK254.out) hb); have n1_ := Aside0.mk (blk_below (g := gb255) (o := .cells #[.int .i64 a1_0, .string a1_1, .string a1_2, .int .i64 a1_3, .int .i64 a1_4] 23 (0, 0)) (by (with_reducible repeat (first | refine blk_drewN ?_ _ | refine blk_drew ?_ | refine blk_alloc ?_ _)); exact BK255.out) hb); have n2_ := Aside0.mk (below_step (by repeat (first | (with_reducible first | exact HB.out | apply below_alloc | apply pw_below_drewN | apply below_drew1 | refine below_set ?_ GE254.out | refine below_set ?_ GE255.out) | exact HB.out)) hb); clear BK254; clear BK255; clear HB; have BK254 := n0_; have BK255 := n1_; have HB := n2_; clear n0_ n1_ n2_; (try clear hb); (try clear hb2); (try clear hk); (try clear hi); have hcz48_0 : w47.cell? ⟨gb254, 0, none⟩ = some (.int .i64 a0_0) := (blk_cell BK254.out 0).trans rfl; have hcz48_1 : w47.cell? ⟨gb254, 1, none⟩ = some (.string a0_1) := (blk_cell BK254.out 1).trans rfl; have hcz48_2 : w47.cell? ⟨gb254, 2, none⟩ = some (.string a0_2) := (blk_cell BK254.out 2).trans rfl; have hcz48_3 : w47.cell? ⟨gb254, 3, none⟩ = some (.int .i64 a0_3) := (blk_cell BK254.out 3).trans rfl; have hcz48_4 : w47.cell? ⟨gb254, 4, none⟩ = some (.int .i64 a0_4) := (blk_cell BK254.out 4).trans rfl; have hfz48_0 := blk_frozen BK254.out 0; have hfz48_1 := blk_frozen BK254.out 1; have hfz48_2 := blk_frozen BK254.out 2; have hfz48_3 := blk_frozen BK254.out 3; have hfz48_4 := blk_frozen BK254.out 4; have hcz49_0 : w47.cell? ⟨gb255, 0, none⟩ = some (.int .i64 a1_0) := (blk_cell BK255.out 0).trans rfl; have hcz49_1 : w47.cell? ⟨gb255, 1, none⟩ = some (.string a1_1) := (blk_cell BK255.out 1).trans rfl; have hcz49_2 : w47.cell? ⟨gb255, 2, none⟩ = some (.string a1_2) := (blk_cell BK255.out 2).trans rfl; have hcz49_3 : w47.cell? ⟨gb255, 3, none⟩ = some (.int .i64 a1_3) := (blk_cell BK255.out 3).trans rfl; have hcz49_4 : w47.cell? ⟨gb255, 4, none⟩ = some (.int .i64 a1_4) := (blk_cell BK255.out 4).trans rfl; have hfz49_0 := blk_frozen BK255.out 0; have hfz49_1 := blk_frozen BK255.out 1; have hfz49_2 := blk_frozen BK255.out 2; have hfz49_3 := blk_frozen BK255.out 3; have hfz49_4 := blk_frozen BK255.out 4)))
                          go_ret
                          exact ⟨by first | rfl | (simp [errW_none, errW_some] <;> rfl) | (simp [*, errW_none, errW_some] <;> rfl), by repeat (first | (with_reducible first | exact HB.out | apply below_alloc | apply pw_below_drewN | apply below_drew1 | refine below_set ?_ GE254.out | refine below_set ?_ GE255.out) | exact HB.out)⟩
                        · rw [if_neg c43] at H
                          have c43b0 : (a0_0 == a1_0) = false := beq_eq_false_iff_ne.mpr c43
                          have c43b1 : (a0_0 != a1_0) = true := bne_iff_ne.mpr c43
                          try have c43b7 : ((bt t258 0) == (bt t260 0)) = false := by simpa [c43b0] using c36b0
                          obtain rfl := Option.some.inj H
                          have p33 : 0 ≤ (0 : Int) := (by omega)
                          have q33 : 0 < t258.size := (by have : (0 : Int) < (t258.size : Int) := of_decide_eq_true (by first | (with_reducible assumption) | assumption); omega)
                          have hx33 : ∀ h : 0 < t258.size, ((t258[0]'h).toNat : Int) = bt t258 0 := bt_at t258 0
                          clear p33
                          have qi33 : (0 < (t258.size : Int)) = True := eq_true (of_decide_eq_true (by first | (with_reducible assumption) | assumption))
                          replace q33 := eq_true q33
                          have p35 : 0 ≤ (0 : Int) := (by omega)
                          have q35 : 0 < t260.size := (by have : (0 : Int) < (t260.size : Int) := of_decide_eq_true (by first | (with_reducible assumption) | assumption); omega)
                          have hx35 : ∀ h : 0 < t260.size, ((t260[0]'h).toNat : Int) = bt t260 0 := bt_at t260 0
                          clear p35
                          have qi35 : (0 < (t260.size : Int)) = True := eq_true (of_decide_eq_true (by first | (with_reducible assumption) | assumption))
                          replace q35 := eq_true q35
                          have hnb50 := NB254_255.out
                          have hnc50 := NB255_254.out
                          have hcz51_0 : wc.cell? ⟨gb254, 0, none⟩ = some (.int .i64 a0_0) := (blk_cell BK254.out 0).trans rfl
                          have hcz51_1 : wc.cell? ⟨gb254, 1, none⟩ = some (.string a0_1) := (blk_cell BK254.out 1).trans rfl
                          have hcz51_2 : wc.cell? ⟨gb254, 2, none⟩ = some (.string a0_2) := (blk_cell BK254.out 2).trans rfl
                          have hcz51_3 : wc.cell? ⟨gb254, 3, none⟩ = some (.int .i64 a0_3) := (blk_cell BK254.out 3).trans rfl
                          have hcz51_4 : wc.cell? ⟨gb254, 4, none⟩ = some (.int .i64 a0_4) := (blk_cell BK254.out 4).trans rfl
                          have hfz51_0 := blk_frozen BK254.out 0
                          have hfz51_1 := blk_frozen BK254.out 1
                          have hfz51_2 := blk_frozen BK254.out 2
                          have hfz51_3 := blk_frozen BK254.out 3
                          have hfz51_4 := blk_frozen BK254.out 4
                          have hcz52_0 : wc.cell? ⟨gb255, 0, none⟩ = some (.int .i64 a1_0) := (blk_cell BK255.out 0).trans rfl
                          have hcz52_1 : wc.cell? ⟨gb255, 1, none⟩ = some (.string a1_1) := (blk_cell BK255.out 1).trans rfl
                          have hcz52_2 : wc.cell? ⟨gb255, 2, none⟩ = some (.string a1_2) := (blk_cell BK255.out 2).trans rfl
                          have hcz52_3 : wc.cell? ⟨gb255, 3, none⟩ = some (.int .i64 a1_3) := (blk_cell BK255.out 3).trans rfl
                          have hcz52_4 : wc.cell? ⟨gb255, 4, none⟩ = some (.int .i64 a1_4) := (blk_cell BK255.out 4).trans rfl
                          have hfz52_0 := blk_frozen BK255.out 0
                          have hfz52_1 := blk_frozen BK255.out 1
                          have hfz52_2 := blk_frozen BK255.out 2
                          have hfz52_3 := blk_frozen BK255.out 3
                          have hfz52_4 := blk_frozen BK255.out 4
                          go_wp2_with (first | (go_at_call 15; (with_reducible refine (chandlerylaw11_awake.calls kj19  true _ A41.out).mono ?_); rintro e w53 ⟨rfl, hb⟩; have n0_ := Aside0.mk (blk_below (g := gb254) (o := .cells #[.int .i64 a0_0, .string a0_1, .string a0_2, .int .i64 a0_3, .int .i64 a0_4] 23 (0, 0)) (by (with_reducible repeat (first | refine blk_drewN ?_ _ | refine blk_drew ?_ | refine blk_alloc ?_ _)); exact BK254.out) hb); have n1_ := Aside0.mk (blk_below (g := gb255) (o := .cells #[.int .i64 a1_0, .string a1_1, .string a1_2, .int .i64 a1_3, .int .i64 a1_4] 23 (0, 0)) (by (with_reducible repeat (first | refine blk_drewN ?_ _ | refine blk_drew ?_ | refine blk_alloc ?_ _)); exact BK255.out) hb); have n2_ := Aside0.mk (below_step (by repeat (first | (with_reducible first | exact HB.out | apply below_alloc | apply pw_below_drewN | apply below_drew1 | refine below_set ?_ GE254.out | refine below_set ?_ GE255.out) | exact HB.out)) hb); clear BK254; clear BK255; clear HB; have BK254 := n0_; have BK255 := n1_; have HB := n2_; clear n0_ n1_ n2_; (try clear hb); (try clear hb2); (try clear hk); (try clear hi); have hcz54_0 : w53.cell? ⟨gb254, 0, none⟩ = some (.int .i64 a0_0) := (blk_cell BK254.out 0).trans rfl; have hcz54_1 : w53.cell? ⟨gb254, 1, none⟩ = some (.string a0_1) := (blk_cell BK254.out 1).trans rfl; have hcz54_2 : w53.cell? ⟨gb254, 2, none⟩ = some (.string a0_2) := (blk_cell BK254.out 2).trans rfl; have hcz54_3 : w53.cell? ⟨gb254, 3, none⟩ = some (.int .i64 a0_3) := (blk_cell BK254.out 3).trans rfl; have hcz54_4 : w53.cell? ⟨gb254, 4, none⟩ = some (.int .i64 a0_4) := (blk_cell BK254.out 4).trans rfl; have hfz54_0 := blk_frozen BK254.out 0; have hfz54_1 := blk_frozen BK254.out 1; have hfz54_2 := blk_frozen BK254.out 2; have hfz54_3 := blk_frozen BK254.out 3; have hfz54_4 := blk_frozen BK254.out 4; have hcz55_0 : w53.cell? ⟨gb255, 0, none⟩ = some (.int .i64 a1_0) := (blk_cell BK255.out 0).trans rfl; have hcz55_1 : w53.cell? ⟨gb255, 1, none⟩ = some (.string a1_1) := (blk_cell BK255.out 1).trans rfl; have hcz55_2 : w53.cell? ⟨gb255, 2, none⟩ = some (.string a1_2) := (blk_cell BK255.out 2).trans rfl; have hcz55_3 : w53.cell? ⟨gb255, 3, none⟩ = some (.int .i64 a1_3) := (blk_cell BK255.out 3).trans rfl; have hcz55_4 : w53.cell? ⟨gb255, 4, none⟩ = some (.int .i64 a1_4) := (blk_cell BK255.out 4).trans rfl; have hfz55_0 := blk_frozen BK255.out 0; have hfz55_1 := blk_frozen BK255.out 1; have hfz55_2 := blk_frozen BK255.out 2; have hfz55_3 := blk_frozen BK255.out 3; have hfz55_4 := blk_frozen BK255.out 4))
                          repeat (go_quiet (first | (go_at_call 15; (with_reducible refine (chandlerylaw11_awake.calls kj19  true _ A41.out).mono ?_); rintro e w53 ⟨rfl, hb⟩; have n0_ := Aside0.mk (blk_below (g := gb254) (o := .cells #[.int .i64 a0_0, .string a0_1, .string a0_2, .int .i64 a0_3, .int .i64 a0_4] 23 (0, 0)) (by (with_reducible repeat (first | refine blk_drewN ?_ _ | refine blk_drew ?_ | refine blk_alloc ?_ _)); exact BK254.out) hb); have n1_ := Aside0.mk (blk_below (g := gb255) (o := .cells #[.int .i64 a1_0, .string a1_1, .string a1_2, .int .i64 a1_3, .int .i64 a1_4] 23 (0, 0)) (by (with_reducible repeat (first | refine blk_drewN ?_ _ | refine blk_drew ?_ | refine blk_alloc ?_ _)); exact BK255.out) hb); have n2_ := Aside0.mk (below_step (by repeat (first | (with_reducible first | exact HB.out | apply below_alloc | apply pw_below_drewN | apply below_drew1 | refine below_set ?_ GE254.out | refine below_set ?_ GE255.out) | exact HB.out)) hb); clear BK254; clear BK255; clear HB; have BK254 := n0_; have BK255 := n1_; have HB := n2_; clear n0_ n1_ n2_; (try clear hb); (try clear hb2); (try clear hk); (try clear hi); have hcz54_0 : w53.cell? ⟨gb254, 0, none⟩ = some (.int .i64 a0_0) := (blk_cell BK254.out 0).trans rfl; have hcz54_1 : w53.cell? ⟨gb254, 1, none⟩ = some (.string a0_1) := (blk_cell BK254.out 1).trans rfl; have hcz54_2 : w53.cell? ⟨gb254, 2, none⟩ = some (.string a0_2) := (blk_cell BK254.out 2).trans rfl; have hcz54_3 : w53.cell? ⟨gb254, 3, none⟩ = some (.int .i64 a0_3) := (blk_cell BK254.out 3).trans rfl; have hcz54_4 : w53.cell? ⟨gb254, 4, none⟩ = some (.int .i64 a0_4) := (blk_cell BK254.out 4).trans rfl; have hfz54_0 := blk_frozen BK254.out 0; have hfz54_1 := blk_frozen BK254.out 1; have hfz54_2 := blk_frozen BK254.out 2; have hfz54_3 := blk_frozen BK254.out 3; have hfz54_4 := blk_frozen BK254.out 4; have hcz55_0 : w53.cell? ⟨gb255, 0, none⟩ = some (.int .i64 a1_0) := (blk_cell BK255.out 0).trans rfl; have hcz55_1 : w53.cell? ⟨gb255, 1, none⟩ = some (.string a1_1) := (blk_cell BK255.out 1).trans rfl; have hcz55_2 : w53.cell? ⟨gb255, 2, none⟩ = some (.string a1_2) := (blk_cell BK255.out 2).trans rfl; have hcz55_3 : w53.cell? ⟨gb255, 3, none⟩ = some (.int .i64 a1_3) := (blk_cell BK255.out 3).trans rfl; have hcz55_4 : w53.cell? ⟨gb255, 4, none⟩ = some (.int .i64 a1_4) := (blk_cell BK255.out 4).trans rfl; have hfz55_0 := blk_frozen BK255.out 0; have hfz55_1 := blk_frozen BK255.out 1; have hfz55_2 := blk_frozen BK255.out 2; have hfz55_3 := blk_frozen BK255.out 3; have hfz55_4 := blk_frozen BK255.out 4)); try go_wp2_with (first | (go_at_call 15; (with_reducible refine (chandlerylaw11_awake.calls kj19  true _ A41.out).mono ?_); rintro e w53 ⟨rfl, hb⟩; have n0_ := Aside0.mk (blk_below (g := gb254) (o := .cells #[.int .i64 a0_0, .string a0_1, .string a0_2, .int .i64 a0_3, .int .i64 a0_4] 23 (0, 0)) (by (with_reducible repeat (first | refine blk_drewN ?_ _ | refine blk_drew ?_ | refine blk_alloc ?_ _)); exact BK254.out) hb); have n1_ := Aside0.mk (blk_below (g := gb255) (o := .cells #[.int .i64 a1_0, .string a1_1, .string a1_2, .int .i64 a1_3, .int .i64 a1_4] 23 (0, 0)) (by (with_reducible repeat (first | refine blk_drewN ?_ _ | refine blk_drew ?_ | refine blk_alloc ?_ _)); exact BK255.out) hb); have n2_ := Aside0.mk (below_step (by repeat (first | (with_reducible first | exact HB.out | apply below_alloc | apply pw_below_drewN | apply below_drew1 | refine below_set ?_ GE254.out | refine below_set ?_ GE255.out) | exact HB.out)) hb); clear BK254; clear BK255; clear HB; have BK254 := n0_; have BK255 := n1_; have HB := n2_; clear n0_ n1_ n2_; (try clear hb); (try clear hb2); (try clear hk); (try clear hi); have hcz54_0 : w53.cell? ⟨gb254, 0, none⟩ = some (.int .i64 a0_0) := (blk_cell BK254.out 0).trans rfl; have hcz54_1 : w53.cell? ⟨gb254, 1, none⟩ = some (.string a0_1) := (blk_cell BK254.out 1).trans rfl; have hcz54_2 : w53.cell? ⟨gb254, 2, none⟩ = some (.string a0_2) := (blk_cell BK254.out 2).trans rfl; have hcz54_3 : w53.cell? ⟨gb254, 3, none⟩ = some (.int .i64 a0_3) := (blk_cell BK254.out 3).trans rfl; have hcz54_4 : w53.cell? ⟨gb254, 4, none⟩ = some (.int .i64 a0_4) := (blk_cell BK254.out 4).trans rfl; have hfz54_0 := blk_frozen BK254.out 0; have hfz54_1 := blk_frozen BK254.out 1; have hfz54_2 := blk_frozen BK254.out 2; have hfz54_3 := blk_frozen BK254.out 3; have hfz54_4 := blk_frozen BK254.out 4; have hcz55_0 : w53.cell? ⟨gb255, 0, none⟩ = some (.int .i64 a1_0) := (blk_cell BK255.out 0).trans rfl; have hcz55_1 : w53.cell? ⟨gb255, 1, none⟩ = some (.string a1_1) := (blk_cell BK255.out 1).trans rfl; have hcz55_2 : w53.cell? ⟨gb255, 2, none⟩ = some (.string a1_2) := (blk_cell BK255.out 2).trans rfl; have hcz55_3 : w53.cell? ⟨gb255, 3, none⟩ = some (.int .i64 a1_3) := (blk_cell BK255.out 3).trans rfl; have hcz55_4 : w53.cell? ⟨gb255, 4, none⟩ = some (.int .i64 a1_4) := (blk_cell BK255.out 4).trans rfl; have hfz55_0 := blk_frozen BK255.out 0; have hfz55_1 := blk_frozen BK255.out 1; have hfz55_2 := blk_frozen BK255.out 2; have hfz55_3 := blk_frozen BK255.out 3; have hfz55_4 := blk_frozen BK255.out 4)))
                          go_ret
                          exact ⟨by first | rfl | (simp [errW_none, errW_some] <;> rfl) | (simp [*, errW_none, errW_some] <;> rfl), by repeat (first | (with_reducible first | exact HB.out | apply below_alloc | apply pw_below_drewN | apply below_drew1 | refine below_set ?_ GE254.out | refine below_set ?_ GE255.out) | exact HB.out)⟩
                      · replace c42 := Bool.eq_false_iff.mpr c42
                        subst c42
                        have H1 : (some false) = some r := by rw [if_neg (show ¬ (false = true) by decide)] at H; exact H
                        clear H
                        have H := H1
                        clear H1
                        obtain rfl := Option.some.inj H
                        have p33 : 0 ≤ (0 : Int) := (by omega)
                        have q33 : 0 < t258.size := (by have : (0 : Int) < (t258.size : Int) := of_decide_eq_true (by first | (with_reducible assumption) | assumption); omega)
                        have hx33 : ∀ h : 0 < t258.size, ((t258[0]'h).toNat : Int) = bt t258 0 := bt_at t258 0
                        clear p33
                        have qi33 : (0 < (t258.size : Int)) = True := eq_true (of_decide_eq_true (by first | (with_reducible assumption) | assumption))
                        replace q33 := eq_true q33
                        have p35 : 0 ≤ (0 : Int) := (by omega)
                        have q35 : 0 < t260.size := (by have : (0 : Int) < (t260.size : Int) := of_decide_eq_true (by first | (with_reducible assumption) | assumption); omega)
                        have hx35 : ∀ h : 0 < t260.size, ((t260[0]'h).toNat : Int) = bt t260 0 := bt_at t260 0
                        clear p35
                        have qi35 : (0 < (t260.size : Int)) = True := eq_true (of_decide_eq_true (by first | (with_reducible assumption) | assumption))
                        replace q35 := eq_true q35
                        have hnb56 := NB254_255.out
                        have hnc56 := NB255_254.out
                        have hcz57_0 : wc.cell? ⟨gb254, 0, none⟩ = some (.int .i64 a0_0) := (blk_cell BK254.out 0).trans rfl
                        have hcz57_1 : wc.cell? ⟨gb254, 1, none⟩ = some (.string a0_1) := (blk_cell BK254.out 1).trans rfl
                        have hcz57_2 : wc.cell? ⟨gb254, 2, none⟩ = some (.string a0_2) := (blk_cell BK254.out 2).trans rfl
                        have hcz57_3 : wc.cell? ⟨gb254, 3, none⟩ = some (.int .i64 a0_3) := (blk_cell BK254.out 3).trans rfl
                        have hcz57_4 : wc.cell? ⟨gb254, 4, none⟩ = some (.int .i64 a0_4) := (blk_cell BK254.out 4).trans rfl
                        have hfz57_0 := blk_frozen BK254.out 0
                        have hfz57_1 := blk_frozen BK254.out 1
                        have hfz57_2 := blk_frozen BK254.out 2
                        have hfz57_3 := blk_frozen BK254.out 3
                        have hfz57_4 := blk_frozen BK254.out 4
                        have hcz58_0 : wc.cell? ⟨gb255, 0, none⟩ = some (.int .i64 a1_0) := (blk_cell BK255.out 0).trans rfl
                        have hcz58_1 : wc.cell? ⟨gb255, 1, none⟩ = some (.string a1_1) := (blk_cell BK255.out 1).trans rfl
                        have hcz58_2 : wc.cell? ⟨gb255, 2, none⟩ = some (.string a1_2) := (blk_cell BK255.out 2).trans rfl
                        have hcz58_3 : wc.cell? ⟨gb255, 3, none⟩ = some (.int .i64 a1_3) := (blk_cell BK255.out 3).trans rfl
                        have hcz58_4 : wc.cell? ⟨gb255, 4, none⟩ = some (.int .i64 a1_4) := (blk_cell BK255.out 4).trans rfl
                        have hfz58_0 := blk_frozen BK255.out 0
                        have hfz58_1 := blk_frozen BK255.out 1
                        have hfz58_2 := blk_frozen BK255.out 2
                        have hfz58_3 := blk_frozen BK255.out 3
                        have hfz58_4 := blk_frozen BK255.out 4
                        go_wp2_with (first | (go_at_call 15; (with_reducible refine (chandlerylaw11_awake.calls kj19  false _ A41.out).mono ?_); rintro e w59 ⟨rfl, hb⟩; have n0_ := Aside0.mk (blk_below (g := gb254) (o := .cells #[.int .i64 a0_0, .string a0_1, .string a0_2, .int .i64 a0_3, .int .i64 a0_4] 23 (0, 0)) (by (with_reducible repeat (first | refine blk_drewN ?_ _ | refine blk_drew ?_ | refine blk_alloc ?_ _)); exact BK254.out) hb); have n1_ := Aside0.mk (blk_below (g := gb255) (o := .cells #[.int .i64 a1_0, .string a1_1, .string a1_2, .int .i64 a1_3, .int .i64 a1_4] 23 (0, 0)) (by (with_reducible repeat (first | refine blk_drewN ?_ _ | refine blk_drew ?_ | refine blk_alloc ?_ _)); exact BK255.out) hb); have n2_ := Aside0.mk (below_step (by repeat (first | (with_reducible first | exact HB.out | apply below_alloc | apply pw_below_drewN | apply below_drew1 | refine below_set ?_ GE254.out | refine below_set ?_ GE255.out) | exact HB.out)) hb); clear BK254; clear BK255; clear HB; have BK254 := n0_; have BK255 := n1_; have HB := n2_; clear n0_ n1_ n2_; (try clear hb); (try clear hb2); (try clear hk); (try clear hi)))
                        repeat (go_quiet (first | (go_at_call 15; (with_reducible refine (chandlerylaw11_awake.calls kj19  false _ A41.out).mono ?_); rintro e w59 ⟨rfl, hb⟩; have n0_ := Aside0.mk (blk_below (g := gb254) (o := .cells #[.int .i64 a0_0, .string a0_1, .string a0_2, .int .i64 a0_3, .int .i64 a0_4] 23 (0, 0)) (by (with_reducible repeat (first | refine blk_drewN ?_ _ | refine blk_drew ?_ | refine blk_alloc ?_ _)); exact BK254.out) hb); have n1_ := Aside0.mk (blk_below (g := gb255) (o := .cells #[.int .i64 a1_0, .string a1_1, .string a1_2, .int .i64 a1_3, .int .i64 a1_4] 23 (0, 0)) (by (with_reducible repeat (first | refine blk_drewN ?_ _ | refine blk_drew ?_ | refine blk_alloc ?_ _)); exact BK255.out) hb); have n2_ := Aside0.mk (below_step (by repeat (first | (with_reducible first | exact HB.out | apply below_alloc | apply pw_below_drewN | apply below_drew1 | refine below_set ?_ GE254.out | refine below_set ?_ GE255.out) | exact HB.out)) hb); clear BK254; clear BK255; clear HB; have BK254 := n0_; have BK255 := n1_; have HB := n2_; clear n0_ n1_ n2_; (try clear hb); (try clear hb2); (try clear hk); (try clear hi))); try go_wp2_with (first | (go_at_call 15; (with_reducible refine (chandlerylaw11_awake.calls kj19  false _ A41.out).mono ?_); rintro e w59 ⟨rfl, hb⟩; have n0_ := Aside0.mk (blk_below (g := gb254) (o := .cells #[.int .i64 a0_0, .string a0_1, .string a0_2, .int .i64 a0_3, .int .i64 a0_4] 23 (0, 0)) (by (with_reducible repeat (first | refine blk_drewN ?_ _ | refine blk_drew ?_ | refine blk_alloc ?_ _)); exact BK254.out) hb); have n1_ := Aside0.mk (blk_below (g := gb255) (o := .cells #[.int .i64 a1_0, .string a1_1, .string a1_2, .int .i64 a1_3, .int .i64 a1_4] 23 (0, 0)) (by (with_reducible repeat (first | refine blk_drewN ?_ _ | refine blk_drew ?_ | refine blk_alloc ?_ _)); exact BK255.out) hb); have n2_ := Aside0.mk (below_step (by repeat (first | (with_reducible first | exact HB.out | apply below_alloc | apply pw_below_drewN | apply below_drew1 | refine below_set ?_ GE254.out | refine below_set ?_ GE255.out) | exact HB.out)) hb); clear BK254; clear BK255; clear HB; have BK254 := n0_; have BK255 := n1_; have HB := n2_; clear n0_ n1_ n2_; (try clear hb); (try clear hb2); (try clear hk); (try clear hi))))
                        go_ret
                        exact ⟨by first | rfl | (simp [errW_none, errW_some] <;> rfl) | (simp [*, errW_none, errW_some] <;> rfl), by repeat (first | (with_reducible first | exact HB.out | apply below_alloc | apply pw_below_drewN | apply below_drew1 | refine below_set ?_ GE254.out | refine below_set ?_ GE255.out) | exact HB.out)⟩
                    · rw [if_neg c40] at H
                      have c40b0 : (a0_0 == 1) = false := beq_eq_false_iff_ne.mpr c40
                      have c40b1 : (a0_0 != 1) = true := bne_iff_ne.mpr c40
                      by_cases c60 : a0_0 = 2
                      · rw [if_pos c60] at H
                        have c60b0 : (a0_0 == 2) = true := beq_iff_eq.mpr c60
                        have c60b1 : (a0_0 != 2) = false := bne_eq_false_iff_eq.mpr c60
                        clear c60
                        replace H := Option.bind_eq_some_iff.mp H
                        obtain ⟨t264, A610, H⟩ := H
                        replace H : (if t264 = true then (if a0_0 = a1_0 then (some ((t258.size : Int) == (t260.size : Int))) else (some true)) else (some false)) = some r := H
                        have A61 := Aside0.mk A610
                        clear A610
                        by_cases c62 : t264 = true
                        · subst c62
                          have H1 : (if a0_0 = a1_0 then (some ((t258.size : Int) == (t260.size : Int))) else (some true)) = some r := by rw [if_pos rfl] at H; exact H
                          clear H
                          have H := H1
                          clear H1
                          by_cases c63 : a0_0 = a1_0
                          · rw [if_pos c63] at H
                            have c63b0 : (a0_0 == a1_0) = true := beq_iff_eq.mpr c63
                            have c63b1 : (a0_0 != a1_0) = false := bne_eq_false_iff_eq.mpr c63
                            try have c63b7 : ((bt t258 0) == (bt t260 0)) = true := by simpa [c63b0] using c36b0
                            clear c63
                            obtain rfl := Option.some.inj H
                            have p33 : 0 ≤ (0 : Int) := (by omega)
                            have q33 : 0 < t258.size := (by have : (0 : Int) < (t258.size : Int) := of_decide_eq_true (by first | (with_reducible assumption) | assumption); omega)
                            have hx33 : ∀ h : 0 < t258.size, ((t258[0]'h).toNat : Int) = bt t258 0 := bt_at t258 0
                            clear p33
                            have qi33 : (0 < (t258.size : Int)) = True := eq_true (of_decide_eq_true (by first | (with_reducible assumption) | assumption))
                            replace q33 := eq_true q33
                            have p35 : 0 ≤ (0 : Int) := (by omega)
                            have q35 : 0 < t260.size := (by have : (0 : Int) < (t260.size : Int) := of_decide_eq_true (by first | (with_reducible assumption) | assumption); omega)
                            have hx35 : ∀ h : 0 < t260.size, ((t260[0]'h).toNat : Int) = bt t260 0 := bt_at t260 0
                            clear p35
                            have qi35 : (0 < (t260.size : Int)) = True := eq_true (of_decide_eq_true (by first | (with_reducible assumption) | assumption))
                            replace q35 := eq_true q35
                            have hnb64 := NB254_255.out
                            have hnc64 := NB255_254.out
                            have hcz65_0 : wc.cell? ⟨gb254, 0, none⟩ = some (.int .i64 a0_0) := (blk_cell BK254.out 0).trans rfl
                            have hcz65_1 : wc.cell? ⟨gb254, 1, none⟩ = some (.string a0_1) := (blk_cell BK254.out 1).trans rfl
                            have hcz65_2 : wc.cell? ⟨gb254, 2, none⟩ = some (.string a0_2) := (blk_cell BK254.out 2).trans rfl
                            have hcz65_3 : wc.cell? ⟨gb254, 3, none⟩ = some (.int .i64 a0_3) := (blk_cell BK254.out 3).trans rfl
                            have hcz65_4 : wc.cell? ⟨gb254, 4, none⟩ = some (.int .i64 a0_4) := (blk_cell BK254.out 4).trans rfl
                            have hfz65_0 := blk_frozen BK254.out 0
                            have hfz65_1 := blk_frozen BK254.out 1
                            have hfz65_2 := blk_frozen BK254.out 2
                            have hfz65_3 := blk_frozen BK254.out 3
                            have hfz65_4 := blk_frozen BK254.out 4
                            have hcz66_0 : wc.cell? ⟨gb255, 0, none⟩ = some (.int .i64 a1_0) := (blk_cell BK255.out 0).trans rfl
                            have hcz66_1 : wc.cell? ⟨gb255, 1, none⟩ = some (.string a1_1) := (blk_cell BK255.out 1).trans rfl
                            have hcz66_2 : wc.cell? ⟨gb255, 2, none⟩ = some (.string a1_2) := (blk_cell BK255.out 2).trans rfl
                            have hcz66_3 : wc.cell? ⟨gb255, 3, none⟩ = some (.int .i64 a1_3) := (blk_cell BK255.out 3).trans rfl
                            have hcz66_4 : wc.cell? ⟨gb255, 4, none⟩ = some (.int .i64 a1_4) := (blk_cell BK255.out 4).trans rfl
                            have hfz66_0 := blk_frozen BK255.out 0
                            have hfz66_1 := blk_frozen BK255.out 1
                            have hfz66_2 := blk_frozen BK255.out 2
                            have hfz66_3 := blk_frozen BK255.out 3
                            have hfz66_4 := blk_frozen BK255.out 4
                            go_wp2_with (first | (go_at_call 15; (with_reducible refine (chandlerylaw11_awake.calls kj19  true _ A61.out).mono ?_); rintro e w67 ⟨rfl, hb⟩; have n0_ := Aside0.mk (blk_below (g := gb254) (o := .cells #[.int .i64 a0_0, .string a0_1, .string a0_2, .int .i64 a0_3, .int .i64 a0_4] 23 (0, 0)) (by (with_reducible repeat (first | refine blk_drewN ?_ _ | refine blk_drew ?_ | refine blk_alloc ?_ _)); exact BK254.out) hb); have n1_ := Aside0.mk (blk_below (g := gb255) (o := .cells #[.int .i64 a1_0, .string a1_1, .string a1_2, .int .i64 a1_3, .int .i64 a1_4] 23 (0, 0)) (by (with_reducible repeat (first | refine blk_drewN ?_ _ | refine blk_drew ?_ | refine blk_alloc ?_ _)); exact BK255.out) hb); have n2_ := Aside0.mk (below_step (by repeat (first | (with_reducible first | exact HB.out | apply below_alloc | apply pw_below_drewN | apply below_drew1 | refine below_set ?_ GE254.out | refine below_set ?_ GE255.out) | exact HB.out)) hb); clear BK254; clear BK255; clear HB; have BK254 := n0_; have BK255 := n1_; have HB := n2_; clear n0_ n1_ n2_; (try clear hb); (try clear hb2); (try clear hk); (try clear hi); have hcz68_0 : w67.cell? ⟨gb254, 0, none⟩ = some (.int .i64 a0_0) := (blk_cell BK254.out 0).trans rfl; have hcz68_1 : w67.cell? ⟨gb254, 1, none⟩ = some (.string a0_1) := (blk_cell BK254.out 1).trans rfl; have hcz68_2 : w67.cell? ⟨gb254, 2, none⟩ = some (.string a0_2) := (blk_cell BK254.out 2).trans rfl; have hcz68_3 : w67.cell? ⟨gb254, 3, none⟩ = some (.int .i64 a0_3) := (blk_cell BK254.out 3).trans rfl; have hcz68_4 : w67.cell? ⟨gb254, 4, none⟩ = some (.int .i64 a0_4) := (blk_cell BK254.out 4).trans rfl; have hfz68_0 := blk_frozen BK254.out 0; have hfz68_1 := blk_frozen BK254.out 1; have hfz68_2 := blk_frozen BK254.out 2; have hfz68_3 := blk_frozen BK254.out 3; have hfz68_4 := blk_frozen BK254.out 4; have hcz69_0 : w67.cell? ⟨gb255, 0, none⟩ = some (.int .i64 a1_0) := (blk_cell BK255.out 0).trans rfl; have hcz69_1 : w67.cell? ⟨gb255, 1, none⟩ = some (.string a1_1) := (blk_cell BK255.out 1).trans rfl; have hcz69_2 : w67.cell? ⟨gb255, 2, none⟩ = some (.string a1_2) := (blk_cell BK255.out 2).trans rfl; have hcz69_3 : w67.cell? ⟨gb255, 3, none⟩ = some (.int .i64 a1_3) := (blk_cell BK255.out 3).trans rfl; have hcz69_4 : w67.cell? ⟨gb255, 4, none⟩ = some (.int .i64 a1_4) := (blk_cell BK255.out 4).trans rfl; have hfz69_0 := blk_frozen BK255.out 0; have hfz69_1 := blk_frozen BK255.out 1; have hfz69_2 := blk_frozen BK255.out 2; have hfz69_3 := blk_frozen BK255.out 3; have hfz69_4 := blk_frozen BK255.out 4))
                            repeat (go_quiet (first | (go_at_call 15; (with_reducible refine (chandlerylaw11_awake.calls kj19  true _ A61.out).mono ?_); rintro e w67 ⟨rfl, hb⟩; have n0_ := Aside0.mk (blk_below (g := gb254) (o := .cells #[.int .i64 a0_0, .string a0_1, .string a0_2, .int .i64 a0_3, .int .i64 a0_4] 23 (0, 0)) (by (with_reducible repeat (first | refine blk_drewN ?_ _ | refine blk_drew ?_ | refine blk_alloc ?_ _)); exact BK254.out) hb); have n1_ := Aside0.mk (blk_below (g := gb255) (o := .cells #[.int .i64 a1_0, .string a1_1, .string a1_2, .int .i64 a1_3, .int .i64 a1_4] 23 (0, 0)) (by (with_reducible repeat (first | refine blk_drewN ?_ _ | refine blk_drew ?_ | refine blk_alloc ?_ _)); exact BK255.out) hb); have n2_ := Aside0.mk (below_step (by repeat (first | (with_reducible first | exact HB.out | apply below_alloc | apply pw_below_drewN | apply below_drew1 | refine below_set ?_ GE254.out | refine below_set ?_ GE255.out) | exact HB.out)) hb); clear BK254; clear BK255; clear HB; have BK254 := n0_; have BK255 := n1_; have HB := n2_; clear n0_ n1_ n2_; (try clear hb); (try clear hb2); (try clear hk); (try clear hi); have hcz68_0 : w67.cell? ⟨gb254, 0, none⟩ = some (.int .i64 a0_0) := (blk_cell BK254.out 0).trans rfl; have hcz68_1 : w67.cell? ⟨gb254, 1, none⟩ = some (.string a0_1) := (blk_cell BK254.out 1).trans rfl; have hcz68_2 : w67.cell? ⟨gb254, 2, none⟩ = some (.string a0_2) := (blk_cell BK254.out 2).trans rfl; have hcz68_3 : w67.cell? ⟨gb254, 3, none⟩ = some (.int .i64 a0_3) := (blk_cell BK254.out 3).trans rfl; have hcz68_4 : w67.cell? ⟨gb254, 4, none⟩ = some (.int .i64 a0_4) := (blk_cell BK254.out 4).trans rfl; have hfz68_0 := blk_frozen BK254.out 0; have hfz68_1 := blk_frozen BK254.out 1; have hfz68_2 := blk_frozen BK254.out 2; have hfz68_3 := blk_frozen BK254.out 3; have hfz68_4 := blk_frozen BK254.out 4; have hcz69_0 : w67.cell? ⟨gb255, 0, none⟩ = some (.int .i64 a1_0) := (blk_cell BK255.out 0).trans rfl; have hcz69_1 : w67.cell? ⟨gb255, 1, none⟩ = some (.string a1_1) := (blk_cell BK255.out 1).trans rfl; have hcz69_2 : w67.cell? ⟨gb255, 2, none⟩ = some (.string a1_2) := (blk_cell BK255.out 2).trans rfl; have hcz69_3 : w67.cell? ⟨gb255, 3, none⟩ = some (.int .i64 a1_3) := (blk_cell BK255.out 3).trans rfl; have hcz69_4 : w67.cell? ⟨gb255, 4, none⟩ = some (.int .i64 a1_4) := (blk_cell BK255.out 4).trans rfl; have hfz69_0 := blk_frozen BK255.out 0; have hfz69_1 := blk_frozen BK255.out 1; have hfz69_2 := blk_frozen BK255.out 2; have hfz69_3 := blk_frozen BK255.out 3; have hfz69_4 := blk_frozen BK255.out 4)); try go_wp2_with (first | (go_at_call 15; (with_reducible refine (chandlerylaw11_awake.calls kj19  true _ A61.out).mono ?_); rintro e w67 ⟨rfl, hb⟩; have n0_ := Aside0.mk (blk_below (g := gb254) (o := .cells #[.int .i64 a0_0, .string a0_1, .string a0_2, .int .i64 a0_3, .int .i64 a0_4] 23 (0, 0)) (by (with_reducible repeat (first | refine blk_drewN ?_ _ | refine blk_drew ?_ | refine blk_alloc ?_ _)); exact BK254.out) hb); have n1_ := Aside0.mk (blk_below (g := gb255) (o := .cells #[.int .i64 a1_0, .string a1_1, .string a1_2, .int .i64 a1_3, .int .i64 a1_4] 23 (0, 0)) (by (with_reducible repeat (first | refine blk_drewN ?_ _ | refine blk_drew ?_ | refine blk_alloc ?_ _)); exact BK255.out) hb); have n2_ := Aside0.mk (below_step (by repeat (first | (with_reducible first | exact HB.out | apply below_alloc | apply pw_below_drewN | apply below_drew1 | refine below_set ?_ GE254.out | refine below_set ?_ GE255.out) | exact HB.out)) hb); clear BK254; clear BK255; clear HB; have BK254 := n0_; have BK255 := n1_; have HB := n2_; clear n0_ n1_ n2_; (try clear hb); (try clear hb2); (try clear hk); (try clear hi); have hcz68_0 : w67.cell? ⟨gb254, 0, none⟩ = some (.int .i64 a0_0) := (blk_cell BK254.out 0).trans rfl; have hcz68_1 : w67.cell? ⟨gb254, 1, none⟩ = some (.string a0_1) := (blk_cell BK254.out 1).trans rfl; have hcz68_2 : w67.cell? ⟨gb254, 2, none⟩ = some (.string a0_2) := (blk_cell BK254.out 2).trans rfl; have hcz68_3 : w67.cell? ⟨gb254, 3, none⟩ = some (.int .i64 a0_3) := (blk_cell BK254.out 3).trans rfl; have hcz68_4 : w67.cell? ⟨gb254, 4, none⟩ = some (.int .i64 a0_4) := (blk_cell BK254.out 4).trans rfl; have hfz68_0 := blk_frozen BK254.out 0; have hfz68_1 := blk_frozen BK254.out 1; have hfz68_2 := blk_frozen BK254.out 2; have hfz68_3 := blk_frozen BK254.out 3; have hfz68_4 := blk_frozen BK254.out 4; have hcz69_0 : w67.cell? ⟨gb255, 0, none⟩ = some (.int .i64 a1_0) := (blk_cell BK255.out 0).trans rfl; have hcz69_1 : w67.cell? ⟨gb255, 1, none⟩ = some (.string a1_1) := (blk_cell BK255.out 1).trans rfl; have hcz69_2 : w67.cell? ⟨gb255, 2, none⟩ = some (.string a1_2) := (blk_cell BK255.out 2).trans rfl; have hcz69_3 : w67.cell? ⟨gb255, 3, none⟩ = some (.int .i64 a1_3) := (blk_cell BK255.out 3).trans rfl; have hcz69_4 : w67.cell? ⟨gb255, 4, none⟩ = some (.int .i64 a1_4) := (blk_cell BK255.out 4).trans rfl; have hfz69_0 := blk_frozen BK255.out 0; have hfz69_1 := blk_frozen BK255.out 1; have hfz69_2 := blk_frozen BK255.out 2; have hfz69_3 := blk_frozen BK255.out 3; have hfz69_4 := blk_frozen BK255.out 4)))
                            go_ret
                            exact ⟨by first | rfl | (simp [errW_none, errW_some] <;> rfl) | (simp [*, errW_none, errW_some] <;> rfl), by repeat (first | (with_reducible first | exact HB.out | apply below_alloc | apply pw_below_drewN | apply below_drew1 | refine below_set ?_ GE254.out | refine below_set ?_ GE255.out) | exact HB.out)⟩
                          · rw [if_neg c63] at H
                            have c63b0 : (a0_0 == a1_0) = false := beq_eq_false_iff_ne.mpr c63
                            have c63b1 : (a0_0 != a1_0) = true := bne_iff_ne.mpr c63
                            try have c63b7 : ((bt t258 0) == (bt t260 0)) = false := by simpa [c63b0] using c36b0
                            obtain rfl := Option.some.inj H
                            have p33 : 0 ≤ (0 : Int) := (by omega)
                            have q33 : 0 < t258.size := (by have : (0 : Int) < (t258.size : Int) := of_decide_eq_true (by first | (with_reducible assumption) | assumption); omega)
                            have hx33 : ∀ h : 0 < t258.size, ((t258[0]'h).toNat : Int) = bt t258 0 := bt_at t258 0
                            clear p33
                            have qi33 : (0 < (t258.size : Int)) = True := eq_true (of_decide_eq_true (by first | (with_reducible assumption) | assumption))
                            replace q33 := eq_true q33
                            have p35 : 0 ≤ (0 : Int) := (by omega)
                            have q35 : 0 < t260.size := (by have : (0 : Int) < (t260.size : Int) := of_decide_eq_true (by first | (with_reducible assumption) | assumption); omega)
                            have hx35 : ∀ h : 0 < t260.size, ((t260[0]'h).toNat : Int) = bt t260 0 := bt_at t260 0
                            clear p35
                            have qi35 : (0 < (t260.size : Int)) = True := eq_true (of_decide_eq_true (by first | (with_reducible assumption) | assumption))
                            replace q35 := eq_true q35
                            have hnb70 := NB254_255.out
                            have hnc70 := NB255_254.out
                            have hcz71_0 : wc.cell? ⟨gb254, 0, none⟩ = some (.int .i64 a0_0) := (blk_cell BK254.out 0).trans rfl
                            have hcz71_1 : wc.cell? ⟨gb254, 1, none⟩ = some (.string a0_1) := (blk_cell BK254.out 1).trans rfl
                            have hcz71_2 : wc.cell? ⟨gb254, 2, none⟩ = some (.string a0_2) := (blk_cell BK254.out 2).trans rfl
                            have hcz71_3 : wc.cell? ⟨gb254, 3, none⟩ = some (.int .i64 a0_3) := (blk_cell BK254.out 3).trans rfl
                            have hcz71_4 : wc.cell? ⟨gb254, 4, none⟩ = some (.int .i64 a0_4) := (blk_cell BK254.out 4).trans rfl
                            have hfz71_0 := blk_frozen BK254.out 0
                            have hfz71_1 := blk_frozen BK254.out 1
                            have hfz71_2 := blk_frozen BK254.out 2
                            have hfz71_3 := blk_frozen BK254.out 3
                            have hfz71_4 := blk_frozen BK254.out 4
                            have hcz72_0 : wc.cell? ⟨gb255, 0, none⟩ = some (.int .i64 a1_0) := (blk_cell BK255.out 0).trans rfl
                            have hcz72_1 : wc.cell? ⟨gb255, 1, none⟩ = some (.string a1_1) := (blk_cell BK255.out 1).trans rfl
                            have hcz72_2 : wc.cell? ⟨gb255, 2, none⟩ = some (.string a1_2) := (blk_cell BK255.out 2).trans rfl
                            have hcz72_3 : wc.cell? ⟨gb255, 3, none⟩ = some (.int .i64 a1_3) := (blk_cell BK255.out 3).trans rfl
                            have hcz72_4 : wc.cell? ⟨gb255, 4, none⟩ = some (.int .i64 a1_4) := (blk_cell BK255.out 4).trans rfl
                            have hfz72_0 := blk_frozen BK255.out 0
                            have hfz72_1 := blk_frozen BK255.out 1
                            have hfz72_2 := blk_frozen BK255.out 2
                            have hfz72_3 := blk_frozen BK255.out 3
                            have hfz72_4 := blk_frozen BK255.out 4
                            go_wp2_with (first | (go_at_call 15; (with_reducible refine (chandlerylaw11_awake.calls kj19  true _ A61.out).mono ?_); rintro e w73 ⟨rfl, hb⟩; have n0_ := Aside0.mk (blk_below (g := gb254) (o := .cells #[.int .i64 a0_0, .string a0_1, .string a0_2, .int .i64 a0_3, .int .i64 a0_4] 23 (0, 0)) (by (with_reducible repeat (first | refine blk_drewN ?_ _ | refine blk_drew ?_ | refine blk_alloc ?_ _)); exact BK254.out) hb); have n1_ := Aside0.mk (blk_below (g := gb255) (o := .cells #[.int .i64 a1_0, .string a1_1, .string a1_2, .int .i64 a1_3, .int .i64 a1_4] 23 (0, 0)) (by (with_reducible repeat (first | refine blk_drewN ?_ _ | refine blk_drew ?_ | refine blk_alloc ?_ _)); exact BK255.out) hb); have n2_ := Aside0.mk (below_step (by repeat (first | (with_reducible first | exact HB.out | apply below_alloc | apply pw_below_drewN | apply below_drew1 | refine below_set ?_ GE254.out | refine below_set ?_ GE255.out) | exact HB.out)) hb); clear BK254; clear BK255; clear HB; have BK254 := n0_; have BK255 := n1_; have HB := n2_; clear n0_ n1_ n2_; (try clear hb); (try clear hb2); (try clear hk); (try clear hi); have hcz74_0 : w73.cell? ⟨gb254, 0, none⟩ = some (.int .i64 a0_0) := (blk_cell BK254.out 0).trans rfl; have hcz74_1 : w73.cell? ⟨gb254, 1, none⟩ = some (.string a0_1) := (blk_cell BK254.out 1).trans rfl; have hcz74_2 : w73.cell? ⟨gb254, 2, none⟩ = some (.string a0_2) := (blk_cell BK254.out 2).trans rfl; have hcz74_3 : w73.cell? ⟨gb254, 3, none⟩ = some (.int .i64 a0_3) := (blk_cell BK254.out 3).trans rfl; have hcz74_4 : w73.cell? ⟨gb254, 4, none⟩ = some (.int .i64 a0_4) := (blk_cell BK254.out 4).trans rfl; have hfz74_0 := blk_frozen BK254.out 0; have hfz74_1 := blk_frozen BK254.out 1; have hfz74_2 := blk_frozen BK254.out 2; have hfz74_3 := blk_frozen BK254.out 3; have hfz74_4 := blk_frozen BK254.out 4; have hcz75_0 : w73.cell? ⟨gb255, 0, none⟩ = some (.int .i64 a1_0) := (blk_cell BK255.out 0).trans rfl; have hcz75_1 : w73.cell? ⟨gb255, 1, none⟩ = some (.string a1_1) := (blk_cell BK255.out 1).trans rfl; have hcz75_2 : w73.cell? ⟨gb255, 2, none⟩ = some (.string a1_2) := (blk_cell BK255.out 2).trans rfl; have hcz75_3 : w73.cell? ⟨gb255, 3, none⟩ = some (.int .i64 a1_3) := (blk_cell BK255.out 3).trans rfl; have hcz75_4 : w73.cell? ⟨gb255, 4, none⟩ = some (.int .i64 a1_4) := (blk_cell BK255.out 4).trans rfl; have hfz75_0 := blk_frozen BK255.out 0; have hfz75_1 := blk_frozen BK255.out 1; have hfz75_2 := blk_frozen BK255.out 2; have hfz75_3 := blk_frozen BK255.out 3; have hfz75_4 := blk_frozen BK255.out 4))
                            repeat (go_quiet (first | (go_at_call 15; (with_reducible refine (chandlerylaw11_awake.calls kj19  true _ A61.out).mono ?_); rintro e w73 ⟨rfl, hb⟩; have n0_ := Aside0.mk (blk_below (g := gb254) (o := .cells #[.int .i64 a0_0, .string a0_1, .string a0_2, .int .i64 a0_3, .int .i64 a0_4] 23 (0, 0)) (by (with_reducible repeat (first | refine blk_drewN ?_ _ | refine blk_drew ?_ | refine blk_alloc ?_ _)); exact BK254.out) hb); have n1_ := Aside0.mk (blk_below (g := gb255) (o := .cells #[.int .i64 a1_0, .string a1_1, .string a1_2, .int .i64 a1_3, .int .i64 a1_4] 23 (0, 0)) (by (with_reducible repeat (first | refine blk_drewN ?_ _ | refine blk_drew ?_ | refine blk_alloc ?_ _)); exact BK255.out) hb); have n2_ := Aside0.mk (below_step (by repeat (first | (with_reducible first | exact HB.out | apply below_alloc | apply pw_below_drewN | apply below_drew1 | refine below_set ?_ GE254.out | refine below_set ?_ GE255.out) | exact HB.out)) hb); clear BK254; clear BK255; clear HB; have BK254 := n0_; have BK255 := n1_; have HB := n2_; clear n0_ n1_ n2_; (try clear hb); (try clear hb2); (try clear hk); (try clear hi); have hcz74_0 : w73.cell? ⟨gb254, 0, none⟩ = some (.int .i64 a0_0) := (blk_cell BK254.out 0).trans rfl; have hcz74_1 : w73.cell? ⟨gb254, 1, none⟩ = some (.string a0_1) := (blk_cell BK254.out 1).trans rfl; have hcz74_2 : w73.cell? ⟨gb254, 2, none⟩ = some (.string a0_2) := (blk_cell BK254.out 2).trans rfl; have hcz74_3 : w73.cell? ⟨gb254, 3, none⟩ = some (.int .i64 a0_3) := (blk_cell BK254.out 3).trans rfl; have hcz74_4 : w73.cell? ⟨gb254, 4, none⟩ = some (.int .i64 a0_4) := (blk_cell BK254.out 4).trans rfl; have hfz74_0 := blk_frozen BK254.out 0; have hfz74_1 := blk_frozen BK254.out 1; have hfz74_2 := blk_frozen BK254.out 2; have hfz74_3 := blk_frozen BK254.out 3; have hfz74_4 := blk_frozen BK254.out 4; have hcz75_0 : w73.cell? ⟨gb255, 0, none⟩ = some (.int .i64 a1_0) := (blk_cell BK255.out 0).trans rfl; have hcz75_1 : w73.cell? ⟨gb255, 1, none⟩ = some (.string a1_1) := (blk_cell BK255.out 1).trans rfl; have hcz75_2 : w73.cell? ⟨gb255, 2, none⟩ = some (.string a1_2) := (blk_cell BK255.out 2).trans rfl; have hcz75_3 : w73.cell? ⟨gb255, 3, none⟩ = some (.int .i64 a1_3) := (blk_cell BK255.out 3).trans rfl; have hcz75_4 : w73.cell? ⟨gb255, 4, none⟩ = some (.int .i64 a1_4) := (blk_cell BK255.out 4).trans rfl; have hfz75_0 := blk_frozen BK255.out 0; have hfz75_1 := blk_frozen BK255.out 1; have hfz75_2 := blk_frozen BK255.out 2; have hfz75_3 := blk_frozen BK255.out 3; have hfz75_4 := blk_frozen BK255.out 4)); try go_wp2_with (first | (go_at_call 15; (with_reducible refine (chandlerylaw11_awake.calls kj19  true _ A61.out).mono ?_); rintro e w73 ⟨rfl, hb⟩; have n0_ := Aside0.mk (blk_below (g := gb254) (o := .cells #[.int .i64 a0_0, .string a0_1, .string a0_2, .int .i64 a0_3, .int .i64 a0_4] 23 (0, 0)) (by (with_reducible repeat (first | refine blk_drewN ?_ _ | refine blk_drew ?_ | refine blk_alloc ?_ _)); exact BK254.out) hb); have n1_ := Aside0.mk (blk_below (g := gb255) (o := .cells #[.int .i64 a1_0, .string a1_1, .string a1_2, .int .i64 a1_3, .int .i64 a1_4] 23 (0, 0)) (by (with_reducible repeat (first | refine blk_drewN ?_ _ | refine blk_drew ?_ | refine blk_alloc ?_ _)); exact BK255.out) hb); have n2_ := Aside0.mk (below_step (by repeat (first | (with_reducible first | exact HB.out | apply below_alloc | apply pw_below_drewN | apply below_drew1 | refine below_set ?_ GE254.out | refine below_set ?_ GE255.out) | exact HB.out)) hb); clear BK254; clear BK255; clear HB; have BK254 := n0_; have BK255 := n1_; have HB := n2_; clear n0_ n1_ n2_; (try clear hb); (try clear hb2); (try clear hk); (try clear hi); have hcz74_0 : w73.cell? ⟨gb254, 0, none⟩ = some (.int .i64 a0_0) := (blk_cell BK254.out 0).trans rfl; have hcz74_1 : w73.cell? ⟨gb254, 1, none⟩ = some (.string a0_1) := (blk_cell BK254.out 1).trans rfl; have hcz74_2 : w73.cell? ⟨gb254, 2, none⟩ = some (.string a0_2) := (blk_cell BK254.out 2).trans rfl; have hcz74_3 : w73.cell? ⟨gb254, 3, none⟩ = some (.int .i64 a0_3) := (blk_cell BK254.out 3).trans rfl; have hcz74_4 : w73.cell? ⟨gb254, 4, none⟩ = some (.int .i64 a0_4) := (blk_cell BK254.out 4).trans rfl; have hfz74_0 := blk_frozen BK254.out 0; have hfz74_1 := blk_frozen BK254.out 1; have hfz74_2 := blk_frozen BK254.out 2; have hfz74_3 := blk_frozen BK254.out 3; have hfz74_4 := blk_frozen BK254.out 4; have hcz75_0 : w73.cell? ⟨gb255, 0, none⟩ = some (.int .i64 a1_0) := (blk_cell BK255.out 0).trans rfl; have hcz75_1 : w73.cell? ⟨gb255, 1, none⟩ = some (.string a1_1) := (blk_cell BK255.out 1).trans rfl; have hcz75_2 : w73.cell? ⟨gb255, 2, none⟩ = some (.string a1_2) := (blk_cell BK255.out 2).trans rfl; have hcz75_3 : w73.cell? ⟨gb255, 3, none⟩ = some (.int .i64 a1_3) := (blk_cell BK255.out 3).trans rfl; have hcz75_4 : w73.cell? ⟨gb255, 4, none⟩ = some (.int .i64 a1_4) := (blk_cell BK255.out 4).trans rfl; have hfz75_0 := blk_frozen BK255.out 0; have hfz75_1 := blk_frozen BK255.out 1; have hfz75_2 := blk_frozen BK255.out 2; have hfz75_3 := blk_frozen BK255.out 3; have hfz75_4 := blk_frozen BK255.out 4)))
                            go_ret
                            exact ⟨by first | rfl | (simp [errW_none, errW_some] <;> rfl) | (simp [*, errW_none, errW_some] <;> rfl), by repeat (first | (with_reducible first | exact HB.out | apply below_alloc | apply pw_below_drewN | apply below_drew1 | refine below_set ?_ GE254.out | refine below_set ?_ GE255.out) | exact HB.out)⟩
                        · replace c62 := Bool.eq_false_iff.mpr c62
                          subst c62
                          have H1 : (some false) = some r := by rw [if_neg (show ¬ (false = true) by decide)] at H; exact H
                          clear H
                          have H := H1
                          clear H1
                          obtain rfl := Option.some.inj H
                          have p33 : 0 ≤ (0 : Int) := (by omega)
                          have q33 : 0 < t258.size := (by have : (0 : Int) < (t258.size : Int) := of_decide_eq_true (by first | (with_reducible assumption) | assumption); omega)
                          have hx33 : ∀ h : 0 < t258.size, ((t258[0]'h).toNat : Int) = bt t258 0 := bt_at t258 0
                          clear p33
                          have qi33 : (0 < (t258.size : Int)) = True := eq_true (of_decide_eq_true (by first | (with_reducible assumption) | assumption))
                          replace q33 := eq_true q33
                          have p35 : 0 ≤ (0 : Int) := (by omega)
                          have q35 : 0 < t260.size := (by have : (0 : Int) < (t260.size : Int) := of_decide_eq_true (by first | (with_reducible assumption) | assumption); omega)
                          have hx35 : ∀ h : 0 < t260.size, ((t260[0]'h).toNat : Int) = bt t260 0 := bt_at t260 0
                          clear p35
                          have qi35 : (0 < (t260.size : Int)) = True := eq_true (of_decide_eq_true (by first | (with_reducible assumption) | assumption))
                          replace q35 := eq_true q35
                          have hnb76 := NB254_255.out
                          have hnc76 := NB255_254.out
                          have hcz77_0 : wc.cell? ⟨gb254, 0, none⟩ = some (.int .i64 a0_0) := (blk_cell BK254.out 0).trans rfl
                          have hcz77_1 : wc.cell? ⟨gb254, 1, none⟩ = some (.string a0_1) := (blk_cell BK254.out 1).trans rfl
                          have hcz77_2 : wc.cell? ⟨gb254, 2, none⟩ = some (.string a0_2) := (blk_cell BK254.out 2).trans rfl
                          have hcz77_3 : wc.cell? ⟨gb254, 3, none⟩ = some (.int .i64 a0_3) := (blk_cell BK254.out 3).trans rfl
                          have hcz77_4 : wc.cell? ⟨gb254, 4, none⟩ = some (.int .i64 a0_4) := (blk_cell BK254.out 4).trans rfl
                          have hfz77_0 := blk_frozen BK254.out 0
                          have hfz77_1 := blk_frozen BK254.out 1
                          have hfz77_2 := blk_frozen BK254.out 2
                          have hfz77_3 := blk_frozen BK254.out 3
                          have hfz77_4 := blk_frozen BK254.out 4
                          have hcz78_0 : wc.cell? ⟨gb255, 0, none⟩ = some (.int .i64 a1_0) := (blk_cell BK255.out 0).trans rfl
                          have hcz78_1 : wc.cell? ⟨gb255, 1, none⟩ = some (.string a1_1) := (blk_cell BK255.out 1).trans rfl
                          have hcz78_2 : wc.cell? ⟨gb255, 2, none⟩ = some (.string a1_2) := (blk_cell BK255.out 2).trans rfl
                          have hcz78_3 : wc.cell? ⟨gb255, 3, none⟩ = some (.int .i64 a1_3) := (blk_cell BK255.out 3).trans rfl
                          have hcz78_4 : wc.cell? ⟨gb255, 4, none⟩ = some (.int .i64 a1_4) := (blk_cell BK255.out 4).trans rfl
                          have hfz78_0 := blk_frozen BK255.out 0
                          have hfz78_1 := blk_frozen BK255.out 1
                          have hfz78_2 := blk_frozen BK255.out 2
                          have hfz78_3 := blk_frozen BK255.out 3
                          have hfz78_4 := blk_frozen BK255.out 4
                          go_wp2_with (first | (go_at_call 15; (with_reducible refine (chandlerylaw11_awake.calls kj19  false _ A61.out).mono ?_); rintro e w79 ⟨rfl, hb⟩; have n0_ := Aside0.mk (blk_below (g := gb254) (o := .cells #[.int .i64 a0_0, .string a0_1, .string a0_2, .int .i64 a0_3, .int .i64 a0_4] 23 (0, 0)) (by (with_reducible repeat (first | refine blk_drewN ?_ _ | refine blk_drew ?_ | refine blk_alloc ?_ _)); exact BK254.out) hb); have n1_ := Aside0.mk (blk_below (g := gb255) (o := .cells #[.int .i64 a1_0, .string a1_1, .string a1_2, .int .i64 a1_3, .int .i64 a1_4] 23 (0, 0)) (by (with_reducible repeat (first | refine blk_drewN ?_ _ | refine blk_drew ?_ | refine blk_alloc ?_ _)); exact BK255.out) hb); have n2_ := Aside0.mk (below_step (by repeat (first | (with_reducible first | exact HB.out | apply below_alloc | apply pw_below_drewN | apply below_drew1 | refine below_set ?_ GE254.out | refine below_set ?_ GE255.out) | exact HB.out)) hb); clear BK254; clear BK255; clear HB; have BK254 := n0_; have BK255 := n1_; have HB := n2_; clear n0_ n1_ n2_; (try clear hb); (try clear hb2); (try clear hk); (try clear hi)))
                          repeat (go_quiet (first | (go_at_call 15; (with_reducible refine (chandlerylaw11_awake.calls kj19  false _ A61.out).mono ?_); rintro e w79 ⟨rfl, hb⟩; have n0_ := Aside0.mk (blk_below (g := gb254) (o := .cells #[.int .i64 a0_0, .string a0_1, .string a0_2, .int .i64 a0_3, .int .i64 a0_4] 23 (0, 0)) (by (with_reducible repeat (first | refine blk_drewN ?_ _ | refine blk_drew ?_ | refine blk_alloc ?_ _)); exact BK254.out) hb); have n1_ := Aside0.mk (blk_below (g := gb255) (o := .cells #[.int .i64 a1_0, .string a1_1, .string a1_2, .int .i64 a1_3, .int .i64 a1_4] 23 (0, 0)) (by (with_reducible repeat (first | refine blk_drewN ?_ _ | refine blk_drew ?_ | refine blk_alloc ?_ _)); exact BK255.out) hb); have n2_ := Aside0.mk (below_step (by repeat (first | (with_reducible first | exact HB.out | apply below_alloc | apply pw_below_drewN | apply below_drew1 | refine below_set ?_ GE254.out | refine below_set ?_ GE255.out) | exact HB.out)) hb); clear BK254; clear BK255; clear HB; have BK254 := n0_; have BK255 := n1_; have HB := n2_; clear n0_ n1_ n2_; (try clear hb); (try clear hb2); (try clear hk); (try clear hi))); try go_wp2_with (first | (go_at_call 15; (with_reducible refine (chandlerylaw11_awake.calls kj19  false _ A61.out).mono ?_); rintro e w79 ⟨rfl, hb⟩; have n0_ := Aside0.mk (blk_below (g := gb254) (o := .cells #[.int .i64 a0_0, .string a0_1, .string a0_2, .int .i64 a0_3, .int .i64 a0_4] 23 (0, 0)) (by (with_reducible repeat (first | refine blk_drewN ?_ _ | refine blk_drew ?_ | refine blk_alloc ?_ _)); exact BK254.out) hb); have n1_ := Aside0.mk (blk_below (g := gb255) (o := .cells #[.int .i64 a1_0, .string a1_1, .string a1_2, .int .i64 a1_3, .int .i64 a1_4] 23 (0, 0)) (by (with_reducible repeat (first | refine blk_drewN ?_ _ | refine blk_drew ?_ | refine blk_alloc ?_ _)); exact BK255.out) hb); have n2_ := Aside0.mk (below_step (by repeat (first | (with_reducible first | exact HB.out | apply below_alloc | apply pw_below_drewN | apply below_drew1 | refine below_set ?_ GE254.out | refine below_set ?_ GE255.out) | exact HB.out)) hb); clear BK254; clear BK255; clear HB; have BK254 := n0_; have BK255 := n1_; have HB := n2_; clear n0_ n1_ n2_; (try clear hb); (try clear hb2); (try clear hk); (try clear hi))))
                          go_ret
                          exact ⟨by first | rfl | (simp [errW_none, errW_some] <;> rfl) | (simp [*, errW_none, errW_some] <;> rfl), by repeat (first | (with_reducible first | exact HB.out | apply below_alloc | apply pw_below_drewN | apply below_drew1 | refine below_set ?_ GE254.out | refine below_set ?_ GE255.out) | exact HB.out)⟩
                      · rw [if_neg c60] at H
                        have c60b0 : (a0_0 == 2) = false := beq_eq_false_iff_ne.mpr c60
                        have c60b1 : (a0_0 != 2) = true := bne_iff_ne.mpr c60
                        replace H := Option.bind_eq_some_iff.mp H
                        obtain ⟨t265, A800, H⟩ := H
                        replace H : (if t265 = true then (if a0_0 = 3 then (if a0_0 = a1_0 then (some ((t258.size : Int) == (t260.size : Int))) else (some true)) else (some true)) else (some false)) = some r := H
                        have A80 := Aside0.mk A800
                        clear A800
                        by_cases c81 : t265 = true
                        · subst c81
                          have H1 : (if a0_0 = 3 then (if a0_0 = a1_0 then (some ((t258.size : Int) == (t260.size : Int))) else (some true)) else (some true)) = some r := by rw [if_pos rfl] at H; exact H
                          clear H
                          have H := H1
                          clear H1
                          by_cases c82 : a0_0 = 3
                          · rw [if_pos c82] at H
                            have c82b0 : (a0_0 == 3) = true := beq_iff_eq.mpr c82
                            have c82b1 : (a0_0 != 3) = false := bne_eq_false_iff_eq.mpr c82
                            clear c82
                            by_cases c83 : a0_0 = a1_0
                            · rw [if_pos c83] at H
                              have c83b0 : (a0_0 == a1_0) = true := beq_iff_eq.mpr c83
                              have c83b1 : (a0_0 != a1_0) = false := bne_eq_false_iff_eq.mpr c83
                              try have c83b7 : ((bt t258 0) == (bt t260 0)) = true := by simpa [c83b0] using c36b0
                              clear c83
                              obtain rfl := Option.some.inj H
                              have p33 : 0 ≤ (0 : Int) := (by omega)
                              have q33 : 0 < t258.size := (by have : (0 : Int) < (t258.size : Int) := of_decide_eq_true (by first | (with_reducible assumption) | assumption); omega)
                              have hx33 : ∀ h : 0 < t258.size, ((t258[0]'h).toNat : Int) = bt t258 0 := bt_at t258 0
                              clear p33
                              have qi33 : (0 < (t258.size : Int)) = True := eq_true (of_decide_eq_true (by first | (with_reducible assumption) | assumption))
                              replace q33 := eq_true q33
                              have p35 : 0 ≤ (0 : Int) := (by omega)
                              have q35 : 0 < t260.size := (by have : (0 : Int) < (t260.size : Int) := of_decide_eq_true (by first | (with_reducible assumption) | assumption); omega)
                              have hx35 : ∀ h : 0 < t260.size, ((t260[0]'h).toNat : Int) = bt t260 0 := bt_at t260 0
                              clear p35
                              have qi35 : (0 < (t260.size : Int)) = True := eq_true (of_decide_eq_true (by first | (with_reducible assumption) | assumption))
                              replace q35 := eq_true q35
                              have hnb84 := NB254_255.out
                              have hnc84 := NB255_254.out
                              have hcz85_0 : wc.cell? ⟨gb254, 0, none⟩ = some (.int .i64 a0_0) := (blk_cell BK254.out 0).trans rfl
                              have hcz85_1 : wc.cell? ⟨gb254, 1, none⟩ = some (.string a0_1) := (blk_cell BK254.out 1).trans rfl
                              have hcz85_2 : wc.cell? ⟨gb254, 2, none⟩ = some (.string a0_2) := (blk_cell BK254.out 2).trans rfl
                              have hcz85_3 : wc.cell? ⟨gb254, 3, none⟩ = some (.int .i64 a0_3) := (blk_cell BK254.out 3).trans rfl
                              have hcz85_4 : wc.cell? ⟨gb254, 4, none⟩ = some (.int .i64 a0_4) := (blk_cell BK254.out 4).trans rfl
                              have hfz85_0 := blk_frozen BK254.out 0
                              have hfz85_1 := blk_frozen BK254.out 1
                              have hfz85_2 := blk_frozen BK254.out 2
                              have hfz85_3 := blk_frozen BK254.out 3
                              have hfz85_4 := blk_frozen BK254.out 4
                              have hcz86_0 : wc.cell? ⟨gb255, 0, none⟩ = some (.int .i64 a1_0) := (blk_cell BK255.out 0).trans rfl
                              have hcz86_1 : wc.cell? ⟨gb255, 1, none⟩ = some (.string a1_1) := (blk_cell BK255.out 1).trans rfl
                              have hcz86_2 : wc.cell? ⟨gb255, 2, none⟩ = some (.string a1_2) := (blk_cell BK255.out 2).trans rfl
                              have hcz86_3 : wc.cell? ⟨gb255, 3, none⟩ = some (.int .i64 a1_3) := (blk_cell BK255.out 3).trans rfl
                              have hcz86_4 : wc.cell? ⟨gb255, 4, none⟩ = some (.int .i64 a1_4) := (blk_cell BK255.out 4).trans rfl
                              have hfz86_0 := blk_frozen BK255.out 0
                              have hfz86_1 := blk_frozen BK255.out 1
                              have hfz86_2 := blk_frozen BK255.out 2
                              have hfz86_3 := blk_frozen BK255.out 3
                              have hfz86_4 := blk_frozen BK255.out 4
                              go_wp2_with (first | (go_at_call 15; (with_reducible refine (chandlerylaw11_awake.calls kj19  true _ A80.out).mono ?_); rintro e w87 ⟨rfl, hb⟩; have n0_ := Aside0.mk (blk_below (g := gb254) (o := .cells #[.int .i64 a0_0, .string a0_1, .string a0_2, .int .i64 a0_3, .int .i64 a0_4] 23 (0, 0)) (by (with_reducible repeat (first | refine blk_drewN ?_ _ | refine blk_drew ?_ | refine blk_alloc ?_ _)); exact BK254.out) hb); have n1_ := Aside0.mk (blk_below (g := gb255) (o := .cells #[.int .i64 a1_0, .string a1_1, .string a1_2, .int .i64 a1_3, .int .i64 a1_4] 23 (0, 0)) (by (with_reducible repeat (first | refine blk_drewN ?_ _ | refine blk_drew ?_ | refine blk_alloc ?_ _)); exact BK255.out) hb); have n2_ := Aside0.mk (below_step (by repeat (first | (with_reducible first | exact HB.out | apply below_alloc | apply pw_below_drewN | apply below_drew1 | refine below_set ?_ GE254.out | refine below_set ?_ GE255.out) | exact HB.out)) hb); clear BK254; clear BK255; clear HB; have BK254 := n0_; have BK255 := n1_; have HB := n2_; clear n0_ n1_ n2_; (try clear hb); (try clear hb2); (try clear hk); (try clear hi); have hcz88_0 : w87.cell? ⟨gb254, 0, none⟩ = some (.int .i64 a0_0) := (blk_cell BK254.out 0).trans rfl; have hcz88_1 : w87.cell? ⟨gb254, 1, none⟩ = some (.string a0_1) := (blk_cell BK254.out 1).trans rfl; have hcz88_2 : w87.cell? ⟨gb254, 2, none⟩ = some (.string a0_2) := (blk_cell BK254.out 2).trans rfl; have hcz88_3 : w87.cell? ⟨gb254, 3, none⟩ = some (.int .i64 a0_3) := (blk_cell BK254.out 3).trans rfl; have hcz88_4 : w87.cell? ⟨gb254, 4, none⟩ = some (.int .i64 a0_4) := (blk_cell BK254.out 4).trans rfl; have hfz88_0 := blk_frozen BK254.out 0; have hfz88_1 := blk_frozen BK254.out 1; have hfz88_2 := blk_frozen BK254.out 2; have hfz88_3 := blk_frozen BK254.out 3; have hfz88_4 := blk_frozen BK254.out 4; have hcz89_0 : w87.cell? ⟨gb255, 0, none⟩ = some (.int .i64 a1_0) := (blk_cell BK255.out 0).trans rfl; have hcz89_1 : w87.cell? ⟨gb255, 1, none⟩ = some (.string a1_1) := (blk_cell BK255.out 1).trans rfl; have hcz89_2 : w87.cell? ⟨gb255, 2, none⟩ = some (.string a1_2) := (blk_cell BK255.out 2).trans rfl; have hcz89_3 : w87.cell? ⟨gb255, 3, none⟩ = some (.int .i64 a1_3) := (blk_cell BK255.out 3).trans rfl; have hcz89_4 : w87.cell? ⟨gb255, 4, none⟩ = some (.int .i64 a1_4) := (blk_cell BK255.out 4).trans rfl; have hfz89_0 := blk_frozen BK255.out 0; have hfz89_1 := blk_frozen BK255.out 1; have hfz89_2 := blk_frozen BK255.out 2; have hfz89_3 := blk_frozen BK255.out 3; have hfz89_4 := blk_frozen BK255.out 4))
                              repeat (go_quiet (first | (go_at_call 15; (with_reducible refine (chandlerylaw11_awake.calls kj19  true _ A80.out).mono ?_); rintro e w87 ⟨rfl, hb⟩; have n0_ := Aside0.mk (blk_below (g := gb254) (o := .cells #[.int .i64 a0_0, .string a0_1, .string a0_2, .int .i64 a0_3, .int .i64 a0_4] 23 (0, 0)) (by (with_reducible repeat (first | refine blk_drewN ?_ _ | refine blk_drew ?_ | refine blk_alloc ?_ _)); exact BK254.out) hb); have n1_ := Aside0.mk (blk_below (g := gb255) (o := .cells #[.int .i64 a1_0, .string a1_1, .string a1_2, .int .i64 a1_3, .int .i64 a1_4] 23 (0, 0)) (by (with_reducible repeat (first | refine blk_drewN ?_ _ | refine blk_drew ?_ | refine blk_alloc ?_ _)); exact BK255.out) hb); have n2_ := Aside0.mk (below_step (by repeat (first | (with_reducible first | exact HB.out | apply below_alloc | apply pw_below_drewN | apply below_drew1 | refine below_set ?_ GE254.out | refine below_set ?_ GE255.out) | exact HB.out)) hb); clear BK254; clear BK255; clear HB; have BK254 := n0_; have BK255 := n1_; have HB := n2_; clear n0_ n1_ n2_; (try clear hb); (try clear hb2); (try clear hk); (try clear hi); have hcz88_0 : w87.cell? ⟨gb254, 0, none⟩ = some (.int .i64 a0_0) := (blk_cell BK254.out 0).trans rfl; have hcz88_1 : w87.cell? ⟨gb254, 1, none⟩ = some (.string a0_1) := (blk_cell BK254.out 1).trans rfl; have hcz88_2 : w87.cell? ⟨gb254, 2, none⟩ = some (.string a0_2) := (blk_cell BK254.out 2).trans rfl; have hcz88_3 : w87.cell? ⟨gb254, 3, none⟩ = some (.int .i64 a0_3) := (blk_cell BK254.out 3).trans rfl; have hcz88_4 : w87.cell? ⟨gb254, 4, none⟩ = some (.int .i64 a0_4) := (blk_cell BK254.out 4).trans rfl; have hfz88_0 := blk_frozen BK254.out 0; have hfz88_1 := blk_frozen BK254.out 1; have hfz88_2 := blk_frozen BK254.out 2; have hfz88_3 := blk_frozen BK254.out 3; have hfz88_4 := blk_frozen BK254.out 4; have hcz89_0 : w87.cell? ⟨gb255, 0, none⟩ = some (.int .i64 a1_0) := (blk_cell BK255.out 0).trans rfl; have hcz89_1 : w87.cell? ⟨gb255, 1, none⟩ = some (.string a1_1) := (blk_cell BK255.out 1).trans rfl; have hcz89_2 : w87.cell? ⟨gb255, 2, none⟩ = some (.string a1_2) := (blk_cell BK255.out 2).trans rfl; have hcz89_3 : w87.cell? ⟨gb255, 3, none⟩ = some (.int .i64 a1_3) := (blk_cell BK255.out 3).trans rfl; have hcz89_4 : w87.cell? ⟨gb255, 4, none⟩ = some (.int .i64 a1_4) := (blk_cell BK255.out 4).trans rfl; have hfz89_0 := blk_frozen BK255.out 0; have hfz89_1 := blk_frozen BK255.out 1; have hfz89_2 := blk_frozen BK255.out 2; have hfz89_3 := blk_frozen BK255.out 3; have hfz89_4 := blk_frozen BK255.out 4)); try go_wp2_with (first | (go_at_call 15; (with_reducible refine (chandlerylaw11_awake.calls kj19  true _ A80.out).mono ?_); rintro e w87 ⟨rfl, hb⟩; have n0_ := Aside0.mk (blk_below (g := gb254) (o := .cells #[.int .i64 a0_0, .string a0_1, .string a0_2, .int .i64 a0_3, .int .i64 a0_4] 23 (0, 0)) (by (with_reducible repeat (first | refine blk_drewN ?_ _ | refine blk_drew ?_ | refine blk_alloc ?_ _)); exact BK254.out) hb); have n1_ := Aside0.mk (blk_below (g := gb255) (o := .cells #[.int .i64 a1_0, .string a1_1, .string a1_2, .int .i64 a1_3, .int .i64 a1_4] 23 (0, 0)) (by (with_reducible repeat (first | refine blk_drewN ?_ _ | refine blk_drew ?_ | refine blk_alloc ?_ _)); exact BK255.out) hb); have n2_ := Aside0.mk (below_step (by repeat (first | (with_reducible first | exact HB.out | apply below_alloc | apply pw_below_drewN | apply below_drew1 | refine below_set ?_ GE254.out | refine below_set ?_ GE255.out) | exact HB.out)) hb); clear BK254; clear BK255; clear HB; have BK254 := n0_; have BK255 := n1_; have HB := n2_; clear n0_ n1_ n2_; (try clear hb); (try clear hb2); (try clear hk); (try clear hi); have hcz88_0 : w87.cell? ⟨gb254, 0, none⟩ = some (.int .i64 a0_0) := (blk_cell BK254.out 0).trans rfl; have hcz88_1 : w87.cell? ⟨gb254, 1, none⟩ = some (.string a0_1) := (blk_cell BK254.out 1).trans rfl; have hcz88_2 : w87.cell? ⟨gb254, 2, none⟩ = some (.string a0_2) := (blk_cell BK254.out 2).trans rfl; have hcz88_3 : w87.cell? ⟨gb254, 3, none⟩ = some (.int .i64 a0_3) := (blk_cell BK254.out 3).trans rfl; have hcz88_4 : w87.cell? ⟨gb254, 4, none⟩ = some (.int .i64 a0_4) := (blk_cell BK254.out 4).trans rfl; have hfz88_0 := blk_frozen BK254.out 0; have hfz88_1 := blk_frozen BK254.out 1; have hfz88_2 := blk_frozen BK254.out 2; have hfz88_3 := blk_frozen BK254.out 3; have hfz88_4 := blk_frozen BK254.out 4; have hcz89_0 : w87.cell? ⟨gb255, 0, none⟩ = some (.int .i64 a1_0) := (blk_cell BK255.out 0).trans rfl; have hcz89_1 : w87.cell? ⟨gb255, 1, none⟩ = some (.string a1_1) := (blk_cell BK255.out 1).trans rfl; have hcz89_2 : w87.cell? ⟨gb255, 2, none⟩ = some (.string a1_2) := (blk_cell BK255.out 2).trans rfl; have hcz89_3 : w87.cell? ⟨gb255, 3, none⟩ = some (.int .i64 a1_3) := (blk_cell BK255.out 3).trans rfl; have hcz89_4 : w87.cell? ⟨gb255, 4, none⟩ = some (.int .i64 a1_4) := (blk_cell BK255.out 4).trans rfl; have hfz89_0 := blk_frozen BK255.out 0; have hfz89_1 := blk_frozen BK255.out 1; have hfz89_2 := blk_frozen BK255.out 2; have hfz89_3 := blk_frozen BK255.out 3; have hfz89_4 := blk_frozen BK255.out 4)))
                              go_ret
                              exact ⟨by first | rfl | (simp [errW_none, errW_some] <;> rfl) | (simp [*, errW_none, errW_some] <;> rfl), by repeat (first | (with_reducible first | exact HB.out | apply below_alloc | apply pw_below_drewN | apply below_drew1 | refine below_set ?_ GE254.out | refine below_set ?_ GE255.out) | exact HB.out)⟩
                            · rw [if_neg c83] at H
                              have c83b0 : (a0_0 == a1_0) = false := beq_eq_false_iff_ne.mpr c83
                              have c83b1 : (a0_0 != a1_0) = true := bne_iff_ne.mpr c83
                              try have c83b7 : ((bt t258 0) == (bt t260 0)) = false := by simpa [c83b0] using c36b0
                              obtain rfl := Option.some.inj H
                              have p33 : 0 ≤ (0 : Int) := (by omega)
                              have q33 : 0 < t258.size := (by have : (0 : Int) < (t258.size : Int) := of_decide_eq_true (by first | (with_reducible assumption) | assumption); omega)
                              have hx33 : ∀ h : 0 < t258.size, ((t258[0]'h).toNat : Int) = bt t258 0 := bt_at t258 0
                              clear p33
                              have qi33 : (0 < (t258.size : Int)) = True := eq_true (of_decide_eq_true (by first | (with_reducible assumption) | assumption))
                              replace q33 := eq_true q33
                              have p35 : 0 ≤ (0 : Int) := (by omega)
                              have q35 : 0 < t260.size := (by have : (0 : Int) < (t260.size : Int) := of_decide_eq_true (by first | (with_reducible assumption) | assumption); omega)
                              have hx35 : ∀ h : 0 < t260.size, ((t260[0]'h).toNat : Int) = bt t260 0 := bt_at t260 0
                              clear p35
                              have qi35 : (0 < (t260.size : Int)) = True := eq_true (of_decide_eq_true (by first | (with_reducible assumption) | assumption))
                              replace q35 := eq_true q35
                              have hnb90 := NB254_255.out
                              have hnc90 := NB255_254.out
                              have hcz91_0 : wc.cell? ⟨gb254, 0, none⟩ = some (.int .i64 a0_0) := (blk_cell BK254.out 0).trans rfl
                              have hcz91_1 : wc.cell? ⟨gb254, 1, none⟩ = some (.string a0_1) := (blk_cell BK254.out 1).trans rfl
                              have hcz91_2 : wc.cell? ⟨gb254, 2, none⟩ = some (.string a0_2) := (blk_cell BK254.out 2).trans rfl
                              have hcz91_3 : wc.cell? ⟨gb254, 3, none⟩ = some (.int .i64 a0_3) := (blk_cell BK254.out 3).trans rfl
                              have hcz91_4 : wc.cell? ⟨gb254, 4, none⟩ = some (.int .i64 a0_4) := (blk_cell BK254.out 4).trans rfl
                              have hfz91_0 := blk_frozen BK254.out 0
                              have hfz91_1 := blk_frozen BK254.out 1
                              have hfz91_2 := blk_frozen BK254.out 2
                              have hfz91_3 := blk_frozen BK254.out 3
                              have hfz91_4 := blk_frozen BK254.out 4
                              have hcz92_0 : wc.cell? ⟨gb255, 0, none⟩ = some (.int .i64 a1_0) := (blk_cell BK255.out 0).trans rfl
                              have hcz92_1 : wc.cell? ⟨gb255, 1, none⟩ = some (.string a1_1) := (blk_cell BK255.out 1).trans rfl
                              have hcz92_2 : wc.cell? ⟨gb255, 2, none⟩ = some (.string a1_2) := (blk_cell BK255.out 2).trans rfl
                              have hcz92_3 : wc.cell? ⟨gb255, 3, none⟩ = some (.int .i64 a1_3) := (blk_cell BK255.out 3).trans rfl
                              have hcz92_4 : wc.cell? ⟨gb255, 4, none⟩ = some (.int .i64 a1_4) := (blk_cell BK255.out 4).trans rfl
                              have hfz92_0 := blk_frozen BK255.out 0
                              have hfz92_1 := blk_frozen BK255.out 1
                              have hfz92_2 := blk_frozen BK255.out 2
                              have hfz92_3 := blk_frozen BK255.out 3
                              have hfz92_4 := blk_frozen BK255.out 4
                              go_wp2_with (first | (go_at_call 15; (with_reducible refine (chandlerylaw11_awake.calls kj19  true _ A80.out).mono ?_); rintro e w93 ⟨rfl, hb⟩; have n0_ := Aside0.mk (blk_below (g := gb254) (o := .cells #[.int .i64 a0_0, .string a0_1, .string a0_2, .int .i64 a0_3, .int .i64 a0_4] 23 (0, 0)) (by (with_reducible repeat (first | refine blk_drewN ?_ _ | refine blk_drew ?_ | refine blk_alloc ?_ _)); exact BK254.out) hb); have n1_ := Aside0.mk (blk_below (g := gb255) (o := .cells #[.int .i64 a1_0, .string a1_1, .string a1_2, .int .i64 a1_3, .int .i64 a1_4] 23 (0, 0)) (by (with_reducible repeat (first | refine blk_drewN ?_ _ | refine blk_drew ?_ | refine blk_alloc ?_ _)); exact BK255.out) hb); have n2_ := Aside0.mk (below_step (by repeat (first | (with_reducible first | exact HB.out | apply below_alloc | apply pw_below_drewN | apply below_drew1 | refine below_set ?_ GE254.out | refine below_set ?_ GE255.out) | exact HB.out)) hb); clear BK254; clear BK255; clear HB; have BK254 := n0_; have BK255 := n1_; have HB := n2_; clear n0_ n1_ n2_; (try clear hb); (try clear hb2); (try clear hk); (try clear hi); have hcz94_0 : w93.cell? ⟨gb254, 0, none⟩ = some (.int .i64 a0_0) := (blk_cell BK254.out 0).trans rfl; have hcz94_1 : w93.cell? ⟨gb254, 1, none⟩ = some (.string a0_1) := (blk_cell BK254.out 1).trans rfl; have hcz94_2 : w93.cell? ⟨gb254, 2, none⟩ = some (.string a0_2) := (blk_cell BK254.out 2).trans rfl; have hcz94_3 : w93.cell? ⟨gb254, 3, none⟩ = some (.int .i64 a0_3) := (blk_cell BK254.out 3).trans rfl; have hcz94_4 : w93.cell? ⟨gb254, 4, none⟩ = some (.int .i64 a0_4) := (blk_cell BK254.out 4).trans rfl; have hfz94_0 := blk_frozen BK254.out 0; have hfz94_1 := blk_frozen BK254.out 1; have hfz94_2 := blk_frozen BK254.out 2; have hfz94_3 := blk_frozen BK254.out 3; have hfz94_4 := blk_frozen BK254.out 4; have hcz95_0 : w93.cell? ⟨gb255, 0, none⟩ = some (.int .i64 a1_0) := (blk_cell BK255.out 0).trans rfl; have hcz95_1 : w93.cell? ⟨gb255, 1, none⟩ = some (.string a1_1) := (blk_cell BK255.out 1).trans rfl; have hcz95_2 : w93.cell? ⟨gb255, 2, none⟩ = some (.string a1_2) := (blk_cell BK255.out 2).trans rfl; have hcz95_3 : w93.cell? ⟨gb255, 3, none⟩ = some (.int .i64 a1_3) := (blk_cell BK255.out 3).trans rfl; have hcz95_4 : w93.cell? ⟨gb255, 4, none⟩ = some (.int .i64 a1_4) := (blk_cell BK255.out 4).trans rfl; have hfz95_0 := blk_frozen BK255.out 0; have hfz95_1 := blk_frozen BK255.out 1; have hfz95_2 := blk_frozen BK255.out 2; have hfz95_3 := blk_frozen BK255.out 3; have hfz95_4 := blk_frozen BK255.out 4))
                              repeat (go_quiet (first | (go_at_call 15; (with_reducible refine (chandlerylaw11_awake.calls kj19  true _ A80.out).mono ?_); rintro e w93 ⟨rfl, hb⟩; have n0_ := Aside0.mk (blk_below (g := gb254) (o := .cells #[.int .i64 a0_0, .string a0_1, .string a0_2, .int .i64 a0_3, .int .i64 a0_4] 23 (0, 0)) (by (with_reducible repeat (first | refine blk_drewN ?_ _ | refine blk_drew ?_ | refine blk_alloc ?_ _)); exact BK254.out) hb); have n1_ := Aside0.mk (blk_below (g := gb255) (o := .cells #[.int .i64 a1_0, .string a1_1, .string a1_2, .int .i64 a1_3, .int .i64 a1_4] 23 (0, 0)) (by (with_reducible repeat (first | refine blk_drewN ?_ _ | refine blk_drew ?_ | refine blk_alloc ?_ _)); exact BK255.out) hb); have n2_ := Aside0.mk (below_step (by repeat (first | (with_reducible first | exact HB.out | apply below_alloc | apply pw_below_drewN | apply below_drew1 | refine below_set ?_ GE254.out | refine below_set ?_ GE255.out) | exact HB.out)) hb); clear BK254; clear BK255; clear HB; have BK254 := n0_; have BK255 := n1_; have HB := n2_; clear n0_ n1_ n2_; (try clear hb); (try clear hb2); (try clear hk); (try clear hi); have hcz94_0 : w93.cell? ⟨gb254, 0, none⟩ = some (.int .i64 a0_0) := (blk_cell BK254.out 0).trans rfl; have hcz94_1 : w93.cell? ⟨gb254, 1, none⟩ = some (.string a0_1) := (blk_cell BK254.out 1).trans rfl; have hcz94_2 : w93.cell? ⟨gb254, 2, none⟩ = some (.string a0_2) := (blk_cell BK254.out 2).trans rfl; have hcz94_3 : w93.cell? ⟨gb254, 3, none⟩ = some (.int .i64 a0_3) := (blk_cell BK254.out 3).trans rfl; have hcz94_4 : w93.cell? ⟨gb254, 4, none⟩ = some (.int .i64 a0_4) := (blk_cell BK254.out 4).trans rfl; have hfz94_0 := blk_frozen BK254.out 0; have hfz94_1 := blk_frozen BK254.out 1; have hfz94_2 := blk_frozen BK254.out 2; have hfz94_3 := blk_frozen BK254.out 3; have hfz94_4 := blk_frozen BK254.out 4; have hcz95_0 : w93.cell? ⟨gb255, 0, none⟩ = some (.int .i64 a1_0) := (blk_cell BK255.out 0).trans rfl; have hcz95_1 : w93.cell? ⟨gb255, 1, none⟩ = some (.string a1_1) := (blk_cell BK255.out 1).trans rfl; have hcz95_2 : w93.cell? ⟨gb255, 2, none⟩ = some (.string a1_2) := (blk_cell BK255.out 2).trans rfl; have hcz95_3 : w93.cell? ⟨gb255, 3, none⟩ = some (.int .i64 a1_3) := (blk_cell BK255.out 3).trans rfl; have hcz95_4 : w93.cell? ⟨gb255, 4, none⟩ = some (.int .i64 a1_4) := (blk_cell BK255.out 4).trans rfl; have hfz95_0 := blk_frozen BK255.out 0; have hfz95_1 := blk_frozen BK255.out 1; have hfz95_2 := blk_frozen BK255.out 2; have hfz95_3 := blk_frozen BK255.out 3; have hfz95_4 := blk_frozen BK255.out 4)); try go_wp2_with (first | (go_at_call 15; (with_reducible refine (chandlerylaw11_awake.calls kj19  true _ A80.out).mono ?_); rintro e w93 ⟨rfl, hb⟩; have n0_ := Aside0.mk (blk_below (g := gb254) (o := .cells #[.int .i64 a0_0, .string a0_1, .string a0_2, .int .i64 a0_3, .int .i64 a0_4] 23 (0, 0)) (by (with_reducible repeat (first | refine blk_drewN ?_ _ | refine blk_drew ?_ | refine blk_alloc ?_ _)); exact BK254.out) hb); have n1_ := Aside0.mk (blk_below (g := gb255) (o := .cells #[.int .i64 a1_0, .string a1_1, .string a1_2, .int .i64 a1_3, .int .i64 a1_4] 23 (0, 0)) (by (with_reducible repeat (first | refine blk_drewN ?_ _ | refine blk_drew ?_ | refine blk_alloc ?_ _)); exact BK255.out) hb); have n2_ := Aside0.mk (below_step (by repeat (first | (with_reducible first | exact HB.out | apply below_alloc | apply pw_below_drewN | apply below_drew1 | refine below_set ?_ GE254.out | refine below_set ?_ GE255.out) | exact HB.out)) hb); clear BK254; clear BK255; clear HB; have BK254 := n0_; have BK255 := n1_; have HB := n2_; clear n0_ n1_ n2_; (try clear hb); (try clear hb2); (try clear hk); (try clear hi); have hcz94_0 : w93.cell? ⟨gb254, 0, none⟩ = some (.int .i64 a0_0) := (blk_cell BK254.out 0).trans rfl; have hcz94_1 : w93.cell? ⟨gb254, 1, none⟩ = some (.string a0_1) := (blk_cell BK254.out 1).trans rfl; have hcz94_2 : w93.cell? ⟨gb254, 2, none⟩ = some (.string a0_2) := (blk_cell BK254.out 2).trans rfl; have hcz94_3 : w93.cell? ⟨gb254, 3, none⟩ = some (.int .i64 a0_3) := (blk_cell BK254.out 3).trans rfl; have hcz94_4 : w93.cell? ⟨gb254, 4, none⟩ = some (.int .i64 a0_4) := (blk_cell BK254.out 4).trans rfl; have hfz94_0 := blk_frozen BK254.out 0; have hfz94_1 := blk_frozen BK254.out 1; have hfz94_2 := blk_frozen BK254.out 2; have hfz94_3 := blk_frozen BK254.out 3; have hfz94_4 := blk_frozen BK254.out 4; have hcz95_0 : w93.cell? ⟨gb255, 0, none⟩ = some (.int .i64 a1_0) := (blk_cell BK255.out 0).trans rfl; have hcz95_1 : w93.cell? ⟨gb255, 1, none⟩ = some (.string a1_1) := (blk_cell BK255.out 1).trans rfl; have hcz95_2 : w93.cell? ⟨gb255, 2, none⟩ = some (.string a1_2) := (blk_cell BK255.out 2).trans rfl; have hcz95_3 : w93.cell? ⟨gb255, 3, none⟩ = some (.int .i64 a1_3) := (blk_cell BK255.out 3).trans rfl; have hcz95_4 : w93.cell? ⟨gb255, 4, none⟩ = some (.int .i64 a1_4) := (blk_cell BK255.out 4).trans rfl; have hfz95_0 := blk_frozen BK255.out 0; have hfz95_1 := blk_frozen BK255.out 1; have hfz95_2 := blk_frozen BK255.out 2; have hfz95_3 := blk_frozen BK255.out 3; have hfz95_4 := blk_frozen BK255.out 4)))
                              go_ret
                              exact ⟨by first | rfl | (simp [errW_none, errW_some] <;> rfl) | (simp [*, errW_none, errW_some] <;> rfl), by repeat (first | (with_reducible first | exact HB.out | apply below_alloc | apply pw_below_drewN | apply below_drew1 | refine below_set ?_ GE254.out | refine below_set ?_ GE255.out) | exact HB.out)⟩
                          · rw [if_neg c82] at H
                            have c82b0 : (a0_0 == 3) = false := beq_eq_false_iff_ne.mpr c82
                            have c82b1 : (a0_0 != 3) = true := bne_iff_ne.mpr c82
                            obtain rfl := Option.some.inj H
                            have p33 : 0 ≤ (0 : Int) := (by omega)
                            have q33 : 0 < t258.size := (by have : (0 : Int) < (t258.size : Int) := of_decide_eq_true (by first | (with_reducible assumption) | assumption); omega)
                            have hx33 : ∀ h : 0 < t258.size, ((t258[0]'h).toNat : Int) = bt t258 0 := bt_at t258 0
                            clear p33
                            have qi33 : (0 < (t258.size : Int)) = True := eq_true (of_decide_eq_true (by first | (with_reducible assumption) | assumption))
                            replace q33 := eq_true q33
                            have p35 : 0 ≤ (0 : Int) := (by omega)
                            have q35 : 0 < t260.size := (by have : (0 : Int) < (t260.size : Int) := of_decide_eq_true (by first | (with_reducible assumption) | assumption); omega)
                            have hx35 : ∀ h : 0 < t260.size, ((t260[0]'h).toNat : Int) = bt t260 0 := bt_at t260 0
                            clear p35
                            have qi35 : (0 < (t260.size : Int)) = True := eq_true (of_decide_eq_true (by first | (with_reducible assumption) | assumption))
                            replace q35 := eq_true q35
                            have hnb96 := NB254_255.out
                            have hnc96 := NB255_254.out
                            have hcz97_0 : wc.cell? ⟨gb254, 0, none⟩ = some (.int .i64 a0_0) := (blk_cell BK254.out 0).trans rfl
                            have hcz97_1 : wc.cell? ⟨gb254, 1, none⟩ = some (.string a0_1) := (blk_cell BK254.out 1).trans rfl
                            have hcz97_2 : wc.cell? ⟨gb254, 2, none⟩ = some (.string a0_2) := (blk_cell BK254.out 2).trans rfl
                            have hcz97_3 : wc.cell? ⟨gb254, 3, none⟩ = some (.int .i64 a0_3) := (blk_cell BK254.out 3).trans rfl
                            have hcz97_4 : wc.cell? ⟨gb254, 4, none⟩ = some (.int .i64 a0_4) := (blk_cell BK254.out 4).trans rfl
                            have hfz97_0 := blk_frozen BK254.out 0
                            have hfz97_1 := blk_frozen BK254.out 1
                            have hfz97_2 := blk_frozen BK254.out 2
                            have hfz97_3 := blk_frozen BK254.out 3
                            have hfz97_4 := blk_frozen BK254.out 4
                            have hcz98_0 : wc.cell? ⟨gb255, 0, none⟩ = some (.int .i64 a1_0) := (blk_cell BK255.out 0).trans rfl
                            have hcz98_1 : wc.cell? ⟨gb255, 1, none⟩ = some (.string a1_1) := (blk_cell BK255.out 1).trans rfl
                            have hcz98_2 : wc.cell? ⟨gb255, 2, none⟩ = some (.string a1_2) := (blk_cell BK255.out 2).trans rfl
                            have hcz98_3 : wc.cell? ⟨gb255, 3, none⟩ = some (.int .i64 a1_3) := (blk_cell BK255.out 3).trans rfl
                            have hcz98_4 : wc.cell? ⟨gb255, 4, none⟩ = some (.int .i64 a1_4) := (blk_cell BK255.out 4).trans rfl
                            have hfz98_0 := blk_frozen BK255.out 0
                            have hfz98_1 := blk_frozen BK255.out 1
                            have hfz98_2 := blk_frozen BK255.out 2
                            have hfz98_3 := blk_frozen BK255.out 3
                            have hfz98_4 := blk_frozen BK255.out 4
                            go_wp2_with (first | (go_at_call 15; (with_reducible refine (chandlerylaw11_awake.calls kj19  true _ A80.out).mono ?_); rintro e w99 ⟨rfl, hb⟩; have n0_ := Aside0.mk (blk_below (g := gb254) (o := .cells #[.int .i64 a0_0, .string a0_1, .string a0_2, .int .i64 a0_3, .int .i64 a0_4] 23 (0, 0)) (by (with_reducible repeat (first | refine blk_drewN ?_ _ | refine blk_drew ?_ | refine blk_alloc ?_ _)); exact BK254.out) hb); have n1_ := Aside0.mk (blk_below (g := gb255) (o := .cells #[.int .i64 a1_0, .string a1_1, .string a1_2, .int .i64 a1_3, .int .i64 a1_4] 23 (0, 0)) (by (with_reducible repeat (first | refine blk_drewN ?_ _ | refine blk_drew ?_ | refine blk_alloc ?_ _)); exact BK255.out) hb); have n2_ := Aside0.mk (below_step (by repeat (first | (with_reducible first | exact HB.out | apply below_alloc | apply pw_below_drewN | apply below_drew1 | refine below_set ?_ GE254.out | refine below_set ?_ GE255.out) | exact HB.out)) hb); clear BK254; clear BK255; clear HB; have BK254 := n0_; have BK255 := n1_; have HB := n2_; clear n0_ n1_ n2_; (try clear hb); (try clear hb2); (try clear hk); (try clear hi)))
                            repeat (go_quiet (first | (go_at_call 15; (with_reducible refine (chandlerylaw11_awake.calls kj19  true _ A80.out).mono ?_); rintro e w99 ⟨rfl, hb⟩; have n0_ := Aside0.mk (blk_below (g := gb254) (o := .cells #[.int .i64 a0_0, .string a0_1, .string a0_2, .int .i64 a0_3, .int .i64 a0_4] 23 (0, 0)) (by (with_reducible repeat (first | refine blk_drewN ?_ _ | refine blk_drew ?_ | refine blk_alloc ?_ _)); exact BK254.out) hb); have n1_ := Aside0.mk (blk_below (g := gb255) (o := .cells #[.int .i64 a1_0, .string a1_1, .string a1_2, .int .i64 a1_3, .int .i64 a1_4] 23 (0, 0)) (by (with_reducible repeat (first | refine blk_drewN ?_ _ | refine blk_drew ?_ | refine blk_alloc ?_ _)); exact BK255.out) hb); have n2_ := Aside0.mk (below_step (by repeat (first | (with_reducible first | exact HB.out | apply below_alloc | apply pw_below_drewN | apply below_drew1 | refine below_set ?_ GE254.out | refine below_set ?_ GE255.out) | exact HB.out)) hb); clear BK254; clear BK255; clear HB; have BK254 := n0_; have BK255 := n1_; have HB := n2_; clear n0_ n1_ n2_; (try clear hb); (try clear hb2); (try clear hk); (try clear hi))); try go_wp2_with (first | (go_at_call 15; (with_reducible refine (chandlerylaw11_awake.calls kj19  true _ A80.out).mono ?_); rintro e w99 ⟨rfl, hb⟩; have n0_ := Aside0.mk (blk_below (g := gb254) (o := .cells #[.int .i64 a0_0, .string a0_1, .string a0_2, .int .i64 a0_3, .int .i64 a0_4] 23 (0, 0)) (by (with_reducible repeat (first | refine blk_drewN ?_ _ | refine blk_drew ?_ | refine blk_alloc ?_ _)); exact BK254.out) hb); have n1_ := Aside0.mk (blk_below (g := gb255) (o := .cells #[.int .i64 a1_0, .string a1_1, .string a1_2, .int .i64 a1_3, .int .i64 a1_4] 23 (0, 0)) (by (with_reducible repeat (first | refine blk_drewN ?_ _ | refine blk_drew ?_ | refine blk_alloc ?_ _)); exact BK255.out) hb); have n2_ := Aside0.mk (below_step (by repeat (first | (with_reducible first | exact HB.out | apply below_alloc | apply pw_below_drewN | apply below_drew1 | refine below_set ?_ GE254.out | refine below_set ?_ GE255.out) | exact HB.out)) hb); clear BK254; clear BK255; clear HB; have BK254 := n0_; have BK255 := n1_; have HB := n2_; clear n0_ n1_ n2_; (try clear hb); (try clear hb2); (try clear hk); (try clear hi))))
                            go_ret
                            exact ⟨by first | rfl | (simp [errW_none, errW_some] <;> rfl) | (simp [*, errW_none, errW_some] <;> rfl), by repeat (first | (with_reducible first | exact HB.out | apply below_alloc | apply pw_below_drewN | apply below_drew1 | refine below_set ?_ GE254.out | refine below_set ?_ GE255.out) | exact HB.out)⟩
                        · replace c81 := Bool.eq_false_iff.mpr c81
                          subst c81
                          have H1 : (some false) = some r := by rw [if_neg (show ¬ (false = true) by decide)] at H; exact H
                          clear H
                          have H := H1
                          clear H1
                          obtain rfl := Option.some.inj H
                          have p33 : 0 ≤ (0 : Int) := (by omega)
                          have q33 : 0 < t258.size := (by have : (0 : Int) < (t258.size : Int) := of_decide_eq_true (by first | (with_reducible assumption) | assumption); omega)
                          have hx33 : ∀ h : 0 < t258.size, ((t258[0]'h).toNat : Int) = bt t258 0 := bt_at t258 0
                          clear p33
                          have qi33 : (0 < (t258.size : Int)) = True := eq_true (of_decide_eq_true (by first | (with_reducible assumption) | assumption))
                          replace q33 := eq_true q33
                          have p35 : 0 ≤ (0 : Int) := (by omega)
                          have q35 : 0 < t260.size := (by have : (0 : Int) < (t260.size : Int) := of_decide_eq_true (by first | (with_reducible assumption) | assumption); omega)
                          have hx35 : ∀ h : 0 < t260.size, ((t260[0]'h).toNat : Int) = bt t260 0 := bt_at t260 0
                          clear p35
                          have qi35 : (0 < (t260.size : Int)) = True := eq_true (of_decide_eq_true (by first | (with_reducible assumption) | assumption))
                          replace q35 := eq_true q35
                          have hnb100 := NB254_255.out
                          have hnc100 := NB255_254.out
                          have hcz101_0 : wc.cell? ⟨gb254, 0, none⟩ = some (.int .i64 a0_0) := (blk_cell BK254.out 0).trans rfl
                          have hcz101_1 : wc.cell? ⟨gb254, 1, none⟩ = some (.string a0_1) := (blk_cell BK254.out 1).trans rfl
                          have hcz101_2 : wc.cell? ⟨gb254, 2, none⟩ = some (.string a0_2) := (blk_cell BK254.out 2).trans rfl
                          have hcz101_3 : wc.cell? ⟨gb254, 3, none⟩ = some (.int .i64 a0_3) := (blk_cell BK254.out 3).trans rfl
                          have hcz101_4 : wc.cell? ⟨gb254, 4, none⟩ = some (.int .i64 a0_4) := (blk_cell BK254.out 4).trans rfl
                          have hfz101_0 := blk_frozen BK254.out 0
                          have hfz101_1 := blk_frozen BK254.out 1
                          have hfz101_2 := blk_frozen BK254.out 2
                          have hfz101_3 := blk_frozen BK254.out 3
                          have hfz101_4 := blk_frozen BK254.out 4
                          have hcz102_0 : wc.cell? ⟨gb255, 0, none⟩ = some (.int .i64 a1_0) := (blk_cell BK255.out 0).trans rfl
                          have hcz102_1 : wc.cell? ⟨gb255, 1, none⟩ = some (.string a1_1) := (blk_cell BK255.out 1).trans rfl
                          have hcz102_2 : wc.cell? ⟨gb255, 2, none⟩ = some (.string a1_2) := (blk_cell BK255.out 2).trans rfl
                          have hcz102_3 : wc.cell? ⟨gb255, 3, none⟩ = some (.int .i64 a1_3) := (blk_cell BK255.out 3).trans rfl
                          have hcz102_4 : wc.cell? ⟨gb255, 4, none⟩ = some (.int .i64 a1_4) := (blk_cell BK255.out 4).trans rfl
                          have hfz102_0 := blk_frozen BK255.out 0
                          have hfz102_1 := blk_frozen BK255.out 1
                          have hfz102_2 := blk_frozen BK255.out 2
                          have hfz102_3 := blk_frozen BK255.out 3
                          have hfz102_4 := blk_frozen BK255.out 4
                          go_wp2_with (first | (go_at_call 15; (with_reducible refine (chandlerylaw11_awake.calls kj19  false _ A80.out).mono ?_); rintro e w103 ⟨rfl, hb⟩; have n0_ := Aside0.mk (blk_below (g := gb254) (o := .cells #[.int .i64 a0_0, .string a0_1, .string a0_2, .int .i64 a0_3, .int .i64 a0_4] 23 (0, 0)) (by (with_reducible repeat (first | refine blk_drewN ?_ _ | refine blk_drew ?_ | refine blk_alloc ?_ _)); exact BK254.out) hb); have n1_ := Aside0.mk (blk_below (g := gb255) (o := .cells #[.int .i64 a1_0, .string a1_1, .string a1_2, .int .i64 a1_3, .int .i64 a1_4] 23 (0, 0)) (by (with_reducible repeat (first | refine blk_drewN ?_ _ | refine blk_drew ?_ | refine blk_alloc ?_ _)); exact BK255.out) hb); have n2_ := Aside0.mk (below_step (by repeat (first | (with_reducible first | exact HB.out | apply below_alloc | apply pw_below_drewN | apply below_drew1 | refine below_set ?_ GE254.out | refine below_set ?_ GE255.out) | exact HB.out)) hb); clear BK254; clear BK255; clear HB; have BK254 := n0_; have BK255 := n1_; have HB := n2_; clear n0_ n1_ n2_; (try clear hb); (try clear hb2); (try clear hk); (try clear hi)))
                          repeat (go_quiet (first | (go_at_call 15; (with_reducible refine (chandlerylaw11_awake.calls kj19  false _ A80.out).mono ?_); rintro e w103 ⟨rfl, hb⟩; have n0_ := Aside0.mk (blk_below (g := gb254) (o := .cells #[.int .i64 a0_0, .string a0_1, .string a0_2, .int .i64 a0_3, .int .i64 a0_4] 23 (0, 0)) (by (with_reducible repeat (first | refine blk_drewN ?_ _ | refine blk_drew ?_ | refine blk_alloc ?_ _)); exact BK254.out) hb); have n1_ := Aside0.mk (blk_below (g := gb255) (o := .cells #[.int .i64 a1_0, .string a1_1, .string a1_2, .int .i64 a1_3, .int .i64 a1_4] 23 (0, 0)) (by (with_reducible repeat (first | refine blk_drewN ?_ _ | refine blk_drew ?_ | refine blk_alloc ?_ _)); exact BK255.out) hb); have n2_ := Aside0.mk (below_step (by repeat (first | (with_reducible first | exact HB.out | apply below_alloc | apply pw_below_drewN | apply below_drew1 | refine below_set ?_ GE254.out | refine below_set ?_ GE255.out) | exact HB.out)) hb); clear BK254; clear BK255; clear HB; have BK254 := n0_; have BK255 := n1_; have HB := n2_; clear n0_ n1_ n2_; (try clear hb); (try clear hb2); (try clear hk); (try clear hi))); try go_wp2_with (first | (go_at_call 15; (with_reducible refine (chandlerylaw11_awake.calls kj19  false _ A80.out).mono ?_); rintro e w103 ⟨rfl, hb⟩; have n0_ := Aside0.mk (blk_below (g := gb254) (o := .cells #[.int .i64 a0_0, .string a0_1, .string a0_2, .int .i64 a0_3, .int .i64 a0_4] 23 (0, 0)) (by (with_reducible repeat (first | refine blk_drewN ?_ _ | refine blk_drew ?_ | refine blk_alloc ?_ _)); exact BK254.out) hb); have n1_ := Aside0.mk (blk_below (g := gb255) (o := .cells #[.int .i64 a1_0, .string a1_1, .string a1_2, .int .i64 a1_3, .int .i64 a1_4] 23 (0, 0)) (by (with_reducible repeat (first | refine blk_drewN ?_ _ | refine blk_drew ?_ | refine blk_alloc ?_ _)); exact BK255.out) hb); have n2_ := Aside0.mk (below_step (by repeat (first | (with_reducible first | exact HB.out | apply below_alloc | apply pw_below_drewN | apply below_drew1 | refine below_set ?_ GE254.out | refine below_set ?_ GE255.out) | exact HB.out)) hb); clear BK254; clear BK255; clear HB; have BK254 := n0_; have BK255 := n1_; have HB := n2_; clear n0_ n1_ n2_; (try clear hb); (try clear hb2); (try clear hk); (try clear hi))))
                          go_ret
                          exact ⟨by first | rfl | (simp [errW_none, errW_some] <;> rfl) | (simp [*, errW_none, errW_some] <;> rfl), by repeat (first | (with_reducible first | exact HB.out | apply below_alloc | apply pw_below_drewN | apply below_drew1 | refine below_set ?_ GE254.out | refine below_set ?_ GE255.out) | exact HB.out)⟩
                · rw [if_neg c34] at H
                  exact absurd H (by simp)
              · rw [if_neg c32] at H
                exact absurd H (by simp)

end Go.Proofs.Ytcohfhclcoiigaa.PKeys
