-- printed with xprint.py over the kit's print
import Derived.Test.YtcohfhclcoiigaaQKeysx0
import Derived.Test.YtcohfhclcoiigaaQKeysx1
import Derived.Test.YtcohfhclcoiigaaQKeysx2
import Derived.Test.YtcohfhclcoiigaaQKeysx3
import Derived.Test.YtcohfhclcoiigaaQKeysx9
namespace Go.Proofs.Ytcohfhclcoiigaa.PKeys
open Go.RowKit Go.Proofs.YtcohfhclcoiigaaW.PrintWords Go.Proofs.YtcohfhclcoiigaaW.PrintLast Go.Proofs.YtcohfhclcoiigaaW.PrintMore
attribute [local go_sem] max2_int min2_int max_two min_two max_three min_three max_four min_four   -- for this text's walks alone
set_option linter.unusedVariables false
set_option linter.unusedSimpArgs false

attribute [local go_sem high] eqA23
/-! ### chandlerylaw11_KeysBack: function 5 -/
mutual
def chandlerylaw11_KeysBack.j0 : Nat → ByteArray → Bool → Int → ByteArray → ByteArray → Int → Int → Int → ByteArray → ByteArray → Int → Int → Option (Bool)
  | 0, _, _, _, _, _, _, _, _, _, _, _, _ => none
  | k + 1, x2, x29, x203000, x203001, x203002, x203003, x203004, x204000, x204001, x204002, x204003, x204004 => if x29 = true then (some true) else ((keys_Bytes.f k x203000 x203001 x203002 x203003 x203004).bind fun bt206 => ((keys_Bytes.f k x204000 x204001 x204002 x204003 x204004).bind fun bt208 => (if bt206.2 = 0 then ((keys_Parse.f k bt206.1).bind fun bt210 => (if bt210.2.2.2.2.2 = 0 then (if (!(bt210.1 == x203000) || (!(bt210.2.1.toList == x203001.toList) || (!(bt210.2.2.1.toList == x203002.toList) || (!(bt210.2.2.2.1 == x203003) || (!(bt210.2.2.2.2.1 == x203004)))))) = true then (some false) else (if bt208.2 = 0 then (if ((bt206.1.toList == bt208.1.toList) != (x203000 == x204000 && (x203001.toList == x204001.toList && (x203002.toList == x204002.toList && (x203003 == x204003 && (x203004 == x204004)))))) = true then (some false) else (chandlerylaw11_KeysBack.j1 k x2)) else (chandlerylaw11_KeysBack.j1 k x2))) else (some false))) else (chandlerylaw11_KeysBack.j1 k x2))))
def chandlerylaw11_KeysBack.j1 : Nat → ByteArray → Option (Bool)
  | 0, _ => none
  | k + 1, x2 => (keys_Parse.f k x2).bind fun bt217 => (if bt217.2.2.2.2.2 = 0 then ((keys_Bytes.f k bt217.1 bt217.2.1 bt217.2.2.1 bt217.2.2.2.1 bt217.2.2.2.2.1).bind fun bt224 => ((chandlerylaw11_awake.f k).bind fun t226 => (if t226 = true then (if bt224.2 = 0 then (some (bt224.1.toList == x2.toList)) else (some false)) else (some false)))) else ((chandlerylaw11_awake.f k).bind fun t227 => (some t227)))
end
def chandlerylaw11_KeysBack.f (k : Nat) (a0_0 : Int) (a0_1 : ByteArray) (a0_2 : ByteArray) (a0_3 : Int) (a0_4 : Int) (a1_0 : Int) (a1_1 : ByteArray) (a1_2 : ByteArray) (a1_3 : Int) (a1_4 : Int) (a2 : ByteArray) : Option (Bool) := (chandlerylaw11_small.f a0_0 a0_1 a0_2 a0_3 a0_4).bind fun t204 => (if t204 = true then ((chandlerylaw11_small.f a1_0 a1_1 a1_2 a1_3 a1_4).bind fun t205 => (if t205 = true then (chandlerylaw11_KeysBack.j0 k a2 (decide ((a2.size : Int) > 1000)) a0_0 a0_1 a0_2 a0_3 a0_4 a1_0 a1_1 a1_2 a1_3 a1_4) else (chandlerylaw11_KeysBack.j0 k a2 true a0_0 a0_1 a0_2 a0_3 a0_4 a1_0 a1_1 a1_2 a1_3 a1_4))) else (chandlerylaw11_KeysBack.j0 k a2 true a0_0 a0_1 a0_2 a0_3 a0_4 a1_0 a1_1 a1_2 a1_3 a1_4))
theorem chandlerylaw11_KeysBack.mono_l : ∀ k, (∀ y0 y1 y2 y3 y4 y5 y6 y7 y8 y9 y10 y11, LeO (chandlerylaw11_KeysBack.j0 k y0 y1 y2 y3 y4 y5 y6 y7 y8 y9 y10 y11) (chandlerylaw11_KeysBack.j0 (k + 1) y0 y1 y2 y3 y4 y5 y6 y7 y8 y9 y10 y11)) ∧ (∀ y0, LeO (chandlerylaw11_KeysBack.j1 k y0) (chandlerylaw11_KeysBack.j1 (k + 1) y0))
  | 0 => ⟨fun _ _ _ _ _ _ _ _ _ _ _ _ r h => by simp [chandlerylaw11_KeysBack.j0] at h, fun _ r h => by simp [chandlerylaw11_KeysBack.j1] at h⟩
  | k + 1 => by
    obtain ⟨ih0, ih1⟩ := chandlerylaw11_KeysBack.mono_l k
    refine ⟨?_, ?_⟩
    · intro y0 y1 y2 y3 y4 y5 y6 y7 y8 y9 y10 y11
      unfold chandlerylaw11_KeysBack.j0
      repeat' first
      | (with_reducible exact ih0 _ _ _ _ _ _ _ _ _ _ _ _)
      | (with_reducible exact ih1 _)
      | (with_reducible exact chandlerylaw11_awake.mono _)
      | (with_reducible exact keys_Bytes.mono _ _ _ _ _ _)
      | (with_reducible exact keys_Parse.mono _ _)
      | (with_reducible exact LeO.refl _)
      | (with_reducible exact LeO.none _)
      | (with_reducible refine LeO.ite ?_ ?_)
      | (with_reducible refine LeO.bind ?_ (fun _ => ?_))
      | exact ih0 _ _ _ _ _ _ _ _ _ _ _ _
      | exact ih1 _
      | exact chandlerylaw11_awake.mono _
      | exact keys_Bytes.mono _ _ _ _ _ _
      | exact keys_Parse.mono _ _
      | exact LeO.none _
      | refine LeO.ite ?_ ?_
      | refine LeO.bind ?_ (fun _ => ?_)
    · intro y0
      unfold chandlerylaw11_KeysBack.j1
      repeat' first
      | (with_reducible exact ih0 _ _ _ _ _ _ _ _ _ _ _ _)
      | (with_reducible exact ih1 _)
      | (with_reducible exact chandlerylaw11_awake.mono _)
      | (with_reducible exact keys_Bytes.mono _ _ _ _ _ _)
      | (with_reducible exact keys_Parse.mono _ _)
      | (with_reducible exact LeO.refl _)
      | (with_reducible exact LeO.none _)
      | (with_reducible refine LeO.ite ?_ ?_)
      | (with_reducible refine LeO.bind ?_ (fun _ => ?_))
      | exact ih0 _ _ _ _ _ _ _ _ _ _ _ _
      | exact ih1 _
      | exact chandlerylaw11_awake.mono _
      | exact keys_Bytes.mono _ _ _ _ _ _
      | exact keys_Parse.mono _ _
      | exact LeO.none _
      | refine LeO.ite ?_ ?_
      | refine LeO.bind ?_ (fun _ => ?_)
theorem chandlerylaw11_KeysBack.mono : ∀ a0 a1 a2 a3 a4 a5 a6 a7 a8 a9 a10 k, LeO (chandlerylaw11_KeysBack.f k a0 a1 a2 a3 a4 a5 a6 a7 a8 a9 a10) (chandlerylaw11_KeysBack.f (k + 1) a0 a1 a2 a3 a4 a5 a6 a7 a8 a9 a10) := by
  intro a0 a1 a2 a3 a4 a5 a6 a7 a8 a9 a10 k
  obtain ⟨ih0, ih1⟩ := chandlerylaw11_KeysBack.mono_l k
  unfold chandlerylaw11_KeysBack.f
  repeat' first
      | (with_reducible exact ih0 _ _ _ _ _ _ _ _ _ _ _ _)
      | (with_reducible exact ih1 _)
      | (with_reducible exact chandlerylaw11_awake.mono _)
      | (with_reducible exact keys_Bytes.mono _ _ _ _ _ _)
      | (with_reducible exact keys_Parse.mono _ _)
      | (with_reducible exact LeO.refl _)
      | (with_reducible exact LeO.none _)
      | (with_reducible refine LeO.ite ?_ ?_)
      | (with_reducible refine LeO.bind ?_ (fun _ => ?_))
      | exact ih0 _ _ _ _ _ _ _ _ _ _ _ _
      | exact ih1 _
      | exact chandlerylaw11_awake.mono _
      | exact keys_Bytes.mono _ _ _ _ _ _
      | exact keys_Parse.mono _ _
      | exact LeO.none _
      | refine LeO.ite ?_ ?_
      | refine LeO.bind ?_ (fun _ => ?_)
set_option maxHeartbeats 8000000 in
set_option maxRecDepth 100000 in
theorem chandlerylaw11_KeysBack.calls (k : Nat) (a0_0 : Int) (a0_1 : ByteArray) (a0_2 : ByteArray) (a0_3 : Int) (a0_4 : Int) (a1_0 : Int) (a1_1 : ByteArray) (a1_2 : ByteArray) (a1_3 : Int) (a1_4 : Int) (a2 : ByteArray) (r : Bool) (w : World) (h : chandlerylaw11_KeysBack.f k a0_0 a0_1 a0_2 a0_3 a0_4 a1_0 a1_1 a1_2 a1_3 a1_4 a2 = some r) :
    Calls Try.prog 5 #[.agg #[.int .i64 a0_0, .string a0_1, .string a0_2, .int .i64 a0_3, .int .i64 a0_4], .agg #[.int .i64 a1_0, .string a1_1, .string a1_2, .int .i64 a1_3, .int .i64 a1_4], .string a2] w fun e w' => e = .returned (.bool r) ∧ Below w.heap.size w w' := by
  have hu23 := Try.underlying23
  have HB := Aside0.mk (Below.refl w.heap.size w)
  have H : ((chandlerylaw11_small.f a0_0 a0_1 a0_2 a0_3 a0_4).bind fun t204 => (if t204 = true then ((chandlerylaw11_small.f a1_0 a1_1 a1_2 a1_3 a1_4).bind fun t205 => (if t205 = true then (chandlerylaw11_KeysBack.j0 k a2 (decide ((a2.size : Int) > 1000)) a0_0 a0_1 a0_2 a0_3 a0_4 a1_0 a1_1 a1_2 a1_3 a1_4) else (chandlerylaw11_KeysBack.j0 k a2 true a0_0 a0_1 a0_2 a0_3 a0_4 a1_0 a1_1 a1_2 a1_3 a1_4))) else (chandlerylaw11_KeysBack.j0 k a2 true a0_0 a0_1 a0_2 a0_3 a0_4 a1_0 a1_1 a1_2 a1_3 a1_4))) = some r := h
  clear h
  have HC4 := Aside0.mk H
  clear H
  go_enter Try.func5, Try.ntmps5
  go_upto_region 1 with (first | ((with_reducible refine gate_dst (N := 3) rfl ?_); (try (refine gate_guard (by rfl) ?_; dsimp only)); refine box_event ?hg (N := 3) ?hd (cs := #[.int .i64 a0_0, .string a0_1, .string a0_2, .int .i64 a0_3, .int .i64 a0_4]) (t := 23) ?hr ?_; (case hd => rfl); (case hg => rfl); (case hr => first | (go_simp; done) | (go_simp; rfl)); intro gb202 hg w5 hbox hb; have n0_ := Aside0.mk (below_step (by repeat (first | (with_reducible first | exact HB.out | apply below_alloc | apply pw_below_drewN | apply below_drew1) | exact HB.out)) hb); have n1_ := Aside0.mk (hbox); have n2_ := Aside0.mk ((by rw [hg]; exact (below_size (by repeat (first | (with_reducible first | exact HB.out | apply below_alloc | apply pw_below_drewN | apply below_drew1) | exact HB.out))) : w.heap.size ≤ gb202)); have n3_ := Aside0.mk ((by rw [hg]; exact (below_size (by repeat (first | (with_reducible first | exact HB.out | apply below_alloc | apply pw_below_drewN | apply below_drew1) | exact HB.out))) : w.heap.size ≤ gb202)); clear HB; have HB := n0_; have BK202 := n1_; have GW202 := n2_; have GE202 := n3_; clear n0_ n1_ n2_ n3_; clear hb hbox hg) | ((with_reducible refine gate_dst (N := 4) rfl ?_); (try (refine gate_guard (by rfl) ?_; dsimp only)); refine box_event ?hg (N := 4) ?hd (cs := #[.int .i64 a1_0, .string a1_1, .string a1_2, .int .i64 a1_3, .int .i64 a1_4]) (t := 23) ?hr ?_; (case hd => rfl); (case hg => rfl); (case hr => first | (go_simp; done) | (go_simp; rfl)); intro gb203 hg w6 hbox hb; have n0_ := Aside0.mk (blk_below (g := gb202) (o := .cells #[.int .i64 a0_0, .string a0_1, .string a0_2, .int .i64 a0_3, .int .i64 a0_4] 23 (0, 0)) (by (with_reducible repeat (first | refine blk_drewN ?_ _ | refine blk_drew ?_ | refine blk_alloc ?_ _)); exact BK202.out) hb); have n1_ := Aside0.mk (below_step (by repeat (first | (with_reducible first | exact HB.out | apply below_alloc | apply pw_below_drewN | apply below_drew1 | refine below_set ?_ GE202.out) | exact HB.out)) hb); have n2_ := Aside0.mk (hbox); have n3_ := Aside0.mk ((by rw [hg]; exact (below_size (by repeat (first | (with_reducible first | exact HB.out | apply below_alloc | apply pw_below_drewN | apply below_drew1 | refine below_set ?_ GE202.out) | exact HB.out))) : w.heap.size ≤ gb203)); have n4_ := Aside0.mk ((by rw [hg]; exact (below_size (by repeat (first | (with_reducible first | exact HB.out | apply below_alloc | apply pw_below_drewN | apply below_drew1 | refine below_set ?_ GE202.out) | exact HB.out))) : w.heap.size ≤ gb203)); have n5_ := Aside0.mk ((by rw [hg]; exact Nat.ne_of_lt (blk_lt (g := gb202) (o := .cells #[.int .i64 a0_0, .string a0_1, .string a0_2, .int .i64 a0_3, .int .i64 a0_4] 23 (0, 0)) (by (with_reducible repeat (first | refine blk_drewN ?_ _ | refine blk_drew ?_ | refine blk_alloc ?_ _)); exact BK202.out)) : gb202 ≠ gb203)); have n6_ := Aside0.mk ((by rw [hg]; exact Nat.ne_of_gt (blk_lt (g := gb202) (o := .cells #[.int .i64 a0_0, .string a0_1, .string a0_2, .int .i64 a0_3, .int .i64 a0_4] 23 (0, 0)) (by (with_reducible repeat (first | refine blk_drewN ?_ _ | refine blk_drew ?_ | refine blk_alloc ?_ _)); exact BK202.out)) : gb203 ≠ gb202)); clear BK202; clear HB; have BK202 := n0_; have HB := n1_; have BK203 := n2_; have GW203 := n3_; have GE203 := n4_; have NB202_203 := n5_; have NB203_202 := n6_; clear n0_ n1_ n2_ n3_ n4_ n5_ n6_; clear hb hbox hg))
  (try simp only [Act.put, List.setIfInBounds_toArray, List.set_cons_zero, List.set_cons_succ])
  go_cut [29] (fun v29 wc => ∃ (kq : Nat) (x29_3 : Bool), v29 = .bool x29_3 ∧ Aside0 (chandlerylaw11_KeysBack.j0 kq a2 x29_3 a0_0 a0_1 a0_2 a0_3 a0_4 a1_0 a1_1 a1_2 a1_3 a1_4 = some r) ∧ Aside0 (kq ≤ k) ∧ Aside0 (wc.heap[gb202]? = some (.cells #[.int .i64 a0_0, .string a0_1, .string a0_2, .int .i64 a0_3, .int .i64 a0_4] 23 (0, 0))) ∧ Aside0 (wc.heap[gb203]? = some (.cells #[.int .i64 a1_0, .string a1_1, .string a1_2, .int .i64 a1_3, .int .i64 a1_4] 23 (0, 0))) ∧ Aside0 (Below w.heap.size w wc))
  case first =>
    have H := HC4.out
    clear HC4
    replace H := Option.bind_eq_some_iff.mp H
    obtain ⟨t204, A70, H⟩ := H
    replace H : (if t204 = true then ((chandlerylaw11_small.f a1_0 a1_1 a1_2 a1_3 a1_4).bind fun t205 => (if t205 = true then (chandlerylaw11_KeysBack.j0 k a2 (decide ((a2.size : Int) > 1000)) a0_0 a0_1 a0_2 a0_3 a0_4 a1_0 a1_1 a1_2 a1_3 a1_4) else (chandlerylaw11_KeysBack.j0 k a2 true a0_0 a0_1 a0_2 a0_3 a0_4 a1_0 a1_1 a1_2 a1_3 a1_4))) else (chandlerylaw11_KeysBack.j0 k a2 true a0_0 a0_1 a0_2 a0_3 a0_4 a1_0 a1_1 a1_2 a1_3 a1_4)) = some r := H
    have A7 := Aside0.mk A70
    clear A70
    by_cases c8 : t204 = true
    · subst c8
      have H1 : ((chandlerylaw11_small.f a1_0 a1_1 a1_2 a1_3 a1_4).bind fun t205 => (if t205 = true then (chandlerylaw11_KeysBack.j0 k a2 (decide ((a2.size : Int) > 1000)) a0_0 a0_1 a0_2 a0_3 a0_4 a1_0 a1_1 a1_2 a1_3 a1_4) else (chandlerylaw11_KeysBack.j0 k a2 true a0_0 a0_1 a0_2 a0_3 a0_4 a1_0 a1_1 a1_2 a1_3 a1_4))) = some r := by rw [if_pos rfl] at H; exact H
      clear H
      have H := H1
      clear H1
      replace H := Option.bind_eq_some_iff.mp H
      obtain ⟨t205, A90, H⟩ := H
      replace H : (if t205 = true then (chandlerylaw11_KeysBack.j0 k a2 (decide ((a2.size : Int) > 1000)) a0_0 a0_1 a0_2 a0_3 a0_4 a1_0 a1_1 a1_2 a1_3 a1_4) else (chandlerylaw11_KeysBack.j0 k a2 true a0_0 a0_1 a0_2 a0_3 a0_4 a1_0 a1_1 a1_2 a1_3 a1_4)) = some r := H
      have A9 := Aside0.mk A90
      clear A90
      by_cases c10 : t205 = true
      · subst c10
        have H1 : (chandlerylaw11_KeysBack.j0 k a2 (decide ((a2.size : Int) > 1000)) a0_0 a0_1 a0_2 a0_3 a0_4 a1_0 a1_1 a1_2 a1_3 a1_4) = some r := by rw [if_pos rfl] at H; exact H
        clear H
        have H := H1
        clear H1
        have H' := Aside0.mk H
        clear H
        have hnb11 := NB202_203.out
        have hnc11 := NB203_202.out
        have hcz12_0 : w6.cell? ⟨gb202, 0, none⟩ = some (.int .i64 a0_0) := (blk_cell BK202.out 0).trans rfl
        have hcz12_1 : w6.cell? ⟨gb202, 1, none⟩ = some (.string a0_1) := (blk_cell BK202.out 1).trans rfl
        have hcz12_2 : w6.cell? ⟨gb202, 2, none⟩ = some (.string a0_2) := (blk_cell BK202.out 2).trans rfl
        have hcz12_3 : w6.cell? ⟨gb202, 3, none⟩ = some (.int .i64 a0_3) := (blk_cell BK202.out 3).trans rfl
        have hcz12_4 : w6.cell? ⟨gb202, 4, none⟩ = some (.int .i64 a0_4) := (blk_cell BK202.out 4).trans rfl
        have hfz12_0 := blk_frozen BK202.out 0
        have hfz12_1 := blk_frozen BK202.out 1
        have hfz12_2 := blk_frozen BK202.out 2
        have hfz12_3 := blk_frozen BK202.out 3
        have hfz12_4 := blk_frozen BK202.out 4
        go_wp2_with (first | ((with_reducible refine gate_callee (f := 9) rfl ?_); refine goesL_ (some 18) rfl rfl Try.func9 (by kernel_rfl) rfl #[.agg #[.int .i64 a0_0, .string a0_1, .string a0_2, .int .i64 a0_3, .int .i64 a0_4]] rfl (by (try simp only [List.map_toArray, List.map_cons, List.map_nil]); first | done | rfl | (simp only [List.length_drop, List.length_take]; rfl)) ?_; (with_reducible refine (chandlerylaw11_small.calls a0_0 a0_1 a0_2 a0_3 a0_4 true _ A7.out).mono ?_); rintro e w13 ⟨rfl, hb⟩; refine ⟨_, rfl, ?_⟩; have n0_ := Aside0.mk (blk_below (g := gb202) (o := .cells #[.int .i64 a0_0, .string a0_1, .string a0_2, .int .i64 a0_3, .int .i64 a0_4] 23 (0, 0)) (by (with_reducible repeat (first | refine blk_drewN ?_ _ | refine blk_drew ?_ | refine blk_alloc ?_ _)); exact BK202.out) hb); have n1_ := Aside0.mk (blk_below (g := gb203) (o := .cells #[.int .i64 a1_0, .string a1_1, .string a1_2, .int .i64 a1_3, .int .i64 a1_4] 23 (0, 0)) (by (with_reducible repeat (first | refine blk_drewN ?_ _ | refine blk_drew ?_ | refine blk_alloc ?_ _)); exact BK203.out) hb); have n2_ := Aside0.mk (below_step (by repeat (first | (with_reducible first | exact HB.out | apply below_alloc | apply pw_below_drewN | apply below_drew1 | refine below_set ?_ GE202.out | refine below_set ?_ GE203.out) | exact HB.out)) hb); clear BK202; clear BK203; clear HB; have BK202 := n0_; have BK203 := n1_; have HB := n2_; clear n0_ n1_ n2_; (try clear hb); (try clear hb2); (try clear hk); (try clear hi); have hcz14_0 : w13.cell? ⟨gb203, 0, none⟩ = some (.int .i64 a1_0) := (blk_cell BK203.out 0).trans rfl; have hcz14_1 : w13.cell? ⟨gb203, 1, none⟩ = some (.string a1_1) := (blk_cell BK203.out 1).trans rfl; have hcz14_2 : w13.cell? ⟨gb203, 2, none⟩ = some (.string a1_2) := (blk_cell BK203.out 2).trans rfl; have hcz14_3 : w13.cell? ⟨gb203, 3, none⟩ = some (.int .i64 a1_3) := (blk_cell BK203.out 3).trans rfl; have hcz14_4 : w13.cell? ⟨gb203, 4, none⟩ = some (.int .i64 a1_4) := (blk_cell BK203.out 4).trans rfl; have hfz14_0 := blk_frozen BK203.out 0; have hfz14_1 := blk_frozen BK203.out 1; have hfz14_2 := blk_frozen BK203.out 2; have hfz14_3 := blk_frozen BK203.out 3; have hfz14_4 := blk_frozen BK203.out 4) | (go_at_call 9; (with_reducible refine (chandlerylaw11_small.calls a1_0 a1_1 a1_2 a1_3 a1_4 true _ A9.out).mono ?_); rintro e w15 ⟨rfl, hb⟩; have n0_ := Aside0.mk (blk_below (g := gb202) (o := .cells #[.int .i64 a0_0, .string a0_1, .string a0_2, .int .i64 a0_3, .int .i64 a0_4] 23 (0, 0)) (by (with_reducible repeat (first | refine blk_drewN ?_ _ | refine blk_drew ?_ | refine blk_alloc ?_ _)); exact BK202.out) hb); have n1_ := Aside0.mk (blk_below (g := gb203) (o := .cells #[.int .i64 a1_0, .string a1_1, .string a1_2, .int .i64 a1_3, .int .i64 a1_4] 23 (0, 0)) (by (with_reducible repeat (first | refine blk_drewN ?_ _ | refine blk_drew ?_ | refine blk_alloc ?_ _)); exact BK203.out) hb); have n2_ := Aside0.mk (below_step (by repeat (first | (with_reducible first | exact HB.out | apply below_alloc | apply pw_below_drewN | apply below_drew1 | refine below_set ?_ GE202.out | refine below_set ?_ GE203.out) | exact HB.out)) hb); clear BK202; clear BK203; clear HB; have BK202 := n0_; have BK203 := n1_; have HB := n2_; clear n0_ n1_ n2_; (try clear hb); (try clear hb2); (try clear hk); (try clear hi)))
        go_meet
        case rel => exact ⟨_, (decide ((a2.size : Int) > 1000)), (by first | rfl | (simp; done) | exact congrArg Value.bool (Go.Proofs.YtcohfhclcoiigaaX.isEmpty_ne_ _) | exact congrArg Value.bool (Go.Proofs.YtcohfhclcoiigaaX.ne_isEmpty_ _) | (simp [*]; done)), H', ⟨by first | omega | exact Nat.le_refl _⟩, ⟨by (with_reducible repeat (first | refine blk_drewN ?_ _ | refine blk_drew ?_ | refine blk_alloc ?_ _)); exact BK202.out⟩, ⟨by (with_reducible repeat (first | refine blk_drewN ?_ _ | refine blk_drew ?_ | refine blk_alloc ?_ _)); exact BK203.out⟩, ⟨by repeat (first | (with_reducible first | exact HB.out | apply below_alloc | apply pw_below_drewN | apply below_drew1 | refine below_set ?_ GE202.out | refine below_set ?_ GE203.out) | exact HB.out)⟩⟩
      · replace c10 := Bool.eq_false_iff.mpr c10
        subst c10
        have H1 : (chandlerylaw11_KeysBack.j0 k a2 true a0_0 a0_1 a0_2 a0_3 a0_4 a1_0 a1_1 a1_2 a1_3 a1_4) = some r := by rw [if_neg (show ¬ (false = true) by decide)] at H; exact H
        clear H
        have H := H1
        clear H1
        have H' := Aside0.mk H
        clear H
        have hnb16 := NB202_203.out
        have hnc16 := NB203_202.out
        have hcz17_0 : w6.cell? ⟨gb202, 0, none⟩ = some (.int .i64 a0_0) := (blk_cell BK202.out 0).trans rfl
        have hcz17_1 : w6.cell? ⟨gb202, 1, none⟩ = some (.string a0_1) := (blk_cell BK202.out 1).trans rfl
        have hcz17_2 : w6.cell? ⟨gb202, 2, none⟩ = some (.string a0_2) := (blk_cell BK202.out 2).trans rfl
        have hcz17_3 : w6.cell? ⟨gb202, 3, none⟩ = some (.int .i64 a0_3) := (blk_cell BK202.out 3).trans rfl
        have hcz17_4 : w6.cell? ⟨gb202, 4, none⟩ = some (.int .i64 a0_4) := (blk_cell BK202.out 4).trans rfl
        have hfz17_0 := blk_frozen BK202.out 0
        have hfz17_1 := blk_frozen BK202.out 1
        have hfz17_2 := blk_frozen BK202.out 2
        have hfz17_3 := blk_frozen BK202.out 3
        have hfz17_4 := blk_frozen BK202.out 4
        go_wp2_with (first | ((with_reducible refine gate_callee (f := 9) rfl ?_); refine goesL_ (some 18) rfl rfl Try.func9 (by kernel_rfl) rfl #[.agg #[.int .i64 a0_0, .string a0_1, .string a0_2, .int .i64 a0_3, .int .i64 a0_4]] rfl (by (try simp only [List.map_toArray, List.map_cons, List.map_nil]); first | done | rfl | (simp only [List.length_drop, List.length_take]; rfl)) ?_; (with_reducible refine (chandlerylaw11_small.calls a0_0 a0_1 a0_2 a0_3 a0_4 true _ A7.out).mono ?_); rintro e w18 ⟨rfl, hb⟩; refine ⟨_, rfl, ?_⟩; have n0_ := Aside0.mk (blk_below (g := gb202) (o := .cells #[.int .i64 a0_0, .string a0_1, .string a0_2, .int .i64 a0_3, .int .i64 a0_4] 23 (0, 0)) (by (with_reducible repeat (first | refine blk_drewN ?_ _ | refine blk_drew ?_ | refine blk_alloc ?_ _)); exact BK202.out) hb); have n1_ := Aside0.mk (blk_below (g := gb203) (o := .cells #[.int .i64 a1_0, .string a1_1, .string a1_2, .int .i64 a1_3, .int .i64 a1_4] 23 (0, 0)) (by (with_reducible repeat (first | refine blk_drewN ?_ _ | refine blk_drew ?_ | refine blk_alloc ?_ _)); exact BK203.out) hb); have n2_ := Aside0.mk (below_step (by repeat (first | (with_reducible first | exact HB.out | apply below_alloc | apply pw_below_drewN | apply below_drew1 | refine below_set ?_ GE202.out | refine below_set ?_ GE203.out) | exact HB.out)) hb); clear BK202; clear BK203; clear HB; have BK202 := n0_; have BK203 := n1_; have HB := n2_; clear n0_ n1_ n2_; (try clear hb); (try clear hb2); (try clear hk); (try clear hi); have hcz19_0 : w18.cell? ⟨gb203, 0, none⟩ = some (.int .i64 a1_0) := (blk_cell BK203.out 0).trans rfl; have hcz19_1 : w18.cell? ⟨gb203, 1, none⟩ = some (.string a1_1) := (blk_cell BK203.out 1).trans rfl; have hcz19_2 : w18.cell? ⟨gb203, 2, none⟩ = some (.string a1_2) := (blk_cell BK203.out 2).trans rfl; have hcz19_3 : w18.cell? ⟨gb203, 3, none⟩ = some (.int .i64 a1_3) := (blk_cell BK203.out 3).trans rfl; have hcz19_4 : w18.cell? ⟨gb203, 4, none⟩ = some (.int .i64 a1_4) := (blk_cell BK203.out 4).trans rfl; have hfz19_0 := blk_frozen BK203.out 0; have hfz19_1 := blk_frozen BK203.out 1; have hfz19_2 := blk_frozen BK203.out 2; have hfz19_3 := blk_frozen BK203.out 3; have hfz19_4 := blk_frozen BK203.out 4) | (go_at_call 9; (with_reducible refine (chandlerylaw11_small.calls a1_0 a1_1 a1_2 a1_3 a1_4 false _ A9.out).mono ?_); rintro e w20 ⟨rfl, hb⟩; have n0_ := Aside0.mk (blk_below (g := gb202) (o := .cells #[.int .i64 a0_0, .string a0_1, .string a0_2, .int .i64 a0_3, .int .i64 a0_4] 23 (0, 0)) (by (with_reducible repeat (first | refine blk_drewN ?_ _ | refine blk_drew ?_ | refine blk_alloc ?_ _)); exact BK202.out) hb); have n1_ := Aside0.mk (blk_below (g := gb203) (o := .cells #[.int .i64 a1_0, .string a1_1, .string a1_2, .int .i64 a1_3, .int .i64 a1_4] 23 (0, 0)) (by (with_reducible repeat (first | refine blk_drewN ?_ _ | refine blk_drew ?_ | refine blk_alloc ?_ _)); exact BK203.out) hb); have n2_ := Aside0.mk (below_step (by repeat (first | (with_reducible first | exact HB.out | apply below_alloc | apply pw_below_drewN | apply below_drew1 | refine below_set ?_ GE202.out | refine below_set ?_ GE203.out) | exact HB.out)) hb); clear BK202; clear BK203; clear HB; have BK202 := n0_; have BK203 := n1_; have HB := n2_; clear n0_ n1_ n2_; (try clear hb); (try clear hb2); (try clear hk); (try clear hi)))
        go_meet
        case rel => exact ⟨_, (true), (by first | rfl | (simp; done) | exact congrArg Value.bool (Go.Proofs.YtcohfhclcoiigaaX.isEmpty_ne_ _) | exact congrArg Value.bool (Go.Proofs.YtcohfhclcoiigaaX.ne_isEmpty_ _) | (simp [*]; done)), H', ⟨by first | omega | exact Nat.le_refl _⟩, ⟨by (with_reducible repeat (first | refine blk_drewN ?_ _ | refine blk_drew ?_ | refine blk_alloc ?_ _)); exact BK202.out⟩, ⟨by (with_reducible repeat (first | refine blk_drewN ?_ _ | refine blk_drew ?_ | refine blk_alloc ?_ _)); exact BK203.out⟩, ⟨by repeat (first | (with_reducible first | exact HB.out | apply below_alloc | apply pw_below_drewN | apply below_drew1 | refine below_set ?_ GE202.out | refine below_set ?_ GE203.out) | exact HB.out)⟩⟩
    · replace c8 := Bool.eq_false_iff.mpr c8
      subst c8
      have H1 : (chandlerylaw11_KeysBack.j0 k a2 true a0_0 a0_1 a0_2 a0_3 a0_4 a1_0 a1_1 a1_2 a1_3 a1_4) = some r := by rw [if_neg (show ¬ (false = true) by decide)] at H; exact H
      clear H
      have H := H1
      clear H1
      have H' := Aside0.mk H
      clear H
      have hnb21 := NB202_203.out
      have hnc21 := NB203_202.out
      have hcz22_0 : w6.cell? ⟨gb202, 0, none⟩ = some (.int .i64 a0_0) := (blk_cell BK202.out 0).trans rfl
      have hcz22_1 : w6.cell? ⟨gb202, 1, none⟩ = some (.string a0_1) := (blk_cell BK202.out 1).trans rfl
      have hcz22_2 : w6.cell? ⟨gb202, 2, none⟩ = some (.string a0_2) := (blk_cell BK202.out 2).trans rfl
      have hcz22_3 : w6.cell? ⟨gb202, 3, none⟩ = some (.int .i64 a0_3) := (blk_cell BK202.out 3).trans rfl
      have hcz22_4 : w6.cell? ⟨gb202, 4, none⟩ = some (.int .i64 a0_4) := (blk_cell BK202.out 4).trans rfl
      have hfz22_0 := blk_frozen BK202.out 0
      have hfz22_1 := blk_frozen BK202.out 1
      have hfz22_2 := blk_frozen BK202.out 2
      have hfz22_3 := blk_frozen BK202.out 3
      have hfz22_4 := blk_frozen BK202.out 4
      go_wp2_with (first | ((with_reducible refine gate_callee (f := 9) rfl ?_); refine goesL_ (some 18) rfl rfl Try.func9 (by kernel_rfl) rfl #[.agg #[.int .i64 a0_0, .string a0_1, .string a0_2, .int .i64 a0_3, .int .i64 a0_4]] rfl (by (try simp only [List.map_toArray, List.map_cons, List.map_nil]); first | done | rfl | (simp only [List.length_drop, List.length_take]; rfl)) ?_; (with_reducible refine (chandlerylaw11_small.calls a0_0 a0_1 a0_2 a0_3 a0_4 false _ A7.out).mono ?_); rintro e w23 ⟨rfl, hb⟩; refine ⟨_, rfl, ?_⟩; have n0_ := Aside0.mk (blk_below (g := gb202) (o := .cells #[.int .i64 a0_0, .string a0_1, .string a0_2, .int .i64 a0_3, .int .i64 a0_4] 23 (0, 0)) (by (with_reducible repeat (first | refine blk_drewN ?_ _ | refine blk_drew ?_ | refine blk_alloc ?_ _)); exact BK202.out) hb); have n1_ := Aside0.mk (blk_below (g := gb203) (o := .cells #[.int .i64 a1_0, .string a1_1, .string a1_2, .int .i64 a1_3, .int .i64 a1_4] 23 (0, 0)) (by (with_reducible repeat (first | refine blk_drewN ?_ _ | refine blk_drew ?_ | refine blk_alloc ?_ _)); exact BK203.out) hb); have n2_ := Aside0.mk (below_step (by repeat (first | (with_reducible first | exact HB.out | apply below_alloc | apply pw_below_drewN | apply below_drew1 | refine below_set ?_ GE202.out | refine below_set ?_ GE203.out) | exact HB.out)) hb); clear BK202; clear BK203; clear HB; have BK202 := n0_; have BK203 := n1_; have HB := n2_; clear n0_ n1_ n2_; (try clear hb); (try clear hb2); (try clear hk); (try clear hi)))
      go_meet
      case rel => exact ⟨_, (true), (by first | rfl | (simp; done) | exact congrArg Value.bool (Go.Proofs.YtcohfhclcoiigaaX.isEmpty_ne_ _) | exact congrArg Value.bool (Go.Proofs.YtcohfhclcoiigaaX.ne_isEmpty_ _) | (simp [*]; done)), H', ⟨by first | omega | exact Nat.le_refl _⟩, ⟨by (with_reducible repeat (first | refine blk_drewN ?_ _ | refine blk_drew ?_ | refine blk_alloc ?_ _)); exact BK202.out⟩, ⟨by (with_reducible repeat (first | refine blk_drewN ?_ _ | refine blk_drew ?_ | refine blk_alloc ?_ _)); exact BK203.out⟩, ⟨by repeat (first | (with_reducible first | exact HB.out | apply below_alloc | apply pw_below_drewN | apply below_drew1 | refine below_set ?_ GE202.out | refine below_set ?_ GE203.out) | exact HB.out)⟩⟩
  case rest =>
    clear HC4
    try clear c1
    try clear c2
    try clear p2
    try clear c5
    try clear c8
    try clear c9
    try clear c10
    try clear c11
    try clear c16
    try clear c21
    try clear hcz12_0
    try clear hcz12_1
    try clear hcz12_2
    try clear hcz12_3
    try clear hcz12_4
    try clear hcz14_0
    try clear hcz14_1
    try clear hcz14_2
    try clear hcz14_3
    try clear hcz14_4
    try clear hcz17_0
    try clear hcz17_1
    try clear hcz17_2
    try clear hcz17_3
    try clear hcz17_4
    try clear hcz19_0
    try clear hcz19_1
    try clear hcz19_2
    try clear hcz19_3
    try clear hcz19_4
    try clear hcz22_0
    try clear hcz22_1
    try clear hcz22_2
    try clear hcz22_3
    try clear hcz22_4
    try clear hfz12_0
    try clear hfz12_1
    try clear hfz12_2
    try clear hfz12_3
    try clear hfz12_4
    try clear hfz14_0
    try clear hfz14_1
    try clear hfz14_2
    try clear hfz14_3
    try clear hfz14_4
    try clear hfz17_0
    try clear hfz17_1
    try clear hfz17_2
    try clear hfz17_3
    try clear hfz17_4
    try clear hfz19_0
    try clear hfz19_1
    try clear hfz19_2
    try clear hfz19_3
    try clear hfz19_4
    try clear hfz22_0
    try clear hfz22_1
    try clear hfz22_2
    try clear hfz22_3
    try clear hfz22_4
    obtain ⟨kq, x29_3, rfl, HA, HJ3, BK202, BK203, HB⟩ := hcut
    cases kq with
    | zero => exact absurd HA.out (by simp [chandlerylaw11_KeysBack.j0])
    | succ kj3 =>
      have H := HA.out
      clear HA
      simp only [chandlerylaw11_KeysBack.j0] at H
      by_cases c24 : x29_3 = true
      · subst c24
        have H1 : (some true) = some r := by rw [if_pos rfl] at H; exact H
        clear H
        have H := H1
        clear H1
        obtain rfl := Option.some.inj H
        go_wp2
        go_ret
        exact ⟨by first | rfl | (simp [errW_none, errW_some] <;> rfl) | (simp [*, errW_none, errW_some] <;> rfl), by repeat (first | (with_reducible first | exact HB.out | apply below_alloc | apply pw_below_drewN | apply below_drew1 | refine below_set ?_ GE202.out | refine below_set ?_ GE203.out) | exact HB.out)⟩
      · replace c24 := Bool.eq_false_iff.mpr c24
        subst c24
        have H1 : ((keys_Bytes.f kj3 a0_0 a0_1 a0_2 a0_3 a0_4).bind fun bt206 => ((keys_Bytes.f kj3 a1_0 a1_1 a1_2 a1_3 a1_4).bind fun bt208 => (if bt206.2 = 0 then ((keys_Parse.f kj3 bt206.1).bind fun bt210 => (if bt210.2.2.2.2.2 = 0 then (if (!(bt210.1 == a0_0) || (!(bt210.2.1.toList == a0_1.toList) || (!(bt210.2.2.1.toList == a0_2.toList) || (!(bt210.2.2.2.1 == a0_3) || (!(bt210.2.2.2.2.1 == a0_4)))))) = true then (some false) else (if bt208.2 = 0 then (if ((bt206.1.toList == bt208.1.toList) != (a0_0 == a1_0 && (a0_1.toList == a1_1.toList && (a0_2.toList == a1_2.toList && (a0_3 == a1_3 && (a0_4 == a1_4)))))) = true then (some false) else (chandlerylaw11_KeysBack.j1 kj3 a2)) else (chandlerylaw11_KeysBack.j1 kj3 a2))) else (some false))) else (chandlerylaw11_KeysBack.j1 kj3 a2)))) = some r := by rw [if_neg (show ¬ (false = true) by decide)] at H; exact H
        clear H
        have H := H1
        clear H1
        replace H := Option.bind_eq_some_iff.mp H
        obtain ⟨⟨t206, t207⟩, A250, H⟩ := H
        replace H : ((keys_Bytes.f kj3 a1_0 a1_1 a1_2 a1_3 a1_4).bind fun bt208 => (if t207 = 0 then ((keys_Parse.f kj3 t206).bind fun bt210 => (if bt210.2.2.2.2.2 = 0 then (if (!(bt210.1 == a0_0) || (!(bt210.2.1.toList == a0_1.toList) || (!(bt210.2.2.1.toList == a0_2.toList) || (!(bt210.2.2.2.1 == a0_3) || (!(bt210.2.2.2.2.1 == a0_4)))))) = true then (some false) else (if bt208.2 = 0 then (if ((t206.toList == bt208.1.toList) != (a0_0 == a1_0 && (a0_1.toList == a1_1.toList && (a0_2.toList == a1_2.toList && (a0_3 == a1_3 && (a0_4 == a1_4)))))) = true then (some false) else (chandlerylaw11_KeysBack.j1 kj3 a2)) else (chandlerylaw11_KeysBack.j1 kj3 a2))) else (some false))) else (chandlerylaw11_KeysBack.j1 kj3 a2))) = some r := H
        have A25 := Aside0.mk A250
        clear A250
        replace H := Option.bind_eq_some_iff.mp H
        obtain ⟨⟨t208, t209⟩, A260, H⟩ := H
        replace H : (if t207 = 0 then ((keys_Parse.f kj3 t206).bind fun bt210 => (if bt210.2.2.2.2.2 = 0 then (if (!(bt210.1 == a0_0) || (!(bt210.2.1.toList == a0_1.toList) || (!(bt210.2.2.1.toList == a0_2.toList) || (!(bt210.2.2.2.1 == a0_3) || (!(bt210.2.2.2.2.1 == a0_4)))))) = true then (some false) else (if t209 = 0 then (if ((t206.toList == t208.toList) != (a0_0 == a1_0 && (a0_1.toList == a1_1.toList && (a0_2.toList == a1_2.toList && (a0_3 == a1_3 && (a0_4 == a1_4)))))) = true then (some false) else (chandlerylaw11_KeysBack.j1 kj3 a2)) else (chandlerylaw11_KeysBack.j1 kj3 a2))) else (some false))) else (chandlerylaw11_KeysBack.j1 kj3 a2)) = some r := H
        have A26 := Aside0.mk A260
        clear A260
        have HC27 := Aside0.mk H
        clear H
        have hnb28 := NB202_203.out
        have hnc28 := NB203_202.out
        have hcz29_0 : wc.cell? ⟨gb202, 0, none⟩ = some (.int .i64 a0_0) := (blk_cell BK202.out 0).trans rfl
        have hcz29_1 : wc.cell? ⟨gb202, 1, none⟩ = some (.string a0_1) := (blk_cell BK202.out 1).trans rfl
        have hcz29_2 : wc.cell? ⟨gb202, 2, none⟩ = some (.string a0_2) := (blk_cell BK202.out 2).trans rfl
        have hcz29_3 : wc.cell? ⟨gb202, 3, none⟩ = some (.int .i64 a0_3) := (blk_cell BK202.out 3).trans rfl
        have hcz29_4 : wc.cell? ⟨gb202, 4, none⟩ = some (.int .i64 a0_4) := (blk_cell BK202.out 4).trans rfl
        have hfz29_0 := blk_frozen BK202.out 0
        have hfz29_1 := blk_frozen BK202.out 1
        have hfz29_2 := blk_frozen BK202.out 2
        have hfz29_3 := blk_frozen BK202.out 3
        have hfz29_4 := blk_frozen BK202.out 4
        go_upto_if 41 with (first | ((with_reducible refine gate_callee (f := 11) rfl ?_); refine goesL_ (some 32) rfl rfl Try.func11 (by kernel_rfl) rfl #[.agg #[.int .i64 a0_0, .string a0_1, .string a0_2, .int .i64 a0_3, .int .i64 a0_4]] rfl (by (try simp only [List.map_toArray, List.map_cons, List.map_nil]); first | done | rfl | (simp only [List.length_drop, List.length_take]; rfl)) ?_; (with_reducible refine (keys_Bytes.calls kj3 a0_0 a0_1 a0_2 a0_3 a0_4 t206 t207 _ A25.out).mono ?_); rintro e w30 ⟨rfl, hb⟩; refine ⟨_, rfl, ?_⟩; have n0_ := Aside0.mk (blk_below (g := gb202) (o := .cells #[.int .i64 a0_0, .string a0_1, .string a0_2, .int .i64 a0_3, .int .i64 a0_4] 23 (0, 0)) (by (with_reducible repeat (first | refine blk_drewN ?_ _ | refine blk_drew ?_ | refine blk_alloc ?_ _)); exact BK202.out) hb); have n1_ := Aside0.mk (blk_below (g := gb203) (o := .cells #[.int .i64 a1_0, .string a1_1, .string a1_2, .int .i64 a1_3, .int .i64 a1_4] 23 (0, 0)) (by (with_reducible repeat (first | refine blk_drewN ?_ _ | refine blk_drew ?_ | refine blk_alloc ?_ _)); exact BK203.out) hb); have n2_ := Aside0.mk (below_step (by repeat (first | (with_reducible first | exact HB.out | apply below_alloc | apply pw_below_drewN | apply below_drew1 | refine below_set ?_ GE202.out | refine below_set ?_ GE203.out) | exact HB.out)) hb); clear BK202; clear BK203; clear HB; have BK202 := n0_; have BK203 := n1_; have HB := n2_; clear n0_ n1_ n2_; (try clear hb); (try clear hb2); (try clear hk); (try clear hi); have hcz31_0 : w30.cell? ⟨gb203, 0, none⟩ = some (.int .i64 a1_0) := (blk_cell BK203.out 0).trans rfl; have hcz31_1 : w30.cell? ⟨gb203, 1, none⟩ = some (.string a1_1) := (blk_cell BK203.out 1).trans rfl; have hcz31_2 : w30.cell? ⟨gb203, 2, none⟩ = some (.string a1_2) := (blk_cell BK203.out 2).trans rfl; have hcz31_3 : w30.cell? ⟨gb203, 3, none⟩ = some (.int .i64 a1_3) := (blk_cell BK203.out 3).trans rfl; have hcz31_4 : w30.cell? ⟨gb203, 4, none⟩ = some (.int .i64 a1_4) := (blk_cell BK203.out 4).trans rfl; have hfz31_0 := blk_frozen BK203.out 0; have hfz31_1 := blk_frozen BK203.out 1; have hfz31_2 := blk_frozen BK203.out 2; have hfz31_3 := blk_frozen BK203.out 3; have hfz31_4 := blk_frozen BK203.out 4) | ((with_reducible refine gate_callee (f := 11) rfl ?_); refine goesL_ (some 37) rfl rfl Try.func11 (by kernel_rfl) rfl #[.agg #[.int .i64 a1_0, .string a1_1, .string a1_2, .int .i64 a1_3, .int .i64 a1_4]] rfl (by (try simp only [List.map_toArray, List.map_cons, List.map_nil]); first | done | rfl | (simp only [List.length_drop, List.length_take]; rfl)) ?_; (with_reducible refine (keys_Bytes.calls kj3 a1_0 a1_1 a1_2 a1_3 a1_4 t208 t209 _ A26.out).mono ?_); rintro e w32 ⟨rfl, hb⟩; refine ⟨_, rfl, ?_⟩; have n0_ := Aside0.mk (blk_below (g := gb202) (o := .cells #[.int .i64 a0_0, .string a0_1, .string a0_2, .int .i64 a0_3, .int .i64 a0_4] 23 (0, 0)) (by (with_reducible repeat (first | refine blk_drewN ?_ _ | refine blk_drew ?_ | refine blk_alloc ?_ _)); exact BK202.out) hb); have n1_ := Aside0.mk (blk_below (g := gb203) (o := .cells #[.int .i64 a1_0, .string a1_1, .string a1_2, .int .i64 a1_3, .int .i64 a1_4] 23 (0, 0)) (by (with_reducible repeat (first | refine blk_drewN ?_ _ | refine blk_drew ?_ | refine blk_alloc ?_ _)); exact BK203.out) hb); have n2_ := Aside0.mk (below_step (by repeat (first | (with_reducible first | exact HB.out | apply below_alloc | apply pw_below_drewN | apply below_drew1 | refine below_set ?_ GE202.out | refine below_set ?_ GE203.out) | exact HB.out)) hb); clear BK202; clear BK203; clear HB; have BK202 := n0_; have BK203 := n1_; have HB := n2_; clear n0_ n1_ n2_; (try clear hb); (try clear hb2); (try clear hk); (try clear hi)))
        (try simp only [Act.put, List.setIfInBounds_toArray, List.set_cons_zero, List.set_cons_succ])
        go_cut [] (fun wc => ∃ (kq : Nat), Aside0 (chandlerylaw11_KeysBack.j1 kq a2 = some r) ∧ Aside0 (kq ≤ kj3) ∧ Aside0 (wc.heap[gb202]? = some (.cells #[.int .i64 a0_0, .string a0_1, .string a0_2, .int .i64 a0_3, .int .i64 a0_4] 23 (0, 0))) ∧ Aside0 (wc.heap[gb203]? = some (.cells #[.int .i64 a1_0, .string a1_1, .string a1_2, .int .i64 a1_3, .int .i64 a1_4] 23 (0, 0))) ∧ Aside0 (Below w.heap.size w wc))
        case first =>
          have H := HC27.out
          clear HC27
          by_cases c33 : t207 = 0
          · rw [if_pos c33] at H
            have c33b0 : (t207 == 0) = true := beq_iff_eq.mpr c33
            have c33b1 : (t207 != 0) = false := bne_eq_false_iff_eq.mpr c33
            clear c33
            (first | rw [c33b0] | (simp only [i64_w, i32_w]; rw [c33b0]) | skip)
            replace H := Option.bind_eq_some_iff.mp H
            obtain ⟨⟨t210, t211, t212, t213, t214, t215⟩, A340, H⟩ := H
            replace H : (if t215 = 0 then (if (!(t210 == a0_0) || (!(t211.toList == a0_1.toList) || (!(t212.toList == a0_2.toList) || (!(t213 == a0_3) || (!(t214 == a0_4)))))) = true then (some false) else (if t209 = 0 then (if ((t206.toList == t208.toList) != (a0_0 == a1_0 && (a0_1.toList == a1_1.toList && (a0_2.toList == a1_2.toList && (a0_3 == a1_3 && (a0_4 == a1_4)))))) = true then (some false) else (chandlerylaw11_KeysBack.j1 kj3 a2)) else (chandlerylaw11_KeysBack.j1 kj3 a2))) else (some false)) = some r := H
            have A34 := Aside0.mk A340
            clear A340
            by_cases c35 : t215 = 0
            · rw [if_pos c35] at H
              have c35b0 : (t215 == 0) = true := beq_iff_eq.mpr c35
              have c35b1 : (t215 != 0) = false := bne_eq_false_iff_eq.mpr c35
              clear c35
              by_cases c36 : (!(t210 == a0_0) || (!(t211.toList == a0_1.toList) || (!(t212.toList == a0_2.toList) || (!(t213 == a0_3) || (!(t214 == a0_4)))))) = true
              · rw [if_pos c36] at H
                have c36b0 : (!(t210 == a0_0) || (!(t211.toList == a0_1.toList) || (!(t212.toList == a0_2.toList) || (!(t213 == a0_3) || (!(t214 == a0_4)))))) = true := c36
                clear c36
                obtain rfl := Option.some.inj H
                go_wp2_with (first | ((with_reducible refine gate_callee (f := 17) rfl ?_); refine goesL_ (some 44) rfl rfl Try.func17 (by kernel_rfl) rfl #[.string t206] rfl (by (try simp only [List.map_toArray, List.map_cons, List.map_nil]); first | done | rfl | (simp only [List.length_drop, List.length_take]; rfl)) ?_; (with_reducible refine (keys_Parse.calls kj3 t206 t210 t211 t212 t213 t214 t215 _ A34.out).mono ?_); rintro e w37 ⟨rfl, hb⟩; refine ⟨_, rfl, ?_⟩; have n0_ := Aside0.mk (blk_below (g := gb202) (o := .cells #[.int .i64 a0_0, .string a0_1, .string a0_2, .int .i64 a0_3, .int .i64 a0_4] 23 (0, 0)) (by (with_reducible repeat (first | refine blk_drewN ?_ _ | refine blk_drew ?_ | refine blk_alloc ?_ _)); exact BK202.out) hb); have n1_ := Aside0.mk (blk_below (g := gb203) (o := .cells #[.int .i64 a1_0, .string a1_1, .string a1_2, .int .i64 a1_3, .int .i64 a1_4] 23 (0, 0)) (by (with_reducible repeat (first | refine blk_drewN ?_ _ | refine blk_drew ?_ | refine blk_alloc ?_ _)); exact BK203.out) hb); have n2_ := Aside0.mk (below_step (by repeat (first | (with_reducible first | exact HB.out | apply below_alloc | apply pw_below_drewN | apply below_drew1 | refine below_set ?_ GE202.out | refine below_set ?_ GE203.out) | exact HB.out)) hb); clear BK202; clear BK203; clear HB; have BK202 := n0_; have BK203 := n1_; have HB := n2_; clear n0_ n1_ n2_; (try clear hb); (try clear hb2); (try clear hk); (try clear hi)) | ((with_reducible refine gate_dst (N := 11) rfl ?_); (try (refine gate_guard (by rfl) ?_; dsimp only)); refine box_event ?hg (N := 11) ?hd (cs := #[.int .i64 0, .string (⟨#[]⟩ : ByteArray), .string (⟨#[]⟩ : ByteArray), .int .i64 0, .int .i64 0]) (t := 23) ?hr ?_; (case hd => rfl); (case hg => rfl); (case hr => first | (go_simp; done) | (go_simp; rfl)); intro gb216 hg w38 hbox hb; have n0_ := Aside0.mk (blk_below (g := gb202) (o := .cells #[.int .i64 a0_0, .string a0_1, .string a0_2, .int .i64 a0_3, .int .i64 a0_4] 23 (0, 0)) (by (with_reducible repeat (first | refine blk_drewN ?_ _ | refine blk_drew ?_ | refine blk_alloc ?_ _)); exact BK202.out) hb); have n1_ := Aside0.mk (blk_below (g := gb203) (o := .cells #[.int .i64 a1_0, .string a1_1, .string a1_2, .int .i64 a1_3, .int .i64 a1_4] 23 (0, 0)) (by (with_reducible repeat (first | refine blk_drewN ?_ _ | refine blk_drew ?_ | refine blk_alloc ?_ _)); exact BK203.out) hb); have n2_ := Aside0.mk (below_step (by repeat (first | (with_reducible first | exact HB.out | apply below_alloc | apply pw_below_drewN | apply below_drew1 | refine below_set ?_ GE202.out | refine below_set ?_ GE203.out) | exact HB.out)) hb); have n3_ := Aside0.mk (hbox); have n4_ := Aside0.mk ((by rw [hg]; exact (below_size (by repeat (first | (with_reducible first | exact HB.out | apply below_alloc | apply pw_below_drewN | apply below_drew1 | refine below_set ?_ GE202.out | refine below_set ?_ GE203.out) | exact HB.out))) : w.heap.size ≤ gb216)); have n5_ := Aside0.mk ((by rw [hg]; exact (below_size (by repeat (first | (with_reducible first | exact HB.out | apply below_alloc | apply pw_below_drewN | apply below_drew1 | refine below_set ?_ GE202.out | refine below_set ?_ GE203.out) | exact HB.out))) : w.heap.size ≤ gb216)); have n6_ := Aside0.mk ((by rw [hg]; exact Nat.ne_of_lt (blk_lt (g := gb202) (o := .cells #[.int .i64 a0_0, .string a0_1, .string a0_2, .int .i64 a0_3, .int .i64 a0_4] 23 (0, 0)) (by (with_reducible repeat (first | refine blk_drewN ?_ _ | refine blk_drew ?_ | refine blk_alloc ?_ _)); exact BK202.out)) : gb202 ≠ gb216)); have n7_ := Aside0.mk ((by rw [hg]; exact Nat.ne_of_gt (blk_lt (g := gb202) (o := .cells #[.int .i64 a0_0, .string a0_1, .string a0_2, .int .i64 a0_3, .int .i64 a0_4] 23 (0, 0)) (by (with_reducible repeat (first | refine blk_drewN ?_ _ | refine blk_drew ?_ | refine blk_alloc ?_ _)); exact BK202.out)) : gb216 ≠ gb202)); have n8_ := Aside0.mk ((by rw [hg]; exact Nat.ne_of_lt (blk_lt (g := gb203) (o := .cells #[.int .i64 a1_0, .string a1_1, .string a1_2, .int .i64 a1_3, .int .i64 a1_4] 23 (0, 0)) (by (with_reducible repeat (first | refine blk_drewN ?_ _ | refine blk_drew ?_ | refine blk_alloc ?_ _)); exact BK203.out)) : gb203 ≠ gb216)); have n9_ := Aside0.mk ((by rw [hg]; exact Nat.ne_of_gt (blk_lt (g := gb203) (o := .cells #[.int .i64 a1_0, .string a1_1, .string a1_2, .int .i64 a1_3, .int .i64 a1_4] 23 (0, 0)) (by (with_reducible repeat (first | refine blk_drewN ?_ _ | refine blk_drew ?_ | refine blk_alloc ?_ _)); exact BK203.out)) : gb216 ≠ gb203)); clear BK202; clear BK203; clear HB; have BK202 := n0_; have BK203 := n1_; have HB := n2_; have BK216 := n3_; have GW216 := n4_; have GE216 := n5_; have NB202_216 := n6_; have NB216_202 := n7_; have NB203_216 := n8_; have NB216_203 := n9_; clear n0_ n1_ n2_ n3_ n4_ n5_ n6_ n7_ n8_ n9_; clear hb hbox hg; have hnb39 := NB216_202.out; have hnc39 := NB202_216.out; have hnb40 := NB216_203.out; have hnc40 := NB203_216.out; have hcz41_0 : w38.cell? ⟨gb216, 0, none⟩ = some (.int .i64 0) := (blk_cell BK216.out 0).trans rfl; have hcz41_1 : w38.cell? ⟨gb216, 1, none⟩ = some (.string (⟨#[]⟩ : ByteArray)) := (blk_cell BK216.out 1).trans rfl; have hcz41_2 : w38.cell? ⟨gb216, 2, none⟩ = some (.string (⟨#[]⟩ : ByteArray)) := (blk_cell BK216.out 2).trans rfl; have hcz41_3 : w38.cell? ⟨gb216, 3, none⟩ = some (.int .i64 0) := (blk_cell BK216.out 3).trans rfl; have hcz41_4 : w38.cell? ⟨gb216, 4, none⟩ = some (.int .i64 0) := (blk_cell BK216.out 4).trans rfl; have hfz41_0 := blk_frozen BK216.out 0; have hfz41_1 := blk_frozen BK216.out 1; have hfz41_2 := blk_frozen BK216.out 2; have hfz41_3 := blk_frozen BK216.out 3; have hfz41_4 := blk_frozen BK216.out 4; have hnb42 := NB202_203.out; have hnc42 := NB203_202.out; have hcz43_0 : w38.cell? ⟨gb202, 0, none⟩ = some (.int .i64 a0_0) := (blk_cell BK202.out 0).trans rfl; have hcz43_1 : w38.cell? ⟨gb202, 1, none⟩ = some (.string a0_1) := (blk_cell BK202.out 1).trans rfl; have hcz43_2 : w38.cell? ⟨gb202, 2, none⟩ = some (.string a0_2) := (blk_cell BK202.out 2).trans rfl; have hcz43_3 : w38.cell? ⟨gb202, 3, none⟩ = some (.int .i64 a0_3) := (blk_cell BK202.out 3).trans rfl; have hcz43_4 : w38.cell? ⟨gb202, 4, none⟩ = some (.int .i64 a0_4) := (blk_cell BK202.out 4).trans rfl; have hfz43_0 := blk_frozen BK202.out 0; have hfz43_1 := blk_frozen BK202.out 1; have hfz43_2 := blk_frozen BK202.out 2; have hfz43_3 := blk_frozen BK202.out 3; have hfz43_4 := blk_frozen BK202.out 4))
                go_ret
                exact ⟨by first | rfl | (simp [errW_none, errW_some] <;> rfl) | (simp [*, errW_none, errW_some] <;> rfl), by repeat (first | (with_reducible first | exact HB.out | apply below_alloc | apply pw_below_drewN | apply below_drew1 | refine below_set ?_ GE202.out | refine below_set ?_ GE203.out | refine below_set ?_ GE216.out) | exact HB.out)⟩
              · rw [if_neg c36] at H
                have c36b0 : (!(t210 == a0_0) || (!(t211.toList == a0_1.toList) || (!(t212.toList == a0_2.toList) || (!(t213 == a0_3) || (!(t214 == a0_4)))))) = false := by simpa using c36
                clear c36
                by_cases c44 : t209 = 0
                · rw [if_pos c44] at H
                  have c44b0 : (t209 == 0) = true := beq_iff_eq.mpr c44
                  have c44b1 : (t209 != 0) = false := bne_eq_false_iff_eq.mpr c44
                  clear c44
                  by_cases c45 : ((t206.toList == t208.toList) != (a0_0 == a1_0 && (a0_1.toList == a1_1.toList && (a0_2.toList == a1_2.toList && (a0_3 == a1_3 && (a0_4 == a1_4)))))) = true
                  · rw [if_pos c45] at H
                    have c45b0 : ((t206.toList == t208.toList) != (a0_0 == a1_0 && (a0_1.toList == a1_1.toList && (a0_2.toList == a1_2.toList && (a0_3 == a1_3 && (a0_4 == a1_4)))))) = true := c45
                    (try (have c45b1 : decide ((t206.toList == t208.toList) = (a0_0 == a1_0 && (a0_1.toList == a1_1.toList && (a0_2.toList == a1_2.toList && (a0_3 == a1_3 && (a0_4 == a1_4)))))) = false := by simpa using c45))
                    (try (have c45b2 : ((t206.toList == t208.toList) == (a0_0 == a1_0 && (a0_1.toList == a1_1.toList && (a0_2.toList == a1_2.toList && (a0_3 == a1_3 && (a0_4 == a1_4)))))) = false := by simpa using c45))
                    (try (have c45b3 : ¬ ((t206.toList == t208.toList) = (a0_0 == a1_0 && (a0_1.toList == a1_1.toList && (a0_2.toList == a1_2.toList && (a0_3 == a1_3 && (a0_4 == a1_4)))))) := by simpa using c45))
                    clear c45
                    obtain rfl := Option.some.inj H
                    go_wp2_with (first | ((with_reducible refine gate_callee (f := 17) rfl ?_); refine goesL_ (some 44) rfl rfl Try.func17 (by kernel_rfl) rfl #[.string t206] rfl (by (try simp only [List.map_toArray, List.map_cons, List.map_nil]); first | done | rfl | (simp only [List.length_drop, List.length_take]; rfl)) ?_; (with_reducible refine (keys_Parse.calls kj3 t206 t210 t211 t212 t213 t214 t215 _ A34.out).mono ?_); rintro e w46 ⟨rfl, hb⟩; refine ⟨_, rfl, ?_⟩; have n0_ := Aside0.mk (blk_below (g := gb202) (o := .cells #[.int .i64 a0_0, .string a0_1, .string a0_2, .int .i64 a0_3, .int .i64 a0_4] 23 (0, 0)) (by (with_reducible repeat (first | refine blk_drewN ?_ _ | refine blk_drew ?_ | refine blk_alloc ?_ _)); exact BK202.out) hb); have n1_ := Aside0.mk (blk_below (g := gb203) (o := .cells #[.int .i64 a1_0, .string a1_1, .string a1_2, .int .i64 a1_3, .int .i64 a1_4] 23 (0, 0)) (by (with_reducible repeat (first | refine blk_drewN ?_ _ | refine blk_drew ?_ | refine blk_alloc ?_ _)); exact BK203.out) hb); have n2_ := Aside0.mk (below_step (by repeat (first | (with_reducible first | exact HB.out | apply below_alloc | apply pw_below_drewN | apply below_drew1 | refine below_set ?_ GE202.out | refine below_set ?_ GE203.out) | exact HB.out)) hb); clear BK202; clear BK203; clear HB; have BK202 := n0_; have BK203 := n1_; have HB := n2_; clear n0_ n1_ n2_; (try clear hb); (try clear hb2); (try clear hk); (try clear hi)) | ((with_reducible refine gate_dst (N := 11) rfl ?_); (try (refine gate_guard (by rfl) ?_; dsimp only)); refine box_event ?hg (N := 11) ?hd (cs := #[.int .i64 0, .string (⟨#[]⟩ : ByteArray), .string (⟨#[]⟩ : ByteArray), .int .i64 0, .int .i64 0]) (t := 23) ?hr ?_; (case hd => rfl); (case hg => rfl); (case hr => first | (go_simp; done) | (go_simp; rfl)); intro gb216 hg w47 hbox hb; have n0_ := Aside0.mk (blk_below (g := gb202) (o := .cells #[.int .i64 a0_0, .string a0_1, .string a0_2, .int .i64 a0_3, .int .i64 a0_4] 23 (0, 0)) (by (with_reducible repeat (first | refine blk_drewN ?_ _ | refine blk_drew ?_ | refine blk_alloc ?_ _)); exact BK202.out) hb); have n1_ := Aside0.mk (blk_below (g := gb203) (o := .cells #[.int .i64 a1_0, .string a1_1, .string a1_2, .int .i64 a1_3, .int .i64 a1_4] 23 (0, 0)) (by (with_reducible repeat (first | refine blk_drewN ?_ _ | refine blk_drew ?_ | refine blk_alloc ?_ _)); exact BK203.out) hb); have n2_ := Aside0.mk (below_step (by repeat (first | (with_reducible first | exact HB.out | apply below_alloc | apply pw_below_drewN | apply below_drew1 | refine below_set ?_ GE202.out | refine below_set ?_ GE203.out) | exact HB.out)) hb); have n3_ := Aside0.mk (hbox); have n4_ := Aside0.mk ((by rw [hg]; exact (below_size (by repeat (first | (with_reducible first | exact HB.out | apply below_alloc | apply pw_below_drewN | apply below_drew1 | refine below_set ?_ GE202.out | refine below_set ?_ GE203.out) | exact HB.out))) : w.heap.size ≤ gb216)); have n5_ := Aside0.mk ((by rw [hg]; exact (below_size (by repeat (first | (with_reducible first | exact HB.out | apply below_alloc | apply pw_below_drewN | apply below_drew1 | refine below_set ?_ GE202.out | refine below_set ?_ GE203.out) | exact HB.out))) : w.heap.size ≤ gb216)); have n6_ := Aside0.mk ((by rw [hg]; exact Nat.ne_of_lt (blk_lt (g := gb202) (o := .cells #[.int .i64 a0_0, .string a0_1, .string a0_2, .int .i64 a0_3, .int .i64 a0_4] 23 (0, 0)) (by (with_reducible repeat (first | refine blk_drewN ?_ _ | refine blk_drew ?_ | refine blk_alloc ?_ _)); exact BK202.out)) : gb202 ≠ gb216)); have n7_ := Aside0.mk ((by rw [hg]; exact Nat.ne_of_gt (blk_lt (g := gb202) (o := .cells #[.int .i64 a0_0, .string a0_1, .string a0_2, .int .i64 a0_3, .int .i64 a0_4] 23 (0, 0)) (by (with_reducible repeat (first | refine blk_drewN ?_ _ | refine blk_drew ?_ | refine blk_alloc ?_ _)); exact BK202.out)) : gb216 ≠ gb202)); have n8_ := Aside0.mk ((by rw [hg]; exact Nat.ne_of_lt (blk_lt (g := gb203) (o := .cells #[.int .i64 a1_0, .string a1_1, .string a1_2, .int .i64 a1_3, .int .i64 a1_4] 23 (0, 0)) (by (with_reducible repeat (first | refine blk_drewN ?_ _ | refine blk_drew ?_ | refine blk_alloc ?_ _)); exact BK203.out)) : gb203 ≠ gb216)); have n9_ := Aside0.mk ((by rw [hg]; exact Nat.ne_of_gt (blk_lt (g := gb203) (o := .cells #[.int .i64 a1_0, .string a1_1, .string a1_2, .int .i64 a1_3, .int .i64 a1_4] 23 (0, 0)) (by (with_reducible repeat (first | refine blk_drewN ?_ _ | refine blk_drew ?_ | refine blk_alloc ?_ _)); exact BK203.out)) : gb216 ≠ gb203)); clear BK202; clear BK203; clear HB; have BK202 := n0_; have BK203 := n1_; have HB := n2_; have BK216 := n3_; have GW216 := n4_; have GE216 := n5_; have NB202_216 := n6_; have NB216_202 := n7_; have NB203_216 := n8_; have NB216_203 := n9_; clear n0_ n1_ n2_ n3_ n4_ n5_ n6_ n7_ n8_ n9_; clear hb hbox hg; have hnb48 := NB216_202.out; have hnc48 := NB202_216.out; have hnb49 := NB216_203.out; have hnc49 := NB203_216.out; have hcz50_0 : w47.cell? ⟨gb216, 0, none⟩ = some (.int .i64 0) := (blk_cell BK216.out 0).trans rfl; have hcz50_1 : w47.cell? ⟨gb216, 1, none⟩ = some (.string (⟨#[]⟩ : ByteArray)) := (blk_cell BK216.out 1).trans rfl; have hcz50_2 : w47.cell? ⟨gb216, 2, none⟩ = some (.string (⟨#[]⟩ : ByteArray)) := (blk_cell BK216.out 2).trans rfl; have hcz50_3 : w47.cell? ⟨gb216, 3, none⟩ = some (.int .i64 0) := (blk_cell BK216.out 3).trans rfl; have hcz50_4 : w47.cell? ⟨gb216, 4, none⟩ = some (.int .i64 0) := (blk_cell BK216.out 4).trans rfl; have hfz50_0 := blk_frozen BK216.out 0; have hfz50_1 := blk_frozen BK216.out 1; have hfz50_2 := blk_frozen BK216.out 2; have hfz50_3 := blk_frozen BK216.out 3; have hfz50_4 := blk_frozen BK216.out 4; have hnb51 := NB202_203.out; have hnc51 := NB203_202.out; have hcz52_0 : w47.cell? ⟨gb202, 0, none⟩ = some (.int .i64 a0_0) := (blk_cell BK202.out 0).trans rfl; have hcz52_1 : w47.cell? ⟨gb202, 1, none⟩ = some (.string a0_1) := (blk_cell BK202.out 1).trans rfl; have hcz52_2 : w47.cell? ⟨gb202, 2, none⟩ = some (.string a0_2) := (blk_cell BK202.out 2).trans rfl; have hcz52_3 : w47.cell? ⟨gb202, 3, none⟩ = some (.int .i64 a0_3) := (blk_cell BK202.out 3).trans rfl; have hcz52_4 : w47.cell? ⟨gb202, 4, none⟩ = some (.int .i64 a0_4) := (blk_cell BK202.out 4).trans rfl; have hfz52_0 := blk_frozen BK202.out 0; have hfz52_1 := blk_frozen BK202.out 1; have hfz52_2 := blk_frozen BK202.out 2; have hfz52_3 := blk_frozen BK202.out 3; have hfz52_4 := blk_frozen BK202.out 4; have hcz53_0 : w47.cell? ⟨gb203, 0, none⟩ = some (.int .i64 a1_0) := (blk_cell BK203.out 0).trans rfl; have hcz53_1 : w47.cell? ⟨gb203, 1, none⟩ = some (.string a1_1) := (blk_cell BK203.out 1).trans rfl; have hcz53_2 : w47.cell? ⟨gb203, 2, none⟩ = some (.string a1_2) := (blk_cell BK203.out 2).trans rfl; have hcz53_3 : w47.cell? ⟨gb203, 3, none⟩ = some (.int .i64 a1_3) := (blk_cell BK203.out 3).trans rfl; have hcz53_4 : w47.cell? ⟨gb203, 4, none⟩ = some (.int .i64 a1_4) := (blk_cell BK203.out 4).trans rfl; have hfz53_0 := blk_frozen BK203.out 0; have hfz53_1 := blk_frozen BK203.out 1; have hfz53_2 := blk_frozen BK203.out 2; have hfz53_3 := blk_frozen BK203.out 3; have hfz53_4 := blk_frozen BK203.out 4))
                    go_ret
                    exact ⟨by first | rfl | (simp [errW_none, errW_some] <;> rfl) | (simp [*, errW_none, errW_some] <;> rfl), by repeat (first | (with_reducible first | exact HB.out | apply below_alloc | apply pw_below_drewN | apply below_drew1 | refine below_set ?_ GE202.out | refine below_set ?_ GE203.out | refine below_set ?_ GE216.out) | exact HB.out)⟩
                  · rw [if_neg c45] at H
                    have c45b0 : ((t206.toList == t208.toList) != (a0_0 == a1_0 && (a0_1.toList == a1_1.toList && (a0_2.toList == a1_2.toList && (a0_3 == a1_3 && (a0_4 == a1_4)))))) = false := by simpa using c45
                    (try (have c45b1 : decide ((t206.toList == t208.toList) = (a0_0 == a1_0 && (a0_1.toList == a1_1.toList && (a0_2.toList == a1_2.toList && (a0_3 == a1_3 && (a0_4 == a1_4)))))) = true := by simpa using c45))
                    (try (have c45b2 : ((t206.toList == t208.toList) == (a0_0 == a1_0 && (a0_1.toList == a1_1.toList && (a0_2.toList == a1_2.toList && (a0_3 == a1_3 && (a0_4 == a1_4)))))) = true := by simpa using c45))
                    clear c45
                    have H' := Aside0.mk H
                    clear H
                    go_wp2_with (first | ((with_reducible refine gate_callee (f := 17) rfl ?_); refine goesL_ (some 44) rfl rfl Try.func17 (by kernel_rfl) rfl #[.string t206] rfl (by (try simp only [List.map_toArray, List.map_cons, List.map_nil]); first | done | rfl | (simp only [List.length_drop, List.length_take]; rfl)) ?_; (with_reducible refine (keys_Parse.calls kj3 t206 t210 t211 t212 t213 t214 t215 _ A34.out).mono ?_); rintro e w54 ⟨rfl, hb⟩; refine ⟨_, rfl, ?_⟩; have n0_ := Aside0.mk (blk_below (g := gb202) (o := .cells #[.int .i64 a0_0, .string a0_1, .string a0_2, .int .i64 a0_3, .int .i64 a0_4] 23 (0, 0)) (by (with_reducible repeat (first | refine blk_drewN ?_ _ | refine blk_drew ?_ | refine blk_alloc ?_ _)); exact BK202.out) hb); have n1_ := Aside0.mk (blk_below (g := gb203) (o := .cells #[.int .i64 a1_0, .string a1_1, .string a1_2, .int .i64 a1_3, .int .i64 a1_4] 23 (0, 0)) (by (with_reducible repeat (first | refine blk_drewN ?_ _ | refine blk_drew ?_ | refine blk_alloc ?_ _)); exact BK203.out) hb); have n2_ := Aside0.mk (below_step (by repeat (first | (with_reducible first | exact HB.out | apply below_alloc | apply pw_below_drewN | apply below_drew1 | refine below_set ?_ GE202.out | refine below_set ?_ GE203.out) | exact HB.out)) hb); clear BK202; clear BK203; clear HB; have BK202 := n0_; have BK203 := n1_; have HB := n2_; clear n0_ n1_ n2_; (try clear hb); (try clear hb2); (try clear hk); (try clear hi)) | ((with_reducible refine gate_dst (N := 11) rfl ?_); (try (refine gate_guard (by rfl) ?_; dsimp only)); refine box_event ?hg (N := 11) ?hd (cs := #[.int .i64 0, .string (⟨#[]⟩ : ByteArray), .string (⟨#[]⟩ : ByteArray), .int .i64 0, .int .i64 0]) (t := 23) ?hr ?_; (case hd => rfl); (case hg => rfl); (case hr => first | (go_simp; done) | (go_simp; rfl)); intro gb216 hg w55 hbox hb; have n0_ := Aside0.mk (blk_below (g := gb202) (o := .cells #[.int .i64 a0_0, .string a0_1, .string a0_2, .int .i64 a0_3, .int .i64 a0_4] 23 (0, 0)) (by (with_reducible repeat (first | refine blk_drewN ?_ _ | refine blk_drew ?_ | refine blk_alloc ?_ _)); exact BK202.out) hb); have n1_ := Aside0.mk (blk_below (g := gb203) (o := .cells #[.int .i64 a1_0, .string a1_1, .string a1_2, .int .i64 a1_3, .int .i64 a1_4] 23 (0, 0)) (by (with_reducible repeat (first | refine blk_drewN ?_ _ | refine blk_drew ?_ | refine blk_alloc ?_ _)); exact BK203.out) hb); have n2_ := Aside0.mk (below_step (by repeat (first | (with_reducible first | exact HB.out | apply below_alloc | apply pw_below_drewN | apply below_drew1 | refine below_set ?_ GE202.out | refine below_set ?_ GE203.out) | exact HB.out)) hb); have n3_ := Aside0.mk (hbox); have n4_ := Aside0.mk ((by rw [hg]; exact (below_size (by repeat (first | (with_reducible first | exact HB.out | apply below_alloc | apply pw_below_drewN | apply below_drew1 | refine below_set ?_ GE202.out | refine below_set ?_ GE203.out) | exact HB.out))) : w.heap.size ≤ gb216)); have n5_ := Aside0.mk ((by rw [hg]; exact (below_size (by repeat (first | (with_reducible first | exact HB.out | apply below_alloc | apply pw_below_drewN | apply below_drew1 | refine below_set ?_ GE202.out | refine below_set ?_ GE203.out) | exact HB.out))) : w.heap.size ≤ gb216)); have n6_ := Aside0.mk ((by rw [hg]; exact Nat.ne_of_lt (blk_lt (g := gb202) (o := .cells #[.int .i64 a0_0, .string a0_1, .string a0_2, .int .i64 a0_3, .int .i64 a0_4] 23 (0, 0)) (by (with_reducible repeat (first | refine blk_drewN ?_ _ | refine blk_drew ?_ | refine blk_alloc ?_ _)); exact BK202.out)) : gb202 ≠ gb216)); have n7_ := Aside0.mk ((by rw [hg]; exact Nat.ne_of_gt (blk_lt (g := gb202) (o := .cells #[.int .i64 a0_0, .string a0_1, .string a0_2, .int .i64 a0_3, .int .i64 a0_4] 23 (0, 0)) (by (with_reducible repeat (first | refine blk_drewN ?_ _ | refine blk_drew ?_ | refine blk_alloc ?_ _)); exact BK202.out)) : gb216 ≠ gb202)); have n8_ := Aside0.mk ((by rw [hg]; exact Nat.ne_of_lt (blk_lt (g := gb203) (o := .cells #[.int .i64 a1_0, .string a1_1, .string a1_2, .int .i64 a1_3, .int .i64 a1_4] 23 (0, 0)) (by (with_reducible repeat (first | refine blk_drewN ?_ _ | refine blk_drew ?_ | refine blk_alloc ?_ _)); exact BK203.out)) : gb203 ≠ gb216)); have n9_ := Aside0.mk ((by rw [hg]; exact Nat.ne_of_gt (blk_lt (g := gb203) (o := .cells #[.int .i64 a1_0, .string a1_1, .string a1_2, .int .i64 a1_3, .int .i64 a1_4] 23 (0, 0)) (by (with_reducible repeat (first | refine blk_drewN ?_ _ | refine blk_drew ?_ | refine blk_alloc ?_ _)); exact BK203.out)) : gb216 ≠ gb203)); clear BK202; clear BK203; clear HB; have BK202 := n0_; have BK203 := n1_; have HB := n2_; have BK216 := n3_; have GW216 := n4_; have GE216 := n5_; have NB202_216 := n6_; have NB216_202 := n7_; have NB203_216 := n8_; have NB216_203 := n9_; clear n0_ n1_ n2_ n3_ n4_ n5_ n6_ n7_ n8_ n9_; clear hb hbox hg; have hnb56 := NB216_202.out; have hnc56 := NB202_216.out; have hnb57 := NB216_203.out; have hnc57 := NB203_216.out; have hcz58_0 : w55.cell? ⟨gb216, 0, none⟩ = some (.int .i64 0) := (blk_cell BK216.out 0).trans rfl; have hcz58_1 : w55.cell? ⟨gb216, 1, none⟩ = some (.string (⟨#[]⟩ : ByteArray)) := (blk_cell BK216.out 1).trans rfl; have hcz58_2 : w55.cell? ⟨gb216, 2, none⟩ = some (.string (⟨#[]⟩ : ByteArray)) := (blk_cell BK216.out 2).trans rfl; have hcz58_3 : w55.cell? ⟨gb216, 3, none⟩ = some (.int .i64 0) := (blk_cell BK216.out 3).trans rfl; have hcz58_4 : w55.cell? ⟨gb216, 4, none⟩ = some (.int .i64 0) := (blk_cell BK216.out 4).trans rfl; have hfz58_0 := blk_frozen BK216.out 0; have hfz58_1 := blk_frozen BK216.out 1; have hfz58_2 := blk_frozen BK216.out 2; have hfz58_3 := blk_frozen BK216.out 3; have hfz58_4 := blk_frozen BK216.out 4; have hnb59 := NB202_203.out; have hnc59 := NB203_202.out; have hcz60_0 : w55.cell? ⟨gb202, 0, none⟩ = some (.int .i64 a0_0) := (blk_cell BK202.out 0).trans rfl; have hcz60_1 : w55.cell? ⟨gb202, 1, none⟩ = some (.string a0_1) := (blk_cell BK202.out 1).trans rfl; have hcz60_2 : w55.cell? ⟨gb202, 2, none⟩ = some (.string a0_2) := (blk_cell BK202.out 2).trans rfl; have hcz60_3 : w55.cell? ⟨gb202, 3, none⟩ = some (.int .i64 a0_3) := (blk_cell BK202.out 3).trans rfl; have hcz60_4 : w55.cell? ⟨gb202, 4, none⟩ = some (.int .i64 a0_4) := (blk_cell BK202.out 4).trans rfl; have hfz60_0 := blk_frozen BK202.out 0; have hfz60_1 := blk_frozen BK202.out 1; have hfz60_2 := blk_frozen BK202.out 2; have hfz60_3 := blk_frozen BK202.out 3; have hfz60_4 := blk_frozen BK202.out 4; have hcz61_0 : w55.cell? ⟨gb203, 0, none⟩ = some (.int .i64 a1_0) := (blk_cell BK203.out 0).trans rfl; have hcz61_1 : w55.cell? ⟨gb203, 1, none⟩ = some (.string a1_1) := (blk_cell BK203.out 1).trans rfl; have hcz61_2 : w55.cell? ⟨gb203, 2, none⟩ = some (.string a1_2) := (blk_cell BK203.out 2).trans rfl; have hcz61_3 : w55.cell? ⟨gb203, 3, none⟩ = some (.int .i64 a1_3) := (blk_cell BK203.out 3).trans rfl; have hcz61_4 : w55.cell? ⟨gb203, 4, none⟩ = some (.int .i64 a1_4) := (blk_cell BK203.out 4).trans rfl; have hfz61_0 := blk_frozen BK203.out 0; have hfz61_1 := blk_frozen BK203.out 1; have hfz61_2 := blk_frozen BK203.out 2; have hfz61_3 := blk_frozen BK203.out 3; have hfz61_4 := blk_frozen BK203.out 4))
                    go_meet
                    case rel => exact ⟨_, H', ⟨by have := HJ3.out; first | omega | exact Nat.le_refl _⟩, ⟨by (with_reducible repeat (first | refine blk_drewN ?_ _ | refine blk_drew ?_ | refine blk_alloc ?_ _)); refine blk_far ?_ NB202_216.out _; (with_reducible repeat (first | refine blk_drewN ?_ _ | refine blk_drew ?_ | refine blk_alloc ?_ _)); refine blk_far ?_ NB202_216.out _; (with_reducible repeat (first | refine blk_drewN ?_ _ | refine blk_drew ?_ | refine blk_alloc ?_ _)); refine blk_far ?_ NB202_216.out _; (with_reducible repeat (first | refine blk_drewN ?_ _ | refine blk_drew ?_ | refine blk_alloc ?_ _)); refine blk_far ?_ NB202_216.out _; (with_reducible repeat (first | refine blk_drewN ?_ _ | refine blk_drew ?_ | refine blk_alloc ?_ _)); refine blk_far ?_ NB202_216.out _; (with_reducible repeat (first | refine blk_drewN ?_ _ | refine blk_drew ?_ | refine blk_alloc ?_ _)); exact BK202.out⟩, ⟨by (with_reducible repeat (first | refine blk_drewN ?_ _ | refine blk_drew ?_ | refine blk_alloc ?_ _)); refine blk_far ?_ NB203_216.out _; (with_reducible repeat (first | refine blk_drewN ?_ _ | refine blk_drew ?_ | refine blk_alloc ?_ _)); refine blk_far ?_ NB203_216.out _; (with_reducible repeat (first | refine blk_drewN ?_ _ | refine blk_drew ?_ | refine blk_alloc ?_ _)); refine blk_far ?_ NB203_216.out _; (with_reducible repeat (first | refine blk_drewN ?_ _ | refine blk_drew ?_ | refine blk_alloc ?_ _)); refine blk_far ?_ NB203_216.out _; (with_reducible repeat (first | refine blk_drewN ?_ _ | refine blk_drew ?_ | refine blk_alloc ?_ _)); refine blk_far ?_ NB203_216.out _; (with_reducible repeat (first | refine blk_drewN ?_ _ | refine blk_drew ?_ | refine blk_alloc ?_ _)); exact BK203.out⟩, ⟨by repeat (first | (with_reducible first | exact HB.out | apply below_alloc | apply pw_below_drewN | apply below_drew1 | refine below_set ?_ GE202.out | refine below_set ?_ GE203.out | refine below_set ?_ GE216.out) | exact HB.out)⟩⟩
                · rw [if_neg c44] at H
                  have c44b0 : (t209 == 0) = false := beq_eq_false_iff_ne.mpr c44
                  have c44b1 : (t209 != 0) = true := bne_iff_ne.mpr c44
                  have H' := Aside0.mk H
                  clear H
                  go_wp2_with (first | ((with_reducible refine gate_callee (f := 17) rfl ?_); refine goesL_ (some 44) rfl rfl Try.func17 (by kernel_rfl) rfl #[.string t206] rfl (by (try simp only [List.map_toArray, List.map_cons, List.map_nil]); first | done | rfl | (simp only [List.length_drop, List.length_take]; rfl)) ?_; (with_reducible refine (keys_Parse.calls kj3 t206 t210 t211 t212 t213 t214 t215 _ A34.out).mono ?_); rintro e w62 ⟨rfl, hb⟩; refine ⟨_, rfl, ?_⟩; have n0_ := Aside0.mk (blk_below (g := gb202) (o := .cells #[.int .i64 a0_0, .string a0_1, .string a0_2, .int .i64 a0_3, .int .i64 a0_4] 23 (0, 0)) (by (with_reducible repeat (first | refine blk_drewN ?_ _ | refine blk_drew ?_ | refine blk_alloc ?_ _)); exact BK202.out) hb); have n1_ := Aside0.mk (blk_below (g := gb203) (o := .cells #[.int .i64 a1_0, .string a1_1, .string a1_2, .int .i64 a1_3, .int .i64 a1_4] 23 (0, 0)) (by (with_reducible repeat (first | refine blk_drewN ?_ _ | refine blk_drew ?_ | refine blk_alloc ?_ _)); exact BK203.out) hb); have n2_ := Aside0.mk (below_step (by repeat (first | (with_reducible first | exact HB.out | apply below_alloc | apply pw_below_drewN | apply below_drew1 | refine below_set ?_ GE202.out | refine below_set ?_ GE203.out) | exact HB.out)) hb); clear BK202; clear BK203; clear HB; have BK202 := n0_; have BK203 := n1_; have HB := n2_; clear n0_ n1_ n2_; (try clear hb); (try clear hb2); (try clear hk); (try clear hi)) | ((with_reducible refine gate_dst (N := 11) rfl ?_); (try (refine gate_guard (by rfl) ?_; dsimp only)); refine box_event ?hg (N := 11) ?hd (cs := #[.int .i64 0, .string (⟨#[]⟩ : ByteArray), .string (⟨#[]⟩ : ByteArray), .int .i64 0, .int .i64 0]) (t := 23) ?hr ?_; (case hd => rfl); (case hg => rfl); (case hr => first | (go_simp; done) | (go_simp; rfl)); intro gb216 hg w63 hbox hb; have n0_ := Aside0.mk (blk_below (g := gb202) (o := .cells #[.int .i64 a0_0, .string a0_1, .string a0_2, .int .i64 a0_3, .int .i64 a0_4] 23 (0, 0)) (by (with_reducible repeat (first | refine blk_drewN ?_ _ | refine blk_drew ?_ | refine blk_alloc ?_ _)); exact BK202.out) hb); have n1_ := Aside0.mk (blk_below (g := gb203) (o := .cells #[.int .i64 a1_0, .string a1_1, .string a1_2, .int .i64 a1_3, .int .i64 a1_4] 23 (0, 0)) (by (with_reducible repeat (first | refine blk_drewN ?_ _ | refine blk_drew ?_ | refine blk_alloc ?_ _)); exact BK203.out) hb); have n2_ := Aside0.mk (below_step (by repeat (first | (with_reducible first | exact HB.out | apply below_alloc | apply pw_below_drewN | apply below_drew1 | refine below_set ?_ GE202.out | refine below_set ?_ GE203.out) | exact HB.out)) hb); have n3_ := Aside0.mk (hbox); have n4_ := Aside0.mk ((by rw [hg]; exact (below_size (by repeat (first | (with_reducible first | exact HB.out | apply below_alloc | apply pw_below_drewN | apply below_drew1 | refine below_set ?_ GE202.out | refine below_set ?_ GE203.out) | exact HB.out))) : w.heap.size ≤ gb216)); have n5_ := Aside0.mk ((by rw [hg]; exact (below_size (by repeat (first | (with_reducible first | exact HB.out | apply below_alloc | apply pw_below_drewN | apply below_drew1 | refine below_set ?_ GE202.out | refine below_set ?_ GE203.out) | exact HB.out))) : w.heap.size ≤ gb216)); have n6_ := Aside0.mk ((by rw [hg]; exact Nat.ne_of_lt (blk_lt (g := gb202) (o := .cells #[.int .i64 a0_0, .string a0_1, .string a0_2, .int .i64 a0_3, .int .i64 a0_4] 23 (0, 0)) (by (with_reducible repeat (first | refine blk_drewN ?_ _ | refine blk_drew ?_ | refine blk_alloc ?_ _)); exact BK202.out)) : gb202 ≠ gb216)); have n7_ := Aside0.mk ((by rw [hg]; exact Nat.ne_of_gt (blk_lt (g := gb202) (o := .cells #[.int .i64 a0_0, .string a0_1, .string a0_2, .int .i64 a0_3, .int .i64 a0_4] 23 (0, 0)) (by (with_reducible repeat (first | refine blk_drewN ?_ _ | refine blk_drew ?_ | refine blk_alloc ?_ _)); exact BK202.out)) : gb216 ≠ gb202)); have n8_ := Aside0.mk ((by rw [hg]; exact Nat.ne_of_lt (blk_lt (g := gb203) (o := .cells #[.int .i64 a1_0, .string a1_1, .string a1_2, .int .i64 a1_3, .int .i64 a1_4] 23 (0, 0)) (by (with_reducible repeat (first | refine blk_drewN ?_ _ | refine blk_drew ?_ | refine blk_alloc ?_ _)); exact BK203.out)) : gb203 ≠ gb216)); have n9_ := Aside0.mk ((by rw [hg]; exact Nat.ne_of_gt (blk_lt (g := gb203) (o := .cells #[.int .i64 a1_0, .string a1_1, .string a1_2, .int .i64 a1_3, .int .i64 a1_4] 23 (0, 0)) (by (with_reducible repeat (first | refine blk_drewN ?_ _ | refine blk_drew ?_ | refine blk_alloc ?_ _)); exact BK203.out)) : gb216 ≠ gb203)); clear BK202; clear BK203; clear HB; have BK202 := n0_; have BK203 := n1_; have HB := n2_; have BK216 := n3_; have GW216 := n4_; have GE216 := n5_; have NB202_216 := n6_; have NB216_202 := n7_; have NB203_216 := n8_; have NB216_203 := n9_; clear n0_ n1_ n2_ n3_ n4_ n5_ n6_ n7_ n8_ n9_; clear hb hbox hg; have hnb64 := NB216_202.out; have hnc64 := NB202_216.out; have hnb65 := NB216_203.out; have hnc65 := NB203_216.out; have hcz66_0 : w63.cell? ⟨gb216, 0, none⟩ = some (.int .i64 0) := (blk_cell BK216.out 0).trans rfl; have hcz66_1 : w63.cell? ⟨gb216, 1, none⟩ = some (.string (⟨#[]⟩ : ByteArray)) := (blk_cell BK216.out 1).trans rfl; have hcz66_2 : w63.cell? ⟨gb216, 2, none⟩ = some (.string (⟨#[]⟩ : ByteArray)) := (blk_cell BK216.out 2).trans rfl; have hcz66_3 : w63.cell? ⟨gb216, 3, none⟩ = some (.int .i64 0) := (blk_cell BK216.out 3).trans rfl; have hcz66_4 : w63.cell? ⟨gb216, 4, none⟩ = some (.int .i64 0) := (blk_cell BK216.out 4).trans rfl; have hfz66_0 := blk_frozen BK216.out 0; have hfz66_1 := blk_frozen BK216.out 1; have hfz66_2 := blk_frozen BK216.out 2; have hfz66_3 := blk_frozen BK216.out 3; have hfz66_4 := blk_frozen BK216.out 4; have hnb67 := NB202_203.out; have hnc67 := NB203_202.out; have hcz68_0 : w63.cell? ⟨gb202, 0, none⟩ = some (.int .i64 a0_0) := (blk_cell BK202.out 0).trans rfl; have hcz68_1 : w63.cell? ⟨gb202, 1, none⟩ = some (.string a0_1) := (blk_cell BK202.out 1).trans rfl; have hcz68_2 : w63.cell? ⟨gb202, 2, none⟩ = some (.string a0_2) := (blk_cell BK202.out 2).trans rfl; have hcz68_3 : w63.cell? ⟨gb202, 3, none⟩ = some (.int .i64 a0_3) := (blk_cell BK202.out 3).trans rfl; have hcz68_4 : w63.cell? ⟨gb202, 4, none⟩ = some (.int .i64 a0_4) := (blk_cell BK202.out 4).trans rfl; have hfz68_0 := blk_frozen BK202.out 0; have hfz68_1 := blk_frozen BK202.out 1; have hfz68_2 := blk_frozen BK202.out 2; have hfz68_3 := blk_frozen BK202.out 3; have hfz68_4 := blk_frozen BK202.out 4))
                  go_meet
                  case rel => exact ⟨_, H', ⟨by have := HJ3.out; first | omega | exact Nat.le_refl _⟩, ⟨by (with_reducible repeat (first | refine blk_drewN ?_ _ | refine blk_drew ?_ | refine blk_alloc ?_ _)); refine blk_far ?_ NB202_216.out _; (with_reducible repeat (first | refine blk_drewN ?_ _ | refine blk_drew ?_ | refine blk_alloc ?_ _)); refine blk_far ?_ NB202_216.out _; (with_reducible repeat (first | refine blk_drewN ?_ _ | refine blk_drew ?_ | refine blk_alloc ?_ _)); refine blk_far ?_ NB202_216.out _; (with_reducible repeat (first | refine blk_drewN ?_ _ | refine blk_drew ?_ | refine blk_alloc ?_ _)); refine blk_far ?_ NB202_216.out _; (with_reducible repeat (first | refine blk_drewN ?_ _ | refine blk_drew ?_ | refine blk_alloc ?_ _)); refine blk_far ?_ NB202_216.out _; (with_reducible repeat (first | refine blk_drewN ?_ _ | refine blk_drew ?_ | refine blk_alloc ?_ _)); exact BK202.out⟩, ⟨by (with_reducible repeat (first | refine blk_drewN ?_ _ | refine blk_drew ?_ | refine blk_alloc ?_ _)); refine blk_far ?_ NB203_216.out _; (with_reducible repeat (first | refine blk_drewN ?_ _ | refine blk_drew ?_ | refine blk_alloc ?_ _)); refine blk_far ?_ NB203_216.out _; (with_reducible repeat (first | refine blk_drewN ?_ _ | refine blk_drew ?_ | refine blk_alloc ?_ _)); refine blk_far ?_ NB203_216.out _; (with_reducible repeat (first | refine blk_drewN ?_ _ | refine blk_drew ?_ | refine blk_alloc ?_ _)); refine blk_far ?_ NB203_216.out _; (with_reducible repeat (first | refine blk_drewN ?_ _ | refine blk_drew ?_ | refine blk_alloc ?_ _)); refine blk_far ?_ NB203_216.out _; (with_reducible repeat (first | refine blk_drewN ?_ _ | refine blk_drew ?_ | refine blk_alloc ?_ _)); exact BK203.out⟩, ⟨by repeat (first | (with_reducible first | exact HB.out | apply below_alloc | apply pw_below_drewN | apply below_drew1 | refine below_set ?_ GE202.out | refine below_set ?_ GE203.out | refine below_set ?_ GE216.out) | exact HB.out)⟩⟩
            · rw [if_neg c35] at H
              have c35b0 : (t215 == 0) = false := beq_eq_false_iff_ne.mpr c35
              have c35b1 : (t215 != 0) = true := bne_iff_ne.mpr c35
              obtain rfl := Option.some.inj H
              go_wp2_with (first | ((with_reducible refine gate_callee (f := 17) rfl ?_); refine goesL_ (some 44) rfl rfl Try.func17 (by kernel_rfl) rfl #[.string t206] rfl (by (try simp only [List.map_toArray, List.map_cons, List.map_nil]); first | done | rfl | (simp only [List.length_drop, List.length_take]; rfl)) ?_; (with_reducible refine (keys_Parse.calls kj3 t206 t210 t211 t212 t213 t214 t215 _ A34.out).mono ?_); rintro e w69 ⟨rfl, hb⟩; refine ⟨_, rfl, ?_⟩; have n0_ := Aside0.mk (blk_below (g := gb202) (o := .cells #[.int .i64 a0_0, .string a0_1, .string a0_2, .int .i64 a0_3, .int .i64 a0_4] 23 (0, 0)) (by (with_reducible repeat (first | refine blk_drewN ?_ _ | refine blk_drew ?_ | refine blk_alloc ?_ _)); exact BK202.out) hb); have n1_ := Aside0.mk (blk_below (g := gb203) (o := .cells #[.int .i64 a1_0, .string a1_1, .string a1_2, .int .i64 a1_3, .int .i64 a1_4] 23 (0, 0)) (by (with_reducible repeat (first | refine blk_drewN ?_ _ | refine blk_drew ?_ | refine blk_alloc ?_ _)); exact BK203.out) hb); have n2_ := Aside0.mk (below_step (by repeat (first | (with_reducible first | exact HB.out | apply below_alloc | apply pw_below_drewN | apply below_drew1 | refine below_set ?_ GE202.out | refine below_set ?_ GE203.out) | exact HB.out)) hb); clear BK202; clear BK203; clear HB; have BK202 := n0_; have BK203 := n1_; have HB := n2_; clear n0_ n1_ n2_; (try clear hb); (try clear hb2); (try clear hk); (try clear hi)) | ((with_reducible refine gate_dst (N := 11) rfl ?_); (try (refine gate_guard (by rfl) ?_; dsimp only)); refine box_event ?hg (N := 11) ?hd (cs := #[.int .i64 0, .string (⟨#[]⟩ : ByteArray), .string (⟨#[]⟩ : ByteArray), .int .i64 0, .int .i64 0]) (t := 23) ?hr ?_; (case hd => rfl); (case hg => rfl); (case hr => first | (go_simp; done) | (go_simp; rfl)); intro gb216 hg w70 hbox hb; have n0_ := Aside0.mk (blk_below (g := gb202) (o := .cells #[.int .i64 a0_0, .string a0_1, .string a0_2, .int .i64 a0_3, .int .i64 a0_4] 23 (0, 0)) (by (with_reducible repeat (first | refine blk_drewN ?_ _ | refine blk_drew ?_ | refine blk_alloc ?_ _)); exact BK202.out) hb); have n1_ := Aside0.mk (blk_below (g := gb203) (o := .cells #[.int .i64 a1_0, .string a1_1, .string a1_2, .int .i64 a1_3, .int .i64 a1_4] 23 (0, 0)) (by (with_reducible repeat (first | refine blk_drewN ?_ _ | refine blk_drew ?_ | refine blk_alloc ?_ _)); exact BK203.out) hb); have n2_ := Aside0.mk (below_step (by repeat (first | (with_reducible first | exact HB.out | apply below_alloc | apply pw_below_drewN | apply below_drew1 | refine below_set ?_ GE202.out | refine below_set ?_ GE203.out) | exact HB.out)) hb); have n3_ := Aside0.mk (hbox); have n4_ := Aside0.mk ((by rw [hg]; exact (below_size (by repeat (first | (with_reducible first | exact HB.out | apply below_alloc | apply pw_below_drewN | apply below_drew1 | refine below_set ?_ GE202.out | refine below_set ?_ GE203.out) | exact HB.out))) : w.heap.size ≤ gb216)); have n5_ := Aside0.mk ((by rw [hg]; exact (below_size (by repeat (first | (with_reducible first | exact HB.out | apply below_alloc | apply pw_below_drewN | apply below_drew1 | refine below_set ?_ GE202.out | refine below_set ?_ GE203.out) | exact HB.out))) : w.heap.size ≤ gb216)); have n6_ := Aside0.mk ((by rw [hg]; exact Nat.ne_of_lt (blk_lt (g := gb202) (o := .cells #[.int .i64 a0_0, .string a0_1, .string a0_2, .int .i64 a0_3, .int .i64 a0_4] 23 (0, 0)) (by (with_reducible repeat (first | refine blk_drewN ?_ _ | refine blk_drew ?_ | refine blk_alloc ?_ _)); exact BK202.out)) : gb202 ≠ gb216)); have n7_ := Aside0.mk ((by rw [hg]; exact Nat.ne_of_gt (blk_lt (g := gb202) (o := .cells #[.int .i64 a0_0, .string a0_1, .string a0_2, .int .i64 a0_3, .int .i64 a0_4] 23 (0, 0)) (by (with_reducible repeat (first | refine blk_drewN ?_ _ | refine blk_drew ?_ | refine blk_alloc ?_ _)); exact BK202.out)) : gb216 ≠ gb202)); have n8_ := Aside0.mk ((by rw [hg]; exact Nat.ne_of_lt (blk_lt (g := gb203) (o := .cells #[.int .i64 a1_0, .string a1_1, .string a1_2, .int .i64 a1_3, .int .i64 a1_4] 23 (0, 0)) (by (with_reducible repeat (first | refine blk_drewN ?_ _ | refine blk_drew ?_ | refine blk_alloc ?_ _)); exact BK203.out)) : gb203 ≠ gb216)); have n9_ := Aside0.mk ((by rw [hg]; exact Nat.ne_of_gt (blk_lt (g := gb203) (o := .cells #[.int .i64 a1_0, .string a1_1, .string a1_2, .int .i64 a1_3, .int .i64 a1_4] 23 (0, 0)) (by (with_reducible repeat (first | refine blk_drewN ?_ _ | refine blk_drew ?_ | refine blk_alloc ?_ _)); exact BK203.out)) : gb216 ≠ gb203)); clear BK202; clear BK203; clear HB; have BK202 := n0_; have BK203 := n1_; have HB := n2_; have BK216 := n3_; have GW216 := n4_; have GE216 := n5_; have NB202_216 := n6_; have NB216_202 := n7_; have NB203_216 := n8_; have NB216_203 := n9_; clear n0_ n1_ n2_ n3_ n4_ n5_ n6_ n7_ n8_ n9_; clear hb hbox hg; have hnb71 := NB216_202.out; have hnc71 := NB202_216.out; have hnb72 := NB216_203.out; have hnc72 := NB203_216.out; have hcz73_0 : w70.cell? ⟨gb216, 0, none⟩ = some (.int .i64 0) := (blk_cell BK216.out 0).trans rfl; have hcz73_1 : w70.cell? ⟨gb216, 1, none⟩ = some (.string (⟨#[]⟩ : ByteArray)) := (blk_cell BK216.out 1).trans rfl; have hcz73_2 : w70.cell? ⟨gb216, 2, none⟩ = some (.string (⟨#[]⟩ : ByteArray)) := (blk_cell BK216.out 2).trans rfl; have hcz73_3 : w70.cell? ⟨gb216, 3, none⟩ = some (.int .i64 0) := (blk_cell BK216.out 3).trans rfl; have hcz73_4 : w70.cell? ⟨gb216, 4, none⟩ = some (.int .i64 0) := (blk_cell BK216.out 4).trans rfl; have hfz73_0 := blk_frozen BK216.out 0; have hfz73_1 := blk_frozen BK216.out 1; have hfz73_2 := blk_frozen BK216.out 2; have hfz73_3 := blk_frozen BK216.out 3; have hfz73_4 := blk_frozen BK216.out 4))
              go_ret
              exact ⟨by first | rfl | (simp [errW_none, errW_some] <;> rfl) | (simp [*, errW_none, errW_some] <;> rfl), by repeat (first | (with_reducible first | exact HB.out | apply below_alloc | apply pw_below_drewN | apply below_drew1 | refine below_set ?_ GE202.out | refine below_set ?_ GE203.out | refine below_set ?_ GE216.out) | exact HB.out)⟩
          · rw [if_neg c33] at H
            have c33b0 : (t207 == 0) = false := beq_eq_false_iff_ne.mpr c33
            have c33b1 : (t207 != 0) = true := bne_iff_ne.mpr c33
            (first | rw [c33b0] | (simp only [i64_w, i32_w]; rw [c33b0]) | skip)
            have H' := Aside0.mk H
            clear H
            go_wp2
            go_meet
            case rel => exact ⟨_, H', ⟨by have := HJ3.out; first | omega | exact Nat.le_refl _⟩, ⟨by (with_reducible repeat (first | refine blk_drewN ?_ _ | refine blk_drew ?_ | refine blk_alloc ?_ _)); exact BK202.out⟩, ⟨by (with_reducible repeat (first | refine blk_drewN ?_ _ | refine blk_drew ?_ | refine blk_alloc ?_ _)); exact BK203.out⟩, ⟨by repeat (first | (with_reducible first | exact HB.out | apply below_alloc | apply pw_below_drewN | apply below_drew1 | refine below_set ?_ GE202.out | refine below_set ?_ GE203.out) | exact HB.out)⟩⟩
        case rest =>
          clear HC27
          try clear c1
          try clear c2
          try clear p2
          try clear c3
          try clear c4
          try clear c5
          try clear c6
          try clear c7
          try clear c8
          try clear c9
          try clear c10
          try clear c11
          try clear c16
          try clear c17
          try clear c21
          try clear c24
          try clear c28
          try clear c33
          try clear c33b0
          try clear c33b1
          try clear c35
          try clear c35b0
          try clear c35b1
          try clear c36
          try clear c36b0
          try clear c39
          try clear c40
          try clear c42
          try clear c44
          try clear c44b0
          try clear c44b1
          try clear c45
          try clear c45b0
          try clear c45b1
          try clear c45b2
          try clear c48
          try clear c49
          try clear c51
          try clear c56
          try clear c57
          try clear c59
          try clear c64
          try clear c65
          try clear c67
          try clear c71
          try clear c72
          try clear hcz12_0
          try clear hcz12_1
          try clear hcz12_2
          try clear hcz12_3
          try clear hcz12_4
          try clear hcz14_0
          try clear hcz14_1
          try clear hcz14_2
          try clear hcz14_3
          try clear hcz14_4
          try clear hcz17_0
          try clear hcz17_1
          try clear hcz17_2
          try clear hcz17_3
          try clear hcz17_4
          try clear hcz19_0
          try clear hcz19_1
          try clear hcz19_2
          try clear hcz19_3
          try clear hcz19_4
          try clear hcz22_0
          try clear hcz22_1
          try clear hcz22_2
          try clear hcz22_3
          try clear hcz22_4
          try clear hcz29_0
          try clear hcz29_1
          try clear hcz29_2
          try clear hcz29_3
          try clear hcz29_4
          try clear hcz31_0
          try clear hcz31_1
          try clear hcz31_2
          try clear hcz31_3
          try clear hcz31_4
          try clear hcz41_0
          try clear hcz41_1
          try clear hcz41_2
          try clear hcz41_3
          try clear hcz41_4
          try clear hcz43_0
          try clear hcz43_1
          try clear hcz43_2
          try clear hcz43_3
          try clear hcz43_4
          try clear hcz50_0
          try clear hcz50_1
          try clear hcz50_2
          try clear hcz50_3
          try clear hcz50_4
          try clear hcz52_0
          try clear hcz52_1
          try clear hcz52_2
          try clear hcz52_3
          try clear hcz52_4
          try clear hcz53_0
          try clear hcz53_1
          try clear hcz53_2
          try clear hcz53_3
          try clear hcz53_4
          try clear hcz58_0
          try clear hcz58_1
          try clear hcz58_2
          try clear hcz58_3
          try clear hcz58_4
          try clear hcz60_0
          try clear hcz60_1
          try clear hcz60_2
          try clear hcz60_3
          try clear hcz60_4
          try clear hcz61_0
          try clear hcz61_1
          try clear hcz61_2
          try clear hcz61_3
          try clear hcz61_4
          try clear hcz66_0
          try clear hcz66_1
          try clear hcz66_2
          try clear hcz66_3
          try clear hcz66_4
          try clear hcz68_0
          try clear hcz68_1
          try clear hcz68_2
          try clear hcz68_3
          try clear hcz68_4
          try clear hcz73_0
          try clear hcz73_1
          try clear hcz73_2
          try clear hcz73_3
          try clear hcz73_4
          try clear hfz12_0
          try clear hfz12_1
          try clear hfz12_2
          try clear hfz12_3
          try clear hfz12_4
          try clear hfz14_0
          try clear hfz14_1
          try clear hfz14_2
          try clear hfz14_3
          try clear hfz14_4
          try clear hfz17_0
          try clear hfz17_1
          try clear hfz17_2
          try clear hfz17_3
          try clear hfz17_4
          try clear hfz19_0
          try clear hfz19_1
          try clear hfz19_2
          try clear hfz19_3
          try clear hfz19_4
          try clear hfz22_0
          try clear hfz22_1
          try clear hfz22_2
          try clear hfz22_3
          try clear hfz22_4
          try clear hfz29_0
          try clear hfz29_1
          try clear hfz29_2
          try clear hfz29_3
          try clear hfz29_4
          try clear hfz31_0
          try clear hfz31_1
          try clear hfz31_2
          try clear hfz31_3
          try clear hfz31_4
          try clear hfz41_0
          try clear hfz41_1
          try clear hfz41_2
          try clear hfz41_3
          try clear hfz41_4
          try clear hfz43_0
          try clear hfz43_1
          try clear hfz43_2
          try clear hfz43_3
          try clear hfz43_4
          try clear hfz50_0
          try clear hfz50_1
          try clear hfz50_2
          try clear hfz50_3
          try clear hfz50_4
          try clear hfz52_0
          try clear hfz52_1
          try clear hfz52_2
          try clear hfz52_3
          try clear hfz52_4
          try clear hfz53_0
          try clear hfz53_1
          try clear hfz53_2
          try clear hfz53_3
          try clear hfz53_4
          try clear hfz58_0
          try clear hfz58_1
          try clear hfz58_2
          try clear hfz58_3
          try clear hfz58_4
          try clear hfz60_0
          try clear hfz60_1
          try clear hfz60_2
          try clear hfz60_3
          try clear hfz60_4
          try clear hfz61_0
          try clear hfz61_1
          try clear hfz61_2
          try clear hfz61_3
          try clear hfz61_4
          try clear hfz66_0
          try clear hfz66_1
          try clear hfz66_2
          try clear hfz66_3
          try clear hfz66_4
          try clear hfz68_0
          try clear hfz68_1
          try clear hfz68_2
          try clear hfz68_3
          try clear hfz68_4
          try clear hfz73_0
          try clear hfz73_1
          try clear hfz73_2
          try clear hfz73_3
          try clear hfz73_4
          try clear p2
          obtain ⟨kq, HA, HJ26, BK202, BK203, HB⟩ := hcut
          cases kq with
          | zero => exact absurd HA.out (by simp [chandlerylaw11_KeysBack.j1])
          | succ kj26 =>
            have H := HA.out
            clear HA
            simp only [chandlerylaw11_KeysBack.j1] at H
            replace H := Option.bind_eq_some_iff.mp H
            obtain ⟨⟨t217, t218, t219, t220, t221, t222⟩, A740, H⟩ := H
            replace H : (if t222 = 0 then ((keys_Bytes.f kj26 t217 t218 t219 t220 t221).bind fun bt224 => ((chandlerylaw11_awake.f kj26).bind fun t226 => (if t226 = true then (if bt224.2 = 0 then (some (bt224.1.toList == a2.toList)) else (some false)) else (some false)))) else ((chandlerylaw11_awake.f kj26).bind fun t227 => (some t227))) = some r := H
            have A74 := Aside0.mk A740
            clear A740
            by_cases c75 : t222 = 0
            · rw [if_pos c75] at H
              have c75b0 : (t222 == 0) = true := beq_iff_eq.mpr c75
              have c75b1 : (t222 != 0) = false := bne_eq_false_iff_eq.mpr c75
              clear c75
              replace H := Option.bind_eq_some_iff.mp H
              obtain ⟨⟨t224, t225⟩, A760, H⟩ := H
              replace H : ((chandlerylaw11_awake.f kj26).bind fun t226 => (if t226 = true then (if t225 = 0 then (some (t224.toList == a2.toList)) else (some false)) else (some false))) = some r := H
              have A76 := Aside0.mk A760
              clear A760
              replace H := Option.bind_eq_some_iff.mp H
              obtain ⟨t226, A770, H⟩ := H
              replace H : (if t226 = true then (if t225 = 0 then (some (t224.toList == a2.toList)) else (some false)) else (some false)) = some r := H
              have A77 := Aside0.mk A770
              clear A770
              by_cases c78 : t226 = true
              · subst c78
                have H1 : (if t225 = 0 then (some (t224.toList == a2.toList)) else (some false)) = some r := by rw [if_pos rfl] at H; exact H
                clear H
                have H := H1
                clear H1
                by_cases c79 : t225 = 0
                · rw [if_pos c79] at H
                  have c79b0 : (t225 == 0) = true := beq_iff_eq.mpr c79
                  have c79b1 : (t225 != 0) = false := bne_eq_false_iff_eq.mpr c79
                  clear c79
                  obtain rfl := Option.some.inj H
                  go_wp2_with (first | ((with_reducible refine gate_callee (f := 17) rfl ?_); refine goesL_ (some 69) rfl rfl Try.func17 (by kernel_rfl) rfl #[.string a2] rfl (by (try simp only [List.map_toArray, List.map_cons, List.map_nil]); first | done | rfl | (simp only [List.length_drop, List.length_take]; rfl)) ?_; (with_reducible refine (keys_Parse.calls kj26 a2 t217 t218 t219 t220 t221 t222 _ A74.out).mono ?_); rintro e w80 ⟨rfl, hb⟩; refine ⟨_, rfl, ?_⟩; have n0_ := Aside0.mk (blk_below (g := gb202) (o := .cells #[.int .i64 a0_0, .string a0_1, .string a0_2, .int .i64 a0_3, .int .i64 a0_4] 23 (0, 0)) (by (with_reducible repeat (first | refine blk_drewN ?_ _ | refine blk_drew ?_ | refine blk_alloc ?_ _)); exact BK202.out) hb); have n1_ := Aside0.mk (blk_below (g := gb203) (o := .cells #[.int .i64 a1_0, .string a1_1, .string a1_2, .int .i64 a1_3, .int .i64 a1_4] 23 (0, 0)) (by (with_reducible repeat (first | refine blk_drewN ?_ _ | refine blk_drew ?_ | refine blk_alloc ?_ _)); exact BK203.out) hb); have n2_ := Aside0.mk (below_step (by repeat (first | (with_reducible first | exact HB.out | apply below_alloc | apply pw_below_drewN | apply below_drew1 | refine below_set ?_ GE202.out | refine below_set ?_ GE203.out) | exact HB.out)) hb); clear BK202; clear BK203; clear HB; have BK202 := n0_; have BK203 := n1_; have HB := n2_; clear n0_ n1_ n2_; (try clear hb); (try clear hb2); (try clear hk); (try clear hi)) | ((with_reducible refine gate_dst (N := 13) rfl ?_); (try (refine gate_guard (by rfl) ?_; dsimp only)); refine box_event ?hg (N := 13) ?hd (cs := #[.int .i64 0, .string (⟨#[]⟩ : ByteArray), .string (⟨#[]⟩ : ByteArray), .int .i64 0, .int .i64 0]) (t := 23) ?hr ?_; (case hd => rfl); (case hg => rfl); (case hr => first | (go_simp; done) | (go_simp; rfl)); intro gb223 hg w81 hbox hb; have n0_ := Aside0.mk (blk_below (g := gb202) (o := .cells #[.int .i64 a0_0, .string a0_1, .string a0_2, .int .i64 a0_3, .int .i64 a0_4] 23 (0, 0)) (by (with_reducible repeat (first | refine blk_drewN ?_ _ | refine blk_drew ?_ | refine blk_alloc ?_ _)); exact BK202.out) hb); have n1_ := Aside0.mk (blk_below (g := gb203) (o := .cells #[.int .i64 a1_0, .string a1_1, .string a1_2, .int .i64 a1_3, .int .i64 a1_4] 23 (0, 0)) (by (with_reducible repeat (first | refine blk_drewN ?_ _ | refine blk_drew ?_ | refine blk_alloc ?_ _)); exact BK203.out) hb); have n2_ := Aside0.mk (below_step (by repeat (first | (with_reducible first | exact HB.out | apply below_alloc | apply pw_below_drewN | apply below_drew1 | refine below_set ?_ GE202.out | refine below_set ?_ GE203.out) | exact HB.out)) hb); have n3_ := Aside0.mk (hbox); have n4_ := Aside0.mk ((by rw [hg]; exact (below_size (by repeat (first | (with_reducible first | exact HB.out | apply below_alloc | apply pw_below_drewN | apply below_drew1 | refine below_set ?_ GE202.out | refine below_set ?_ GE203.out) | exact HB.out))) : w.heap.size ≤ gb223)); have n5_ := Aside0.mk ((by rw [hg]; exact (below_size (by repeat (first | (with_reducible first | exact HB.out | apply below_alloc | apply pw_below_drewN | apply below_drew1 | refine below_set ?_ GE202.out | refine below_set ?_ GE203.out) | exact HB.out))) : w.heap.size ≤ gb223)); have n6_ := Aside0.mk ((by rw [hg]; exact Nat.ne_of_lt (blk_lt (g := gb202) (o := .cells #[.int .i64 a0_0, .string a0_1, .string a0_2, .int .i64 a0_3, .int .i64 a0_4] 23 (0, 0)) (by (with_reducible repeat (first | refine blk_drewN ?_ _ | refine blk_drew ?_ | refine blk_alloc ?_ _)); exact BK202.out)) : gb202 ≠ gb223)); have n7_ := Aside0.mk ((by rw [hg]; exact Nat.ne_of_gt (blk_lt (g := gb202) (o := .cells #[.int .i64 a0_0, .string a0_1, .string a0_2, .int .i64 a0_3, .int .i64 a0_4] 23 (0, 0)) (by (with_reducible repeat (first | refine blk_drewN ?_ _ | refine blk_drew ?_ | refine blk_alloc ?_ _)); exact BK202.out)) : gb223 ≠ gb202)); have n8_ := Aside0.mk ((by rw [hg]; exact Nat.ne_of_lt (blk_lt (g := gb203) (o := .cells #[.int .i64 a1_0, .string a1_1, .string a1_2, .int .i64 a1_3, .int .i64 a1_4] 23 (0, 0)) (by (with_reducible repeat (first | refine blk_drewN ?_ _ | refine blk_drew ?_ | refine blk_alloc ?_ _)); exact BK203.out)) : gb203 ≠ gb223)); have n9_ := Aside0.mk ((by rw [hg]; exact Nat.ne_of_gt (blk_lt (g := gb203) (o := .cells #[.int .i64 a1_0, .string a1_1, .string a1_2, .int .i64 a1_3, .int .i64 a1_4] 23 (0, 0)) (by (with_reducible repeat (first | refine blk_drewN ?_ _ | refine blk_drew ?_ | refine blk_alloc ?_ _)); exact BK203.out)) : gb223 ≠ gb203)); clear BK202; clear BK203; clear HB; have BK202 := n0_; have BK203 := n1_; have HB := n2_; have BK223 := n3_; have GW223 := n4_; have GE223 := n5_; have NB202_223 := n6_; have NB223_202 := n7_; have NB203_223 := n8_; have NB223_203 := n9_; clear n0_ n1_ n2_ n3_ n4_ n5_ n6_ n7_ n8_ n9_; clear hb hbox hg; have hnb82 := NB223_202.out; have hnc82 := NB202_223.out; have hnb83 := NB223_203.out; have hnc83 := NB203_223.out; have hcz84_0 : w81.cell? ⟨gb223, 0, none⟩ = some (.int .i64 0) := (blk_cell BK223.out 0).trans rfl; have hcz84_1 : w81.cell? ⟨gb223, 1, none⟩ = some (.string (⟨#[]⟩ : ByteArray)) := (blk_cell BK223.out 1).trans rfl; have hcz84_2 : w81.cell? ⟨gb223, 2, none⟩ = some (.string (⟨#[]⟩ : ByteArray)) := (blk_cell BK223.out 2).trans rfl; have hcz84_3 : w81.cell? ⟨gb223, 3, none⟩ = some (.int .i64 0) := (blk_cell BK223.out 3).trans rfl; have hcz84_4 : w81.cell? ⟨gb223, 4, none⟩ = some (.int .i64 0) := (blk_cell BK223.out 4).trans rfl; have hfz84_0 := blk_frozen BK223.out 0; have hfz84_1 := blk_frozen BK223.out 1; have hfz84_2 := blk_frozen BK223.out 2; have hfz84_3 := blk_frozen BK223.out 3; have hfz84_4 := blk_frozen BK223.out 4) | ((with_reducible refine gate_callee (f := 11) rfl ?_); refine goesL_ (some 77) rfl rfl Try.func11 (by kernel_rfl) rfl #[.agg #[.int .i64 t217, .string t218, .string t219, .int .i64 t220, .int .i64 t221]] rfl (by (try simp only [List.map_toArray, List.map_cons, List.map_nil]); first | done | rfl | (simp only [List.length_drop, List.length_take]; rfl)) ?_; (with_reducible refine (keys_Bytes.calls kj26 t217 t218 t219 t220 t221 t224 t225 _ A76.out).mono ?_); rintro e w85 ⟨rfl, hb⟩; refine ⟨_, rfl, ?_⟩; have n0_ := Aside0.mk (blk_below (g := gb202) (o := .cells #[.int .i64 a0_0, .string a0_1, .string a0_2, .int .i64 a0_3, .int .i64 a0_4] 23 (0, 0)) (by (with_reducible repeat (first | refine blk_drewN ?_ _ | refine blk_drew ?_ | refine blk_alloc ?_ _)); refine blk_far ?_ NB202_223.out _; (with_reducible repeat (first | refine blk_drewN ?_ _ | refine blk_drew ?_ | refine blk_alloc ?_ _)); refine blk_far ?_ NB202_223.out _; (with_reducible repeat (first | refine blk_drewN ?_ _ | refine blk_drew ?_ | refine blk_alloc ?_ _)); refine blk_far ?_ NB202_223.out _; (with_reducible repeat (first | refine blk_drewN ?_ _ | refine blk_drew ?_ | refine blk_alloc ?_ _)); refine blk_far ?_ NB202_223.out _; (with_reducible repeat (first | refine blk_drewN ?_ _ | refine blk_drew ?_ | refine blk_alloc ?_ _)); refine blk_far ?_ NB202_223.out _; (with_reducible repeat (first | refine blk_drewN ?_ _ | refine blk_drew ?_ | refine blk_alloc ?_ _)); exact BK202.out) hb); have n1_ := Aside0.mk (blk_below (g := gb203) (o := .cells #[.int .i64 a1_0, .string a1_1, .string a1_2, .int .i64 a1_3, .int .i64 a1_4] 23 (0, 0)) (by (with_reducible repeat (first | refine blk_drewN ?_ _ | refine blk_drew ?_ | refine blk_alloc ?_ _)); refine blk_far ?_ NB203_223.out _; (with_reducible repeat (first | refine blk_drewN ?_ _ | refine blk_drew ?_ | refine blk_alloc ?_ _)); refine blk_far ?_ NB203_223.out _; (with_reducible repeat (first | refine blk_drewN ?_ _ | refine blk_drew ?_ | refine blk_alloc ?_ _)); refine blk_far ?_ NB203_223.out _; (with_reducible repeat (first | refine blk_drewN ?_ _ | refine blk_drew ?_ | refine blk_alloc ?_ _)); refine blk_far ?_ NB203_223.out _; (with_reducible repeat (first | refine blk_drewN ?_ _ | refine blk_drew ?_ | refine blk_alloc ?_ _)); refine blk_far ?_ NB203_223.out _; (with_reducible repeat (first | refine blk_drewN ?_ _ | refine blk_drew ?_ | refine blk_alloc ?_ _)); exact BK203.out) hb); have n2_ := Aside0.mk (blk_below (g := gb223) (o := .cells #[.int .i64 t217, .string t218, .string t219, .int .i64 t220, .int .i64 t221] 23 (0, 0)) (by (with_reducible repeat (first | refine blk_drewN ?_ _ | refine blk_drew ?_ | refine blk_alloc ?_ _)); refine blk_put (cs := #[.int .i64 t217, .string t218, .string t219, .int .i64 t220, .int .i64 0]) ?_ 4 _ rfl; (with_reducible repeat (first | refine blk_drewN ?_ _ | refine blk_drew ?_ | refine blk_alloc ?_ _)); refine blk_put (cs := #[.int .i64 t217, .string t218, .string t219, .int .i64 0, .int .i64 0]) ?_ 3 _ rfl; (with_reducible repeat (first | refine blk_drewN ?_ _ | refine blk_drew ?_ | refine blk_alloc ?_ _)); refine blk_put (cs := #[.int .i64 t217, .string t218, .string (⟨#[]⟩ : ByteArray), .int .i64 0, .int .i64 0]) ?_ 2 _ rfl; (with_reducible repeat (first | refine blk_drewN ?_ _ | refine blk_drew ?_ | refine blk_alloc ?_ _)); refine blk_put (cs := #[.int .i64 t217, .string (⟨#[]⟩ : ByteArray), .string (⟨#[]⟩ : ByteArray), .int .i64 0, .int .i64 0]) ?_ 1 _ rfl; (with_reducible repeat (first | refine blk_drewN ?_ _ | refine blk_drew ?_ | refine blk_alloc ?_ _)); refine blk_put (cs := #[.int .i64 0, .string (⟨#[]⟩ : ByteArray), .string (⟨#[]⟩ : ByteArray), .int .i64 0, .int .i64 0]) ?_ 0 _ rfl; (with_reducible repeat (first | refine blk_drewN ?_ _ | refine blk_drew ?_ | refine blk_alloc ?_ _)); exact BK223.out) hb); have n3_ := Aside0.mk (below_step (by repeat (first | (with_reducible first | exact HB.out | apply below_alloc | apply pw_below_drewN | apply below_drew1 | refine below_set ?_ GE202.out | refine below_set ?_ GE203.out | refine below_set ?_ GE223.out) | exact HB.out)) hb); clear BK202; clear BK203; clear BK223; clear HB; have BK202 := n0_; have BK203 := n1_; have BK223 := n2_; have HB := n3_; clear n0_ n1_ n2_ n3_; (try clear hb); (try clear hb2); (try clear hk); (try clear hi)) | ((with_reducible refine gate_callee (f := 15) rfl ?_); refine goesL_ (some 80) rfl rfl Try.func15 (by kernel_rfl) rfl #[] rfl (by (try simp only [List.map_toArray, List.map_cons, List.map_nil]); first | done | rfl | (simp only [List.length_drop, List.length_take]; rfl)) ?_; (with_reducible refine (chandlerylaw11_awake.calls kj26  true _ A77.out).mono ?_); rintro e w86 ⟨rfl, hb⟩; refine ⟨_, rfl, ?_⟩; have n0_ := Aside0.mk (blk_below (g := gb202) (o := .cells #[.int .i64 a0_0, .string a0_1, .string a0_2, .int .i64 a0_3, .int .i64 a0_4] 23 (0, 0)) (by (with_reducible repeat (first | refine blk_drewN ?_ _ | refine blk_drew ?_ | refine blk_alloc ?_ _)); exact BK202.out) hb); have n1_ := Aside0.mk (blk_below (g := gb203) (o := .cells #[.int .i64 a1_0, .string a1_1, .string a1_2, .int .i64 a1_3, .int .i64 a1_4] 23 (0, 0)) (by (with_reducible repeat (first | refine blk_drewN ?_ _ | refine blk_drew ?_ | refine blk_alloc ?_ _)); exact BK203.out) hb); have n2_ := Aside0.mk (blk_below (g := gb223) (o := .cells #[.int .i64 t217, .string t218, .string t219, .int .i64 t220, .int .i64 t221] 23 (0, 0)) (by (with_reducible repeat (first | refine blk_drewN ?_ _ | refine blk_drew ?_ | refine blk_alloc ?_ _)); exact BK223.out) hb); have n3_ := Aside0.mk (below_step (by repeat (first | (with_reducible first | exact HB.out | apply below_alloc | apply pw_below_drewN | apply below_drew1 | refine below_set ?_ GE202.out | refine below_set ?_ GE203.out | refine below_set ?_ GE223.out) | exact HB.out)) hb); clear BK202; clear BK203; clear BK223; clear HB; have BK202 := n0_; have BK203 := n1_; have BK223 := n2_; have HB := n3_; clear n0_ n1_ n2_ n3_; (try clear hb); (try clear hb2); (try clear hk); (try clear hi)))
                  go_ret
                  exact ⟨by first | rfl | (simp [errW_none, errW_some] <;> rfl) | (simp [*, errW_none, errW_some] <;> rfl), by repeat (first | (with_reducible first | exact HB.out | apply below_alloc | apply pw_below_drewN | apply below_drew1 | refine below_set ?_ GE202.out | refine below_set ?_ GE203.out | refine below_set ?_ GE223.out) | exact HB.out)⟩
                · rw [if_neg c79] at H
                  have c79b0 : (t225 == 0) = false := beq_eq_false_iff_ne.mpr c79
                  have c79b1 : (t225 != 0) = true := bne_iff_ne.mpr c79
                  obtain rfl := Option.some.inj H
                  go_wp2_with (first | ((with_reducible refine gate_callee (f := 17) rfl ?_); refine goesL_ (some 69) rfl rfl Try.func17 (by kernel_rfl) rfl #[.string a2] rfl (by (try simp only [List.map_toArray, List.map_cons, List.map_nil]); first | done | rfl | (simp only [List.length_drop, List.length_take]; rfl)) ?_; (with_reducible refine (keys_Parse.calls kj26 a2 t217 t218 t219 t220 t221 t222 _ A74.out).mono ?_); rintro e w87 ⟨rfl, hb⟩; refine ⟨_, rfl, ?_⟩; have n0_ := Aside0.mk (blk_below (g := gb202) (o := .cells #[.int .i64 a0_0, .string a0_1, .string a0_2, .int .i64 a0_3, .int .i64 a0_4] 23 (0, 0)) (by (with_reducible repeat (first | refine blk_drewN ?_ _ | refine blk_drew ?_ | refine blk_alloc ?_ _)); exact BK202.out) hb); have n1_ := Aside0.mk (blk_below (g := gb203) (o := .cells #[.int .i64 a1_0, .string a1_1, .string a1_2, .int .i64 a1_3, .int .i64 a1_4] 23 (0, 0)) (by (with_reducible repeat (first | refine blk_drewN ?_ _ | refine blk_drew ?_ | refine blk_alloc ?_ _)); exact BK203.out) hb); have n2_ := Aside0.mk (below_step (by repeat (first | (with_reducible first | exact HB.out | apply below_alloc | apply pw_below_drewN | apply below_drew1 | refine below_set ?_ GE202.out | refine below_set ?_ GE203.out) | exact HB.out)) hb); clear BK202; clear BK203; clear HB; have BK202 := n0_; have BK203 := n1_; have HB := n2_; clear n0_ n1_ n2_; (try clear hb); (try clear hb2); (try clear hk); (try clear hi)) | ((with_reducible refine gate_dst (N := 13) rfl ?_); (try (refine gate_guard (by rfl) ?_; dsimp only)); refine box_event ?hg (N := 13) ?hd (cs := #[.int .i64 0, .string (⟨#[]⟩ : ByteArray), .string (⟨#[]⟩ : ByteArray), .int .i64 0, .int .i64 0]) (t := 23) ?hr ?_; (case hd => rfl); (case hg => rfl); (case hr => first | (go_simp; done) | (go_simp; rfl)); intro gb223 hg w88 hbox hb; have n0_ := Aside0.mk (blk_below (g := gb202) (o := .cells #[.int .i64 a0_0, .string a0_1, .string a0_2, .int .i64 a0_3, .int .i64 a0_4] 23 (0, 0)) (by (with_reducible repeat (first | refine blk_drewN ?_ _ | refine blk_drew ?_ | refine blk_alloc ?_ _)); exact BK202.out) hb); have n1_ := Aside0.mk (blk_below (g := gb203) (o := .cells #[.int .i64 a1_0, .string a1_1, .string a1_2, .int .i64 a1_3, .int .i64 a1_4] 23 (0, 0)) (by (with_reducible repeat (first | refine blk_drewN ?_ _ | refine blk_drew ?_ | refine blk_alloc ?_ _)); exact BK203.out) hb); have n2_ := Aside0.mk (below_step (by repeat (first | (with_reducible first | exact HB.out | apply below_alloc | apply pw_below_drewN | apply below_drew1 | refine below_set ?_ GE202.out | refine below_set ?_ GE203.out) | exact HB.out)) hb); have n3_ := Aside0.mk (hbox); have n4_ := Aside0.mk ((by rw [hg]; exact (below_size (by repeat (first | (with_reducible first | exact HB.out | apply below_alloc | apply pw_below_drewN | apply below_drew1 | refine below_set ?_ GE202.out | refine below_set ?_ GE203.out) | exact HB.out))) : w.heap.size ≤ gb223)); have n5_ := Aside0.mk ((by rw [hg]; exact (below_size (by repeat (first | (with_reducible first | exact HB.out | apply below_alloc | apply pw_below_drewN | apply below_drew1 | refine below_set ?_ GE202.out | refine below_set ?_ GE203.out) | exact HB.out))) : w.heap.size ≤ gb223)); have n6_ := Aside0.mk ((by rw [hg]; exact Nat.ne_of_lt (blk_lt (g := gb202) (o := .cells #[.int .i64 a0_0, .string a0_1, .string a0_2, .int .i64 a0_3, .int .i64 a0_4] 23 (0, 0)) (by (with_reducible repeat (first | refine blk_drewN ?_ _ | refine blk_drew ?_ | refine blk_alloc ?_ _)); exact BK202.out)) : gb202 ≠ gb223)); have n7_ := Aside0.mk ((by rw [hg]; exact Nat.ne_of_gt (blk_lt (g := gb202) (o := .cells #[.int .i64 a0_0, .string a0_1, .string a0_2, .int .i64 a0_3, .int .i64 a0_4] 23 (0, 0)) (by (with_reducible repeat (first | refine blk_drewN ?_ _ | refine blk_drew ?_ | refine blk_alloc ?_ _)); exact BK202.out)) : gb223 ≠ gb202)); have n8_ := Aside0.mk ((by rw [hg]; exact Nat.ne_of_lt (blk_lt (g := gb203) (o := .cells #[.int .i64 a1_0, .string a1_1, .string a1_2, .int .i64 a1_3, .int .i64 a1_4] 23 (0, 0)) (by (with_reducible repeat (first | refine blk_drewN ?_ _ | refine blk_drew ?_ | refine blk_alloc ?_ _)); exact BK203.out)) : gb203 ≠ gb223)); have n9_ := Aside0.mk ((by rw [hg]; exact Nat.ne_of_gt (blk_lt (g := gb203) (o := .cells #[.int .i64 a1_0, .string a1_1, .string a1_2, .int .i64 a1_3, .int .i64 a1_4] 23 (0, 0)) (by (with_reducible repeat (first | refine blk_drewN ?_ _ | refine blk_drew ?_ | refine blk_alloc ?_ _)); exact BK203.out)) : gb223 ≠ gb203)); clear BK202; clear BK203; clear HB; have BK202 := n0_; have BK203 := n1_; have HB := n2_; have BK223 := n3_; have GW223 := n4_; have GE223 := n5_; have NB202_223 := n6_; have NB223_202 := n7_; have NB203_223 := n8_; have NB223_203 := n9_; clear n0_ n1_ n2_ n3_ n4_ n5_ n6_ n7_ n8_ n9_; clear hb hbox hg; have hnb89 := NB223_202.out; have hnc89 := NB202_223.out; have hnb90 := NB223_203.out; have hnc90 := NB203_223.out; have hcz91_0 : w88.cell? ⟨gb223, 0, none⟩ = some (.int .i64 0) := (blk_cell BK223.out 0).trans rfl; have hcz91_1 : w88.cell? ⟨gb223, 1, none⟩ = some (.string (⟨#[]⟩ : ByteArray)) := (blk_cell BK223.out 1).trans rfl; have hcz91_2 : w88.cell? ⟨gb223, 2, none⟩ = some (.string (⟨#[]⟩ : ByteArray)) := (blk_cell BK223.out 2).trans rfl; have hcz91_3 : w88.cell? ⟨gb223, 3, none⟩ = some (.int .i64 0) := (blk_cell BK223.out 3).trans rfl; have hcz91_4 : w88.cell? ⟨gb223, 4, none⟩ = some (.int .i64 0) := (blk_cell BK223.out 4).trans rfl; have hfz91_0 := blk_frozen BK223.out 0; have hfz91_1 := blk_frozen BK223.out 1; have hfz91_2 := blk_frozen BK223.out 2; have hfz91_3 := blk_frozen BK223.out 3; have hfz91_4 := blk_frozen BK223.out 4) | ((with_reducible refine gate_callee (f := 11) rfl ?_); refine goesL_ (some 77) rfl rfl Try.func11 (by kernel_rfl) rfl #[.agg #[.int .i64 t217, .string t218, .string t219, .int .i64 t220, .int .i64 t221]] rfl (by (try simp only [List.map_toArray, List.map_cons, List.map_nil]); first | done | rfl | (simp only [List.length_drop, List.length_take]; rfl)) ?_; (with_reducible refine (keys_Bytes.calls kj26 t217 t218 t219 t220 t221 t224 t225 _ A76.out).mono ?_); rintro e w92 ⟨rfl, hb⟩; refine ⟨_, rfl, ?_⟩; have n0_ := Aside0.mk (blk_below (g := gb202) (o := .cells #[.int .i64 a0_0, .string a0_1, .string a0_2, .int .i64 a0_3, .int .i64 a0_4] 23 (0, 0)) (by (with_reducible repeat (first | refine blk_drewN ?_ _ | refine blk_drew ?_ | refine blk_alloc ?_ _)); refine blk_far ?_ NB202_223.out _; (with_reducible repeat (first | refine blk_drewN ?_ _ | refine blk_drew ?_ | refine blk_alloc ?_ _)); refine blk_far ?_ NB202_223.out _; (with_reducible repeat (first | refine blk_drewN ?_ _ | refine blk_drew ?_ | refine blk_alloc ?_ _)); refine blk_far ?_ NB202_223.out _; (with_reducible repeat (first | refine blk_drewN ?_ _ | refine blk_drew ?_ | refine blk_alloc ?_ _)); refine blk_far ?_ NB202_223.out _; (with_reducible repeat (first | refine blk_drewN ?_ _ | refine blk_drew ?_ | refine blk_alloc ?_ _)); refine blk_far ?_ NB202_223.out _; (with_reducible repeat (first | refine blk_drewN ?_ _ | refine blk_drew ?_ | refine blk_alloc ?_ _)); exact BK202.out) hb); have n1_ := Aside0.mk (blk_below (g := gb203) (o := .cells #[.int .i64 a1_0, .string a1_1, .string a1_2, .int .i64 a1_3, .int .i64 a1_4] 23 (0, 0)) (by (with_reducible repeat (first | refine blk_drewN ?_ _ | refine blk_drew ?_ | refine blk_alloc ?_ _)); refine blk_far ?_ NB203_223.out _; (with_reducible repeat (first | refine blk_drewN ?_ _ | refine blk_drew ?_ | refine blk_alloc ?_ _)); refine blk_far ?_ NB203_223.out _; (with_reducible repeat (first | refine blk_drewN ?_ _ | refine blk_drew ?_ | refine blk_alloc ?_ _)); refine blk_far ?_ NB203_223.out _; (with_reducible repeat (first | refine blk_drewN ?_ _ | refine blk_drew ?_ | refine blk_alloc ?_ _)); refine blk_far ?_ NB203_223.out _; (with_reducible repeat (first | refine blk_drewN ?_ _ | refine blk_drew ?_ | refine blk_alloc ?_ _)); refine blk_far ?_ NB203_223.out _; (with_reducible repeat (first | refine blk_drewN ?_ _ | refine blk_drew ?_ | refine blk_alloc ?_ _)); exact BK203.out) hb); have n2_ := Aside0.mk (blk_below (g := gb223) (o := .cells #[.int .i64 t217, .string t218, .string t219, .int .i64 t220, .int .i64 t221] 23 (0, 0)) (by (with_reducible repeat (first | refine blk_drewN ?_ _ | refine blk_drew ?_ | refine blk_alloc ?_ _)); refine blk_put (cs := #[.int .i64 t217, .string t218, .string t219, .int .i64 t220, .int .i64 0]) ?_ 4 _ rfl; (with_reducible repeat (first | refine blk_drewN ?_ _ | refine blk_drew ?_ | refine blk_alloc ?_ _)); refine blk_put (cs := #[.int .i64 t217, .string t218, .string t219, .int .i64 0, .int .i64 0]) ?_ 3 _ rfl; (with_reducible repeat (first | refine blk_drewN ?_ _ | refine blk_drew ?_ | refine blk_alloc ?_ _)); refine blk_put (cs := #[.int .i64 t217, .string t218, .string (⟨#[]⟩ : ByteArray), .int .i64 0, .int .i64 0]) ?_ 2 _ rfl; (with_reducible repeat (first | refine blk_drewN ?_ _ | refine blk_drew ?_ | refine blk_alloc ?_ _)); refine blk_put (cs := #[.int .i64 t217, .string (⟨#[]⟩ : ByteArray), .string (⟨#[]⟩ : ByteArray), .int .i64 0, .int .i64 0]) ?_ 1 _ rfl; (with_reducible repeat (first | refine blk_drewN ?_ _ | refine blk_drew ?_ | refine blk_alloc ?_ _)); refine blk_put (cs := #[.int .i64 0, .string (⟨#[]⟩ : ByteArray), .string (⟨#[]⟩ : ByteArray), .int .i64 0, .int .i64 0]) ?_ 0 _ rfl; (with_reducible repeat (first | refine blk_drewN ?_ _ | refine blk_drew ?_ | refine blk_alloc ?_ _)); exact BK223.out) hb); have n3_ := Aside0.mk (below_step (by repeat (first | (with_reducible first | exact HB.out | apply below_alloc | apply pw_below_drewN | apply below_drew1 | refine below_set ?_ GE202.out | refine below_set ?_ GE203.out | refine below_set ?_ GE223.out) | exact HB.out)) hb); clear BK202; clear BK203; clear BK223; clear HB; have BK202 := n0_; have BK203 := n1_; have BK223 := n2_; have HB := n3_; clear n0_ n1_ n2_ n3_; (try clear hb); (try clear hb2); (try clear hk); (try clear hi)) | ((with_reducible refine gate_callee (f := 15) rfl ?_); refine goesL_ (some 80) rfl rfl Try.func15 (by kernel_rfl) rfl #[] rfl (by (try simp only [List.map_toArray, List.map_cons, List.map_nil]); first | done | rfl | (simp only [List.length_drop, List.length_take]; rfl)) ?_; (with_reducible refine (chandlerylaw11_awake.calls kj26  true _ A77.out).mono ?_); rintro e w93 ⟨rfl, hb⟩; refine ⟨_, rfl, ?_⟩; have n0_ := Aside0.mk (blk_below (g := gb202) (o := .cells #[.int .i64 a0_0, .string a0_1, .string a0_2, .int .i64 a0_3, .int .i64 a0_4] 23 (0, 0)) (by (with_reducible repeat (first | refine blk_drewN ?_ _ | refine blk_drew ?_ | refine blk_alloc ?_ _)); exact BK202.out) hb); have n1_ := Aside0.mk (blk_below (g := gb203) (o := .cells #[.int .i64 a1_0, .string a1_1, .string a1_2, .int .i64 a1_3, .int .i64 a1_4] 23 (0, 0)) (by (with_reducible repeat (first | refine blk_drewN ?_ _ | refine blk_drew ?_ | refine blk_alloc ?_ _)); exact BK203.out) hb); have n2_ := Aside0.mk (blk_below (g := gb223) (o := .cells #[.int .i64 t217, .string t218, .string t219, .int .i64 t220, .int .i64 t221] 23 (0, 0)) (by (with_reducible repeat (first | refine blk_drewN ?_ _ | refine blk_drew ?_ | refine blk_alloc ?_ _)); exact BK223.out) hb); have n3_ := Aside0.mk (below_step (by repeat (first | (with_reducible first | exact HB.out | apply below_alloc | apply pw_below_drewN | apply below_drew1 | refine below_set ?_ GE202.out | refine below_set ?_ GE203.out | refine below_set ?_ GE223.out) | exact HB.out)) hb); clear BK202; clear BK203; clear BK223; clear HB; have BK202 := n0_; have BK203 := n1_; have BK223 := n2_; have HB := n3_; clear n0_ n1_ n2_ n3_; (try clear hb); (try clear hb2); (try clear hk); (try clear hi)))
                  go_ret
                  exact ⟨by first | rfl | (simp [errW_none, errW_some] <;> rfl) | (simp [*, errW_none, errW_some] <;> rfl), by repeat (first | (with_reducible first | exact HB.out | apply below_alloc | apply pw_below_drewN | apply below_drew1 | refine below_set ?_ GE202.out | refine below_set ?_ GE203.out | refine below_set ?_ GE223.out) | exact HB.out)⟩
              · replace c78 := Bool.eq_false_iff.mpr c78
                subst c78
                have H1 : (some false) = some r := by rw [if_neg (show ¬ (false = true) by decide)] at H; exact H
                clear H
                have H := H1
                clear H1
                obtain rfl := Option.some.inj H
                go_wp2_with (first | ((with_reducible refine gate_callee (f := 17) rfl ?_); refine goesL_ (some 69) rfl rfl Try.func17 (by kernel_rfl) rfl #[.string a2] rfl (by (try simp only [List.map_toArray, List.map_cons, List.map_nil]); first | done | rfl | (simp only [List.length_drop, List.length_take]; rfl)) ?_; (with_reducible refine (keys_Parse.calls kj26 a2 t217 t218 t219 t220 t221 t222 _ A74.out).mono ?_); rintro e w94 ⟨rfl, hb⟩; refine ⟨_, rfl, ?_⟩; have n0_ := Aside0.mk (blk_below (g := gb202) (o := .cells #[.int .i64 a0_0, .string a0_1, .string a0_2, .int .i64 a0_3, .int .i64 a0_4] 23 (0, 0)) (by (with_reducible repeat (first | refine blk_drewN ?_ _ | refine blk_drew ?_ | refine blk_alloc ?_ _)); exact BK202.out) hb); have n1_ := Aside0.mk (blk_below (g := gb203) (o := .cells #[.int .i64 a1_0, .string a1_1, .string a1_2, .int .i64 a1_3, .int .i64 a1_4] 23 (0, 0)) (by (with_reducible repeat (first | refine blk_drewN ?_ _ | refine blk_drew ?_ | refine blk_alloc ?_ _)); exact BK203.out) hb); have n2_ := Aside0.mk (below_step (by repeat (first | (with_reducible first | exact HB.out | apply below_alloc | apply pw_below_drewN | apply below_drew1 | refine below_set ?_ GE202.out | refine below_set ?_ GE203.out) | exact HB.out)) hb); clear BK202; clear BK203; clear HB; have BK202 := n0_; have BK203 := n1_; have HB := n2_; clear n0_ n1_ n2_; (try clear hb); (try clear hb2); (try clear hk); (try clear hi)) | ((with_reducible refine gate_dst (N := 13) rfl ?_); (try (refine gate_guard (by rfl) ?_; dsimp only)); refine box_event ?hg (N := 13) ?hd (cs := #[.int .i64 0, .string (⟨#[]⟩ : ByteArray), .string (⟨#[]⟩ : ByteArray), .int .i64 0, .int .i64 0]) (t := 23) ?hr ?_; (case hd => rfl); (case hg => rfl); (case hr => first | (go_simp; done) | (go_simp; rfl)); intro gb223 hg w95 hbox hb; have n0_ := Aside0.mk (blk_below (g := gb202) (o := .cells #[.int .i64 a0_0, .string a0_1, .string a0_2, .int .i64 a0_3, .int .i64 a0_4] 23 (0, 0)) (by (with_reducible repeat (first | refine blk_drewN ?_ _ | refine blk_drew ?_ | refine blk_alloc ?_ _)); exact BK202.out) hb); have n1_ := Aside0.mk (blk_below (g := gb203) (o := .cells #[.int .i64 a1_0, .string a1_1, .string a1_2, .int .i64 a1_3, .int .i64 a1_4] 23 (0, 0)) (by (with_reducible repeat (first | refine blk_drewN ?_ _ | refine blk_drew ?_ | refine blk_alloc ?_ _)); exact BK203.out) hb); have n2_ := Aside0.mk (below_step (by repeat (first | (with_reducible first | exact HB.out | apply below_alloc | apply pw_below_drewN | apply below_drew1 | refine below_set ?_ GE202.out | refine below_set ?_ GE203.out) | exact HB.out)) hb); have n3_ := Aside0.mk (hbox); have n4_ := Aside0.mk ((by rw [hg]; exact (below_size (by repeat (first | (with_reducible first | exact HB.out | apply below_alloc | apply pw_below_drewN | apply below_drew1 | refine below_set ?_ GE202.out | refine below_set ?_ GE203.out) | exact HB.out))) : w.heap.size ≤ gb223)); have n5_ := Aside0.mk ((by rw [hg]; exact (below_size (by repeat (first | (with_reducible first | exact HB.out | apply below_alloc | apply pw_below_drewN | apply below_drew1 | refine below_set ?_ GE202.out | refine below_set ?_ GE203.out) | exact HB.out))) : w.heap.size ≤ gb223)); have n6_ := Aside0.mk ((by rw [hg]; exact Nat.ne_of_lt (blk_lt (g := gb202) (o := .cells #[.int .i64 a0_0, .string a0_1, .string a0_2, .int .i64 a0_3, .int .i64 a0_4] 23 (0, 0)) (by (with_reducible repeat (first | refine blk_drewN ?_ _ | refine blk_drew ?_ | refine blk_alloc ?_ _)); exact BK202.out)) : gb202 ≠ gb223)); have n7_ := Aside0.mk ((by rw [hg]; exact Nat.ne_of_gt (blk_lt (g := gb202) (o := .cells #[.int .i64 a0_0, .string a0_1, .string a0_2, .int .i64 a0_3, .int .i64 a0_4] 23 (0, 0)) (by (with_reducible repeat (first | refine blk_drewN ?_ _ | refine blk_drew ?_ | refine blk_alloc ?_ _)); exact BK202.out)) : gb223 ≠ gb202)); have n8_ := Aside0.mk ((by rw [hg]; exact Nat.ne_of_lt (blk_lt (g := gb203) (o := .cells #[.int .i64 a1_0, .string a1_1, .string a1_2, .int .i64 a1_3, .int .i64 a1_4] 23 (0, 0)) (by (with_reducible repeat (first | refine blk_drewN ?_ _ | refine blk_drew ?_ | refine blk_alloc ?_ _)); exact BK203.out)) : gb203 ≠ gb223)); have n9_ := Aside0.mk ((by rw [hg]; exact Nat.ne_of_gt (blk_lt (g := gb203) (o := .cells #[.int .i64 a1_0, .string a1_1, .string a1_2, .int .i64 a1_3, .int .i64 a1_4] 23 (0, 0)) (by (with_reducible repeat (first | refine blk_drewN ?_ _ | refine blk_drew ?_ | refine blk_alloc ?_ _)); exact BK203.out)) : gb223 ≠ gb203)); clear BK202; clear BK203; clear HB; have BK202 := n0_; have BK203 := n1_; have HB := n2_; have BK223 := n3_; have GW223 := n4_; have GE223 := n5_; have NB202_223 := n6_; have NB223_202 := n7_; have NB203_223 := n8_; have NB223_203 := n9_; clear n0_ n1_ n2_ n3_ n4_ n5_ n6_ n7_ n8_ n9_; clear hb hbox hg; have hnb96 := NB223_202.out; have hnc96 := NB202_223.out; have hnb97 := NB223_203.out; have hnc97 := NB203_223.out; have hcz98_0 : w95.cell? ⟨gb223, 0, none⟩ = some (.int .i64 0) := (blk_cell BK223.out 0).trans rfl; have hcz98_1 : w95.cell? ⟨gb223, 1, none⟩ = some (.string (⟨#[]⟩ : ByteArray)) := (blk_cell BK223.out 1).trans rfl; have hcz98_2 : w95.cell? ⟨gb223, 2, none⟩ = some (.string (⟨#[]⟩ : ByteArray)) := (blk_cell BK223.out 2).trans rfl; have hcz98_3 : w95.cell? ⟨gb223, 3, none⟩ = some (.int .i64 0) := (blk_cell BK223.out 3).trans rfl; have hcz98_4 : w95.cell? ⟨gb223, 4, none⟩ = some (.int .i64 0) := (blk_cell BK223.out 4).trans rfl; have hfz98_0 := blk_frozen BK223.out 0; have hfz98_1 := blk_frozen BK223.out 1; have hfz98_2 := blk_frozen BK223.out 2; have hfz98_3 := blk_frozen BK223.out 3; have hfz98_4 := blk_frozen BK223.out 4) | ((with_reducible refine gate_callee (f := 11) rfl ?_); refine goesL_ (some 77) rfl rfl Try.func11 (by kernel_rfl) rfl #[.agg #[.int .i64 t217, .string t218, .string t219, .int .i64 t220, .int .i64 t221]] rfl (by (try simp only [List.map_toArray, List.map_cons, List.map_nil]); first | done | rfl | (simp only [List.length_drop, List.length_take]; rfl)) ?_; (with_reducible refine (keys_Bytes.calls kj26 t217 t218 t219 t220 t221 t224 t225 _ A76.out).mono ?_); rintro e w99 ⟨rfl, hb⟩; refine ⟨_, rfl, ?_⟩; have n0_ := Aside0.mk (blk_below (g := gb202) (o := .cells #[.int .i64 a0_0, .string a0_1, .string a0_2, .int .i64 a0_3, .int .i64 a0_4] 23 (0, 0)) (by (with_reducible repeat (first | refine blk_drewN ?_ _ | refine blk_drew ?_ | refine blk_alloc ?_ _)); refine blk_far ?_ NB202_223.out _; (with_reducible repeat (first | refine blk_drewN ?_ _ | refine blk_drew ?_ | refine blk_alloc ?_ _)); refine blk_far ?_ NB202_223.out _; (with_reducible repeat (first | refine blk_drewN ?_ _ | refine blk_drew ?_ | refine blk_alloc ?_ _)); refine blk_far ?_ NB202_223.out _; (with_reducible repeat (first | refine blk_drewN ?_ _ | refine blk_drew ?_ | refine blk_alloc ?_ _)); refine blk_far ?_ NB202_223.out _; (with_reducible repeat (first | refine blk_drewN ?_ _ | refine blk_drew ?_ | refine blk_alloc ?_ _)); refine blk_far ?_ NB202_223.out _; (with_reducible repeat (first | refine blk_drewN ?_ _ | refine blk_drew ?_ | refine blk_alloc ?_ _)); exact BK202.out) hb); have n1_ := Aside0.mk (blk_below (g := gb203) (o := .cells #[.int .i64 a1_0, .string a1_1, .string a1_2, .int .i64 a1_3, .int .i64 a1_4] 23 (0, 0)) (by (with_reducible repeat (first | refine blk_drewN ?_ _ | refine blk_drew ?_ | refine blk_alloc ?_ _)); refine blk_far ?_ NB203_223.out _; (with_reducible repeat (first | refine blk_drewN ?_ _ | refine blk_drew ?_ | refine blk_alloc ?_ _)); refine blk_far ?_ NB203_223.out _; (with_reducible repeat (first | refine blk_drewN ?_ _ | refine blk_drew ?_ | refine blk_alloc ?_ _)); refine blk_far ?_ NB203_223.out _; (with_reducible repeat (first | refine blk_drewN ?_ _ | refine blk_drew ?_ | refine blk_alloc ?_ _)); refine blk_far ?_ NB203_223.out _; (with_reducible repeat (first | refine blk_drewN ?_ _ | refine blk_drew ?_ | refine blk_alloc ?_ _)); refine blk_far ?_ NB203_223.out _; (with_reducible repeat (first | refine blk_drewN ?_ _ | refine blk_drew ?_ | refine blk_alloc ?_ _)); exact BK203.out) hb); have n2_ := Aside0.mk (blk_below (g := gb223) (o := .cells #[.int .i64 t217, .string t218, .string t219, .int .i64 t220, .int .i64 t221] 23 (0, 0)) (by (with_reducible repeat (first | refine blk_drewN ?_ _ | refine blk_drew ?_ | refine blk_alloc ?_ _)); refine blk_put (cs := #[.int .i64 t217, .string t218, .string t219, .int .i64 t220, .int .i64 0]) ?_ 4 _ rfl; (with_reducible repeat (first | refine blk_drewN ?_ _ | refine blk_drew ?_ | refine blk_alloc ?_ _)); refine blk_put (cs := #[.int .i64 t217, .string t218, .string t219, .int .i64 0, .int .i64 0]) ?_ 3 _ rfl; (with_reducible repeat (first | refine blk_drewN ?_ _ | refine blk_drew ?_ | refine blk_alloc ?_ _)); refine blk_put (cs := #[.int .i64 t217, .string t218, .string (⟨#[]⟩ : ByteArray), .int .i64 0, .int .i64 0]) ?_ 2 _ rfl; (with_reducible repeat (first | refine blk_drewN ?_ _ | refine blk_drew ?_ | refine blk_alloc ?_ _)); refine blk_put (cs := #[.int .i64 t217, .string (⟨#[]⟩ : ByteArray), .string (⟨#[]⟩ : ByteArray), .int .i64 0, .int .i64 0]) ?_ 1 _ rfl; (with_reducible repeat (first | refine blk_drewN ?_ _ | refine blk_drew ?_ | refine blk_alloc ?_ _)); refine blk_put (cs := #[.int .i64 0, .string (⟨#[]⟩ : ByteArray), .string (⟨#[]⟩ : ByteArray), .int .i64 0, .int .i64 0]) ?_ 0 _ rfl; (with_reducible repeat (first | refine blk_drewN ?_ _ | refine blk_drew ?_ | refine blk_alloc ?_ _)); exact BK223.out) hb); have n3_ := Aside0.mk (below_step (by repeat (first | (with_reducible first | exact HB.out | apply below_alloc | apply pw_below_drewN | apply below_drew1 | refine below_set ?_ GE202.out | refine below_set ?_ GE203.out | refine below_set ?_ GE223.out) | exact HB.out)) hb); clear BK202; clear BK203; clear BK223; clear HB; have BK202 := n0_; have BK203 := n1_; have BK223 := n2_; have HB := n3_; clear n0_ n1_ n2_ n3_; (try clear hb); (try clear hb2); (try clear hk); (try clear hi)) | ((with_reducible refine gate_callee (f := 15) rfl ?_); refine goesL_ (some 80) rfl rfl Try.func15 (by kernel_rfl) rfl #[] rfl (by (try simp only [List.map_toArray, List.map_cons, List.map_nil]); first | done | rfl | (simp only [List.length_drop, List.length_take]; rfl)) ?_; (with_reducible refine (chandlerylaw11_awake.calls kj26  false _ A77.out).mono ?_); rintro e w100 ⟨rfl, hb⟩; refine ⟨_, rfl, ?_⟩; have n0_ := Aside0.mk (blk_below (g := gb202) (o := .cells #[.int .i64 a0_0, .string a0_1, .string a0_2, .int .i64 a0_3, .int .i64 a0_4] 23 (0, 0)) (by (with_reducible repeat (first | refine blk_drewN ?_ _ | refine blk_drew ?_ | refine blk_alloc ?_ _)); exact BK202.out) hb); have n1_ := Aside0.mk (blk_below (g := gb203) (o := .cells #[.int .i64 a1_0, .string a1_1, .string a1_2, .int .i64 a1_3, .int .i64 a1_4] 23 (0, 0)) (by (with_reducible repeat (first | refine blk_drewN ?_ _ | refine blk_drew ?_ | refine blk_alloc ?_ _)); exact BK203.out) hb); have n2_ := Aside0.mk (blk_below (g := gb223) (o := .cells #[.int .i64 t217, .string t218, .string t219, .int .i64 t220, .int .i64 t221] 23 (0, 0)) (by (with_reducible repeat (first | refine blk_drewN ?_ _ | refine blk_drew ?_ | refine blk_alloc ?_ _)); exact BK223.out) hb); have n3_ := Aside0.mk (below_step (by repeat (first | (with_reducible first | exact HB.out | apply below_alloc | apply pw_below_drewN | apply below_drew1 | refine below_set ?_ GE202.out | refine below_set ?_ GE203.out | refine below_set ?_ GE223.out) | exact HB.out)) hb); clear BK202; clear BK203; clear BK223; clear HB; have BK202 := n0_; have BK203 := n1_; have BK223 := n2_; have HB := n3_; clear n0_ n1_ n2_ n3_; (try clear hb); (try clear hb2); (try clear hk); (try clear hi)))
                go_ret
                exact ⟨by first | rfl | (simp [errW_none, errW_some] <;> rfl) | (simp [*, errW_none, errW_some] <;> rfl), by repeat (first | (with_reducible first | exact HB.out | apply below_alloc | apply pw_below_drewN | apply below_drew1 | refine below_set ?_ GE202.out | refine below_set ?_ GE203.out | refine below_set ?_ GE223.out) | exact HB.out)⟩
            · rw [if_neg c75] at H
              have c75b0 : (t222 == 0) = false := beq_eq_false_iff_ne.mpr c75
              have c75b1 : (t222 != 0) = true := bne_iff_ne.mpr c75
              replace H := Option.bind_eq_some_iff.mp H
              obtain ⟨t227, A1010, H⟩ := H
              replace H : (some t227) = some r := H
              have A101 := Aside0.mk A1010
              clear A1010
              obtain rfl := Option.some.inj H
              go_wp2_with (first | ((with_reducible refine gate_callee (f := 17) rfl ?_); refine goesL_ (some 69) rfl rfl Try.func17 (by kernel_rfl) rfl #[.string a2] rfl (by (try simp only [List.map_toArray, List.map_cons, List.map_nil]); first | done | rfl | (simp only [List.length_drop, List.length_take]; rfl)) ?_; (with_reducible refine (keys_Parse.calls kj26 a2 t217 t218 t219 t220 t221 t222 _ A74.out).mono ?_); rintro e w102 ⟨rfl, hb⟩; refine ⟨_, rfl, ?_⟩; have n0_ := Aside0.mk (blk_below (g := gb202) (o := .cells #[.int .i64 a0_0, .string a0_1, .string a0_2, .int .i64 a0_3, .int .i64 a0_4] 23 (0, 0)) (by (with_reducible repeat (first | refine blk_drewN ?_ _ | refine blk_drew ?_ | refine blk_alloc ?_ _)); exact BK202.out) hb); have n1_ := Aside0.mk (blk_below (g := gb203) (o := .cells #[.int .i64 a1_0, .string a1_1, .string a1_2, .int .i64 a1_3, .int .i64 a1_4] 23 (0, 0)) (by (with_reducible repeat (first | refine blk_drewN ?_ _ | refine blk_drew ?_ | refine blk_alloc ?_ _)); exact BK203.out) hb); have n2_ := Aside0.mk (below_step (by repeat (first | (with_reducible first | exact HB.out | apply below_alloc | apply pw_below_drewN | apply below_drew1 | refine below_set ?_ GE202.out | refine below_set ?_ GE203.out) | exact HB.out)) hb); clear BK202; clear BK203; clear HB; have BK202 := n0_; have BK203 := n1_; have HB := n2_; clear n0_ n1_ n2_; (try clear hb); (try clear hb2); (try clear hk); (try clear hi)) | ((with_reducible refine gate_dst (N := 13) rfl ?_); (try (refine gate_guard (by rfl) ?_; dsimp only)); refine box_event ?hg (N := 13) ?hd (cs := #[.int .i64 0, .string (⟨#[]⟩ : ByteArray), .string (⟨#[]⟩ : ByteArray), .int .i64 0, .int .i64 0]) (t := 23) ?hr ?_; (case hd => rfl); (case hg => rfl); (case hr => first | (go_simp; done) | (go_simp; rfl)); intro gb223 hg w103 hbox hb; have n0_ := Aside0.mk (blk_below (g := gb202) (o := .cells #[.int .i64 a0_0, .string a0_1, .string a0_2, .int .i64 a0_3, .int .i64 a0_4] 23 (0, 0)) (by (with_reducible repeat (first | refine blk_drewN ?_ _ | refine blk_drew ?_ | refine blk_alloc ?_ _)); exact BK202.out) hb); have n1_ := Aside0.mk (blk_below (g := gb203) (o := .cells #[.int .i64 a1_0, .string a1_1, .string a1_2, .int .i64 a1_3, .int .i64 a1_4] 23 (0, 0)) (by (with_reducible repeat (first | refine blk_drewN ?_ _ | refine blk_drew ?_ | refine blk_alloc ?_ _)); exact BK203.out) hb); have n2_ := Aside0.mk (below_step (by repeat (first | (with_reducible first | exact HB.out | apply below_alloc | apply pw_below_drewN | apply below_drew1 | refine below_set ?_ GE202.out | refine below_set ?_ GE203.out) | exact HB.out)) hb); have n3_ := Aside0.mk (hbox); have n4_ := Aside0.mk ((by rw [hg]; exact (below_size (by repeat (first | (with_reducible first | exact HB.out | apply below_alloc | apply pw_below_drewN | apply below_drew1 | refine below_set ?_ GE202.out | refine below_set ?_ GE203.out) | exact HB.out))) : w.heap.size ≤ gb223)); have n5_ := Aside0.mk ((by rw [hg]; exact (below_size (by repeat (first | (with_reducible first | exact HB.out | apply below_alloc | apply pw_below_drewN | apply below_drew1 | refine below_set ?_ GE202.out | refine below_set ?_ GE203.out) | exact HB.out))) : w.heap.size ≤ gb223)); have n6_ := Aside0.mk ((by rw [hg]; exact Nat.ne_of_lt (blk_lt (g := gb202) (o := .cells #[.int .i64 a0_0, .string a0_1, .string a0_2, .int .i64 a0_3, .int .i64 a0_4] 23 (0, 0)) (by (with_reducible repeat (first | refine blk_drewN ?_ _ | refine blk_drew ?_ | refine blk_alloc ?_ _)); exact BK202.out)) : gb202 ≠ gb223)); have n7_ := Aside0.mk ((by rw [hg]; exact Nat.ne_of_gt (blk_lt (g := gb202) (o := .cells #[.int .i64 a0_0, .string a0_1, .string a0_2, .int .i64 a0_3, .int .i64 a0_4] 23 (0, 0)) (by (with_reducible repeat (first | refine blk_drewN ?_ _ | refine blk_drew ?_ | refine blk_alloc ?_ _)); exact BK202.out)) : gb223 ≠ gb202)); have n8_ := Aside0.mk ((by rw [hg]; exact Nat.ne_of_lt (blk_lt (g := gb203) (o := .cells #[.int .i64 a1_0, .string a1_1, .string a1_2, .int .i64 a1_3, .int .i64 a1_4] 23 (0, 0)) (by (with_reducible repeat (first | refine blk_drewN ?_ _ | refine blk_drew ?_ | refine blk_alloc ?_ _)); exact BK203.out)) : gb203 ≠ gb223)); have n9_ := Aside0.mk ((by rw [hg]; exact Nat.ne_of_gt (blk_lt (g := gb203) (o := .cells #[.int .i64 a1_0, .string a1_1, .string a1_2, .int .i64 a1_3, .int .i64 a1_4] 23 (0, 0)) (by (with_reducible repeat (first | refine blk_drewN ?_ _ | refine blk_drew ?_ | refine blk_alloc ?_ _)); exact BK203.out)) : gb223 ≠ gb203)); clear BK202; clear BK203; clear HB; have BK202 := n0_; have BK203 := n1_; have HB := n2_; have BK223 := n3_; have GW223 := n4_; have GE223 := n5_; have NB202_223 := n6_; have NB223_202 := n7_; have NB203_223 := n8_; have NB223_203 := n9_; clear n0_ n1_ n2_ n3_ n4_ n5_ n6_ n7_ n8_ n9_; clear hb hbox hg; have hnb104 := NB223_202.out; have hnc104 := NB202_223.out; have hnb105 := NB223_203.out; have hnc105 := NB203_223.out; have hcz106_0 : w103.cell? ⟨gb223, 0, none⟩ = some (.int .i64 0) := (blk_cell BK223.out 0).trans rfl; have hcz106_1 : w103.cell? ⟨gb223, 1, none⟩ = some (.string (⟨#[]⟩ : ByteArray)) := (blk_cell BK223.out 1).trans rfl; have hcz106_2 : w103.cell? ⟨gb223, 2, none⟩ = some (.string (⟨#[]⟩ : ByteArray)) := (blk_cell BK223.out 2).trans rfl; have hcz106_3 : w103.cell? ⟨gb223, 3, none⟩ = some (.int .i64 0) := (blk_cell BK223.out 3).trans rfl; have hcz106_4 : w103.cell? ⟨gb223, 4, none⟩ = some (.int .i64 0) := (blk_cell BK223.out 4).trans rfl; have hfz106_0 := blk_frozen BK223.out 0; have hfz106_1 := blk_frozen BK223.out 1; have hfz106_2 := blk_frozen BK223.out 2; have hfz106_3 := blk_frozen BK223.out 3; have hfz106_4 := blk_frozen BK223.out 4) | ((with_reducible refine gate_callee (f := 15) rfl ?_); refine goesL_ (some 74) rfl rfl Try.func15 (by kernel_rfl) rfl #[] rfl (by (try simp only [List.map_toArray, List.map_cons, List.map_nil]); first | done | rfl | (simp only [List.length_drop, List.length_take]; rfl)) ?_; (with_reducible refine (chandlerylaw11_awake.calls kj26  t227 _ A101.out).mono ?_); rintro e w107 ⟨rfl, hb⟩; refine ⟨_, rfl, ?_⟩; have n0_ := Aside0.mk (blk_below (g := gb202) (o := .cells #[.int .i64 a0_0, .string a0_1, .string a0_2, .int .i64 a0_3, .int .i64 a0_4] 23 (0, 0)) (by (with_reducible repeat (first | refine blk_drewN ?_ _ | refine blk_drew ?_ | refine blk_alloc ?_ _)); refine blk_far ?_ NB202_223.out _; (with_reducible repeat (first | refine blk_drewN ?_ _ | refine blk_drew ?_ | refine blk_alloc ?_ _)); refine blk_far ?_ NB202_223.out _; (with_reducible repeat (first | refine blk_drewN ?_ _ | refine blk_drew ?_ | refine blk_alloc ?_ _)); refine blk_far ?_ NB202_223.out _; (with_reducible repeat (first | refine blk_drewN ?_ _ | refine blk_drew ?_ | refine blk_alloc ?_ _)); refine blk_far ?_ NB202_223.out _; (with_reducible repeat (first | refine blk_drewN ?_ _ | refine blk_drew ?_ | refine blk_alloc ?_ _)); refine blk_far ?_ NB202_223.out _; (with_reducible repeat (first | refine blk_drewN ?_ _ | refine blk_drew ?_ | refine blk_alloc ?_ _)); exact BK202.out) hb); have n1_ := Aside0.mk (blk_below (g := gb203) (o := .cells #[.int .i64 a1_0, .string a1_1, .string a1_2, .int .i64 a1_3, .int .i64 a1_4] 23 (0, 0)) (by (with_reducible repeat (first | refine blk_drewN ?_ _ | refine blk_drew ?_ | refine blk_alloc ?_ _)); refine blk_far ?_ NB203_223.out _; (with_reducible repeat (first | refine blk_drewN ?_ _ | refine blk_drew ?_ | refine blk_alloc ?_ _)); refine blk_far ?_ NB203_223.out _; (with_reducible repeat (first | refine blk_drewN ?_ _ | refine blk_drew ?_ | refine blk_alloc ?_ _)); refine blk_far ?_ NB203_223.out _; (with_reducible repeat (first | refine blk_drewN ?_ _ | refine blk_drew ?_ | refine blk_alloc ?_ _)); refine blk_far ?_ NB203_223.out _; (with_reducible repeat (first | refine blk_drewN ?_ _ | refine blk_drew ?_ | refine blk_alloc ?_ _)); refine blk_far ?_ NB203_223.out _; (with_reducible repeat (first | refine blk_drewN ?_ _ | refine blk_drew ?_ | refine blk_alloc ?_ _)); exact BK203.out) hb); have n2_ := Aside0.mk (blk_below (g := gb223) (o := .cells #[.int .i64 t217, .string t218, .string t219, .int .i64 t220, .int .i64 t221] 23 (0, 0)) (by (with_reducible repeat (first | refine blk_drewN ?_ _ | refine blk_drew ?_ | refine blk_alloc ?_ _)); refine blk_put (cs := #[.int .i64 t217, .string t218, .string t219, .int .i64 t220, .int .i64 0]) ?_ 4 _ rfl; (with_reducible repeat (first | refine blk_drewN ?_ _ | refine blk_drew ?_ | refine blk_alloc ?_ _)); refine blk_put (cs := #[.int .i64 t217, .string t218, .string t219, .int .i64 0, .int .i64 0]) ?_ 3 _ rfl; (with_reducible repeat (first | refine blk_drewN ?_ _ | refine blk_drew ?_ | refine blk_alloc ?_ _)); refine blk_put (cs := #[.int .i64 t217, .string t218, .string (⟨#[]⟩ : ByteArray), .int .i64 0, .int .i64 0]) ?_ 2 _ rfl; (with_reducible repeat (first | refine blk_drewN ?_ _ | refine blk_drew ?_ | refine blk_alloc ?_ _)); refine blk_put (cs := #[.int .i64 t217, .string (⟨#[]⟩ : ByteArray), .string (⟨#[]⟩ : ByteArray), .int .i64 0, .int .i64 0]) ?_ 1 _ rfl; (with_reducible repeat (first | refine blk_drewN ?_ _ | refine blk_drew ?_ | refine blk_alloc ?_ _)); refine blk_put (cs := #[.int .i64 0, .string (⟨#[]⟩ : ByteArray), .string (⟨#[]⟩ : ByteArray), .int .i64 0, .int .i64 0]) ?_ 0 _ rfl; (with_reducible repeat (first | refine blk_drewN ?_ _ | refine blk_drew ?_ | refine blk_alloc ?_ _)); exact BK223.out) hb); have n3_ := Aside0.mk (below_step (by repeat (first | (with_reducible first | exact HB.out | apply below_alloc | apply pw_below_drewN | apply below_drew1 | refine below_set ?_ GE202.out | refine below_set ?_ GE203.out | refine below_set ?_ GE223.out) | exact HB.out)) hb); clear BK202; clear BK203; clear BK223; clear HB; have BK202 := n0_; have BK203 := n1_; have BK223 := n2_; have HB := n3_; clear n0_ n1_ n2_ n3_; (try clear hb); (try clear hb2); (try clear hk); (try clear hi)))
              go_ret
              exact ⟨by first | rfl | (simp [errW_none, errW_some] <;> rfl) | (simp [*, errW_none, errW_some] <;> rfl), by repeat (first | (with_reducible first | exact HB.out | apply below_alloc | apply pw_below_drewN | apply below_drew1 | refine below_set ?_ GE202.out | refine below_set ?_ GE203.out | refine below_set ?_ GE223.out) | exact HB.out)⟩

end Go.Proofs.Ytcohfhclcoiigaa.PKeys
