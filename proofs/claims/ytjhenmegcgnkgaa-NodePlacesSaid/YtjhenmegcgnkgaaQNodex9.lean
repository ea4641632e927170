-- printed with xprint.py over the kit's print
import Derived.Test.YtjhenmegcgnkgaaQNodex0
namespace Go.Proofs.Ytjhenmegcgnkgaa.PNode
open Go.RowKit Go.Proofs.YtjhenmegcgnkgaaW.PrintWords Go.Proofs.YtjhenmegcgnkgaaW.PrintLast Go.Proofs.YtjhenmegcgnkgaaW.PrintMore
attribute [local go_sem] max2_int min2_int max_two min_two max_three min_three max_four min_four   -- for this text's walks alone
set_option linter.unusedVariables false
set_option linter.unusedSimpArgs false

/-! ### chandleryref08_Place: function 20 -/
mutual
def chandleryref08_Place.l0 : Nat → ByteArray → Int → Bool → List (S42) → List ByteArray → List Int → Option (Int × Bool)
 | 0, _, _, _, _, _, _ => none
 | k + 1, x1, x6, x258000, x258001, x258002, x258003 => if x6 < (x258001.length : Int) then (if 0 ≤ x6 then (if (Op.bytesLess (((rd_T42 x258001 x6).f0).toList) x1.toList) = true then (chandleryref08_Place.l0 k x1 (wrap64 (x6 + 1)) x258000 x258001 x258002 x258003) else (some (x6, (((rd_T42 x258001 x6).f0).toList == x1.toList)))) else (none)) else (some (x6, false))
def chandleryref08_Place.l1 : Nat → ByteArray → Int → Bool → List (S42) → List ByteArray → List Int → Option (Int × Bool)
 | 0, _, _, _, _, _, _ => none
 | k + 1, x1, x7, x258000, x258001, x258002, x258003 => if x7 < (x258002.length : Int) then (if 0 ≤ x7 then (if ((Op.bytesLess x1.toList ((rdOf ByteArray.empty x258002 x7).toList)) = true) then (if x7 > 0 then (if 0 ≤ (wrap64 (x7 - 1)) then (if (wrap64 (x7 - 1)) < (x258002.length : Int) then (some (x7, ((rdOf ByteArray.empty x258002 (wrap64 (x7 - 1))).toList == x1.toList))) else (none)) else (none)) else (some (x7, false))) else (chandleryref08_Place.l1 k x1 (wrap64 (x7 + 1)) x258000 x258001 x258002 x258003)) else (none)) else (if x7 > 0 then (if 0 ≤ (wrap64 (x7 - 1)) then (if (wrap64 (x7 - 1)) < (x258002.length : Int) then (some (x7, ((rdOf ByteArray.empty x258002 (wrap64 (x7 - 1))).toList == x1.toList))) else (none)) else (none)) else (some (x7, false)))
end
def chandleryref08_Place.f (k : Nat) (a0_0 : Bool) (l0_1 : List (S42)) (l0_2 : List ByteArray) (l0_3 : List Int) (a1 : ByteArray) : Option (Int × Bool) := if a0_0 = true then (chandleryref08_Place.l0 k a1 0 a0_0 l0_1 l0_2 l0_3) else (chandleryref08_Place.l1 k a1 0 a0_0 l0_1 l0_2 l0_3)
theorem chandleryref08_Place.mono_l : ∀ k, (∀ y0 y1 y2 y3 y4 y5, LeO (chandleryref08_Place.l0 k y0 y1 y2 y3 y4 y5) (chandleryref08_Place.l0 (k + 1) y0 y1 y2 y3 y4 y5)) ∧ (∀ y0 y1 y2 y3 y4 y5, LeO (chandleryref08_Place.l1 k y0 y1 y2 y3 y4 y5) (chandleryref08_Place.l1 (k + 1) y0 y1 y2 y3 y4 y5))
 | 0 => ⟨fun _ _ _ _ _ _ r h => by simp [chandleryref08_Place.l0] at h, fun _ _ _ _ _ _ r h => by simp [chandleryref08_Place.l1] at h⟩
 | k + 1 => by
  obtain ⟨ih0, ih1⟩ := chandleryref08_Place.mono_l k
  refine ⟨?_, ?_⟩
  ·intro y0 y1 y2 y3 y4 y5
   unfold chandleryref08_Place.l0
   repeat' first
   | (with_reducible exact ih0 _ _ _ _ _ _)
   | (with_reducible exact ih1 _ _ _ _ _ _)
   | (with_reducible exact LeO.refl _)
   | (with_reducible exact LeO.none _)
   | (with_reducible refine LeO.ite ?_ ?_)
   | (with_reducible refine LeO.bind ?_ (fun _ => ?_))
   | exact ih0 _ _ _ _ _ _
   | exact ih1 _ _ _ _ _ _
   | exact LeO.none _
   | refine LeO.ite ?_ ?_
   | refine LeO.bind ?_ (fun _ => ?_)
  ·intro y0 y1 y2 y3 y4 y5
   unfold chandleryref08_Place.l1
   repeat' first
   | (with_reducible exact ih0 _ _ _ _ _ _)
   | (with_reducible exact ih1 _ _ _ _ _ _)
   | (with_reducible exact LeO.refl _)
   | (with_reducible exact LeO.none _)
   | (with_reducible refine LeO.ite ?_ ?_)
   | (with_reducible refine LeO.bind ?_ (fun _ => ?_))
   | exact ih0 _ _ _ _ _ _
   | exact ih1 _ _ _ _ _ _
   | exact LeO.none _
   | refine LeO.ite ?_ ?_
   | refine LeO.bind ?_ (fun _ => ?_)
theorem chandleryref08_Place.mono : ∀ a0 a1 a2 a3 a4 k, LeO (chandleryref08_Place.f k a0 a1 a2 a3 a4) (chandleryref08_Place.f (k + 1) a0 a1 a2 a3 a4) := by
 intro a0 a1 a2 a3 a4 k
 obtain ⟨ih0, ih1⟩ := chandleryref08_Place.mono_l k
 unfold chandleryref08_Place.f
 repeat' first
   | (with_reducible exact ih0 _ _ _ _ _ _)
   | (with_reducible exact ih1 _ _ _ _ _ _)
   | (with_reducible exact LeO.refl _)
   | (with_reducible exact LeO.none _)
   | (with_reducible refine LeO.ite ?_ ?_)
   | (with_reducible refine LeO.bind ?_ (fun _ => ?_))
   | exact ih0 _ _ _ _ _ _
   | exact ih1 _ _ _ _ _ _
   | exact LeO.none _
   | refine LeO.ite ?_ ?_
   | refine LeO.bind ?_ (fun _ => ?_)
set_option maxHeartbeats 8000000 in
set_option maxRecDepth 100000 in
theorem chandleryref08_Place.calls (k : Nat) (a0_0 : Bool) (A0_1 : Option Addr) (c0_1 : Nat) (l0_1 : List (S42)) (A0_2 : Option Addr) (c0_2 : Nat) (l0_2 : List ByteArray) (A0_3 : Option Addr) (c0_3 : Nat) (l0_3 : List Int) (a1 : ByteArray) (r1 : Int) (r2 : Bool) (w : World) (hr0_1 : Kd.C k42 w A0_1 l0_1.length l0_1) (hc0_1 : l0_1.length ≤ c0_1) (hr0_2 : Kd.C Kd.string w A0_2 l0_2.length l0_2) (hc0_2 : l0_2.length ≤ c0_2) (hr0_3 : Kd.C (Kd.int .i64) w A0_3 l0_3.length l0_3) (hc0_3 : l0_3.length ≤ c0_3) (h : chandleryref08_Place.f k a0_0 l0_1 l0_2 l0_3 a1 = some (r1, r2)) :
  Calls Try.prog 20 #[.agg #[.bool a0_0, .slice A0_1 l0_1.length c0_1, .slice A0_2 l0_2.length c0_2, .slice A0_3 l0_3.length c0_3], .string a1] w fun e w' => e = .returned (.tuple #[.int .i64 r1, .bool r2]) ∧ Below w.heap.size w w' := by
 have hsg_ := Go.Proofs.YtjhenmegcgnkgaaX.str_geq; have hsl_ := Go.Proofs.YtjhenmegcgnkgaaX.str_leq; have hst_ := Go.Proofs.YtjhenmegcgnkgaaX.str_gtr
 have hu26 := Try.underlying26
 have HR0_1 := Aside0.mk hr0_1
 have HC0_1 := Aside0.mk hc0_1
 clear hr0_1 hc0_1
 have HR0_2 := Aside0.mk hr0_2
 have HC0_2 := Aside0.mk hc0_2
 clear hr0_2 hc0_2
 have HR0_3 := Aside0.mk hr0_3
 have HC0_3 := Aside0.mk hc0_3
 clear hr0_3 hc0_3
 have HB := Aside0.mk (Below.refl w.heap.size w)
 have H : (if a0_0 = true then (chandleryref08_Place.l0 k a1 0 a0_0 l0_1 l0_2 l0_3) else (chandleryref08_Place.l1 k a1 0 a0_0 l0_1 l0_2 l0_3)) = some (r1, r2) := h
 clear h
 by_cases c3 : a0_0 = true
 ·subst c3
  have H1 : (chandleryref08_Place.l0 k a1 0 true l0_1 l0_2 l0_3) = some (r1, r2) := by rw [if_pos rfl] at H; exact H
  clear H
  have H := H1
  clear H1
  have H' := Aside0.mk H
  clear H
  go_enter Try.func20, Try.ntmps20
  go_wp2_with (first | ((with_reducible refine gate_dst (N := 2) rfl ?_); refine box_event ?hg (N := 2) ?hd (cs := #[.bool true, .slice A0_1 l0_1.length c0_1, .slice A0_2 l0_2.length c0_2, .slice A0_3 l0_3.length c0_3]) (t := 26) ?hr ?_; (case hd => rfl); (case hg => rfl); (case hr => first | (go_simp; done) | (go_simp; rfl)); intro gb257 hg w4 hbox hb; have n0_ := Aside0.mk (below_step (by repeat (first | (with_reducible first | exact HB.out | apply below_alloc | apply pw_below_drewN | apply below_drew1) | exact HB.out)) hb); have n1_ := Aside0.mk (hbox); have n2_ := Aside0.mk ((by rw [hg]; exact (below_size (by repeat (first | (with_reducible first | exact HB.out | apply below_alloc | apply pw_below_drewN | apply below_drew1) | exact HB.out))) : w.heap.size ≤ gb257)); have n3_ := Aside0.mk ((by rw [hg]; exact (below_size (by repeat (first | (with_reducible first | exact HB.out | apply below_alloc | apply pw_below_drewN | apply below_drew1) | exact HB.out))) : w.heap.size ≤ gb257)); clear HB; have HB := n0_; have BK257 := n1_; have GW257 := n2_; have GE257 := n3_; clear n0_ n1_ n2_ n3_; clear hb hbox hg; have hcz5_0 : w4.cell? ⟨gb257, 0, none⟩ = some (.bool true) := (blk_cell BK257.out 0).trans rfl; have hcz5_1 : w4.cell? ⟨gb257, 1, none⟩ = some (.slice A0_1 l0_1.length c0_1) := (blk_cell BK257.out 1).trans rfl; have hcz5_2 : w4.cell? ⟨gb257, 2, none⟩ = some (.slice A0_2 l0_2.length c0_2) := (blk_cell BK257.out 2).trans rfl; have hcz5_3 : w4.cell? ⟨gb257, 3, none⟩ = some (.slice A0_3 l0_3.length c0_3) := (blk_cell BK257.out 3).trans rfl; have hfz5_0 := blk_frozen BK257.out 0; have hfz5_1 := blk_frozen BK257.out 1; have hfz5_2 := blk_frozen BK257.out 2; have hfz5_3 := blk_frozen BK257.out 3))
  repeat (go_quiet (first | ((with_reducible refine gate_dst (N := 2) rfl ?_); refine box_event ?hg (N := 2) ?hd (cs := #[.bool true, .slice A0_1 l0_1.length c0_1, .slice A0_2 l0_2.length c0_2, .slice A0_3 l0_3.length c0_3]) (t := 26) ?hr ?_; (case hd => rfl); (case hg => rfl); (case hr => first | (go_simp; done) | (go_simp; rfl)); intro gb257 hg w4 hbox hb; have n0_ := Aside0.mk (below_step (by repeat (first | (with_reducible first | exact HB.out | apply below_alloc | apply pw_below_drewN | apply below_drew1) | exact HB.out)) hb); have n1_ := Aside0.mk (hbox); have n2_ := Aside0.mk ((by rw [hg]; exact (below_size (by repeat (first | (with_reducible first | exact HB.out | apply below_alloc | apply pw_below_drewN | apply below_drew1) | exact HB.out))) : w.heap.size ≤ gb257)); have n3_ := Aside0.mk ((by rw [hg]; exact (below_size (by repeat (first | (with_reducible first | exact HB.out | apply below_alloc | apply pw_below_drewN | apply below_drew1) | exact HB.out))) : w.heap.size ≤ gb257)); clear HB; have HB := n0_; have BK257 := n1_; have GW257 := n2_; have GE257 := n3_; clear n0_ n1_ n2_ n3_; clear hb hbox hg; have hcz5_0 : w4.cell? ⟨gb257, 0, none⟩ = some (.bool true) := (blk_cell BK257.out 0).trans rfl; have hcz5_1 : w4.cell? ⟨gb257, 1, none⟩ = some (.slice A0_1 l0_1.length c0_1) := (blk_cell BK257.out 1).trans rfl; have hcz5_2 : w4.cell? ⟨gb257, 2, none⟩ = some (.slice A0_2 l0_2.length c0_2) := (blk_cell BK257.out 2).trans rfl; have hcz5_3 : w4.cell? ⟨gb257, 3, none⟩ = some (.slice A0_3 l0_3.length c0_3) := (blk_cell BK257.out 3).trans rfl; have hfz5_0 := blk_frozen BK257.out 0; have hfz5_1 := blk_frozen BK257.out 1; have hfz5_2 := blk_frozen BK257.out 2; have hfz5_3 := blk_frozen BK257.out 3)); try go_wp2_with (first | ((with_reducible refine gate_dst (N := 2) rfl ?_); refine box_event ?hg (N := 2) ?hd (cs := #[.bool true, .slice A0_1 l0_1.length c0_1, .slice A0_2 l0_2.length c0_2, .slice A0_3 l0_3.length c0_3]) (t := 26) ?hr ?_; (case hd => rfl); (case hg => rfl); (case hr => first | (go_simp; done) | (go_simp; rfl)); intro gb257 hg w4 hbox hb; have n0_ := Aside0.mk (below_step (by repeat (first | (with_reducible first | exact HB.out | apply below_alloc | apply pw_below_drewN | apply below_drew1) | exact HB.out)) hb); have n1_ := Aside0.mk (hbox); have n2_ := Aside0.mk ((by rw [hg]; exact (below_size (by repeat (first | (with_reducible first | exact HB.out | apply below_alloc | apply pw_below_drewN | apply below_drew1) | exact HB.out))) : w.heap.size ≤ gb257)); have n3_ := Aside0.mk ((by rw [hg]; exact (below_size (by repeat (first | (with_reducible first | exact HB.out | apply below_alloc | apply pw_below_drewN | apply below_drew1) | exact HB.out))) : w.heap.size ≤ gb257)); clear HB; have HB := n0_; have BK257 := n1_; have GW257 := n2_; have GE257 := n3_; clear n0_ n1_ n2_ n3_; clear hb hbox hg; have hcz5_0 : w4.cell? ⟨gb257, 0, none⟩ = some (.bool true) := (blk_cell BK257.out 0).trans rfl; have hcz5_1 : w4.cell? ⟨gb257, 1, none⟩ = some (.slice A0_1 l0_1.length c0_1) := (blk_cell BK257.out 1).trans rfl; have hcz5_2 : w4.cell? ⟨gb257, 2, none⟩ = some (.slice A0_2 l0_2.length c0_2) := (blk_cell BK257.out 2).trans rfl; have hcz5_3 : w4.cell? ⟨gb257, 3, none⟩ = some (.slice A0_3 l0_3.length c0_3) := (blk_cell BK257.out 3).trans rfl; have hfz5_0 := blk_frozen BK257.out 0; have hfz5_1 := blk_frozen BK257.out 1; have hfz5_2 := blk_frozen BK257.out 2; have hfz5_3 := blk_frozen BK257.out 3)))
  go_loopg [6] k (fun kq v6 w' => ∃ (x6_1 : Int), v6 = .int .i64 x6_1 ∧ Aside0 (chandleryref08_Place.l0 kq a1 x6_1 true l0_1 l0_2 l0_3 = some (r1, r2)) ∧ Aside0 (kq ≤ k) ∧ Aside0 (w'.heap[gb257]? = some (.cells #[.bool true, (.slice A0_1 l0_1.length c0_1), (.slice A0_2 l0_2.length c0_2), (.slice A0_3 l0_3.length c0_3)] 26 (0, 0))) ∧ Aside0 (Below w.heap.size w w'))
  case atStart => exact ⟨(0), (by first | rfl | (simp; done) | exact congrArg Value.bool (Go.Proofs.YtjhenmegcgnkgaaX.isEmpty_ne_ _) | exact congrArg Value.bool (Go.Proofs.YtjhenmegcgnkgaaX.ne_isEmpty_ _) | (simp [*]; done)), H', ⟨Nat.le_refl _⟩, ⟨by (with_reducible repeat (first | refine blk_drewN ?_ _ | refine blk_drew ?_ | refine blk_alloc ?_ _)); exact BK257.out⟩, ⟨by repeat (first | (with_reducible first | exact HB.out | apply below_alloc | apply pw_below_drewN | apply below_drew1 | refine below_set ?_ GE257.out) | exact HB.out)⟩⟩
  case round =>
   clear H'
   try clear c2
   try clear p2
   try clear c3
   try clear hcz5_0
   try clear hcz5_1
   try clear hcz5_2
   try clear hcz5_3
   try clear hfz5_0
   try clear hfz5_1
   try clear hfz5_2
   try clear hfz5_3
   obtain ⟨x6_1, rfl, HA, HK1, BK257, HB⟩ := hrel
   cases gk with
   | zero => exact absurd HA.out (by simp [chandleryref08_Place.l0])
   | succ k1 =>
    have H := HA.out
    clear HA
    simp only [chandleryref08_Place.l0] at H
    by_cases c6 : x6_1 < (l0_1.length : Int)
    ·rw [if_pos c6] at H
     have c6b0 : decide (x6_1 < (l0_1.length : Int)) = true := decide_eq_true c6
     clear c6
     by_cases c7 : 0 ≤ x6_1
     ·rw [if_pos c7] at H
      have c7b0 : decide (0 ≤ x6_1) = true := decide_eq_true c7
      clear c7
      by_cases c8 : (Op.bytesLess (((rd_T42 l0_1 x6_1).f0).toList) a1.toList) = true
      ·rw [if_pos c8] at H
       have c8b0 : (Op.bytesLess (((rd_T42 l0_1 x6_1).f0).toList) a1.toList) = true := c8
       clear c8
       have H' := Aside0.mk H
       clear H
       have hcz9_0 : wr.cell? ⟨gb257, 0, none⟩ = some (.bool true) := (blk_cell BK257.out 0).trans rfl
       have hcz9_1 : wr.cell? ⟨gb257, 1, none⟩ = some (.slice A0_1 l0_1.length c0_1) := (blk_cell BK257.out 1).trans rfl
       have hcz9_2 : wr.cell? ⟨gb257, 2, none⟩ = some (.slice A0_2 l0_2.length c0_2) := (blk_cell BK257.out 2).trans rfl
       have hcz9_3 : wr.cell? ⟨gb257, 3, none⟩ = some (.slice A0_3 l0_3.length c0_3) := (blk_cell BK257.out 3).trans rfl
       have hfz9_0 := blk_frozen BK257.out 0
       have hfz9_1 := blk_frozen BK257.out 1
       have hfz9_2 := blk_frozen BK257.out 2
       have hfz9_3 := blk_frozen BK257.out 3
       have p258 : 0 ≤ (x6_1 : Int) := of_decide_eq_true (by first | (with_reducible assumption) | assumption)
       have q258 : x6_1 < (l0_1.length : Int) := of_decide_eq_true (by first | (with_reducible assumption) | assumption)
       obtain ⟨ad258, e258, hx258_0, hx258_1⟩ := at_T42 HR0_1.out x6_1 p258 q258
       cases e258
       replace hx258_0 := (HB.out.cell (World.block_lt_of_cell? w _ hx258_0)).trans hx258_0
       replace hx258_1 := (HB.out.cell (World.block_lt_of_cell? w _ hx258_1)).trans hx258_1
       replace p258 := eq_true p258
       replace q258 := eq_true q258
       go_wp2
       repeat (go_quiet (fail); try go_wp2)
       go_roundg k1
       case measure => have := HK1.out; omega
       case rel => exact ⟨(wrap64 (x6_1 + 1)), (by first | rfl | (simp; done) | exact congrArg Value.bool (Go.Proofs.YtjhenmegcgnkgaaX.isEmpty_ne_ _) | exact congrArg Value.bool (Go.Proofs.YtjhenmegcgnkgaaX.ne_isEmpty_ _) | (simp [*]; done)), H', ⟨by have := HK1.out; omega⟩, ⟨by (with_reducible repeat (first | refine blk_drewN ?_ _ | refine blk_drew ?_ | refine blk_alloc ?_ _)); exact BK257.out⟩, ⟨by repeat (first | (with_reducible first | exact HB.out | apply below_alloc | apply pw_below_drewN | apply below_drew1 | refine below_set ?_ GE257.out) | exact HB.out)⟩⟩
      ·rw [if_neg c8] at H
       have c8b0 : (Op.bytesLess (((rd_T42 l0_1 x6_1).f0).toList) a1.toList) = false := by simpa using c8
       clear c8
       simp only [Option.some.injEq, Prod.mk.injEq] at H
       obtain ⟨rfl, rfl⟩ := H
       have hcz10_0 : wr.cell? ⟨gb257, 0, none⟩ = some (.bool true) := (blk_cell BK257.out 0).trans rfl
       have hcz10_1 : wr.cell? ⟨gb257, 1, none⟩ = some (.slice A0_1 l0_1.length c0_1) := (blk_cell BK257.out 1).trans rfl
       have hcz10_2 : wr.cell? ⟨gb257, 2, none⟩ = some (.slice A0_2 l0_2.length c0_2) := (blk_cell BK257.out 2).trans rfl
       have hcz10_3 : wr.cell? ⟨gb257, 3, none⟩ = some (.slice A0_3 l0_3.length c0_3) := (blk_cell BK257.out 3).trans rfl
       have hfz10_0 := blk_frozen BK257.out 0
       have hfz10_1 := blk_frozen BK257.out 1
       have hfz10_2 := blk_frozen BK257.out 2
       have hfz10_3 := blk_frozen BK257.out 3
       have p258 : 0 ≤ (x6_1 : Int) := of_decide_eq_true (by first | (with_reducible assumption) | assumption)
       have q258 : x6_1 < (l0_1.length : Int) := of_decide_eq_true (by first | (with_reducible assumption) | assumption)
       obtain ⟨ad258, e258, hx258_0, hx258_1⟩ := at_T42 HR0_1.out x6_1 p258 q258
       cases e258
       replace hx258_0 := (HB.out.cell (World.block_lt_of_cell? w _ hx258_0)).trans hx258_0
       replace hx258_1 := (HB.out.cell (World.block_lt_of_cell? w _ hx258_1)).trans hx258_1
       replace p258 := eq_true p258
       replace q258 := eq_true q258
       have p259 : 0 ≤ (x6_1 : Int) := of_decide_eq_true (by first | (with_reducible assumption) | assumption)
       have q259 : x6_1 < (l0_1.length : Int) := of_decide_eq_true (by first | (with_reducible assumption) | assumption)
       obtain ⟨ad259, e259, hx259_0, hx259_1⟩ := at_T42 HR0_1.out x6_1 p259 q259
       obtain rfl : ad258 = ad259 := (by injection e259)
       replace hx259_0 := (HB.out.cell (World.block_lt_of_cell? w _ hx259_0)).trans hx259_0
       replace hx259_1 := (HB.out.cell (World.block_lt_of_cell? w _ hx259_1)).trans hx259_1
       replace p259 := eq_true p259
       replace q259 := eq_true q259
       go_wp2
       repeat (go_quiet (fail); try go_wp2)
       go_ret2
       exact ⟨by first | rfl | (simp [errW_none, errW_some] <;> rfl) | (simp [*, errW_none, errW_some] <;> rfl), by repeat (first | (with_reducible first | exact HB.out | apply below_alloc | apply pw_below_drewN | apply below_drew1 | refine below_set ?_ GE257.out) | exact HB.out)⟩
     ·rw [if_neg c7] at H
      exact absurd H (by simp)
    ·rw [if_neg c6] at H
     have c6b0 : decide (x6_1 < (l0_1.length : Int)) = false := decide_eq_false c6
     clear c6
     simp only [Option.some.injEq, Prod.mk.injEq] at H
     obtain ⟨rfl, rfl⟩ := H
     have hcz11_0 : wr.cell? ⟨gb257, 0, none⟩ = some (.bool true) := (blk_cell BK257.out 0).trans rfl
     have hcz11_1 : wr.cell? ⟨gb257, 1, none⟩ = some (.slice A0_1 l0_1.length c0_1) := (blk_cell BK257.out 1).trans rfl
     have hcz11_2 : wr.cell? ⟨gb257, 2, none⟩ = some (.slice A0_2 l0_2.length c0_2) := (blk_cell BK257.out 2).trans rfl
     have hcz11_3 : wr.cell? ⟨gb257, 3, none⟩ = some (.slice A0_3 l0_3.length c0_3) := (blk_cell BK257.out 3).trans rfl
     have hfz11_0 := blk_frozen BK257.out 0
     have hfz11_1 := blk_frozen BK257.out 1
     have hfz11_2 := blk_frozen BK257.out 2
     have hfz11_3 := blk_frozen BK257.out 3
     go_wp2
     repeat (go_quiet (fail); try go_wp2)
     go_ret2
     exact ⟨by first | rfl | (simp [errW_none, errW_some] <;> rfl) | (simp [*, errW_none, errW_some] <;> rfl), by repeat (first | (with_reducible first | exact HB.out | apply below_alloc | apply pw_below_drewN | apply below_drew1 | refine below_set ?_ GE257.out) | exact HB.out)⟩
 ·replace c3 := Bool.eq_false_iff.mpr c3
  subst c3
  have H1 : (chandleryref08_Place.l1 k a1 0 false l0_1 l0_2 l0_3) = some (r1, r2) := by rw [if_neg (show ¬ (false = true) by decide)] at H; exact H
  clear H
  have H := H1
  clear H1
  have H' := Aside0.mk H
  clear H
  go_enter Try.func20, Try.ntmps20
  go_wp2_with (first | ((with_reducible refine gate_dst (N := 2) rfl ?_); refine box_event ?hg (N := 2) ?hd (cs := #[.bool false, .slice A0_1 l0_1.length c0_1, .slice A0_2 l0_2.length c0_2, .slice A0_3 l0_3.length c0_3]) (t := 26) ?hr ?_; (case hd => rfl); (case hg => rfl); (case hr => first | (go_simp; done) | (go_simp; rfl)); intro gb257 hg w12 hbox hb; have n0_ := Aside0.mk (below_step (by repeat (first | (with_reducible first | exact HB.out | apply below_alloc | apply pw_below_drewN | apply below_drew1) | exact HB.out)) hb); have n1_ := Aside0.mk (hbox); have n2_ := Aside0.mk ((by rw [hg]; exact (below_size (by repeat (first | (with_reducible first | exact HB.out | apply below_alloc | apply pw_below_drewN | apply below_drew1) | exact HB.out))) : w.heap.size ≤ gb257)); have n3_ := Aside0.mk ((by rw [hg]; exact (below_size (by repeat (first | (with_reducible first | exact HB.out | apply below_alloc | apply pw_below_drewN | apply below_drew1) | exact HB.out))) : w.heap.size ≤ gb257)); clear HB; have HB := n0_; have BK257 := n1_; have GW257 := n2_; have GE257 := n3_; clear n0_ n1_ n2_ n3_; clear hb hbox hg; have hcz13_0 : w12.cell? ⟨gb257, 0, none⟩ = some (.bool false) := (blk_cell BK257.out 0).trans rfl; have hcz13_1 : w12.cell? ⟨gb257, 1, none⟩ = some (.slice A0_1 l0_1.length c0_1) := (blk_cell BK257.out 1).trans rfl; have hcz13_2 : w12.cell? ⟨gb257, 2, none⟩ = some (.slice A0_2 l0_2.length c0_2) := (blk_cell BK257.out 2).trans rfl; have hcz13_3 : w12.cell? ⟨gb257, 3, none⟩ = some (.slice A0_3 l0_3.length c0_3) := (blk_cell BK257.out 3).trans rfl; have hfz13_0 := blk_frozen BK257.out 0; have hfz13_1 := blk_frozen BK257.out 1; have hfz13_2 := blk_frozen BK257.out 2; have hfz13_3 := blk_frozen BK257.out 3))
  repeat (go_quiet (first | ((with_reducible refine gate_dst (N := 2) rfl ?_); refine box_event ?hg (N := 2) ?hd (cs := #[.bool false, .slice A0_1 l0_1.length c0_1, .slice A0_2 l0_2.length c0_2, .slice A0_3 l0_3.length c0_3]) (t := 26) ?hr ?_; (case hd => rfl); (case hg => rfl); (case hr => first | (go_simp; done) | (go_simp; rfl)); intro gb257 hg w12 hbox hb; have n0_ := Aside0.mk (below_step (by repeat (first | (with_reducible first | exact HB.out | apply below_alloc | apply pw_below_drewN | apply below_drew1) | exact HB.out)) hb); have n1_ := Aside0.mk (hbox); have n2_ := Aside0.mk ((by rw [hg]; exact (below_size (by repeat (first | (with_reducible first | exact HB.out | apply below_alloc | apply pw_below_drewN | apply below_drew1) | exact HB.out))) : w.heap.size ≤ gb257)); have n3_ := Aside0.mk ((by rw [hg]; exact (below_size (by repeat (first | (with_reducible first | exact HB.out | apply below_alloc | apply pw_below_drewN | apply below_drew1) | exact HB.out))) : w.heap.size ≤ gb257)); clear HB; have HB := n0_; have BK257 := n1_; have GW257 := n2_; have GE257 := n3_; clear n0_ n1_ n2_ n3_; clear hb hbox hg; have hcz13_0 : w12.cell? ⟨gb257, 0, none⟩ = some (.bool false) := (blk_cell BK257.out 0).trans rfl; have hcz13_1 : w12.cell? ⟨gb257, 1, none⟩ = some (.slice A0_1 l0_1.length c0_1) := (blk_cell BK257.out 1).trans rfl; have hcz13_2 : w12.cell? ⟨gb257, 2, none⟩ = some (.slice A0_2 l0_2.length c0_2) := (blk_cell BK257.out 2).trans rfl; have hcz13_3 : w12.cell? ⟨gb257, 3, none⟩ = some (.slice A0_3 l0_3.length c0_3) := (blk_cell BK257.out 3).trans rfl; have hfz13_0 := blk_frozen BK257.out 0; have hfz13_1 := blk_frozen BK257.out 1; have hfz13_2 := blk_frozen BK257.out 2; have hfz13_3 := blk_frozen BK257.out 3)); try go_wp2_with (first | ((with_reducible refine gate_dst (N := 2) rfl ?_); refine box_event ?hg (N := 2) ?hd (cs := #[.bool false, .slice A0_1 l0_1.length c0_1, .slice A0_2 l0_2.length c0_2, .slice A0_3 l0_3.length c0_3]) (t := 26) ?hr ?_; (case hd => rfl); (case hg => rfl); (case hr => first | (go_simp; done) | (go_simp; rfl)); intro gb257 hg w12 hbox hb; have n0_ := Aside0.mk (below_step (by repeat (first | (with_reducible first | exact HB.out | apply below_alloc | apply pw_below_drewN | apply below_drew1) | exact HB.out)) hb); have n1_ := Aside0.mk (hbox); have n2_ := Aside0.mk ((by rw [hg]; exact (below_size (by repeat (first | (with_reducible first | exact HB.out | apply below_alloc | apply pw_below_drewN | apply below_drew1) | exact HB.out))) : w.heap.size ≤ gb257)); have n3_ := Aside0.mk ((by rw [hg]; exact (below_size (by repeat (first | (with_reducible first | exact HB.out | apply below_alloc | apply pw_below_drewN | apply below_drew1) | exact HB.out))) : w.heap.size ≤ gb257)); clear HB; have HB := n0_; have BK257 := n1_; have GW257 := n2_; have GE257 := n3_; clear n0_ n1_ n2_ n3_; clear hb hbox hg; have hcz13_0 : w12.cell? ⟨gb257, 0, none⟩ = some (.bool false) := (blk_cell BK257.out 0).trans rfl; have hcz13_1 : w12.cell? ⟨gb257, 1, none⟩ = some (.slice A0_1 l0_1.length c0_1) := (blk_cell BK257.out 1).trans rfl; have hcz13_2 : w12.cell? ⟨gb257, 2, none⟩ = some (.slice A0_2 l0_2.length c0_2) := (blk_cell BK257.out 2).trans rfl; have hcz13_3 : w12.cell? ⟨gb257, 3, none⟩ = some (.slice A0_3 l0_3.length c0_3) := (blk_cell BK257.out 3).trans rfl; have hfz13_0 := blk_frozen BK257.out 0; have hfz13_1 := blk_frozen BK257.out 1; have hfz13_2 := blk_frozen BK257.out 2; have hfz13_3 := blk_frozen BK257.out 3)))
  go_loopg [7] k (fun kq v7 w' => ∃ (x7_1 : Int), v7 = .int .i64 x7_1 ∧ Aside0 (chandleryref08_Place.l1 kq a1 x7_1 false l0_1 l0_2 l0_3 = some (r1, r2)) ∧ Aside0 (kq ≤ k) ∧ Aside0 (w'.heap[gb257]? = some (.cells #[.bool false, (.slice A0_1 l0_1.length c0_1), (.slice A0_2 l0_2.length c0_2), (.slice A0_3 l0_3.length c0_3)] 26 (0, 0))) ∧ Aside0 (Below w.heap.size w w'))
  case atStart => exact ⟨(0), (by first | rfl | (simp; done) | exact congrArg Value.bool (Go.Proofs.YtjhenmegcgnkgaaX.isEmpty_ne_ _) | exact congrArg Value.bool (Go.Proofs.YtjhenmegcgnkgaaX.ne_isEmpty_ _) | (simp [*]; done)), H', ⟨Nat.le_refl _⟩, ⟨by (with_reducible repeat (first | refine blk_drewN ?_ _ | refine blk_drew ?_ | refine blk_alloc ?_ _)); exact BK257.out⟩, ⟨by repeat (first | (with_reducible first | exact HB.out | apply below_alloc | apply pw_below_drewN | apply below_drew1 | refine below_set ?_ GE257.out) | exact HB.out)⟩⟩
  case round =>
   clear H'
   try clear c2
   try clear p2
   try clear q2
   try clear hx2
   try clear c3
   try clear c6
   try clear c6b0
   try clear p6
   try clear c7
   try clear c7b0
   try clear c8
   try clear c8b0
   try clear hcz10_0
   try clear hcz10_1
   try clear hcz10_2
   try clear hcz10_3
   try clear hcz11_0
   try clear hcz11_1
   try clear hcz11_2
   try clear hcz11_3
   try clear hcz13_0
   try clear hcz13_1
   try clear hcz13_2
   try clear hcz13_3
   try clear hcz5_0
   try clear hcz5_1
   try clear hcz5_2
   try clear hcz5_3
   try clear hcz9_0
   try clear hcz9_1
   try clear hcz9_2
   try clear hcz9_3
   try clear hfz10_0
   try clear hfz10_1
   try clear hfz10_2
   try clear hfz10_3
   try clear hfz11_0
   try clear hfz11_1
   try clear hfz11_2
   try clear hfz11_3
   try clear hfz13_0
   try clear hfz13_1
   try clear hfz13_2
   try clear hfz13_3
   try clear hfz5_0
   try clear hfz5_1
   try clear hfz5_2
   try clear hfz5_3
   try clear hfz9_0
   try clear hfz9_1
   try clear hfz9_2
   try clear hfz9_3
   try clear hx258_0
   try clear hx258_1
   try clear hx259_0
   try clear hx259_1
   try clear p2
   try clear p258
   try clear p259
   try clear q258
   try clear q259
   obtain ⟨x7_1, rfl, HA, HK1, BK257, HB⟩ := hrel
   cases gk with
   | zero => exact absurd HA.out (by simp [chandleryref08_Place.l1])
   | succ k1 =>
    have H := HA.out
    clear HA
    simp only [chandleryref08_Place.l1] at H
    by_cases c14 : x7_1 < (l0_2.length : Int)
    ·rw [if_pos c14] at H
     have c14b0 : decide (x7_1 < (l0_2.length : Int)) = true := decide_eq_true c14
     clear c14
     by_cases c15 : 0 ≤ x7_1
     ·rw [if_pos c15] at H
      have c15b0 : decide (0 ≤ x7_1) = true := decide_eq_true c15
      clear c15
      by_cases c16 : ((Op.bytesLess a1.toList ((rdOf ByteArray.empty l0_2 x7_1).toList)) = true)
      ·rw [if_pos c16] at H
       have c16b0 : (Op.bytesLess a1.toList ((rdOf ByteArray.empty l0_2 x7_1).toList)) = true := c16
       clear c16
       by_cases c17 : x7_1 > 0
       ·rw [if_pos c17] at H
        have c17b0 : decide (0 < x7_1) = true := decide_eq_true c17
        clear c17
        obtain ⟨ji18, hji18⟩ : ∃ j_ : Int, (wrap64 (x7_1 - 1)) = j_ := ⟨_, rfl⟩
        replace H : (if 0 ≤ (ji18) then (if (ji18) < (l0_2.length : Int) then (some (x7_1, ((rdOf ByteArray.empty l0_2 (ji18)).toList == a1.toList))) else (none)) else (none)) = some (r1, r2) := by first | (rw [hji18] at H; exact H) | (simp only [hji18] at H ⊢; exact H)
        have hji18w : (IntKind.i64.wrap (x7_1 - 1)) = ji18 := (i64_w _).trans hji18
        by_cases c19 : 0 ≤ (ji18)
        ·rw [if_pos c19] at H
         have c19b0 : decide (0 ≤ (ji18)) = true := decide_eq_true c19
         clear c19
         by_cases c20 : (ji18) < (l0_2.length : Int)
         ·rw [if_pos c20] at H
          have c20b0 : decide ((ji18) < (l0_2.length : Int)) = true := decide_eq_true c20
          clear c20
          simp only [Option.some.injEq, Prod.mk.injEq] at H
          obtain ⟨rfl, rfl⟩ := H
          have hcz21_0 : wr.cell? ⟨gb257, 0, none⟩ = some (.bool false) := (blk_cell BK257.out 0).trans rfl
          have hcz21_1 : wr.cell? ⟨gb257, 1, none⟩ = some (.slice A0_1 l0_1.length c0_1) := (blk_cell BK257.out 1).trans rfl
          have hcz21_2 : wr.cell? ⟨gb257, 2, none⟩ = some (.slice A0_2 l0_2.length c0_2) := (blk_cell BK257.out 2).trans rfl
          have hcz21_3 : wr.cell? ⟨gb257, 3, none⟩ = some (.slice A0_3 l0_3.length c0_3) := (blk_cell BK257.out 3).trans rfl
          have hfz21_0 := blk_frozen BK257.out 0
          have hfz21_1 := blk_frozen BK257.out 1
          have hfz21_2 := blk_frozen BK257.out 2
          have hfz21_3 := blk_frozen BK257.out 3
          have p260 : 0 ≤ (x7_1 : Int) := of_decide_eq_true (by first | (with_reducible assumption) | assumption)
          have q260 : x7_1 < (l0_2.length : Int) := of_decide_eq_true (by first | (with_reducible assumption) | assumption)
          obtain ⟨ad260, e260, hx260_0⟩ := Kd.at_string HR0_2.out x7_1 p260 q260
          cases e260
          replace hx260_0 := (HB.out.cell (World.block_lt_of_cell? w _ hx260_0)).trans hx260_0
          replace p260 := eq_true p260
          replace q260 := eq_true q260
          have p261 : 0 ≤ ((ji18) : Int) := of_decide_eq_true (by first | (with_reducible assumption) | assumption)
          have q261 : (ji18) < (l0_2.length : Int) := of_decide_eq_true (by first | (with_reducible assumption) | assumption)
          obtain ⟨ad261, e261, hx261_0⟩ := Kd.at_string HR0_2.out (ji18) p261 q261
          obtain rfl : ad260 = ad261 := (by injection e261)
          replace hx261_0 := (HB.out.cell (World.block_lt_of_cell? w _ hx261_0)).trans hx261_0
          replace p261 := eq_true p261
          replace q261 := eq_true q261
          go_wp2
          repeat (go_quiet (fail); try go_wp2)
          go_ret2
          exact ⟨by first | rfl | (simp [errW_none, errW_some] <;> rfl) | (simp only [← hji18]; first | rfl | (simp [errW_none, errW_some] <;> rfl)) | (simp [*, errW_none, errW_some] <;> rfl), by repeat (first | (with_reducible first | exact HB.out | apply below_alloc | apply pw_below_drewN | apply below_drew1 | refine below_set ?_ GE257.out) | exact HB.out)⟩
         ·rw [if_neg c20] at H
          exact absurd H (by simp)
        ·rw [if_neg c19] at H
         exact absurd H (by simp)
       ·rw [if_neg c17] at H
        have c17b0 : decide (0 < x7_1) = false := decide_eq_false c17
        clear c17
        simp only [Option.some.injEq, Prod.mk.injEq] at H
        obtain ⟨rfl, rfl⟩ := H
        have hcz22_0 : wr.cell? ⟨gb257, 0, none⟩ = some (.bool false) := (blk_cell BK257.out 0).trans rfl
        have hcz22_1 : wr.cell? ⟨gb257, 1, none⟩ = some (.slice A0_1 l0_1.length c0_1) := (blk_cell BK257.out 1).trans rfl
        have hcz22_2 : wr.cell? ⟨gb257, 2, none⟩ = some (.slice A0_2 l0_2.length c0_2) := (blk_cell BK257.out 2).trans rfl
        have hcz22_3 : wr.cell? ⟨gb257, 3, none⟩ = some (.slice A0_3 l0_3.length c0_3) := (blk_cell BK257.out 3).trans rfl
        have hfz22_0 := blk_frozen BK257.out 0
        have hfz22_1 := blk_frozen BK257.out 1
        have hfz22_2 := blk_frozen BK257.out 2
        have hfz22_3 := blk_frozen BK257.out 3
        have p260 : 0 ≤ (x7_1 : Int) := of_decide_eq_true (by first | (with_reducible assumption) | assumption)
        have q260 : x7_1 < (l0_2.length : Int) := of_decide_eq_true (by first | (with_reducible assumption) | assumption)
        obtain ⟨ad260, e260, hx260_0⟩ := Kd.at_string HR0_2.out x7_1 p260 q260
        cases e260
        replace hx260_0 := (HB.out.cell (World.block_lt_of_cell? w _ hx260_0)).trans hx260_0
        replace p260 := eq_true p260
        replace q260 := eq_true q260
        go_wp2
        repeat (go_quiet (fail); try go_wp2)
        go_ret2
        exact ⟨by first | rfl | (simp [errW_none, errW_some] <;> rfl) | (simp [*, errW_none, errW_some] <;> rfl), by repeat (first | (with_reducible first | exact HB.out | apply below_alloc | apply pw_below_drewN | apply below_drew1 | refine below_set ?_ GE257.out) | exact HB.out)⟩
      ·rw [if_neg c16] at H
       have c16b0 : (Op.bytesLess a1.toList ((rdOf ByteArray.empty l0_2 x7_1).toList)) = false := by simpa using c16
       clear c16
       have H' := Aside0.mk H
       clear H
       have hcz23_0 : wr.cell? ⟨gb257, 0, none⟩ = some (.bool false) := (blk_cell BK257.out 0).trans rfl
       have hcz23_1 : wr.cell? ⟨gb257, 1, none⟩ = some (.slice A0_1 l0_1.length c0_1) := (blk_cell BK257.out 1).trans rfl
       have hcz23_2 : wr.cell? ⟨gb257, 2, none⟩ = some (.slice A0_2 l0_2.length c0_2) := (blk_cell BK257.out 2).trans rfl
       have hcz23_3 : wr.cell? ⟨gb257, 3, none⟩ = some (.slice A0_3 l0_3.length c0_3) := (blk_cell BK257.out 3).trans rfl
       have hfz23_0 := blk_frozen BK257.out 0
       have hfz23_1 := blk_frozen BK257.out 1
       have hfz23_2 := blk_frozen BK257.out 2
       have hfz23_3 := blk_frozen BK257.out 3
       have p260 : 0 ≤ (x7_1 : Int) := of_decide_eq_true (by first | (with_reducible assumption) | assumption)
       have q260 : x7_1 < (l0_2.length : Int) := of_decide_eq_true (by first | (with_reducible assumption) | assumption)
       obtain ⟨ad260, e260, hx260_0⟩ := Kd.at_string HR0_2.out x7_1 p260 q260
       cases e260
       replace hx260_0 := (HB.out.cell (World.block_lt_of_cell? w _ hx260_0)).trans hx260_0
       replace p260 := eq_true p260
       replace q260 := eq_true q260
       go_wp2
       repeat (go_quiet (fail); try go_wp2)
       go_roundg k1
       case measure => have := HK1.out; omega
       case rel => exact ⟨(wrap64 (x7_1 + 1)), (by first | rfl | (simp; done) | exact congrArg Value.bool (Go.Proofs.YtjhenmegcgnkgaaX.isEmpty_ne_ _) | exact congrArg Value.bool (Go.Proofs.YtjhenmegcgnkgaaX.ne_isEmpty_ _) | (simp [*]; done)), H', ⟨by have := HK1.out; omega⟩, ⟨by (with_reducible repeat (first | refine blk_drewN ?_ _ | refine blk_drew ?_ | refine blk_alloc ?_ _)); exact BK257.out⟩, ⟨by repeat (first | (with_reducible first | exact HB.out | apply below_alloc | apply pw_below_drewN | apply below_drew1 | refine below_set ?_ GE257.out) | exact HB.out)⟩⟩
     ·rw [if_neg c15] at H
      exact absurd H (by simp)
    ·rw [if_neg c14] at H
     have c14b0 : decide (x7_1 < (l0_2.length : Int)) = false := decide_eq_false c14
     clear c14
     by_cases c24 : x7_1 > 0
     ·rw [if_pos c24] at H
      have c24b0 : decide (0 < x7_1) = true := decide_eq_true c24
      clear c24
      obtain ⟨ji25, hji25⟩ : ∃ j_ : Int, (wrap64 (x7_1 - 1)) = j_ := ⟨_, rfl⟩
      replace H : (if 0 ≤ (ji25) then (if (ji25) < (l0_2.length : Int) then (some (x7_1, ((rdOf ByteArray.empty l0_2 (ji25)).toList == a1.toList))) else (none)) else (none)) = some (r1, r2) := by first | (rw [hji25] at H; exact H) | (simp only [hji25] at H ⊢; exact H)
      have hji25w : (IntKind.i64.wrap (x7_1 - 1)) = ji25 := (i64_w _).trans hji25
      by_cases c26 : 0 ≤ (ji25)
      ·rw [if_pos c26] at H
       have c26b0 : decide (0 ≤ (ji25)) = true := decide_eq_true c26
       clear c26
       by_cases c27 : (ji25) < (l0_2.length : Int)
       ·rw [if_pos c27] at H
        have c27b0 : decide ((ji25) < (l0_2.length : Int)) = true := decide_eq_true c27
        clear c27
        simp only [Option.some.injEq, Prod.mk.injEq] at H
        obtain ⟨rfl, rfl⟩ := H
        have hcz28_0 : wr.cell? ⟨gb257, 0, none⟩ = some (.bool false) := (blk_cell BK257.out 0).trans rfl
        have hcz28_1 : wr.cell? ⟨gb257, 1, none⟩ = some (.slice A0_1 l0_1.length c0_1) := (blk_cell BK257.out 1).trans rfl
        have hcz28_2 : wr.cell? ⟨gb257, 2, none⟩ = some (.slice A0_2 l0_2.length c0_2) := (blk_cell BK257.out 2).trans rfl
        have hcz28_3 : wr.cell? ⟨gb257, 3, none⟩ = some (.slice A0_3 l0_3.length c0_3) := (blk_cell BK257.out 3).trans rfl
        have hfz28_0 := blk_frozen BK257.out 0
        have hfz28_1 := blk_frozen BK257.out 1
        have hfz28_2 := blk_frozen BK257.out 2
        have hfz28_3 := blk_frozen BK257.out 3
        have p262 : 0 ≤ ((ji25) : Int) := of_decide_eq_true (by first | (with_reducible assumption) | assumption)
        have q262 : (ji25) < (l0_2.length : Int) := of_decide_eq_true (by first | (with_reducible assumption) | assumption)
        obtain ⟨ad262, e262, hx262_0⟩ := Kd.at_string HR0_2.out (ji25) p262 q262
        cases e262
        replace hx262_0 := (HB.out.cell (World.block_lt_of_cell? w _ hx262_0)).trans hx262_0
        replace p262 := eq_true p262
        replace q262 := eq_true q262
        go_wp2
        repeat (go_quiet (fail); try go_wp2)
        go_ret2
        exact ⟨by first | rfl | (simp [errW_none, errW_some] <;> rfl) | (simp only [← hji25]; first | rfl | (simp [errW_none, errW_some] <;> rfl)) | (simp [*, errW_none, errW_some] <;> rfl), by repeat (first | (with_reducible first | exact HB.out | apply below_alloc | apply pw_below_drewN | apply below_drew1 | refine below_set ?_ GE257.out) | exact HB.out)⟩
       ·rw [if_neg c27] at H
        exact absurd H (by simp)
      ·rw [if_neg c26] at H
       exact absurd H (by simp)
     ·rw [if_neg c24] at H
      have c24b0 : decide (0 < x7_1) = false := decide_eq_false c24
      clear c24
      simp only [Option.some.injEq, Prod.mk.injEq] at H
      obtain ⟨rfl, rfl⟩ := H
      have hcz29_0 : wr.cell? ⟨gb257, 0, none⟩ = some (.bool false) := (blk_cell BK257.out 0).trans rfl
      have hcz29_1 : wr.cell? ⟨gb257, 1, none⟩ = some (.slice A0_1 l0_1.length c0_1) := (blk_cell BK257.out 1).trans rfl
      have hcz29_2 : wr.cell? ⟨gb257, 2, none⟩ = some (.slice A0_2 l0_2.length c0_2) := (blk_cell BK257.out 2).trans rfl
      have hcz29_3 : wr.cell? ⟨gb257, 3, none⟩ = some (.slice A0_3 l0_3.length c0_3) := (blk_cell BK257.out 3).trans rfl
      have hfz29_0 := blk_frozen BK257.out 0
      have hfz29_1 := blk_frozen BK257.out 1
      have hfz29_2 := blk_frozen BK257.out 2
      have hfz29_3 := blk_frozen BK257.out 3
      go_wp2
      repeat (go_quiet (fail); try go_wp2)
      go_ret2
      exact ⟨by first | rfl | (simp [errW_none, errW_some] <;> rfl) | (simp [*, errW_none, errW_some] <;> rfl), by repeat (first | (with_reducible first | exact HB.out | apply below_alloc | apply pw_below_drewN | apply below_drew1 | refine below_set ?_ GE257.out) | exact HB.out)⟩

end Go.Proofs.Ytjhenmegcgnkgaa.PNode
