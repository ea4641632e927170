-- printed with xprint.py over the kit's print
import Derived.Test.YtjhenmegcgnkgaaQNodex0
namespace Go.Proofs.Ytjhenmegcgnkgaa.PNode
open Go.RowKit Go.Proofs.YtjhenmegcgnkgaaW.PrintWords Go.Proofs.YtjhenmegcgnkgaaW.PrintLast Go.Proofs.YtjhenmegcgnkgaaW.PrintMore
attribute [local go_sem] max2_int min2_int max_two min_two max_three min_three max_four min_four   -- for this text's walks alone
set_option linter.unusedVariables false
set_option linter.unusedSimpArgs false
mutual
def chandleryref08_Bytes.j0 : Nat → Int → Int → Int → Bool → List (S42) → List ByteArray → List Int → Option (List Int)
 | 0, _, _, _, _, _, _, _ => none
 | k + 1, x1, x5, x6, x196000, x196001, x196002, x196003 => chandleryref08_Bytes.l0 k x1 (([(x5) % 256, (wrap64 (Int.tdiv x6 256)) % 256, (Int.tmod x6 256) % 256] : List Int)) 0 x196000 x196001 x196002 x196003
def chandleryref08_Bytes.l0 : Nat → Int → List Int → Int → Bool → List (S42) → List ByteArray → List Int → Option (List Int)
 | 0, _, _, _, _, _, _, _ => none
 | k + 1, x1, x7, x8, x196000, x196001, x196002, x196003 => if x8 < (x196001.length : Int) then (if 0 ≤ x8 then (if x7.length < 140737488355328 then ((some (x7 ++ [((((rd_T42 x196001 x8).f0).size : Int)) % 256] : List Int)).bind fun y200 => (if y200.length + ((rd_T42 x196001 x8).f0).size < 140737488355328 then ((some (y200 ++ bytesOf ((rd_T42 x196001 x8).f0) : List Int)).bind fun y204 => (if y204.length < 140737488355328 then ((some (y204 ++ [((((rd_T42 x196001 x8).f1).size : Int)) % 256] : List Int)).bind fun y208 => (if y208.length + ((rd_T42 x196001 x8).f1).size < 140737488355328 then (chandleryref08_Bytes.l0 k x1 (y208 ++ bytesOf ((rd_T42 x196001 x8).f1)) (wrap64 (x8 + 1)) x196000 x196001 x196002 x196003) else (none))) else (none))) else (none))) else (none)) else (none)) else (chandleryref08_Bytes.l1 k x1 x7 0 x196000 x196001 x196002 x196003)
def chandleryref08_Bytes.l1 : Nat → Int → List Int → Int → Bool → List (S42) → List ByteArray → List Int → Option (List Int)
 | 0, _, _, _, _, _, _, _ => none
 | k + 1, x1, x7, x9, x196000, x196001, x196002, x196003 => if x9 < (x196003.length : Int) then (if 0 ≤ x9 then ((some (([(wrap64 (Int.tdiv (rd x196003 x9) 65536)) % 256, (Int.tmod (wrap64 (Int.tdiv (rd x196003 x9) 256)) 256) % 256, (Int.tmod (rd x196003 x9) 256) % 256] : List Int) : List Int)).bind fun y216 => (if x7.length + y216.length < 140737488355328 then (chandleryref08_Bytes.l1 k x1 (x7 ++ y216) (wrap64 (x9 + 1)) x196000 x196001 x196002 x196003) else (none))) else (none)) else (chandleryref08_Bytes.l2 k x1 x7 0 x196000 x196001 x196002 x196003)
def chandleryref08_Bytes.l2 : Nat → Int → List Int → Int → Bool → List (S42) → List ByteArray → List Int → Option (List Int)
 | 0, _, _, _, _, _, _, _ => none
 | k + 1, x1, x7, x11, x196000, x196001, x196002, x196003 => if x11 < (x196002.length : Int) then (if 0 ≤ x11 then (if x7.length < 140737488355328 then ((some (x7 ++ [(((rdOf ByteArray.empty x196002 x11).size : Int)) % 256] : List Int)).bind fun y223 => (if y223.length + (rdOf ByteArray.empty x196002 x11).size < 140737488355328 then (chandleryref08_Bytes.l2 k x1 (y223 ++ bytesOf (rdOf ByteArray.empty x196002 x11)) (wrap64 (x11 + 1)) x196000 x196001 x196002 x196003) else (none))) else (none)) else (none)) else (chandleryref08_Bytes.l3 k x1 x7)
def chandleryref08_Bytes.l3 : Nat → Int → List Int → Option (List Int)
 | 0, _, _ => none
 | k + 1, x1, x7 => if (x7.length : Int) < x1 then (if x7.length < 140737488355328 then (chandleryref08_Bytes.l3 k x1 (x7 ++ [0])) else (none)) else (some x7)
end
def chandleryref08_Bytes.f (k : Nat) (a0_0 : Bool) (l0_1 : List (S42)) (l0_2 : List ByteArray) (l0_3 : List Int) (a1 : Int) : Option (List Int) := if a0_0 = true then (chandleryref08_Bytes.j0 k a1 1 (l0_1.length : Int) a0_0 l0_1 l0_2 l0_3) else (chandleryref08_Bytes.j0 k a1 2 (l0_2.length : Int) a0_0 l0_1 l0_2 l0_3)
theorem chandleryref08_Bytes.mono_l : ∀ k, (∀ y0 y1 y2 y3 y4 y5 y6, LeO (chandleryref08_Bytes.j0 k y0 y1 y2 y3 y4 y5 y6) (chandleryref08_Bytes.j0 (k + 1) y0 y1 y2 y3 y4 y5 y6)) ∧ (∀ y0 y1 y2 y3 y4 y5 y6, LeO (chandleryref08_Bytes.l0 k y0 y1 y2 y3 y4 y5 y6) (chandleryref08_Bytes.l0 (k + 1) y0 y1 y2 y3 y4 y5 y6)) ∧ (∀ y0 y1 y2 y3 y4 y5 y6, LeO (chandleryref08_Bytes.l1 k y0 y1 y2 y3 y4 y5 y6) (chandleryref08_Bytes.l1 (k + 1) y0 y1 y2 y3 y4 y5 y6)) ∧ (∀ y0 y1 y2 y3 y4 y5 y6, LeO (chandleryref08_Bytes.l2 k y0 y1 y2 y3 y4 y5 y6) (chandleryref08_Bytes.l2 (k + 1) y0 y1 y2 y3 y4 y5 y6)) ∧ (∀ y0 y1, LeO (chandleryref08_Bytes.l3 k y0 y1) (chandleryref08_Bytes.l3 (k + 1) y0 y1))
 | 0 => ⟨fun _ _ _ _ _ _ _ r h => by simp [chandleryref08_Bytes.j0] at h, fun _ _ _ _ _ _ _ r h => by simp [chandleryref08_Bytes.l0] at h, fun _ _ _ _ _ _ _ r h => by simp [chandleryref08_Bytes.l1] at h, fun _ _ _ _ _ _ _ r h => by simp [chandleryref08_Bytes.l2] at h, fun _ _ r h => by simp [chandleryref08_Bytes.l3] at h⟩
 | k + 1 => by
  obtain ⟨ih0, ih1, ih2, ih3, ih4⟩ := chandleryref08_Bytes.mono_l k
  refine ⟨?_, ?_, ?_, ?_, ?_⟩
  ·intro y0 y1 y2 y3 y4 y5 y6
   unfold chandleryref08_Bytes.j0
   repeat' first
   | (with_reducible exact ih0 _ _ _ _ _ _ _)
   | (with_reducible exact ih1 _ _ _ _ _ _ _)
   | (with_reducible exact ih2 _ _ _ _ _ _ _)
   | (with_reducible exact ih3 _ _ _ _ _ _ _)
   | (with_reducible exact ih4 _ _)
   | (with_reducible exact LeO.refl _)
   | (with_reducible exact LeO.none _)
   | (with_reducible refine LeO.ite ?_ ?_)
   | (with_reducible refine LeO.bind ?_ (fun _ => ?_))
   | exact ih0 _ _ _ _ _ _ _
   | exact ih1 _ _ _ _ _ _ _
   | exact ih2 _ _ _ _ _ _ _
   | exact ih3 _ _ _ _ _ _ _
   | exact ih4 _ _
   | exact LeO.none _
   | refine LeO.ite ?_ ?_
   | refine LeO.bind ?_ (fun _ => ?_)
  ·intro y0 y1 y2 y3 y4 y5 y6
   unfold chandleryref08_Bytes.l0
   repeat' first
   | (with_reducible exact ih0 _ _ _ _ _ _ _)
   | (with_reducible exact ih1 _ _ _ _ _ _ _)
   | (with_reducible exact ih2 _ _ _ _ _ _ _)
   | (with_reducible exact ih3 _ _ _ _ _ _ _)
   | (with_reducible exact ih4 _ _)
   | (with_reducible exact LeO.refl _)
   | (with_reducible exact LeO.none _)
   | (with_reducible refine LeO.ite ?_ ?_)
   | (with_reducible refine LeO.bind ?_ (fun _ => ?_))
   | exact ih0 _ _ _ _ _ _ _
   | exact ih1 _ _ _ _ _ _ _
   | exact ih2 _ _ _ _ _ _ _
   | exact ih3 _ _ _ _ _ _ _
   | exact ih4 _ _
   | exact LeO.none _
   | refine LeO.ite ?_ ?_
   | refine LeO.bind ?_ (fun _ => ?_)
  ·intro y0 y1 y2 y3 y4 y5 y6
   unfold chandleryref08_Bytes.l1
   repeat' first
   | (with_reducible exact ih0 _ _ _ _ _ _ _)
   | (with_reducible exact ih1 _ _ _ _ _ _ _)
   | (with_reducible exact ih2 _ _ _ _ _ _ _)
   | (with_reducible exact ih3 _ _ _ _ _ _ _)
   | (with_reducible exact ih4 _ _)
   | (with_reducible exact LeO.refl _)
   | (with_reducible exact LeO.none _)
   | (with_reducible refine LeO.ite ?_ ?_)
   | (with_reducible refine LeO.bind ?_ (fun _ => ?_))
   | exact ih0 _ _ _ _ _ _ _
   | exact ih1 _ _ _ _ _ _ _
   | exact ih2 _ _ _ _ _ _ _
   | exact ih3 _ _ _ _ _ _ _
   | exact ih4 _ _
   | exact LeO.none _
   | refine LeO.ite ?_ ?_
   | refine LeO.bind ?_ (fun _ => ?_)
  ·intro y0 y1 y2 y3 y4 y5 y6
   unfold chandleryref08_Bytes.l2
   repeat' first
   | (with_reducible exact ih0 _ _ _ _ _ _ _)
   | (with_reducible exact ih1 _ _ _ _ _ _ _)
   | (with_reducible exact ih2 _ _ _ _ _ _ _)
   | (with_reducible exact ih3 _ _ _ _ _ _ _)
   | (with_reducible exact ih4 _ _)
   | (with_reducible exact LeO.refl _)
   | (with_reducible exact LeO.none _)
   | (with_reducible refine LeO.ite ?_ ?_)
   | (with_reducible refine LeO.bind ?_ (fun _ => ?_))
   | exact ih0 _ _ _ _ _ _ _
   | exact ih1 _ _ _ _ _ _ _
   | exact ih2 _ _ _ _ _ _ _
   | exact ih3 _ _ _ _ _ _ _
   | exact ih4 _ _
   | exact LeO.none _
   | refine LeO.ite ?_ ?_
   | refine LeO.bind ?_ (fun _ => ?_)
  ·intro y0 y1
   unfold chandleryref08_Bytes.l3
   repeat' first
   | (with_reducible exact ih0 _ _ _ _ _ _ _)
   | (with_reducible exact ih1 _ _ _ _ _ _ _)
   | (with_reducible exact ih2 _ _ _ _ _ _ _)
   | (with_reducible exact ih3 _ _ _ _ _ _ _)
   | (with_reducible exact ih4 _ _)
   | (with_reducible exact LeO.refl _)
   | (with_reducible exact LeO.none _)
   | (with_reducible refine LeO.ite ?_ ?_)
   | (with_reducible refine LeO.bind ?_ (fun _ => ?_))
   | exact ih0 _ _ _ _ _ _ _
   | exact ih1 _ _ _ _ _ _ _
   | exact ih2 _ _ _ _ _ _ _
   | exact ih3 _ _ _ _ _ _ _
   | exact ih4 _ _
   | exact LeO.none _
   | refine LeO.ite ?_ ?_
   | refine LeO.bind ?_ (fun _ => ?_)
theorem chandleryref08_Bytes.mono : ∀ a0 a1 a2 a3 a4 k, LeO (chandleryref08_Bytes.f k a0 a1 a2 a3 a4) (chandleryref08_Bytes.f (k + 1) a0 a1 a2 a3 a4) := by
 intro a0 a1 a2 a3 a4 k
 obtain ⟨ih0, ih1, ih2, ih3, ih4⟩ := chandleryref08_Bytes.mono_l k
 unfold chandleryref08_Bytes.f
 repeat' first
   | (with_reducible exact ih0 _ _ _ _ _ _ _)
   | (with_reducible exact ih1 _ _ _ _ _ _ _)
   | (with_reducible exact ih2 _ _ _ _ _ _ _)
   | (with_reducible exact ih3 _ _ _ _ _ _ _)
   | (with_reducible exact ih4 _ _)
   | (with_reducible exact LeO.refl _)
   | (with_reducible exact LeO.none _)
   | (with_reducible refine LeO.ite ?_ ?_)
   | (with_reducible refine LeO.bind ?_ (fun _ => ?_))
   | exact ih0 _ _ _ _ _ _ _
   | exact ih1 _ _ _ _ _ _ _
   | exact ih2 _ _ _ _ _ _ _
   | exact ih3 _ _ _ _ _ _ _
   | exact ih4 _ _
   | exact LeO.none _
   | refine LeO.ite ?_ ?_
   | refine LeO.bind ?_ (fun _ => ?_)
set_option maxHeartbeats 8000000 in
set_option maxRecDepth 100000 in
theorem chandleryref08_Bytes.calls (k : Nat) (a0_0 : Bool) (A0_1 : Option Addr) (c0_1 : Nat) (l0_1 : List (S42)) (A0_2 : Option Addr) (c0_2 : Nat) (l0_2 : List ByteArray) (A0_3 : Option Addr) (c0_3 : Nat) (l0_3 : List Int) (a1 : Int) (r : List Int) (w : World) (hr0_1 : Kd.C k42 w A0_1 l0_1.length l0_1) (hc0_1 : l0_1.length ≤ c0_1) (hr0_2 : Kd.C Kd.string w A0_2 l0_2.length l0_2) (hc0_2 : l0_2.length ≤ c0_2) (hr0_3 : Kd.C (Kd.int .i64) w A0_3 l0_3.length l0_3) (hc0_3 : l0_3.length ≤ c0_3) (h : chandleryref08_Bytes.f k a0_0 l0_1 l0_2 l0_3 a1 = some r) :
  Calls Try.prog 18 #[.agg #[.bool a0_0, .slice A0_1 l0_1.length c0_1, .slice A0_2 l0_2.length c0_2, .slice A0_3 l0_3.length c0_3], .int .i64 a1] w fun e w' => ∃ v0_ : Value, e = .returned (v0_) ∧ Kd.R (Kd.int .u8) 5 w' w.heap.size (fun _ => True) v0_ r ∧ Below w.heap.size w w' := by
 have kb_ := fun (s_ : ByteArray) (W_ : World) => print_bytes (P := Try.prog) 9 30 5 Try.underlying9 Try.underlying30 Try.underlying5 s_ W_
 have hu26 := Try.underlying26
 have HR0_1 := Aside0.mk hr0_1
 have HC0_1 := Aside0.mk hc0_1
 clear hr0_1 hc0_1
 have HR0_2 := Aside0.mk hr0_2
 have HC0_2 := Aside0.mk hc0_2
 clear hr0_2 hc0_2
 have HR0_3 := Aside0.mk hr0_3
 have HC0_3 := Aside0.mk hc0_3
 clear hr0_3 hc0_3
 have HB := Aside0.mk (Below.refl w.heap.size w)
 have H : (if a0_0 = true then (chandleryref08_Bytes.j0 k a1 1 (l0_1.length : Int) a0_0 l0_1 l0_2 l0_3) else (chandleryref08_Bytes.j0 k a1 2 (l0_2.length : Int) a0_0 l0_1 l0_2 l0_3)) = some r := h
 clear h
 have HC3 := Aside0.mk H
 clear H
 go_enter Try.func18, Try.ntmps18
 go_upto_if 16 with (first | ((with_reducible refine gate_dst (N := 2) rfl ?_); refine box_event ?hg (N := 2) ?hd (cs := #[.bool a0_0, .slice A0_1 l0_1.length c0_1, .slice A0_2 l0_2.length c0_2, .slice A0_3 l0_3.length c0_3]) (t := 26) ?hr ?_; (case hd => rfl); (case hg => rfl); (case hr => first | (go_simp; done) | (go_simp; rfl)); intro gb195 hg w4 hbox hb; have n0_ := Aside0.mk (below_step (by repeat (first | (with_reducible first | exact HB.out | apply below_alloc | apply pw_below_drewN | apply below_drew1) | exact HB.out)) hb); have n1_ := Aside0.mk (hbox); have n2_ := Aside0.mk ((by rw [hg]; exact (below_size (by repeat (first | (with_reducible first | exact HB.out | apply below_alloc | apply pw_below_drewN | apply below_drew1) | exact HB.out))) : w.heap.size ≤ gb195)); have n3_ := Aside0.mk ((by rw [hg]; exact (below_size (by repeat (first | (with_reducible first | exact HB.out | apply below_alloc | apply pw_below_drewN | apply below_drew1) | exact HB.out))) : w.heap.size ≤ gb195)); clear HB; have HB := n0_; have BK195 := n1_; have GW195 := n2_; have GE195 := n3_; clear n0_ n1_ n2_ n3_; clear hb hbox hg; have hcz5_0 : w4.cell? ⟨gb195, 0, none⟩ = some (.bool a0_0) := (blk_cell BK195.out 0).trans rfl; have hcz5_1 : w4.cell? ⟨gb195, 1, none⟩ = some (.slice A0_1 l0_1.length c0_1) := (blk_cell BK195.out 1).trans rfl; have hcz5_2 : w4.cell? ⟨gb195, 2, none⟩ = some (.slice A0_2 l0_2.length c0_2) := (blk_cell BK195.out 2).trans rfl; have hcz5_3 : w4.cell? ⟨gb195, 3, none⟩ = some (.slice A0_3 l0_3.length c0_3) := (blk_cell BK195.out 3).trans rfl; have hfz5_0 := blk_frozen BK195.out 0; have hfz5_1 := blk_frozen BK195.out 1; have hfz5_2 := blk_frozen BK195.out 2; have hfz5_3 := blk_frozen BK195.out 3))
 (try simp only [Act.put, List.setIfInBounds_toArray, List.set_cons_zero, List.set_cons_succ])
 go_cut [5, 6] (fun v5 v6 wc => ∃ (kq : Nat) (x5_2 : Int) (x6_2 : Int), v5 = .int .i64 x5_2 ∧ v6 = .int .i64 x6_2 ∧ Aside0 (chandleryref08_Bytes.j0 kq a1 x5_2 x6_2 a0_0 l0_1 l0_2 l0_3 = some r) ∧ Aside0 (kq ≤ k) ∧ Aside0 (wc.heap[gb195]? = some (.cells #[.bool a0_0, (.slice A0_1 l0_1.length c0_1), (.slice A0_2 l0_2.length c0_2), (.slice A0_3 l0_3.length c0_3)] 26 (0, 0))) ∧ Aside0 (Below w.heap.size w wc))
 case first =>
  have H := HC3.out
  clear HC3
  by_cases c6 : a0_0 = true
  ·subst c6
   have H1 : (chandleryref08_Bytes.j0 k a1 1 (l0_1.length : Int) true l0_1 l0_2 l0_3) = some r := by rw [if_pos rfl] at H; exact H
   clear H
   have H := H1
   clear H1
   have H' := Aside0.mk H
   clear H
   have hcz7_0 : w4.cell? ⟨gb195, 0, none⟩ = some (.bool true) := (blk_cell BK195.out 0).trans rfl
   have hcz7_1 : w4.cell? ⟨gb195, 1, none⟩ = some (.slice A0_1 l0_1.length c0_1) := (blk_cell BK195.out 1).trans rfl
   have hcz7_2 : w4.cell? ⟨gb195, 2, none⟩ = some (.slice A0_2 l0_2.length c0_2) := (blk_cell BK195.out 2).trans rfl
   have hcz7_3 : w4.cell? ⟨gb195, 3, none⟩ = some (.slice A0_3 l0_3.length c0_3) := (blk_cell BK195.out 3).trans rfl
   have hfz7_0 := blk_frozen BK195.out 0
   have hfz7_1 := blk_frozen BK195.out 1
   have hfz7_2 := blk_frozen BK195.out 2
   have hfz7_3 := blk_frozen BK195.out 3
   go_wp2
   go_meet
   case rel => exact ⟨_, (1), ((l0_1.length : Int)), (by first | rfl | (simp; done) | exact congrArg Value.bool (Go.Proofs.YtjhenmegcgnkgaaX.isEmpty_ne_ _) | exact congrArg Value.bool (Go.Proofs.YtjhenmegcgnkgaaX.ne_isEmpty_ _) | (simp [*]; done)), (by first | rfl | (simp; done) | exact congrArg Value.bool (Go.Proofs.YtjhenmegcgnkgaaX.isEmpty_ne_ _) | exact congrArg Value.bool (Go.Proofs.YtjhenmegcgnkgaaX.ne_isEmpty_ _) | (simp [*]; done)), H', ⟨by first | omega | exact Nat.le_refl _⟩, ⟨by (with_reducible repeat (first | refine blk_drewN ?_ _ | refine blk_drew ?_ | refine blk_alloc ?_ _)); exact BK195.out⟩, ⟨by repeat (first | (with_reducible first | exact HB.out | apply below_alloc | apply pw_below_drewN | apply below_drew1 | refine below_set ?_ GE195.out) | exact HB.out)⟩⟩
  ·replace c6 := Bool.eq_false_iff.mpr c6
   subst c6
   have H1 : (chandleryref08_Bytes.j0 k a1 2 (l0_2.length : Int) false l0_1 l0_2 l0_3) = some r := by rw [if_neg (show ¬ (false = true) by decide)] at H; exact H
   clear H
   have H := H1
   clear H1
   have H' := Aside0.mk H
   clear H
   go_wp2
   go_meet
   case rel => exact ⟨_, (2), ((l0_2.length : Int)), (by first | rfl | (simp; done) | exact congrArg Value.bool (Go.Proofs.YtjhenmegcgnkgaaX.isEmpty_ne_ _) | exact congrArg Value.bool (Go.Proofs.YtjhenmegcgnkgaaX.ne_isEmpty_ _) | (simp [*]; done)), (by first | rfl | (simp; done) | exact congrArg Value.bool (Go.Proofs.YtjhenmegcgnkgaaX.isEmpty_ne_ _) | exact congrArg Value.bool (Go.Proofs.YtjhenmegcgnkgaaX.ne_isEmpty_ _) | (simp [*]; done)), H', ⟨by first | omega | exact Nat.le_refl _⟩, ⟨by (with_reducible repeat (first | refine blk_drewN ?_ _ | refine blk_drew ?_ | refine blk_alloc ?_ _)); exact BK195.out⟩, ⟨by repeat (first | (with_reducible first | exact HB.out | apply below_alloc | apply pw_below_drewN | apply below_drew1 | refine below_set ?_ GE195.out) | exact HB.out)⟩⟩
 case rest =>
  clear HC3
  try clear c1
  try clear p2
  try clear c6
  try clear hcz5_0
  try clear hcz5_1
  try clear hcz5_2
  try clear hcz5_3
  try clear hcz7_0
  try clear hcz7_1
  try clear hcz7_2
  try clear hcz7_3
  try clear hfz5_0
  try clear hfz5_1
  try clear hfz5_2
  try clear hfz5_3
  try clear hfz7_0
  try clear hfz7_1
  try clear hfz7_2
  try clear hfz7_3
  obtain ⟨kq, x5_2, x6_2, rfl, rfl, HA, HJ2, BK195, HB⟩ := hcut
  cases kq with
  | zero => exact absurd HA.out (by simp [chandleryref08_Bytes.j0])
  | succ kj2 =>
   have H := HA.out
   clear HA
   simp only [chandleryref08_Bytes.j0] at H
   obtain ⟨y196, hy196⟩ : ∃ y_ : List Int, y_ = (([(x5_2) % 256, (wrap64 (Int.tdiv x6_2 256)) % 256, (Int.tmod x6_2 256) % 256] : List Int)) := ⟨_, rfl⟩
   replace H : (chandleryref08_Bytes.l0 kj2 a1 y196 0 a0_0 l0_1 l0_2 l0_3) = some r := by first | (rw [hy196]; with_reducible exact H) | (have H2_ := (Option.bind_some _ _).symm.trans H; rw [hy196]; with_reducible exact H2_) | (have H2_ := (Option.bind_some _ _).symm.trans H; with_reducible exact H2_) | with_reducible exact H | (rw [hy196]; exact H) | exact H
   have Ny196 := Aside0.mk hy196
   clear hy196
   have H' := Aside0.mk H
   clear H
   go_wp2_with (first | ((with_reducible refine gate_dst (N := 28) rfl ?_); refine Kd.R_lit (Kd.int .u8) _ 5 ?hg (N := 28) ?hd (xs := ([(x5_2) % 256, (wrap64 (Int.tdiv x6_2 256)) % 256, (Int.tmod x6_2 256) % 256] : List Int)) (inner := [.int .u8 ((x5_2) % 256), .int .u8 ((wrap64 (Int.tdiv x6_2 256)) % 256), .int .u8 ((Int.tmod x6_2 256) % 256)]) (ok := fun _ => True) (okp := fun _ => True) ?hr ?hp (fun _ hk => hk) trivial (Below.refl _ _) (Nat.le_refl _) (by simp) ?_; (case hd => rfl); (case hg => rfl); (case hr => first | (go_simp; done) | (go_simp; rfl)); (case hp => exact (Reps.one (show Kd.M (Kd.int .u8) _ _ _ ((x5_2) % 256) [.int .u8 ((x5_2) % 256)] from rfl) (Reps.one (show Kd.M (Kd.int .u8) _ _ _ ((wrap64 (Int.tdiv x6_2 256)) % 256) [.int .u8 ((wrap64 (Int.tdiv x6_2 256)) % 256)] from rfl) (Reps.one (show Kd.M (Kd.int .u8) _ _ _ ((Int.tmod x6_2 256) % 256) [.int .u8 ((Int.tmod x6_2 256) % 256)] from rfl) (Reps.none _ _))))); intro v197 w8 ho9 hb hg_ hnew_; clear hg_ hnew_; (first | rw [← Ny196.out] at ho9 | (simp only [Int.reduceToNat] at ho9; rw [← Ny196.out] at ho9)); have n0_ := Aside0.mk (Kd.R_lower ho9 (below_size (by repeat (first | (with_reducible first | exact HB.out | apply below_alloc | apply pw_below_drewN | apply below_drew1 | refine below_set ?_ GE195.out) | exact HB.out)))); have n1_ := Aside0.mk (blk_below (g := gb195) (o := .cells #[.bool a0_0, .slice A0_1 l0_1.length c0_1, .slice A0_2 l0_2.length c0_2, .slice A0_3 l0_3.length c0_3] 26 (0, 0)) (by (with_reducible repeat (first | refine blk_drewN ?_ _ | refine blk_drew ?_ | refine blk_alloc ?_ _)); exact BK195.out) hb); have n2_ := Aside0.mk (below_step (by repeat (first | (with_reducible first | exact HB.out | apply below_alloc | apply pw_below_drewN | apply below_drew1 | refine below_set ?_ GE195.out) | exact HB.out)) hb); clear BK195; clear HB; have HO198 := n0_; have BK195 := n1_; have HB := n2_; clear n0_ n1_ n2_; clear hb ho9))
   go_loopg [7, 8] kj2 (fun kq v7 v8 w' => ∃ (x7_2 : List Int) (x8_2 : Int), v8 = .int .i64 x8_2 ∧ Aside0 (chandleryref08_Bytes.l0 kq a1 x7_2 x8_2 a0_0 l0_1 l0_2 l0_3 = some r) ∧ Aside0 (kq ≤ kj2) ∧ Aside0 (Kd.R (Kd.int .u8) 5 w' w.heap.size (fun _ => True) v7 x7_2) ∧ Aside0 (w'.heap[gb195]? = some (.cells #[.bool a0_0, (.slice A0_1 l0_1.length c0_1), (.slice A0_2 l0_2.length c0_2), (.slice A0_3 l0_3.length c0_3)] 26 (0, 0))) ∧ Aside0 (Below w.heap.size w w'))
   case atStart => exact ⟨(y196), (0), (by first | rfl | (simp; done) | exact congrArg Value.bool (Go.Proofs.YtjhenmegcgnkgaaX.isEmpty_ne_ _) | exact congrArg Value.bool (Go.Proofs.YtjhenmegcgnkgaaX.ne_isEmpty_ _) | (simp [*]; done)), H', ⟨Nat.le_refl _⟩, ⟨by (with_reducible repeat (first | apply Kd.R_alloc | apply Kd.R_drewN | apply Kd.R_drew)); exact HO198.out⟩, ⟨by (with_reducible repeat (first | refine blk_drewN ?_ _ | refine blk_drew ?_ | refine blk_alloc ?_ _)); exact BK195.out⟩, ⟨by repeat (first | (with_reducible first | exact HB.out | apply below_alloc | apply pw_below_drewN | apply below_drew1 | refine below_set ?_ GE195.out) | exact HB.out)⟩⟩
   case round =>
    clear H'
    try clear c1
    try clear p2
    try clear c6
    try clear p6
    try clear hcz5_0
    try clear hcz5_1
    try clear hcz5_2
    try clear hcz5_3
    try clear hcz7_0
    try clear hcz7_1
    try clear hcz7_2
    try clear hcz7_3
    try clear hfz5_0
    try clear hfz5_1
    try clear hfz5_2
    try clear hfz5_3
    try clear hfz7_0
    try clear hfz7_1
    try clear hfz7_2
    try clear hfz7_3
    try clear p2
    obtain ⟨x7_2, x8_2, rfl, HA, HK2, HO_7, BK195, HB⟩ := hrel
    cases gk with
    | zero => exact absurd HA.out (by simp [chandleryref08_Bytes.l0])
    | succ k2 =>
     have H := HA.out
     clear HA
     simp only [chandleryref08_Bytes.l0] at H
     by_cases c10 : x8_2 < (l0_1.length : Int)
     ·rw [if_pos c10] at H
      have c10b0 : decide (x8_2 < (l0_1.length : Int)) = true := decide_eq_true c10
      clear c10
      by_cases c11 : 0 ≤ x8_2
      ·rw [if_pos c11] at H
       have c11b0 : decide (0 ≤ x8_2) = true := decide_eq_true c11
       clear c11
       by_cases c12 : x7_2.length < 140737488355328
       ·rw [if_pos c12] at H
        have LMc12 := Aside0.mk c12
        clear c12
        obtain ⟨y200, hy200⟩ : ∃ y_ : List Int, y_ = (x7_2 ++ [((((rd_T42 l0_1 x8_2).f0).size : Int)) % 256]) := ⟨_, rfl⟩
        replace H : (if y200.length + ((rd_T42 l0_1 x8_2).f0).size < 140737488355328 then ((some (y200 ++ bytesOf ((rd_T42 l0_1 x8_2).f0) : List Int)).bind fun y204 => (if y204.length < 140737488355328 then ((some (y204 ++ [((((rd_T42 l0_1 x8_2).f1).size : Int)) % 256] : List Int)).bind fun y208 => (if y208.length + ((rd_T42 l0_1 x8_2).f1).size < 140737488355328 then (chandleryref08_Bytes.l0 k2 a1 (y208 ++ bytesOf ((rd_T42 l0_1 x8_2).f1)) (wrap64 (x8_2 + 1)) a0_0 l0_1 l0_2 l0_3) else (none))) else (none))) else (none)) = some r := by first | (rw [hy200]; with_reducible exact H) | (have H2_ := (Option.bind_some _ _).symm.trans H; rw [hy200]; with_reducible exact H2_) | (have H2_ := (Option.bind_some _ _).symm.trans H; with_reducible exact H2_) | with_reducible exact H | (rw [hy200]; exact H) | exact H
        have Ny200 := Aside0.mk hy200
        clear hy200
        by_cases c13 : y200.length + ((rd_T42 l0_1 x8_2).f0).size < 140737488355328
        ·rw [if_pos c13] at H
         have LMc13 := Aside0.mk c13
         clear c13
         obtain ⟨y204, hy204⟩ : ∃ y_ : List Int, y_ = (y200 ++ bytesOf ((rd_T42 l0_1 x8_2).f0)) := ⟨_, rfl⟩
         replace H : (if y204.length < 140737488355328 then ((some (y204 ++ [((((rd_T42 l0_1 x8_2).f1).size : Int)) % 256] : List Int)).bind fun y208 => (if y208.length + ((rd_T42 l0_1 x8_2).f1).size < 140737488355328 then (chandleryref08_Bytes.l0 k2 a1 (y208 ++ bytesOf ((rd_T42 l0_1 x8_2).f1)) (wrap64 (x8_2 + 1)) a0_0 l0_1 l0_2 l0_3) else (none))) else (none)) = some r := by first | (rw [hy204]; with_reducible exact H) | (have H2_ := (Option.bind_some _ _).symm.trans H; rw [hy204]; with_reducible exact H2_) | (have H2_ := (Option.bind_some _ _).symm.trans H; with_reducible exact H2_) | with_reducible exact H | (rw [hy204]; exact H) | exact H
         have Ny204 := Aside0.mk hy204
         clear hy204
         by_cases c14 : y204.length < 140737488355328
         ·rw [if_pos c14] at H
          have LMc14 := Aside0.mk c14
          clear c14
          obtain ⟨y208, hy208⟩ : ∃ y_ : List Int, y_ = (y204 ++ [((((rd_T42 l0_1 x8_2).f1).size : Int)) % 256]) := ⟨_, rfl⟩
          replace H : (if y208.length + ((rd_T42 l0_1 x8_2).f1).size < 140737488355328 then (chandleryref08_Bytes.l0 k2 a1 (y208 ++ bytesOf ((rd_T42 l0_1 x8_2).f1)) (wrap64 (x8_2 + 1)) a0_0 l0_1 l0_2 l0_3) else (none)) = some r := by first | (rw [hy208]; with_reducible exact H) | (have H2_ := (Option.bind_some _ _).symm.trans H; rw [hy208]; with_reducible exact H2_) | (have H2_ := (Option.bind_some _ _).symm.trans H; with_reducible exact H2_) | with_reducible exact H | (rw [hy208]; exact H) | exact H
          have Ny208 := Aside0.mk hy208
          clear hy208
          by_cases c15 : y208.length + ((rd_T42 l0_1 x8_2).f1).size < 140737488355328
          ·rw [if_pos c15] at H
           have LMc15 := Aside0.mk c15
           clear c15
           obtain ⟨y212, hy212⟩ : ∃ y_ : List Int, y_ = (y208 ++ bytesOf ((rd_T42 l0_1 x8_2).f1)) := ⟨_, rfl⟩
           replace H : (chandleryref08_Bytes.l0 k2 a1 y212 (wrap64 (x8_2 + 1)) a0_0 l0_1 l0_2 l0_3) = some r := by first | (rw [hy212]; with_reducible exact H) | (have H2_ := (Option.bind_some _ _).symm.trans H; rw [hy212]; with_reducible exact H2_) | (have H2_ := (Option.bind_some _ _).symm.trans H; with_reducible exact H2_) | with_reducible exact H | (rw [hy212]; exact H) | exact H
           have Ny212 := Aside0.mk hy212
           clear hy212
           have H' := Aside0.mk H
           clear H
           have hcz16_0 : wr.cell? ⟨gb195, 0, none⟩ = some (.bool a0_0) := (blk_cell BK195.out 0).trans rfl
           have hcz16_1 : wr.cell? ⟨gb195, 1, none⟩ = some (.slice A0_1 l0_1.length c0_1) := (blk_cell BK195.out 1).trans rfl
           have hcz16_2 : wr.cell? ⟨gb195, 2, none⟩ = some (.slice A0_2 l0_2.length c0_2) := (blk_cell BK195.out 2).trans rfl
           have hcz16_3 : wr.cell? ⟨gb195, 3, none⟩ = some (.slice A0_3 l0_3.length c0_3) := (blk_cell BK195.out 3).trans rfl
           have hfz16_0 := blk_frozen BK195.out 0
           have hfz16_1 := blk_frozen BK195.out 1
           have hfz16_2 := blk_frozen BK195.out 2
           have hfz16_3 := blk_frozen BK195.out 3
           have p199 : 0 ≤ (x8_2 : Int) := of_decide_eq_true (by first | (with_reducible assumption) | assumption)
           have q199 : x8_2 < (l0_1.length : Int) := of_decide_eq_true (by first | (with_reducible assumption) | assumption)
           obtain ⟨ad199, e199, hx199_0, hx199_1⟩ := at_T42 HR0_1.out x8_2 p199 q199
           cases e199
           replace hx199_0 := (HB.out.cell (World.block_lt_of_cell? w _ hx199_0)).trans hx199_0
           replace hx199_1 := (HB.out.cell (World.block_lt_of_cell? w _ hx199_1)).trans hx199_1
           replace p199 := eq_true p199
           replace q199 := eq_true q199
           go_wp2_with (first | ((with_reducible refine gate_builtin (b := .append) (xs := #[.tmp 36, .tmp 45]) rfl ?_); at_builtin; refine Kd.R_append (Kd.int .u8) (w0 := w) w.heap.size rfl (.tmp 36) (.tmp 45) 30 5 (.int .u8 0) 1 rfl Try.underlying30 info5 rfl (by decide) (by omega) u7 x7_2 (((((rd_T42 l0_1 x8_2).f0).size : Int)) % 256) [.int .u8 (((((rd_T42 l0_1 x8_2).f0).size : Int)) % 256)] (fun _ => True) (fun _ => False) rfl rfl ?aP (fun _ hk => hk.elim) ?aF ?aO ?aB ?aS ?aL ?_; (case aP => exact rfl); (case aB => exact (by repeat (first | (with_reducible first | exact HB.out | apply below_alloc | apply pw_below_drewN | apply below_drew1 | refine below_set ?_ GE195.out) | exact HB.out))); (case aF => exact (fun _ _ => trivial)); (case aO => exact (by (with_reducible repeat (first | apply Kd.R_alloc | apply Kd.R_drewN | apply Kd.R_drew)); exact HO_7.out)); (case aS => exact (below_size (by repeat (first | (with_reducible first | exact HB.out | apply below_alloc | apply pw_below_drewN | apply below_drew1 | refine below_set ?_ GE195.out) | exact HB.out)))); (case aL => have := LMc12.out; omega); intro v201 w17 ho hb hg hat; rw [← Ny200.out] at ho; have n0_ := Aside0.mk (blk_grown (g := gb195) (o := .cells #[.bool a0_0, .slice (some ad199) l0_1.length c0_1, .slice A0_2 l0_2.length c0_2, .slice A0_3 l0_3.length c0_3] 26 (0, 0)) (by (with_reducible repeat (first | refine blk_drewN ?_ _ | refine blk_drew ?_ | refine blk_alloc ?_ _)); exact BK195.out) hg (Kd.R_ne HO_7.out BK195.out (by decide))); have n1_ := Aside0.mk (hb); have n2_ := Aside0.mk (ho); clear BK195; clear HB; clear HO_7; have BK195 := n0_; have HB := n1_; have HO202 := n2_; clear n0_ n1_ n2_; clear ho hb hg hat; have hcz18_0 : w17.cell? ⟨gb195, 0, none⟩ = some (.bool a0_0) := (blk_cell BK195.out 0).trans rfl; have hcz18_1 : w17.cell? ⟨gb195, 1, none⟩ = some (.slice (some ad199) l0_1.length c0_1) := (blk_cell BK195.out 1).trans rfl; have hcz18_2 : w17.cell? ⟨gb195, 2, none⟩ = some (.slice A0_2 l0_2.length c0_2) := (blk_cell BK195.out 2).trans rfl; have hcz18_3 : w17.cell? ⟨gb195, 3, none⟩ = some (.slice A0_3 l0_3.length c0_3) := (blk_cell BK195.out 3).trans rfl; have hfz18_0 := blk_frozen BK195.out 0; have hfz18_1 := blk_frozen BK195.out 1; have hfz18_2 := blk_frozen BK195.out 2; have hfz18_3 := blk_frozen BK195.out 3; have p203 : 0 ≤ (x8_2 : Int) := of_decide_eq_true (by first | (with_reducible assumption) | assumption); have q203 : x8_2 < (l0_1.length : Int) := of_decide_eq_true (by first | (with_reducible assumption) | assumption); obtain ⟨ad203, e203, hx203_0, hx203_1⟩ := at_T42 HR0_1.out x8_2 p203 q203; obtain rfl : ad199 = ad203 := (by injection e203); replace hx203_0 := (HB.out.cell (World.block_lt_of_cell? w _ hx203_0)).trans hx203_0; replace hx203_1 := (HB.out.cell (World.block_lt_of_cell? w _ hx203_1)).trans hx203_1; replace p203 := eq_true p203; replace q203 := eq_true q203) | ((with_reducible refine gate_builtin (b := .append) (xs := #[.tmp 47, .tmp 54]) rfl ?_); at_builtin; refine Go.Proofs.YtjhenmegcgnkgaaX.append_convR (w0 := w) w.heap.size rfl (.tmp 47) (.tmp 54) 30 5 rfl Try.underlying30 info5 v201 y200 ((rd_T42 l0_1 x8_2).f0) (fun _ => True) rfl rfl ?aF ?aO ?aB ?aS ?aL ?_; (case aB => exact (by repeat (first | (with_reducible first | exact HB.out | apply below_alloc | apply pw_below_drewN | apply below_drew1 | refine below_set ?_ GE195.out) | exact HB.out))); (case aF => exact (fun _ _ => trivial)); (case aO => exact (by (with_reducible repeat (first | apply Kd.R_alloc | apply Kd.R_drewN | apply Kd.R_drew)); exact HO202.out)); (case aS => exact (below_size (by repeat (first | (with_reducible first | exact HB.out | apply below_alloc | apply pw_below_drewN | apply below_drew1 | refine below_set ?_ GE195.out) | exact HB.out)))); (case aL => have := LMc13.out; omega); intro v205 w19 ho hb hg hat; rw [← Ny204.out] at ho; have n0_ := Aside0.mk (blk_grown (g := gb195) (o := .cells #[.bool a0_0, .slice (some ad199) l0_1.length c0_1, .slice A0_2 l0_2.length c0_2, .slice A0_3 l0_3.length c0_3] 26 (0, 0)) (by (with_reducible repeat (first | refine blk_drewN ?_ _ | refine blk_drew ?_ | refine blk_alloc ?_ _)); exact BK195.out) hg (Kd.R_ne HO202.out BK195.out (by decide))); have n1_ := Aside0.mk (hb); have n2_ := Aside0.mk (ho); clear BK195; clear HB; clear HO202; have BK195 := n0_; have HB := n1_; have HO206 := n2_; clear n0_ n1_ n2_; clear ho hb hg hat; have hcz20_0 : w19.cell? ⟨gb195, 0, none⟩ = some (.bool a0_0) := (blk_cell BK195.out 0).trans rfl; have hcz20_1 : w19.cell? ⟨gb195, 1, none⟩ = some (.slice (some ad199) l0_1.length c0_1) := (blk_cell BK195.out 1).trans rfl; have hcz20_2 : w19.cell? ⟨gb195, 2, none⟩ = some (.slice A0_2 l0_2.length c0_2) := (blk_cell BK195.out 2).trans rfl; have hcz20_3 : w19.cell? ⟨gb195, 3, none⟩ = some (.slice A0_3 l0_3.length c0_3) := (blk_cell BK195.out 3).trans rfl; have hfz20_0 := blk_frozen BK195.out 0; have hfz20_1 := blk_frozen BK195.out 1; have hfz20_2 := blk_frozen BK195.out 2; have hfz20_3 := blk_frozen BK195.out 3; have p207 : 0 ≤ (x8_2 : Int) := of_decide_eq_true (by first | (with_reducible assumption) | assumption); have q207 : x8_2 < (l0_1.length : Int) := of_decide_eq_true (by first | (with_reducible assumption) | assumption); obtain ⟨ad207, e207, hx207_0, hx207_1⟩ := at_T42 HR0_1.out x8_2 p207 q207; obtain rfl : ad199 = ad207 := (by injection e207); replace hx207_0 := (HB.out.cell (World.block_lt_of_cell? w _ hx207_0)).trans hx207_0; replace hx207_1 := (HB.out.cell (World.block_lt_of_cell? w _ hx207_1)).trans hx207_1; replace p207 := eq_true p207; replace q207 := eq_true q207) | ((with_reducible refine gate_builtin (b := .append) (xs := #[.tmp 56, .tmp 65]) rfl ?_); at_builtin; refine Kd.R_append (Kd.int .u8) (w0 := w) w.heap.size rfl (.tmp 56) (.tmp 65) 30 5 (.int .u8 0) 1 rfl Try.underlying30 info5 rfl (by decide) (by omega) v205 y204 (((((rd_T42 l0_1 x8_2).f1).size : Int)) % 256) [.int .u8 (((((rd_T42 l0_1 x8_2).f1).size : Int)) % 256)] (fun _ => True) (fun _ => False) rfl rfl ?aP (fun _ hk => hk.elim) ?aF ?aO ?aB ?aS ?aL ?_; (case aP => exact rfl); (case aB => exact (by repeat (first | (with_reducible first | exact HB.out | apply below_alloc | apply pw_below_drewN | apply below_drew1 | refine below_set ?_ GE195.out) | exact HB.out))); (case aF => exact (fun _ _ => trivial)); (case aO => exact (by (with_reducible repeat (first | apply Kd.R_alloc | apply Kd.R_drewN | apply Kd.R_drew)); exact HO206.out)); (case aS => exact (below_size (by repeat (first | (with_reducible first | exact HB.out | apply below_alloc | apply pw_below_drewN | apply below_drew1 | refine below_set ?_ GE195.out) | exact HB.out)))); (case aL => have := LMc14.out; omega); intro v209 w21 ho hb hg hat; rw [← Ny208.out] at ho; have n0_ := Aside0.mk (blk_grown (g := gb195) (o := .cells #[.bool a0_0, .slice (some ad199) l0_1.length c0_1, .slice A0_2 l0_2.length c0_2, .slice A0_3 l0_3.length c0_3] 26 (0, 0)) (by (with_reducible repeat (first | refine blk_drewN ?_ _ | refine blk_drew ?_ | refine blk_alloc ?_ _)); exact BK195.out) hg (Kd.R_ne HO206.out BK195.out (by decide))); have n1_ := Aside0.mk (hb); have n2_ := Aside0.mk (ho); clear BK195; clear HB; clear HO206; have BK195 := n0_; have HB := n1_; have HO210 := n2_; clear n0_ n1_ n2_; clear ho hb hg hat; have hcz22_0 : w21.cell? ⟨gb195, 0, none⟩ = some (.bool a0_0) := (blk_cell BK195.out 0).trans rfl; have hcz22_1 : w21.cell? ⟨gb195, 1, none⟩ = some (.slice (some ad199) l0_1.length c0_1) := (blk_cell BK195.out 1).trans rfl; have hcz22_2 : w21.cell? ⟨gb195, 2, none⟩ = some (.slice A0_2 l0_2.length c0_2) := (blk_cell BK195.out 2).trans rfl; have hcz22_3 : w21.cell? ⟨gb195, 3, none⟩ = some (.slice A0_3 l0_3.length c0_3) := (blk_cell BK195.out 3).trans rfl; have hfz22_0 := blk_frozen BK195.out 0; have hfz22_1 := blk_frozen BK195.out 1; have hfz22_2 := blk_frozen BK195.out 2; have hfz22_3 := blk_frozen BK195.out 3; have p211 : 0 ≤ (x8_2 : Int) := of_decide_eq_true (by first | (with_reducible assumption) | assumption); have q211 : x8_2 < (l0_1.length : Int) := of_decide_eq_true (by first | (with_reducible assumption) | assumption); obtain ⟨ad211, e211, hx211_0, hx211_1⟩ := at_T42 HR0_1.out x8_2 p211 q211; obtain rfl : ad199 = ad211 := (by injection e211); replace hx211_0 := (HB.out.cell (World.block_lt_of_cell? w _ hx211_0)).trans hx211_0; replace hx211_1 := (HB.out.cell (World.block_lt_of_cell? w _ hx211_1)).trans hx211_1; replace p211 := eq_true p211; replace q211 := eq_true q211) | ((with_reducible refine gate_builtin (b := .append) (xs := #[.tmp 67, .tmp 74]) rfl ?_); at_builtin; refine Go.Proofs.YtjhenmegcgnkgaaX.append_convR (w0 := w) w.heap.size rfl (.tmp 67) (.tmp 74) 30 5 rfl Try.underlying30 info5 v209 y208 ((rd_T42 l0_1 x8_2).f1) (fun _ => True) rfl rfl ?aF ?aO ?aB ?aS ?aL ?_; (case aB => exact (by repeat (first | (with_reducible first | exact HB.out | apply below_alloc | apply pw_below_drewN | apply below_drew1 | refine below_set ?_ GE195.out) | exact HB.out))); (case aF => exact (fun _ _ => trivial)); (case aO => exact (by (with_reducible repeat (first | apply Kd.R_alloc | apply Kd.R_drewN | apply Kd.R_drew)); exact HO210.out)); (case aS => exact (below_size (by repeat (first | (with_reducible first | exact HB.out | apply below_alloc | apply pw_below_drewN | apply below_drew1 | refine below_set ?_ GE195.out) | exact HB.out)))); (case aL => have := LMc15.out; omega); intro v213 w23 ho hb hg hat; rw [← Ny212.out] at ho; have n0_ := Aside0.mk (blk_grown (g := gb195) (o := .cells #[.bool a0_0, .slice (some ad199) l0_1.length c0_1, .slice A0_2 l0_2.length c0_2, .slice A0_3 l0_3.length c0_3] 26 (0, 0)) (by (with_reducible repeat (first | refine blk_drewN ?_ _ | refine blk_drew ?_ | refine blk_alloc ?_ _)); exact BK195.out) hg (Kd.R_ne HO210.out BK195.out (by decide))); have n1_ := Aside0.mk (hb); have n2_ := Aside0.mk (ho); clear BK195; clear HB; clear HO210; have BK195 := n0_; have HB := n1_; have HO214 := n2_; clear n0_ n1_ n2_; clear ho hb hg hat))
           go_roundg k2
           case measure => have := HJ2.out; have := HK2.out; omega
           case rel => exact ⟨(y212), (wrap64 (x8_2 + 1)), (by first | rfl | (simp; done) | exact congrArg Value.bool (Go.Proofs.YtjhenmegcgnkgaaX.isEmpty_ne_ _) | exact congrArg Value.bool (Go.Proofs.YtjhenmegcgnkgaaX.ne_isEmpty_ _) | (simp [*]; done)), H', ⟨by have := HJ2.out; have := HK2.out; omega⟩, ⟨by (with_reducible repeat (first | apply Kd.R_alloc | apply Kd.R_drewN | apply Kd.R_drew)); exact HO214.out⟩, ⟨by (with_reducible repeat (first | refine blk_drewN ?_ _ | refine blk_drew ?_ | refine blk_alloc ?_ _)); exact BK195.out⟩, ⟨by repeat (first | (with_reducible first | exact HB.out | apply below_alloc | apply pw_below_drewN | apply below_drew1 | refine below_set ?_ GE195.out) | exact HB.out)⟩⟩
          ·rw [if_neg c15] at H
           exact absurd H (by simp)
         ·rw [if_neg c14] at H
          exact absurd H (by simp)
        ·rw [if_neg c13] at H
         exact absurd H (by simp)
       ·rw [if_neg c12] at H
        exact absurd H (by simp)
      ·rw [if_neg c11] at H
       exact absurd H (by simp)
     ·rw [if_neg c10] at H
      have c10b0 : decide (x8_2 < (l0_1.length : Int)) = false := decide_eq_false c10
      clear c10
      have H' := Aside0.mk H
      clear H
      have hcz24_0 : wr.cell? ⟨gb195, 0, none⟩ = some (.bool a0_0) := (blk_cell BK195.out 0).trans rfl
      have hcz24_1 : wr.cell? ⟨gb195, 1, none⟩ = some (.slice A0_1 l0_1.length c0_1) := (blk_cell BK195.out 1).trans rfl
      have hcz24_2 : wr.cell? ⟨gb195, 2, none⟩ = some (.slice A0_2 l0_2.length c0_2) := (blk_cell BK195.out 2).trans rfl
      have hcz24_3 : wr.cell? ⟨gb195, 3, none⟩ = some (.slice A0_3 l0_3.length c0_3) := (blk_cell BK195.out 3).trans rfl
      have hfz24_0 := blk_frozen BK195.out 0
      have hfz24_1 := blk_frozen BK195.out 1
      have hfz24_2 := blk_frozen BK195.out 2
      have hfz24_3 := blk_frozen BK195.out 3
      go_wp2
      go_loopg [7, 9] k2 (fun kq v7 v9 w' => ∃ (x7_3 : List Int) (x9_3 : Int), v9 = .int .i64 x9_3 ∧ Aside0 (chandleryref08_Bytes.l1 kq a1 x7_3 x9_3 a0_0 l0_1 l0_2 l0_3 = some r) ∧ Aside0 (kq ≤ k2) ∧ Aside0 (Kd.R (Kd.int .u8) 5 w' w.heap.size (fun _ => True) v7 x7_3) ∧ Aside0 (w'.heap[gb195]? = some (.cells #[.bool a0_0, (.slice A0_1 l0_1.length c0_1), (.slice A0_2 l0_2.length c0_2), (.slice A0_3 l0_3.length c0_3)] 26 (0, 0))) ∧ Aside0 (Below w.heap.size w w'))
      case atStart => exact ⟨(x7_2), (0), (by first | rfl | (simp; done) | exact congrArg Value.bool (Go.Proofs.YtjhenmegcgnkgaaX.isEmpty_ne_ _) | exact congrArg Value.bool (Go.Proofs.YtjhenmegcgnkgaaX.ne_isEmpty_ _) | (simp [*]; done)), H', ⟨Nat.le_refl _⟩, ⟨by (with_reducible repeat (first | apply Kd.R_alloc | apply Kd.R_drewN | apply Kd.R_drew)); exact HO_7.out⟩, ⟨by (with_reducible repeat (first | refine blk_drewN ?_ _ | refine blk_drew ?_ | refine blk_alloc ?_ _)); exact BK195.out⟩, ⟨by repeat (first | (with_reducible first | exact HB.out | apply below_alloc | apply pw_below_drewN | apply below_drew1 | refine below_set ?_ GE195.out) | exact HB.out)⟩⟩
      case round =>
       clear H'
       try clear c1
       try clear p1
       try clear q1
       try clear hx1
       try clear p2
       try clear q2
       try clear hx2
       try clear c6
       try clear p6
       try clear c10
       try clear c10b0
       try clear c11
       try clear c11b0
       try clear c12
       try clear c13
       try clear c14
       try clear c15
       try clear c18
       try clear p19
       try clear q19
       try clear hx19
       try clear p20
       try clear q20
       try clear hx20
       try clear p21
       try clear q21
       try clear hx21
       try clear hcz16_0
       try clear hcz16_1
       try clear hcz16_2
       try clear hcz16_3
       try clear hcz18_0
       try clear hcz18_1
       try clear hcz18_2
       try clear hcz18_3
       try clear hcz20_0
       try clear hcz20_1
       try clear hcz20_2
       try clear hcz20_3
       try clear hcz22_0
       try clear hcz22_1
       try clear hcz22_2
       try clear hcz22_3
       try clear hcz24_0
       try clear hcz24_1
       try clear hcz24_2
       try clear hcz24_3
       try clear hcz5_0
       try clear hcz5_1
       try clear hcz5_2
       try clear hcz5_3
       try clear hcz7_0
       try clear hcz7_1
       try clear hcz7_2
       try clear hcz7_3
       try clear hfz16_0
       try clear hfz16_1
       try clear hfz16_2
       try clear hfz16_3
       try clear hfz18_0
       try clear hfz18_1
       try clear hfz18_2
       try clear hfz18_3
       try clear hfz20_0
       try clear hfz20_1
       try clear hfz20_2
       try clear hfz20_3
       try clear hfz22_0
       try clear hfz22_1
       try clear hfz22_2
       try clear hfz22_3
       try clear hfz24_0
       try clear hfz24_1
       try clear hfz24_2
       try clear hfz24_3
       try clear hfz5_0
       try clear hfz5_1
       try clear hfz5_2
       try clear hfz5_3
       try clear hfz7_0
       try clear hfz7_1
       try clear hfz7_2
       try clear hfz7_3
       try clear hx199_0
       try clear hx199_1
       try clear hx203_0
       try clear hx203_1
       try clear hx207_0
       try clear hx207_1
       try clear hx211_0
       try clear hx211_1
       try clear p199
       try clear p2
       try clear p203
       try clear p207
       try clear p211
       try clear p6
       try clear q199
       try clear q203
       try clear q207
       try clear q211
       obtain ⟨x7_3, x9_3, rfl, HA, HK3, HO_7, BK195, HB⟩ := hrel
       cases gk with
       | zero => exact absurd HA.out (by simp [chandleryref08_Bytes.l1])
       | succ k3 =>
        have H := HA.out
        clear HA
        simp only [chandleryref08_Bytes.l1] at H
        by_cases c25 : x9_3 < (l0_3.length : Int)
        ·rw [if_pos c25] at H
         have c25b0 : decide (x9_3 < (l0_3.length : Int)) = true := decide_eq_true c25
         clear c25
         by_cases c26 : 0 ≤ x9_3
         ·rw [if_pos c26] at H
          have c26b0 : decide (0 ≤ x9_3) = true := decide_eq_true c26
          clear c26
          obtain ⟨y216, hy216⟩ : ∃ y_ : List Int, y_ = (([(wrap64 (Int.tdiv (rd l0_3 x9_3) 65536)) % 256, (Int.tmod (wrap64 (Int.tdiv (rd l0_3 x9_3) 256)) 256) % 256, (Int.tmod (rd l0_3 x9_3) 256) % 256] : List Int)) := ⟨_, rfl⟩
          replace H : (if x7_3.length + y216.length < 140737488355328 then (chandleryref08_Bytes.l1 k3 a1 (x7_3 ++ y216) (wrap64 (x9_3 + 1)) a0_0 l0_1 l0_2 l0_3) else (none)) = some r := by first | (rw [hy216]; with_reducible exact H) | (have H2_ := (Option.bind_some _ _).symm.trans H; rw [hy216]; with_reducible exact H2_) | (have H2_ := (Option.bind_some _ _).symm.trans H; with_reducible exact H2_) | with_reducible exact H | (rw [hy216]; exact H) | exact H
          have Ny216 := Aside0.mk hy216
          clear hy216
          by_cases c27 : x7_3.length + y216.length < 140737488355328
          ·rw [if_pos c27] at H
           have LMc27 := Aside0.mk c27
           clear c27
           obtain ⟨y219, hy219⟩ : ∃ y_ : List Int, y_ = (x7_3 ++ y216) := ⟨_, rfl⟩
           replace H : (chandleryref08_Bytes.l1 k3 a1 y219 (wrap64 (x9_3 + 1)) a0_0 l0_1 l0_2 l0_3) = some r := by first | (rw [hy219]; with_reducible exact H) | (have H2_ := (Option.bind_some _ _).symm.trans H; rw [hy219]; with_reducible exact H2_) | (have H2_ := (Option.bind_some _ _).symm.trans H; with_reducible exact H2_) | with_reducible exact H | (rw [hy219]; exact H) | exact H
           have Ny219 := Aside0.mk hy219
           clear hy219
           have H' := Aside0.mk H
           clear H
           have hcz28_0 : wr.cell? ⟨gb195, 0, none⟩ = some (.bool a0_0) := (blk_cell BK195.out 0).trans rfl
           have hcz28_1 : wr.cell? ⟨gb195, 1, none⟩ = some (.slice A0_1 l0_1.length c0_1) := (blk_cell BK195.out 1).trans rfl
           have hcz28_2 : wr.cell? ⟨gb195, 2, none⟩ = some (.slice A0_2 l0_2.length c0_2) := (blk_cell BK195.out 2).trans rfl
           have hcz28_3 : wr.cell? ⟨gb195, 3, none⟩ = some (.slice A0_3 l0_3.length c0_3) := (blk_cell BK195.out 3).trans rfl
           have hfz28_0 := blk_frozen BK195.out 0
           have hfz28_1 := blk_frozen BK195.out 1
           have hfz28_2 := blk_frozen BK195.out 2
           have hfz28_3 := blk_frozen BK195.out 3
           have p215 : 0 ≤ (x9_3 : Int) := of_decide_eq_true (by first | (with_reducible assumption) | assumption)
           have q215 : x9_3 < (l0_3.length : Int) := of_decide_eq_true (by first | (with_reducible assumption) | assumption)
           obtain ⟨ad215, e215, hx215_0⟩ := Kd.at_int HR0_3.out x9_3 p215 q215
           cases e215
           replace hx215_0 := (HB.out.cell (World.block_lt_of_cell? w _ hx215_0)).trans hx215_0
           replace p215 := eq_true p215
           replace q215 := eq_true q215
           go_wp2_with (first | ((with_reducible refine gate_dst (N := 99) rfl ?_); refine Kd.R_lit (Kd.int .u8) _ 5 ?hg (N := 99) ?hd (xs := ([(wrap64 (Int.tdiv (rd l0_3 x9_3) 65536)) % 256, (Int.tmod (wrap64 (Int.tdiv (rd l0_3 x9_3) 256)) 256) % 256, (Int.tmod (rd l0_3 x9_3) 256) % 256] : List Int)) (inner := [.int .u8 ((wrap64 (Int.tdiv (rd l0_3 x9_3) 65536)) % 256), .int .u8 ((Int.tmod (wrap64 (Int.tdiv (rd l0_3 x9_3) 256)) 256) % 256), .int .u8 ((Int.tmod (rd l0_3 x9_3) 256) % 256)]) (ok := fun _ => True) (okp := fun _ => True) ?hr ?hp (fun _ hk => hk) trivial (Below.refl _ _) (Nat.le_refl _) (by simp) ?_; (case hd => rfl); (case hg => rfl); (case hr => first | (go_simp; done) | (go_simp; rfl)); (case hp => exact (Reps.one (show Kd.M (Kd.int .u8) _ _ _ ((wrap64 (Int.tdiv (rd l0_3 x9_3) 65536)) % 256) [.int .u8 ((wrap64 (Int.tdiv (rd l0_3 x9_3) 65536)) % 256)] from rfl) (Reps.one (show Kd.M (Kd.int .u8) _ _ _ ((Int.tmod (wrap64 (Int.tdiv (rd l0_3 x9_3) 256)) 256) % 256) [.int .u8 ((Int.tmod (wrap64 (Int.tdiv (rd l0_3 x9_3) 256)) 256) % 256)] from rfl) (Reps.one (show Kd.M (Kd.int .u8) _ _ _ ((Int.tmod (rd l0_3 x9_3) 256) % 256) [.int .u8 ((Int.tmod (rd l0_3 x9_3) 256) % 256)] from rfl) (Reps.none _ _))))); intro v217 w29 ho30 hb hg_ hnew_; clear hg_ hnew_; (first | rw [← Ny216.out] at ho30 | (simp only [Int.reduceToNat] at ho30; rw [← Ny216.out] at ho30)); have n0_ := Aside0.mk (Kd.R_elder' (by (with_reducible repeat (first | apply Kd.R_alloc | apply Kd.R_drewN | apply Kd.R_drew)); exact HO_7.out) (Kd.R_base ho30) hb); have n1_ := Aside0.mk (Kd.R_lower (Kd.R_new' ho30 (Kd.R_lt (by (with_reducible repeat (first | apply Kd.R_alloc | apply Kd.R_drewN | apply Kd.R_drew)); exact HO_7.out))) (below_size (by repeat (first | (with_reducible first | exact HB.out | apply below_alloc | apply pw_below_drewN | apply below_drew1 | refine below_set ?_ GE195.out) | exact HB.out)))); have n2_ := Aside0.mk (blk_below (g := gb195) (o := .cells #[.bool a0_0, .slice A0_1 l0_1.length c0_1, .slice A0_2 l0_2.length c0_2, .slice (some ad215) l0_3.length c0_3] 26 (0, 0)) (by (with_reducible repeat (first | refine blk_drewN ?_ _ | refine blk_drew ?_ | refine blk_alloc ?_ _)); exact BK195.out) hb); have n3_ := Aside0.mk (below_step (by repeat (first | (with_reducible first | exact HB.out | apply below_alloc | apply pw_below_drewN | apply below_drew1 | refine below_set ?_ GE195.out) | exact HB.out)) hb); clear HO_7; clear BK195; clear HB; have HO_7 := n0_; have HO218 := n1_; have BK195 := n2_; have HB := n3_; clear n0_ n1_ n2_ n3_; clear hb ho30; obtain ⟨Ao32, co32, eo32⟩ := Kd.R_slice HO218.out; subst eo32) | ((with_reducible refine gate_builtin (b := .append) (xs := #[.tmp 88, .tmp 99]) rfl ?_); at_builtin; refine Kd.R_append_rows (Kd.int .u8) (w0 := w) w.heap.size rfl (.tmp 88) (.tmp 99) 30 5 (.int .u8 0) 1 rfl Try.underlying30 info5 rfl (by decide) (by omega) u7 x7_3 y216 _ _ _ (fun k_ => some k_ ≠ (.slice Ao32 y216.length co32 : Value).ownBlock) (fun _ => False) rfl rfl ?aO ?aR (fun _ _ h => h) (fun _ h => h.elim) ?aF ?aB ?aS ?aL ?_; (case aR => repeat (first | exact (Kd.R_reads' HO218.out).2.2 | (with_reducible refine Kd.C_alloc ?_ _) | (with_reducible refine Kd.C_drewN ?_ _) | (with_reducible refine Kd.C_drew ?_))); (case aB => exact (by repeat (first | (with_reducible first | exact HB.out | apply below_alloc | apply pw_below_drewN | apply below_drew1 | refine below_set ?_ GE195.out) | exact HB.out))); (case aF => exact (fun k_ hk => Kd.fresh' (Kd.R_lt (by (with_reducible repeat (first | apply Kd.R_alloc | apply Kd.R_drewN | apply Kd.R_drew)); exact HO218.out)) k_ hk)); (case aO => exact (by (with_reducible repeat (first | apply Kd.R_alloc | apply Kd.R_drewN | apply Kd.R_drew)); exact Kd.R_mono HO_7.out (fun _ hk => hk.2))); (case aS => exact (below_size (by repeat (first | (with_reducible first | exact HB.out | apply below_alloc | apply pw_below_drewN | apply below_drew1 | refine below_set ?_ GE195.out) | exact HB.out)))); (case aL => have := LMc27.out; omega); intro v220 w31 ho hb hg hat; rw [← Ny219.out] at ho; have n0_ := Aside0.mk (blk_grown (g := gb195) (o := .cells #[.bool a0_0, .slice A0_1 l0_1.length c0_1, .slice A0_2 l0_2.length c0_2, .slice (some ad215) l0_3.length c0_3] 26 (0, 0)) (by (with_reducible repeat (first | refine blk_drewN ?_ _ | refine blk_drew ?_ | refine blk_alloc ?_ _)); exact BK195.out) hg (Kd.R_ne HO_7.out BK195.out (by decide))); have n1_ := Aside0.mk (Kd.R_after (ok := (fun _ => True)) (by (with_reducible repeat (first | apply Kd.R_alloc | apply Kd.R_drewN | apply Kd.R_drew)); exact HO218.out) hg hat); have n2_ := Aside0.mk (hb); have n3_ := Aside0.mk (ho); clear BK195; clear HO218; clear HB; clear HO_7; have BK195 := n0_; have HO218 := n1_; have HB := n2_; have HO221 := n3_; clear n0_ n1_ n2_ n3_; clear ho hb hg hat))
           go_roundg k3
           case measure => have := HJ2.out; have := HK2.out; have := HK3.out; omega
           case rel => exact ⟨(y219), (wrap64 (x9_3 + 1)), (by first | rfl | (simp; done) | exact congrArg Value.bool (Go.Proofs.YtjhenmegcgnkgaaX.isEmpty_ne_ _) | exact congrArg Value.bool (Go.Proofs.YtjhenmegcgnkgaaX.ne_isEmpty_ _) | (simp [*]; done)), H', ⟨by have := HJ2.out; have := HK2.out; have := HK3.out; omega⟩, ⟨by (with_reducible repeat (first | apply Kd.R_alloc | apply Kd.R_drewN | apply Kd.R_drew)); exact Kd.R_mono HO221.out (fun _ hk => trivial)⟩, ⟨by (with_reducible repeat (first | refine blk_drewN ?_ _ | refine blk_drew ?_ | refine blk_alloc ?_ _)); exact BK195.out⟩, ⟨by repeat (first | (with_reducible first | exact HB.out | apply below_alloc | apply pw_below_drewN | apply below_drew1 | refine below_set ?_ GE195.out) | exact HB.out)⟩⟩
          ·rw [if_neg c27] at H
           exact absurd H (by simp)
         ·rw [if_neg c26] at H
          exact absurd H (by simp)
        ·rw [if_neg c25] at H
         have c25b0 : decide (x9_3 < (l0_3.length : Int)) = false := decide_eq_false c25
         clear c25
         have H' := Aside0.mk H
         clear H
         have hcz33_0 : wr.cell? ⟨gb195, 0, none⟩ = some (.bool a0_0) := (blk_cell BK195.out 0).trans rfl
         have hcz33_1 : wr.cell? ⟨gb195, 1, none⟩ = some (.slice A0_1 l0_1.length c0_1) := (blk_cell BK195.out 1).trans rfl
         have hcz33_2 : wr.cell? ⟨gb195, 2, none⟩ = some (.slice A0_2 l0_2.length c0_2) := (blk_cell BK195.out 2).trans rfl
         have hcz33_3 : wr.cell? ⟨gb195, 3, none⟩ = some (.slice A0_3 l0_3.length c0_3) := (blk_cell BK195.out 3).trans rfl
         have hfz33_0 := blk_frozen BK195.out 0
         have hfz33_1 := blk_frozen BK195.out 1
         have hfz33_2 := blk_frozen BK195.out 2
         have hfz33_3 := blk_frozen BK195.out 3
         go_wp2
         go_loopg [7, 11] k3 (fun kq v7 v11 w' => ∃ (x7_4 : List Int) (x11_4 : Int), v11 = .int .i64 x11_4 ∧ Aside0 (chandleryref08_Bytes.l2 kq a1 x7_4 x11_4 a0_0 l0_1 l0_2 l0_3 = some r) ∧ Aside0 (kq ≤ k3) ∧ Aside0 (Kd.R (Kd.int .u8) 5 w' w.heap.size (fun _ => True) v7 x7_4) ∧ Aside0 (w'.heap[gb195]? = some (.cells #[.bool a0_0, (.slice A0_1 l0_1.length c0_1), (.slice A0_2 l0_2.length c0_2), (.slice A0_3 l0_3.length c0_3)] 26 (0, 0))) ∧ Aside0 (Below w.heap.size w w'))
         case atStart => exact ⟨(x7_3), (0), (by first | rfl | (simp; done) | exact congrArg Value.bool (Go.Proofs.YtjhenmegcgnkgaaX.isEmpty_ne_ _) | exact congrArg Value.bool (Go.Proofs.YtjhenmegcgnkgaaX.ne_isEmpty_ _) | (simp [*]; done)), H', ⟨Nat.le_refl _⟩, ⟨by (with_reducible repeat (first | apply Kd.R_alloc | apply Kd.R_drewN | apply Kd.R_drew)); exact HO_7.out⟩, ⟨by (with_reducible repeat (first | refine blk_drewN ?_ _ | refine blk_drew ?_ | refine blk_alloc ?_ _)); exact BK195.out⟩, ⟨by repeat (first | (with_reducible first | exact HB.out | apply below_alloc | apply pw_below_drewN | apply below_drew1 | refine below_set ?_ GE195.out) | exact HB.out)⟩⟩
         case round =>
          clear H'
          try clear c1
          try clear p1
          try clear q1
          try clear hx1
          try clear c2
          try clear p2
          try clear q2
          try clear hx2
          try clear c6
          try clear p6
          try clear c10
          try clear c10b0
          try clear c11
          try clear c11b0
          try clear c12
          try clear c13
          try clear c14
          try clear c15
          try clear c18
          try clear p19
          try clear q19
          try clear hx19
          try clear p20
          try clear q20
          try clear hx20
          try clear p21
          try clear q21
          try clear hx21
          try clear c25
          try clear c25b0
          try clear c26
          try clear c26b0
          try clear c27
          try clear hcz16_0
          try clear hcz16_1
          try clear hcz16_2
          try clear hcz16_3
          try clear hcz18_0
          try clear hcz18_1
          try clear hcz18_2
          try clear hcz18_3
          try clear hcz20_0
          try clear hcz20_1
          try clear hcz20_2
          try clear hcz20_3
          try clear hcz22_0
          try clear hcz22_1
          try clear hcz22_2
          try clear hcz22_3
          try clear hcz24_0
          try clear hcz24_1
          try clear hcz24_2
          try clear hcz24_3
          try clear hcz28_0
          try clear hcz28_1
          try clear hcz28_2
          try clear hcz28_3
          try clear hcz33_0
          try clear hcz33_1
          try clear hcz33_2
          try clear hcz33_3
          try clear hcz5_0
          try clear hcz5_1
          try clear hcz5_2
          try clear hcz5_3
          try clear hcz7_0
          try clear hcz7_1
          try clear hcz7_2
          try clear hcz7_3
          try clear hfz16_0
          try clear hfz16_1
          try clear hfz16_2
          try clear hfz16_3
          try clear hfz18_0
          try clear hfz18_1
          try clear hfz18_2
          try clear hfz18_3
          try clear hfz20_0
          try clear hfz20_1
          try clear hfz20_2
          try clear hfz20_3
          try clear hfz22_0
          try clear hfz22_1
          try clear hfz22_2
          try clear hfz22_3
          try clear hfz24_0
          try clear hfz24_1
          try clear hfz24_2
          try clear hfz24_3
          try clear hfz28_0
          try clear hfz28_1
          try clear hfz28_2
          try clear hfz28_3
          try clear hfz33_0
          try clear hfz33_1
          try clear hfz33_2
          try clear hfz33_3
          try clear hfz5_0
          try clear hfz5_1
          try clear hfz5_2
          try clear hfz5_3
          try clear hfz7_0
          try clear hfz7_1
          try clear hfz7_2
          try clear hfz7_3
          try clear hx199_0
          try clear hx199_1
          try clear hx203_0
          try clear hx203_1
          try clear hx207_0
          try clear hx207_1
          try clear hx211_0
          try clear hx211_1
          try clear hx215_0
          try clear p1
          try clear p19
          try clear p199
          try clear p2
          try clear p20
          try clear p203
          try clear p207
          try clear p21
          try clear p211
          try clear p215
          try clear p6
          try clear q1
          try clear q19
          try clear q199
          try clear q2
          try clear q20
          try clear q203
          try clear q207
          try clear q21
          try clear q211
          try clear q215
          obtain ⟨x7_4, x11_4, rfl, HA, HK4, HO_7, BK195, HB⟩ := hrel
          cases gk with
          | zero => exact absurd HA.out (by simp [chandleryref08_Bytes.l2])
          | succ k4 =>
           have H := HA.out
           clear HA
           simp only [chandleryref08_Bytes.l2] at H
           by_cases c34 : x11_4 < (l0_2.length : Int)
           ·rw [if_pos c34] at H
            have c34b0 : decide (x11_4 < (l0_2.length : Int)) = true := decide_eq_true c34
            clear c34
            by_cases c35 : 0 ≤ x11_4
            ·rw [if_pos c35] at H
             have c35b0 : decide (0 ≤ x11_4) = true := decide_eq_true c35
             clear c35
             by_cases c36 : x7_4.length < 140737488355328
             ·rw [if_pos c36] at H
              have LMc36 := Aside0.mk c36
              clear c36
              obtain ⟨y223, hy223⟩ : ∃ y_ : List Int, y_ = (x7_4 ++ [(((rdOf ByteArray.empty l0_2 x11_4).size : Int)) % 256]) := ⟨_, rfl⟩
              replace H : (if y223.length + (rdOf ByteArray.empty l0_2 x11_4).size < 140737488355328 then (chandleryref08_Bytes.l2 k4 a1 (y223 ++ bytesOf (rdOf ByteArray.empty l0_2 x11_4)) (wrap64 (x11_4 + 1)) a0_0 l0_1 l0_2 l0_3) else (none)) = some r := by first | (rw [hy223]; with_reducible exact H) | (have H2_ := (Option.bind_some _ _).symm.trans H; rw [hy223]; with_reducible exact H2_) | (have H2_ := (Option.bind_some _ _).symm.trans H; with_reducible exact H2_) | with_reducible exact H | (rw [hy223]; exact H) | exact H
              have Ny223 := Aside0.mk hy223
              clear hy223
              by_cases c37 : y223.length + (rdOf ByteArray.empty l0_2 x11_4).size < 140737488355328
              ·rw [if_pos c37] at H
               have LMc37 := Aside0.mk c37
               clear c37
               obtain ⟨y227, hy227⟩ : ∃ y_ : List Int, y_ = (y223 ++ bytesOf (rdOf ByteArray.empty l0_2 x11_4)) := ⟨_, rfl⟩
               replace H : (chandleryref08_Bytes.l2 k4 a1 y227 (wrap64 (x11_4 + 1)) a0_0 l0_1 l0_2 l0_3) = some r := by first | (rw [hy227]; with_reducible exact H) | (have H2_ := (Option.bind_some _ _).symm.trans H; rw [hy227]; with_reducible exact H2_) | (have H2_ := (Option.bind_some _ _).symm.trans H; with_reducible exact H2_) | with_reducible exact H | (rw [hy227]; exact H) | exact H
               have Ny227 := Aside0.mk hy227
               clear hy227
               have H' := Aside0.mk H
               clear H
               have hcz38_0 : wr.cell? ⟨gb195, 0, none⟩ = some (.bool a0_0) := (blk_cell BK195.out 0).trans rfl
               have hcz38_1 : wr.cell? ⟨gb195, 1, none⟩ = some (.slice A0_1 l0_1.length c0_1) := (blk_cell BK195.out 1).trans rfl
               have hcz38_2 : wr.cell? ⟨gb195, 2, none⟩ = some (.slice A0_2 l0_2.length c0_2) := (blk_cell BK195.out 2).trans rfl
               have hcz38_3 : wr.cell? ⟨gb195, 3, none⟩ = some (.slice A0_3 l0_3.length c0_3) := (blk_cell BK195.out 3).trans rfl
               have hfz38_0 := blk_frozen BK195.out 0
               have hfz38_1 := blk_frozen BK195.out 1
               have hfz38_2 := blk_frozen BK195.out 2
               have hfz38_3 := blk_frozen BK195.out 3
               have p222 : 0 ≤ (x11_4 : Int) := of_decide_eq_true (by first | (with_reducible assumption) | assumption)
               have q222 : x11_4 < (l0_2.length : Int) := of_decide_eq_true (by first | (with_reducible assumption) | assumption)
               obtain ⟨ad222, e222, hx222_0⟩ := Kd.at_string HR0_2.out x11_4 p222 q222
               cases e222
               replace hx222_0 := (HB.out.cell (World.block_lt_of_cell? w _ hx222_0)).trans hx222_0
               replace p222 := eq_true p222
               replace q222 := eq_true q222
               go_wp2_with (first | ((with_reducible refine gate_builtin (b := .append) (xs := #[.tmp 108, .tmp 116]) rfl ?_); at_builtin; refine Kd.R_append (Kd.int .u8) (w0 := w) w.heap.size rfl (.tmp 108) (.tmp 116) 30 5 (.int .u8 0) 1 rfl Try.underlying30 info5 rfl (by decide) (by omega) u7 x7_4 ((((rdOf ByteArray.empty l0_2 x11_4).size : Int)) % 256) [.int .u8 ((((rdOf ByteArray.empty l0_2 x11_4).size : Int)) % 256)] (fun _ => True) (fun _ => False) rfl rfl ?aP (fun _ hk => hk.elim) ?aF ?aO ?aB ?aS ?aL ?_; (case aP => exact rfl); (case aB => exact (by repeat (first | (with_reducible first | exact HB.out | apply below_alloc | apply pw_below_drewN | apply below_drew1 | refine below_set ?_ GE195.out) | exact HB.out))); (case aF => exact (fun _ _ => trivial)); (case aO => exact (by (with_reducible repeat (first | apply Kd.R_alloc | apply Kd.R_drewN | apply Kd.R_drew)); exact HO_7.out)); (case aS => exact (below_size (by repeat (first | (with_reducible first | exact HB.out | apply below_alloc | apply pw_below_drewN | apply below_drew1 | refine below_set ?_ GE195.out) | exact HB.out)))); (case aL => have := LMc36.out; omega); intro v224 w39 ho hb hg hat; rw [← Ny223.out] at ho; have n0_ := Aside0.mk (blk_grown (g := gb195) (o := .cells #[.bool a0_0, .slice A0_1 l0_1.length c0_1, .slice (some ad222) l0_2.length c0_2, .slice A0_3 l0_3.length c0_3] 26 (0, 0)) (by (with_reducible repeat (first | refine blk_drewN ?_ _ | refine blk_drew ?_ | refine blk_alloc ?_ _)); exact BK195.out) hg (Kd.R_ne HO_7.out BK195.out (by decide))); have n1_ := Aside0.mk (hb); have n2_ := Aside0.mk (ho); clear BK195; clear HB; clear HO_7; have BK195 := n0_; have HB := n1_; have HO225 := n2_; clear n0_ n1_ n2_; clear ho hb hg hat; have hcz40_0 : w39.cell? ⟨gb195, 0, none⟩ = some (.bool a0_0) := (blk_cell BK195.out 0).trans rfl; have hcz40_1 : w39.cell? ⟨gb195, 1, none⟩ = some (.slice A0_1 l0_1.length c0_1) := (blk_cell BK195.out 1).trans rfl; have hcz40_2 : w39.cell? ⟨gb195, 2, none⟩ = some (.slice (some ad222) l0_2.length c0_2) := (blk_cell BK195.out 2).trans rfl; have hcz40_3 : w39.cell? ⟨gb195, 3, none⟩ = some (.slice A0_3 l0_3.length c0_3) := (blk_cell BK195.out 3).trans rfl; have hfz40_0 := blk_frozen BK195.out 0; have hfz40_1 := blk_frozen BK195.out 1; have hfz40_2 := blk_frozen BK195.out 2; have hfz40_3 := blk_frozen BK195.out 3; have p226 : 0 ≤ (x11_4 : Int) := of_decide_eq_true (by first | (with_reducible assumption) | assumption); have q226 : x11_4 < (l0_2.length : Int) := of_decide_eq_true (by first | (with_reducible assumption) | assumption); obtain ⟨ad226, e226, hx226_0⟩ := Kd.at_string HR0_2.out x11_4 p226 q226; obtain rfl : ad222 = ad226 := (by injection e226); replace hx226_0 := (HB.out.cell (World.block_lt_of_cell? w _ hx226_0)).trans hx226_0; replace p226 := eq_true p226; replace q226 := eq_true q226) | ((with_reducible refine gate_builtin (b := .append) (xs := #[.tmp 118, .tmp 124]) rfl ?_); at_builtin; refine Go.Proofs.YtjhenmegcgnkgaaX.append_convR (w0 := w) w.heap.size rfl (.tmp 118) (.tmp 124) 30 5 rfl Try.underlying30 info5 v224 y223 (rdOf ByteArray.empty l0_2 x11_4) (fun _ => True) rfl rfl ?aF ?aO ?aB ?aS ?aL ?_; (case aB => exact (by repeat (first | (with_reducible first | exact HB.out | apply below_alloc | apply pw_below_drewN | apply below_drew1 | refine below_set ?_ GE195.out) | exact HB.out))); (case aF => exact (fun _ _ => trivial)); (case aO => exact (by (with_reducible repeat (first | apply Kd.R_alloc | apply Kd.R_drewN | apply Kd.R_drew)); exact HO225.out)); (case aS => exact (below_size (by repeat (first | (with_reducible first | exact HB.out | apply below_alloc | apply pw_below_drewN | apply below_drew1 | refine below_set ?_ GE195.out) | exact HB.out)))); (case aL => have := LMc37.out; omega); intro v228 w41 ho hb hg hat; rw [← Ny227.out] at ho; have n0_ := Aside0.mk (blk_grown (g := gb195) (o := .cells #[.bool a0_0, .slice A0_1 l0_1.length c0_1, .slice (some ad222) l0_2.length c0_2, .slice A0_3 l0_3.length c0_3] 26 (0, 0)) (by (with_reducible repeat (first | refine blk_drewN ?_ _ | refine blk_drew ?_ | refine blk_alloc ?_ _)); exact BK195.out) hg (Kd.R_ne HO225.out BK195.out (by decide))); have n1_ := Aside0.mk (hb); have n2_ := Aside0.mk (ho); clear BK195; clear HB; clear HO225; have BK195 := n0_; have HB := n1_; have HO229 := n2_; clear n0_ n1_ n2_; clear ho hb hg hat))
               go_roundg k4
               case measure => have := HJ2.out; have := HK2.out; have := HK3.out; have := HK4.out; omega
               case rel => exact ⟨(y227), (wrap64 (x11_4 + 1)), (by first | rfl | (simp; done) | exact congrArg Value.bool (Go.Proofs.YtjhenmegcgnkgaaX.isEmpty_ne_ _) | exact congrArg Value.bool (Go.Proofs.YtjhenmegcgnkgaaX.ne_isEmpty_ _) | (simp [*]; done)), H', ⟨by have := HJ2.out; have := HK2.out; have := HK3.out; have := HK4.out; omega⟩, ⟨by (with_reducible repeat (first | apply Kd.R_alloc | apply Kd.R_drewN | apply Kd.R_drew)); exact HO229.out⟩, ⟨by (with_reducible repeat (first | refine blk_drewN ?_ _ | refine blk_drew ?_ | refine blk_alloc ?_ _)); exact BK195.out⟩, ⟨by repeat (first | (with_reducible first | exact HB.out | apply below_alloc | apply pw_below_drewN | apply below_drew1 | refine below_set ?_ GE195.out) | exact HB.out)⟩⟩
              ·rw [if_neg c37] at H
               exact absurd H (by simp)
             ·rw [if_neg c36] at H
              exact absurd H (by simp)
            ·rw [if_neg c35] at H
             exact absurd H (by simp)
           ·rw [if_neg c34] at H
            have c34b0 : decide (x11_4 < (l0_2.length : Int)) = false := decide_eq_false c34
            clear c34
            have H' := Aside0.mk H
            clear H
            have hcz42_0 : wr.cell? ⟨gb195, 0, none⟩ = some (.bool a0_0) := (blk_cell BK195.out 0).trans rfl
            have hcz42_1 : wr.cell? ⟨gb195, 1, none⟩ = some (.slice A0_1 l0_1.length c0_1) := (blk_cell BK195.out 1).trans rfl
            have hcz42_2 : wr.cell? ⟨gb195, 2, none⟩ = some (.slice A0_2 l0_2.length c0_2) := (blk_cell BK195.out 2).trans rfl
            have hcz42_3 : wr.cell? ⟨gb195, 3, none⟩ = some (.slice A0_3 l0_3.length c0_3) := (blk_cell BK195.out 3).trans rfl
            have hfz42_0 := blk_frozen BK195.out 0
            have hfz42_1 := blk_frozen BK195.out 1
            have hfz42_2 := blk_frozen BK195.out 2
            have hfz42_3 := blk_frozen BK195.out 3
            go_wp2
            go_loopg [7] k4 (fun kq v7 w' => ∃ (x7_5 : List Int), Aside0 (chandleryref08_Bytes.l3 kq a1 x7_5 = some r) ∧ Aside0 (kq ≤ k4) ∧ Aside0 (Kd.R (Kd.int .u8) 5 w' w.heap.size (fun _ => True) v7 x7_5) ∧ Aside0 (w'.heap[gb195]? = some (.cells #[.bool a0_0, (.slice A0_1 l0_1.length c0_1), (.slice A0_2 l0_2.length c0_2), (.slice A0_3 l0_3.length c0_3)] 26 (0, 0))) ∧ Aside0 (Below w.heap.size w w'))
            case atStart => exact ⟨(x7_4), H', ⟨Nat.le_refl _⟩, ⟨by (with_reducible repeat (first | apply Kd.R_alloc | apply Kd.R_drewN | apply Kd.R_drew)); exact HO_7.out⟩, ⟨by (with_reducible repeat (first | refine blk_drewN ?_ _ | refine blk_drew ?_ | refine blk_alloc ?_ _)); exact BK195.out⟩, ⟨by repeat (first | (with_reducible first | exact HB.out | apply below_alloc | apply pw_below_drewN | apply below_drew1 | refine below_set ?_ GE195.out) | exact HB.out)⟩⟩
            case round =>
             clear H'
             try clear c1
             try clear p1
             try clear q1
             try clear hx1
             try clear c2
             try clear p2
             try clear q2
             try clear hx2
             try clear c3
             try clear c6
             try clear p6
             try clear c10
             try clear c10b0
             try clear c11
             try clear c11b0
             try clear c12
             try clear c13
             try clear c14
             try clear c15
             try clear c18
             try clear p19
             try clear q19
             try clear hx19
             try clear p20
             try clear q20
             try clear hx20
             try clear p21
             try clear q21
             try clear hx21
             try clear p22
             try clear q22
             try clear hx22
             try clear c25
             try clear c25b0
             try clear c26
             try clear c26b0
             try clear c27
             try clear c34
             try clear c34b0
             try clear c35
             try clear c35b0
             try clear c36
             try clear c37
             try clear hcz16_0
             try clear hcz16_1
             try clear hcz16_2
             try clear hcz16_3
             try clear hcz18_0
             try clear hcz18_1
             try clear hcz18_2
             try clear hcz18_3
             try clear hcz20_0
             try clear hcz20_1
             try clear hcz20_2
             try clear hcz20_3
             try clear hcz22_0
             try clear hcz22_1
             try clear hcz22_2
             try clear hcz22_3
             try clear hcz24_0
             try clear hcz24_1
             try clear hcz24_2
             try clear hcz24_3
             try clear hcz28_0
             try clear hcz28_1
             try clear hcz28_2
             try clear hcz28_3
             try clear hcz33_0
             try clear hcz33_1
             try clear hcz33_2
             try clear hcz33_3
             try clear hcz38_0
             try clear hcz38_1
             try clear hcz38_2
             try clear hcz38_3
             try clear hcz40_0
             try clear hcz40_1
             try clear hcz40_2
             try clear hcz40_3
             try clear hcz42_0
             try clear hcz42_1
             try clear hcz42_2
             try clear hcz42_3
             try clear hcz5_0
             try clear hcz5_1
             try clear hcz5_2
             try clear hcz5_3
             try clear hcz7_0
             try clear hcz7_1
             try clear hcz7_2
             try clear hcz7_3
             try clear hfz16_0
             try clear hfz16_1
             try clear hfz16_2
             try clear hfz16_3
             try clear hfz18_0
             try clear hfz18_1
             try clear hfz18_2
             try clear hfz18_3
             try clear hfz20_0
             try clear hfz20_1
             try clear hfz20_2
             try clear hfz20_3
             try clear hfz22_0
             try clear hfz22_1
             try clear hfz22_2
             try clear hfz22_3
             try clear hfz24_0
             try clear hfz24_1
             try clear hfz24_2
             try clear hfz24_3
             try clear hfz28_0
             try clear hfz28_1
             try clear hfz28_2
             try clear hfz28_3
             try clear hfz33_0
             try clear hfz33_1
             try clear hfz33_2
             try clear hfz33_3
             try clear hfz38_0
             try clear hfz38_1
             try clear hfz38_2
             try clear hfz38_3
             try clear hfz40_0
             try clear hfz40_1
             try clear hfz40_2
             try clear hfz40_3
             try clear hfz42_0
             try clear hfz42_1
             try clear hfz42_2
             try clear hfz42_3
             try clear hfz5_0
             try clear hfz5_1
             try clear hfz5_2
             try clear hfz5_3
             try clear hfz7_0
             try clear hfz7_1
             try clear hfz7_2
             try clear hfz7_3
             try clear hx199_0
             try clear hx199_1
             try clear hx203_0
             try clear hx203_1
             try clear hx207_0
             try clear hx207_1
             try clear hx211_0
             try clear hx211_1
             try clear hx215_0
             try clear hx222_0
             try clear hx226_0
             try clear p1
             try clear p19
             try clear p199
             try clear p2
             try clear p20
             try clear p203
             try clear p207
             try clear p21
             try clear p211
             try clear p215
             try clear p222
             try clear p226
             try clear p6
             try clear q1
             try clear q19
             try clear q199
             try clear q2
             try clear q20
             try clear q203
             try clear q207
             try clear q21
             try clear q211
             try clear q215
             try clear q222
             try clear q226
             obtain ⟨x7_5, HA, HK5, HO_7, BK195, HB⟩ := hrel
             cases gk with
             | zero => exact absurd HA.out (by simp [chandleryref08_Bytes.l3])
             | succ k5 =>
              have H := HA.out
              clear HA
              simp only [chandleryref08_Bytes.l3] at H
              by_cases c43 : (x7_5.length : Int) < a1
              ·rw [if_pos c43] at H
               have c43b0 : decide ((x7_5.length : Int) < a1) = true := decide_eq_true c43
               clear c43
               by_cases c44 : x7_5.length < 140737488355328
               ·rw [if_pos c44] at H
                have LMc44 := Aside0.mk c44
                clear c44
                obtain ⟨y230, hy230⟩ : ∃ y_ : List Int, y_ = (x7_5 ++ [0]) := ⟨_, rfl⟩
                replace H : (chandleryref08_Bytes.l3 k5 a1 y230) = some r := by first | (rw [hy230]; with_reducible exact H) | (have H2_ := (Option.bind_some _ _).symm.trans H; rw [hy230]; with_reducible exact H2_) | (have H2_ := (Option.bind_some _ _).symm.trans H; with_reducible exact H2_) | with_reducible exact H | (rw [hy230]; exact H) | exact H
                have Ny230 := Aside0.mk hy230
                clear hy230
                have H' := Aside0.mk H
                clear H
                obtain ⟨Ao45, co45, eo45⟩ := Kd.R_slice HO_7.out
                subst eo45
                go_wp2_with (first | ((with_reducible refine gate_builtin (b := .append) (xs := #[.tmp 130, .tmp 131]) rfl ?_); at_builtin; refine Kd.R_append (Kd.int .u8) (w0 := w) w.heap.size rfl (.tmp 130) (.tmp 131) 30 5 (.int .u8 0) 1 rfl Try.underlying30 info5 rfl (by decide) (by omega) (.slice Ao45 x7_5.length co45) x7_5 0 [.int .u8 0] (fun _ => True) (fun _ => False) rfl rfl ?aP (fun _ hk => hk.elim) ?aF ?aO ?aB ?aS ?aL ?_; (case aP => exact rfl); (case aB => exact (by repeat (first | (with_reducible first | exact HB.out | apply below_alloc | apply pw_below_drewN | apply below_drew1 | refine below_set ?_ GE195.out) | exact HB.out))); (case aF => exact (fun _ _ => trivial)); (case aO => exact (by (with_reducible repeat (first | apply Kd.R_alloc | apply Kd.R_drewN | apply Kd.R_drew)); exact HO_7.out)); (case aS => exact (below_size (by repeat (first | (with_reducible first | exact HB.out | apply below_alloc | apply pw_below_drewN | apply below_drew1 | refine below_set ?_ GE195.out) | exact HB.out)))); (case aL => have := LMc44.out; omega); intro v231 w46 ho hb hg hat; rw [← Ny230.out] at ho; have n0_ := Aside0.mk (blk_grown (g := gb195) (o := .cells #[.bool a0_0, .slice A0_1 l0_1.length c0_1, .slice A0_2 l0_2.length c0_2, .slice A0_3 l0_3.length c0_3] 26 (0, 0)) (by (with_reducible repeat (first | refine blk_drewN ?_ _ | refine blk_drew ?_ | refine blk_alloc ?_ _)); exact BK195.out) hg (Kd.R_ne HO_7.out BK195.out (by decide))); have n1_ := Aside0.mk (hb); have n2_ := Aside0.mk (ho); clear BK195; clear HB; clear HO_7; have BK195 := n0_; have HB := n1_; have HO232 := n2_; clear n0_ n1_ n2_; clear ho hb hg hat))
                go_roundg k5
                case measure => have := HJ2.out; have := HK2.out; have := HK3.out; have := HK4.out; have := HK5.out; omega
                case rel => exact ⟨(y230), H', ⟨by have := HJ2.out; have := HK2.out; have := HK3.out; have := HK4.out; have := HK5.out; omega⟩, ⟨by (with_reducible repeat (first | apply Kd.R_alloc | apply Kd.R_drewN | apply Kd.R_drew)); exact HO232.out⟩, ⟨by (with_reducible repeat (first | refine blk_drewN ?_ _ | refine blk_drew ?_ | refine blk_alloc ?_ _)); exact BK195.out⟩, ⟨by repeat (first | (with_reducible first | exact HB.out | apply below_alloc | apply pw_below_drewN | apply below_drew1 | refine below_set ?_ GE195.out) | exact HB.out)⟩⟩
               ·rw [if_neg c44] at H
                exact absurd H (by simp)
              ·rw [if_neg c43] at H
               have c43b0 : decide ((x7_5.length : Int) < a1) = false := decide_eq_false c43
               clear c43
               obtain rfl := Option.some.inj H
               obtain ⟨Ao47, co47, eo47⟩ := Kd.R_slice HO_7.out
               subst eo47
               go_wp2
               go_ret
               exact ⟨_, by first | rfl | (simp [errW_none, errW_some] <;> rfl) | (simp [*, errW_none, errW_some] <;> rfl), by (with_reducible repeat (first | apply Kd.R_alloc | apply Kd.R_drewN | apply Kd.R_drew)); exact HO_7.out, by repeat (first | (with_reducible first | exact HB.out | apply below_alloc | apply pw_below_drewN | apply below_drew1 | refine below_set ?_ GE195.out) | exact HB.out)⟩
end Go.Proofs.Ytjhenmegcgnkgaa.PNode
