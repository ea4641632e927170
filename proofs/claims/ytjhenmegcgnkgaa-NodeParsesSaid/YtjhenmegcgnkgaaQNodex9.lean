-- printed with xprint.py over the kit's print
import Derived.Test.YtjhenmegcgnkgaaQNodex0
import Derived.Test.YtjhenmegcgnkgaaQNodex5
import Derived.Test.YtjhenmegcgnkgaaQNodex6
import Derived.Test.YtjhenmegcgnkgaaQNodex7
import Derived.Test.YtjhenmegcgnkgaaQNodex8
namespace Go.Proofs.Ytjhenmegcgnkgaa.PNode
open Go.RowKit Go.Proofs.YtjhenmegcgnkgaaW.PrintWords Go.Proofs.YtjhenmegcgnkgaaW.PrintLast Go.Proofs.YtjhenmegcgnkgaaW.PrintMore
attribute [local go_sem] max2_int min2_int max_two min_two max_three min_three max_four min_four   -- for this text's walks alone
set_option linter.unusedVariables false
set_option linter.unusedSimpArgs false
mutual
def chandleryref08_Parse.j0 : Nat → List Int → Bool → Option (Bool × (List (S42)) × List ByteArray × List Int × Bool)
 | 0, _, _ => none
 | k + 1, x0, x28 => if x28 = true then (some (false, ([] : List (S42)), ([] : List ByteArray), ([] : List Int), false)) else (if 0 < (x0.length : Int) then (if 1 < (x0.length : Int) then (if 2 < (x0.length : Int) then (chandleryref08_Parse.l0 k x0 (wrap64 ((wrap64 (256 * (wrap64 (rd x0 1)))) + (wrap64 (rd x0 2)))) 3 0 ((rd x0 0) == 1) ([] : List Int)) else (none)) else (none)) else (none))
def chandleryref08_Parse.l0 : Nat → List Int → Int → Int → Int → Bool → List Int → Option (Bool × (List (S42)) × List ByteArray × List Int × Bool)
 | 0, _, _, _, _, _, _ => none
 | k + 1, x0, x5, x6, x7, x239000, x239003 => if x7 ≤ x5 then (chandleryref08_Parse.j2 k x0 x5 x6 x7 (!x239000) x239000 x239003) else (chandleryref08_Parse.j2 k x0 x5 x6 x7 false x239000 x239003)
def chandleryref08_Parse.j2 : Nat → List Int → Int → Int → Int → Bool → Bool → List Int → Option (Bool × (List (S42)) × List ByteArray × List Int × Bool)
 | 0, _, _, _, _, _, _, _ => none
 | k + 1, x0, x5, x6, x7, x52, x239000, x239003 => if x52 = true then (if (wrap64 (x6 + 3)) > (x0.length : Int) then (some (false, ([] : List (S42)), ([] : List ByteArray), ([] : List Int), false)) else (if 0 ≤ x6 then (if x6 < (x0.length : Int) then (if 0 ≤ (wrap64 (x6 + 1)) then (if (wrap64 (x6 + 1)) < (x0.length : Int) then (if 0 ≤ (wrap64 (x6 + 2)) then (if (wrap64 (x6 + 2)) < (x0.length : Int) then (if x239003.length < 17592186044416 then (chandleryref08_Parse.l0 k x0 x5 (wrap64 (x6 + 3)) (wrap64 (x7 + 1)) x239000 (x239003 ++ [wrap64 ((wrap64 ((wrap64 (65536 * (wrap64 (rd x0 x6)))) + (wrap64 (256 * (wrap64 (rd x0 (wrap64 (x6 + 1)))))))) + (wrap64 (rd x0 (wrap64 (x6 + 2)))))])) else (none)) else (none)) else (none)) else (none)) else (none)) else (none)) else (none))) else (chandleryref08_Parse.l1 k x0 x5 x6 0 x239000 ([] : List (S42)) ([] : List ByteArray) x239003)
def chandleryref08_Parse.l1 : Nat → List Int → Int → Int → Int → Bool → List (S42) → List ByteArray → List Int → Option (Bool × (List (S42)) × List ByteArray × List Int × Bool)
 | 0, _, _, _, _, _, _, _, _ => none
 | k + 1, x0, x5, x6, x8, x239000, x239001, x239002, x239003 => if x8 < x5 then (chandleryref08_Parse.j4 k x0 x5 x6 x8 (decide (x6 ≥ 0)) x239000 x239001 x239002 x239003) else (chandleryref08_Parse.j4 k x0 x5 x6 x8 false x239000 x239001 x239002 x239003)
def chandleryref08_Parse.j4 : Nat → List Int → Int → Int → Int → Bool → Bool → List (S42) → List ByteArray → List Int → Option (Bool × (List (S42)) × List ByteArray × List Int × Bool)
 | 0, _, _, _, _, _, _, _, _, _ => none
 | k + 1, x0, x5, x6, x8, x95, x239000, x239001, x239002, x239003 => if x95 = true then ((chandleryref08_text.f x0 x6).bind fun bt247 => (if x239000 = true then ((chandleryref08_text.f x0 bt247.2).bind fun bt249 => (if x239001.length < 4398046511104 then (chandleryref08_Parse.l1 k x0 x5 bt249.2 (wrap64 (x8 + 1)) x239000 (x239001 ++ [(⟨bt247.1, bt249.1⟩ : S42)]) x239002 x239003) else (none))) else (if x239002.length < 8796093022208 then (chandleryref08_Parse.l1 k x0 x5 bt247.2 (wrap64 (x8 + 1)) x239000 x239001 (x239002 ++ [bt247.1]) x239003) else (none)))) else (if x6 < 0 then (some (false, ([] : List (S42)), ([] : List ByteArray), ([] : List Int), false)) else ((chandleryref08_Check.f k x239000 x239001 x239002 x239003 (x0.length : Int)).bind fun t257 => (if t257 = 0 then ((chandleryref08_Bytes.f k x239000 x239001 x239002 x239003 (x0.length : Int)).bind fun t258 => (if (strOfNums t258).toList = (strOfNums x0).toList then (some (x239000, x239001, x239002, x239003, true)) else (some (false, ([] : List (S42)), ([] : List ByteArray), ([] : List Int), false)))) else (some (false, ([] : List (S42)), ([] : List ByteArray), ([] : List Int), false)))))
end
def chandleryref08_Parse.f (k : Nat) (l0 : List Int) : Option (Bool × (List (S42)) × List ByteArray × List Int × Bool) := (chandleryref08_Range.f (l0.length : Int)).bind fun t234 => (if t234 = true then (if 0 < (l0.length : Int) then (if (rd l0 0) = 1 then (chandleryref08_Parse.j0 k l0 false) else (chandleryref08_Parse.j0 k l0 ((rd l0 0) != 2))) else (none)) else (chandleryref08_Parse.j0 k l0 true))
theorem chandleryref08_Parse.mono_l : ∀ k, (∀ y0 y1, LeO (chandleryref08_Parse.j0 k y0 y1) (chandleryref08_Parse.j0 (k + 1) y0 y1)) ∧ (∀ y0 y1 y2 y3 y4 y5, LeO (chandleryref08_Parse.l0 k y0 y1 y2 y3 y4 y5) (chandleryref08_Parse.l0 (k + 1) y0 y1 y2 y3 y4 y5)) ∧ (∀ y0 y1 y2 y3 y4 y5 y6, LeO (chandleryref08_Parse.j2 k y0 y1 y2 y3 y4 y5 y6) (chandleryref08_Parse.j2 (k + 1) y0 y1 y2 y3 y4 y5 y6)) ∧ (∀ y0 y1 y2 y3 y4 y5 y6 y7, LeO (chandleryref08_Parse.l1 k y0 y1 y2 y3 y4 y5 y6 y7) (chandleryref08_Parse.l1 (k + 1) y0 y1 y2 y3 y4 y5 y6 y7)) ∧ (∀ y0 y1 y2 y3 y4 y5 y6 y7 y8, LeO (chandleryref08_Parse.j4 k y0 y1 y2 y3 y4 y5 y6 y7 y8) (chandleryref08_Parse.j4 (k + 1) y0 y1 y2 y3 y4 y5 y6 y7 y8))
 | 0 => ⟨fun _ _ r h => by simp [chandleryref08_Parse.j0] at h, fun _ _ _ _ _ _ r h => by simp [chandleryref08_Parse.l0] at h, fun _ _ _ _ _ _ _ r h => by simp [chandleryref08_Parse.j2] at h, fun _ _ _ _ _ _ _ _ r h => by simp [chandleryref08_Parse.l1] at h, fun _ _ _ _ _ _ _ _ _ r h => by simp [chandleryref08_Parse.j4] at h⟩
 | k + 1 => by
  obtain ⟨ih0, ih1, ih2, ih3, ih4⟩ := chandleryref08_Parse.mono_l k
  refine ⟨?_, ?_, ?_, ?_, ?_⟩
  ·intro y0 y1
   unfold chandleryref08_Parse.j0
   repeat' first
   | (with_reducible exact ih0 _ _)
   | (with_reducible exact ih1 _ _ _ _ _ _)
   | (with_reducible exact ih2 _ _ _ _ _ _ _)
   | (with_reducible exact ih3 _ _ _ _ _ _ _ _)
   | (with_reducible exact ih4 _ _ _ _ _ _ _ _ _)
   | (with_reducible exact chandleryref08_Bytes.mono _ _ _ _ _ _)
   | (with_reducible exact chandleryref08_Check.mono _ _ _ _ _ _)
   | (with_reducible exact LeO.refl _)
   | (with_reducible exact LeO.none _)
   | (with_reducible refine LeO.ite ?_ ?_)
   | (with_reducible refine LeO.bind ?_ (fun _ => ?_))
   | exact ih0 _ _
   | exact ih1 _ _ _ _ _ _
   | exact ih2 _ _ _ _ _ _ _
   | exact ih3 _ _ _ _ _ _ _ _
   | exact ih4 _ _ _ _ _ _ _ _ _
   | exact chandleryref08_Bytes.mono _ _ _ _ _ _
   | exact chandleryref08_Check.mono _ _ _ _ _ _
   | exact LeO.none _
   | refine LeO.ite ?_ ?_
   | refine LeO.bind ?_ (fun _ => ?_)
  ·intro y0 y1 y2 y3 y4 y5
   unfold chandleryref08_Parse.l0
   repeat' first
   | (with_reducible exact ih0 _ _)
   | (with_reducible exact ih1 _ _ _ _ _ _)
   | (with_reducible exact ih2 _ _ _ _ _ _ _)
   | (with_reducible exact ih3 _ _ _ _ _ _ _ _)
   | (with_reducible exact ih4 _ _ _ _ _ _ _ _ _)
   | (with_reducible exact chandleryref08_Bytes.mono _ _ _ _ _ _)
   | (with_reducible exact chandleryref08_Check.mono _ _ _ _ _ _)
   | (with_reducible exact LeO.refl _)
   | (with_reducible exact LeO.none _)
   | (with_reducible refine LeO.ite ?_ ?_)
   | (with_reducible refine LeO.bind ?_ (fun _ => ?_))
   | exact ih0 _ _
   | exact ih1 _ _ _ _ _ _
   | exact ih2 _ _ _ _ _ _ _
   | exact ih3 _ _ _ _ _ _ _ _
   | exact ih4 _ _ _ _ _ _ _ _ _
   | exact chandleryref08_Bytes.mono _ _ _ _ _ _
   | exact chandleryref08_Check.mono _ _ _ _ _ _
   | exact LeO.none _
   | refine LeO.ite ?_ ?_
   | refine LeO.bind ?_ (fun _ => ?_)
  ·intro y0 y1 y2 y3 y4 y5 y6
   unfold chandleryref08_Parse.j2
   repeat' first
   | (with_reducible exact ih0 _ _)
   | (with_reducible exact ih1 _ _ _ _ _ _)
   | (with_reducible exact ih2 _ _ _ _ _ _ _)
   | (with_reducible exact ih3 _ _ _ _ _ _ _ _)
   | (with_reducible exact ih4 _ _ _ _ _ _ _ _ _)
   | (with_reducible exact chandleryref08_Bytes.mono _ _ _ _ _ _)
   | (with_reducible exact chandleryref08_Check.mono _ _ _ _ _ _)
   | (with_reducible exact LeO.refl _)
   | (with_reducible exact LeO.none _)
   | (with_reducible refine LeO.ite ?_ ?_)
   | (with_reducible refine LeO.bind ?_ (fun _ => ?_))
   | exact ih0 _ _
   | exact ih1 _ _ _ _ _ _
   | exact ih2 _ _ _ _ _ _ _
   | exact ih3 _ _ _ _ _ _ _ _
   | exact ih4 _ _ _ _ _ _ _ _ _
   | exact chandleryref08_Bytes.mono _ _ _ _ _ _
   | exact chandleryref08_Check.mono _ _ _ _ _ _
   | exact LeO.none _
   | refine LeO.ite ?_ ?_
   | refine LeO.bind ?_ (fun _ => ?_)
  ·intro y0 y1 y2 y3 y4 y5 y6 y7
   unfold chandleryref08_Parse.l1
   repeat' first
   | (with_reducible exact ih0 _ _)
   | (with_reducible exact ih1 _ _ _ _ _ _)
   | (with_reducible exact ih2 _ _ _ _ _ _ _)
   | (with_reducible exact ih3 _ _ _ _ _ _ _ _)
   | (with_reducible exact ih4 _ _ _ _ _ _ _ _ _)
   | (with_reducible exact chandleryref08_Bytes.mono _ _ _ _ _ _)
   | (with_reducible exact chandleryref08_Check.mono _ _ _ _ _ _)
   | (with_reducible exact LeO.refl _)
   | (with_reducible exact LeO.none _)
   | (with_reducible refine LeO.ite ?_ ?_)
   | (with_reducible refine LeO.bind ?_ (fun _ => ?_))
   | exact ih0 _ _
   | exact ih1 _ _ _ _ _ _
   | exact ih2 _ _ _ _ _ _ _
   | exact ih3 _ _ _ _ _ _ _ _
   | exact ih4 _ _ _ _ _ _ _ _ _
   | exact chandleryref08_Bytes.mono _ _ _ _ _ _
   | exact chandleryref08_Check.mono _ _ _ _ _ _
   | exact LeO.none _
   | refine LeO.ite ?_ ?_
   | refine LeO.bind ?_ (fun _ => ?_)
  ·intro y0 y1 y2 y3 y4 y5 y6 y7 y8
   unfold chandleryref08_Parse.j4
   repeat' first
   | (with_reducible exact ih0 _ _)
   | (with_reducible exact ih1 _ _ _ _ _ _)
   | (with_reducible exact ih2 _ _ _ _ _ _ _)
   | (with_reducible exact ih3 _ _ _ _ _ _ _ _)
   | (with_reducible exact ih4 _ _ _ _ _ _ _ _ _)
   | (with_reducible exact chandleryref08_Bytes.mono _ _ _ _ _ _)
   | (with_reducible exact chandleryref08_Check.mono _ _ _ _ _ _)
   | (with_reducible exact LeO.refl _)
   | (with_reducible exact LeO.none _)
   | (with_reducible refine LeO.ite ?_ ?_)
   | (with_reducible refine LeO.bind ?_ (fun _ => ?_))
   | exact ih0 _ _
   | exact ih1 _ _ _ _ _ _
   | exact ih2 _ _ _ _ _ _ _
   | exact ih3 _ _ _ _ _ _ _ _
   | exact ih4 _ _ _ _ _ _ _ _ _
   | exact chandleryref08_Bytes.mono _ _ _ _ _ _
   | exact chandleryref08_Check.mono _ _ _ _ _ _
   | exact LeO.none _
   | refine LeO.ite ?_ ?_
   | refine LeO.bind ?_ (fun _ => ?_)
theorem chandleryref08_Parse.mono : ∀ a0 k, LeO (chandleryref08_Parse.f k a0) (chandleryref08_Parse.f (k + 1) a0) := by
 intro a0 k
 obtain ⟨ih0, ih1, ih2, ih3, ih4⟩ := chandleryref08_Parse.mono_l k
 unfold chandleryref08_Parse.f
 repeat' first
   | (with_reducible exact ih0 _ _)
   | (with_reducible exact ih1 _ _ _ _ _ _)
   | (with_reducible exact ih2 _ _ _ _ _ _ _)
   | (with_reducible exact ih3 _ _ _ _ _ _ _ _)
   | (with_reducible exact ih4 _ _ _ _ _ _ _ _ _)
   | (with_reducible exact chandleryref08_Bytes.mono _ _ _ _ _ _)
   | (with_reducible exact chandleryref08_Check.mono _ _ _ _ _ _)
   | (with_reducible exact LeO.refl _)
   | (with_reducible exact LeO.none _)
   | (with_reducible refine LeO.ite ?_ ?_)
   | (with_reducible refine LeO.bind ?_ (fun _ => ?_))
   | exact ih0 _ _
   | exact ih1 _ _ _ _ _ _
   | exact ih2 _ _ _ _ _ _ _
   | exact ih3 _ _ _ _ _ _ _ _
   | exact ih4 _ _ _ _ _ _ _ _ _
   | exact chandleryref08_Bytes.mono _ _ _ _ _ _
   | exact chandleryref08_Check.mono _ _ _ _ _ _
   | exact LeO.none _
   | refine LeO.ite ?_ ?_
   | refine LeO.bind ?_ (fun _ => ?_)
def chandleryref08_Parse.T4 : Bool × List (List Nat × List Nat) := (true, [([], []), ([0], [0]), ([1], [1]), ([2], [2]), ([3], [3]), ([], []), ([5], [5]), ([6], [6]), ([7], [7]), ([4, 8], [4, 8]), ([9, 0, 1, 2, 3, 4, 5, 6, 7, 8, 9], [9])])
def chandleryref08_Parse.B4 : List Nat := [0, 1, 3, 7, 15, 0, 32, 96, 224, 511, 1023]
theorem chandleryref08_Parse.tab4 : rtab .any (opsOf Try.f22 4) = chandleryref08_Parse.T4 := by kernel_rfl
theorem chandleryref08_Parse.bits4 : waitsOk chandleryref08_Parse.T4.2 chandleryref08_Parse.B4 = true := by kernel_rfl
def chandleryref08_Parse.T11 : Bool × List (List Nat × List Nat) := (true, [([], []), ([0], [0]), ([], []), ([], []), ([2, 3], [2, 3]), ([4], [4]), ([5], [5]), ([6], [6]), ([], []), ([], []), ([9], [9]), ([8, 10], [8, 10]), ([11], [11]), ([12], [12]), ([13], [13]), ([7, 14], [7, 14]), ([], []), ([], []), ([17], [17]), ([16, 18], [16, 18]), ([19], [19]), ([20], [20]), ([15, 21], [15, 21]), ([22], [22]), ([1, 23], [1, 23]), ([0, 1, 2, 3, 4, 5, 6, 7, 8, 9, 10, 11, 12, 13, 14, 15, 16, 17, 18, 19, 20, 21, 22, 23, 24], []), ([25, 24, 24, 0, 1, 2, 3, 4, 5, 6, 7, 8, 9, 10, 11, 12, 13, 14, 15, 16, 17, 18, 19, 20, 21, 22, 23, 24], [24, 25])])
def chandleryref08_Parse.B11 : List Nat := [0, 1, 0, 0, 12, 28, 60, 124, 0, 0, 512, 1792, 3840, 7936, 16128, 32764, 0, 0, 131072, 458752, 983040, 2031616, 4194300, 8388604, 16777215, 33554431, 67108863]
theorem chandleryref08_Parse.tab11 : rtab .any (opsOf Try.f22 11) = chandleryref08_Parse.T11 := by kernel_rfl
theorem chandleryref08_Parse.bits11 : waitsOk chandleryref08_Parse.T11.2 chandleryref08_Parse.B11 = true := by kernel_rfl
def chandleryref08_Parse.T23 : Bool × List (List Nat × List Nat) := (true, [([], []), ([0], [0]), ([1], [1]), ([2], [2]), ([2], [2]), ([4, 2], [2, 4]), ([3, 5, 2, 2], [2, 3, 5]), ([6, 2], [2, 6]), ([2, 7], [2, 7]), ([8, 6], [8]), ([9], [9]), ([9], [9]), ([11, 9], [9, 11]), ([10, 12, 9, 9], [9, 10, 12]), ([13, 9], [9, 13]), ([9], [9]), ([15, 9], [9, 15]), ([14, 16, 9], [9, 14, 16]), ([9, 17], [9, 17])])
def chandleryref08_Parse.B23 : List Nat := [0, 1, 3, 7, 7, 23, 63, 127, 255, 511, 1023, 1023, 3071, 8191, 16383, 1023, 33791, 131071, 262143]
theorem chandleryref08_Parse.tab23 : rtab .any (opsOf Try.f22 23) = chandleryref08_Parse.T23 := by kernel_rfl
theorem chandleryref08_Parse.bits23 : waitsOk chandleryref08_Parse.T23.2 chandleryref08_Parse.B23 = true := by kernel_rfl
set_option maxHeartbeats 8000000 in
set_option maxRecDepth 100000 in
theorem chandleryref08_Parse.calls (k : Nat) (A0 : Option Addr) (c0 : Nat) (l0 : List Int) (r1 : Bool) (r2 : List (S42)) (r3 : List ByteArray) (r4 : List Int) (r5 : Bool) (w : World) (hr0 : Kd.C (Kd.int .u8) w A0 l0.length l0) (hc0 : l0.length ≤ c0) (h : chandleryref08_Parse.f k l0 = some (r1, r2, r3, r4, r5)) :
  Calls Try.prog 22 #[.slice A0 l0.length c0] w fun e w' => ∃ v1_ v2_ v3_ : Value, e = .returned (.tuple #[.agg #[.bool r1, v1_, v2_, v3_], .bool r5]) ∧ Kd.R k42 42 w' w.heap.size (fun _ => True) v1_ r2 ∧ Kd.R Kd.string 9 w' w.heap.size (fun _ => True) v2_ r3 ∧ Kd.R (Kd.int .i64) 3 w' w.heap.size (fun _ => True) v3_ r4 ∧ Below w.heap.size w w' := by
 have hu26 := Try.underlying26
 have hu42 := Try.underlying42
 have HR0 := Aside0.mk hr0
 have HC0 := Aside0.mk hc0
 clear hr0 hc0
 have HB := Aside0.mk (Below.refl w.heap.size w)
 have H : ((chandleryref08_Range.f (l0.length : Int)).bind fun t234 => (if t234 = true then (if 0 < (l0.length : Int) then (if (rd l0 0) = 1 then (chandleryref08_Parse.j0 k l0 false) else (chandleryref08_Parse.j0 k l0 ((rd l0 0) != 2))) else (none)) else (chandleryref08_Parse.j0 k l0 true))) = some (r1, r2, r3, r4, r5) := h
 clear h
 have HC2 := Aside0.mk H
 clear H
 go_enter Try.func22, Try.ntmps22
 go_upto_region 1 with (first | ((with_reducible refine gate_dst (N := 2) rfl ?_); (try (refine gate_guard (by rfl) ?_; dsimp only)); refine box_event ?hg (N := 2) ?hd (cs := #[.bool false, .slice none 0 0, .slice none 0 0, .slice none 0 0]) (t := 26) ?hr ?_; (case hd => rfl); (case hg => rfl); (case hr => first | (go_simp; done) | (go_simp; rfl)); intro gb233 hg w3 hbox hb; have n0_ := Aside0.mk (below_step (by repeat (first | (with_reducible first | exact HB.out | apply below_alloc | apply pw_below_drewN | apply below_drew1) | exact HB.out)) hb); have n1_ := Aside0.mk (hbox); have n2_ := Aside0.mk ((by rw [hg]; exact (below_size (by repeat (first | (with_reducible first | exact HB.out | apply below_alloc | apply pw_below_drewN | apply below_drew1) | exact HB.out))) : w.heap.size ≤ gb233)); have n3_ := Aside0.mk ((by rw [hg]; exact (below_size (by repeat (first | (with_reducible first | exact HB.out | apply below_alloc | apply pw_below_drewN | apply below_drew1) | exact HB.out))) : w.heap.size ≤ gb233)); clear HB; have HB := n0_; have BK233 := n1_; have GW233 := n2_; have GE233 := n3_; clear n0_ n1_ n2_ n3_; clear hb hbox hg))
 (try simp only [Act.put, List.setIfInBounds_toArray, List.set_cons_zero, List.set_cons_succ])
 go_cut [28] (fun v28 wc => ∃ (kq : Nat) (x28_1 : Bool), v28 = .bool x28_1 ∧ Aside0 (chandleryref08_Parse.j0 kq l0 x28_1 = some (r1, r2, r3, r4, r5)) ∧ Aside0 (kq ≤ k) ∧ Aside0 (wc.heap[gb233]? = some (.cells #[.bool false, (.slice none 0 0), (.slice none 0 0), (.slice none 0 0)] 26 (0, 0))) ∧ Aside0 (Below w.heap.size w wc))
 case first =>
  have H := HC2.out
  clear HC2
  replace H := Option.bind_eq_some_iff.mp H
  obtain ⟨t234, A40, H⟩ := H
  replace H : (if t234 = true then (if 0 < (l0.length : Int) then (if (rd l0 0) = 1 then (chandleryref08_Parse.j0 k l0 false) else (chandleryref08_Parse.j0 k l0 ((rd l0 0) != 2))) else (none)) else (chandleryref08_Parse.j0 k l0 true)) = some (r1, r2, r3, r4, r5) := H
  have A4 := Aside0.mk A40
  clear A40
  by_cases c5 : t234 = true
  ·subst c5
   have H1 : (if 0 < (l0.length : Int) then (if (rd l0 0) = 1 then (chandleryref08_Parse.j0 k l0 false) else (chandleryref08_Parse.j0 k l0 ((rd l0 0) != 2))) else (none)) = some (r1, r2, r3, r4, r5) := by rw [if_pos rfl] at H; exact H
   clear H
   have H := H1
   clear H1
   by_cases c6 : 0 < (l0.length : Int)
   ·rw [if_pos c6] at H
    have c6b0 : decide (0 < (l0.length : Int)) = true := decide_eq_true c6
    have c6b1 : decide (0 < l0.length) = true := decide_eq_true (by omega)
    clear c6
    (first | rw [c6b0] | (simp only [i64_w, i32_w]; rw [c6b0]) | skip)
    by_cases c7 : (rd l0 0) = 1
    ·rw [if_pos c7] at H
     have c7b0 : ((rd l0 0) == 1) = true := beq_iff_eq.mpr c7
     have c7b1 : ((rd l0 0) != 1) = false := bne_eq_false_iff_eq.mpr c7
     clear c7
     have H' := Aside0.mk H
     clear H
     go_wp2_with (first | ((with_reducible refine gate_callee (f := 15) rfl ?_); refine goesL_ (some 15) rfl rfl Try.func15 (by kernel_rfl) rfl #[.int .i64 (l0.length : Int)] rfl (by (try simp only [List.map_toArray, List.map_cons, List.map_nil]); first | done | rfl | (simp only [List.length_drop, List.length_take]; rfl)) ?_; (with_reducible refine (chandleryref08_Range.calls (l0.length : Int) true _ A4.out).mono ?_); rintro e w' ⟨rfl, ⟨nd, rfl⟩⟩; refine ⟨_, rfl, ?_⟩; have p235 : 0 ≤ (0 : Int) := (by omega); have q235 : 0 < (l0.length : Int) := of_decide_eq_true (by first | (with_reducible assumption) | assumption); obtain ⟨ad235, e235, hx235_0⟩ := Kd.at_int HR0.out 0 p235 q235; cases e235; have qi235 : (0 < l0.length) = True := eq_true (by omega); (try rw [show ((0 : Int)).toNat = 0 from rfl] at hx235_0); (try rw [Addr.add_zero'] at hx235_0); replace hx235_0 := (HB.out.cell (World.block_lt_of_cell? w _ hx235_0)).trans hx235_0; replace p235 := eq_true p235; replace q235 := eq_true q235))
     go_meet
     case rel => exact ⟨_, (false), (by first | rfl | (simp; done) | exact congrArg Value.bool (Go.Proofs.YtjhenmegcgnkgaaX.isEmpty_ne_ _) | exact congrArg Value.bool (Go.Proofs.YtjhenmegcgnkgaaX.ne_isEmpty_ _) | (simp [*]; done)), H', ⟨by first | omega | exact Nat.le_refl _⟩, ⟨by (with_reducible repeat (first | refine blk_drewN ?_ _ | refine blk_drew ?_ | refine blk_alloc ?_ _)); exact BK233.out⟩, ⟨by repeat (first | (with_reducible first | exact HB.out | apply below_alloc | apply pw_below_drewN | apply below_drew1 | refine below_set ?_ GE233.out) | exact HB.out)⟩⟩
    ·rw [if_neg c7] at H
     have c7b0 : ((rd l0 0) == 1) = false := beq_eq_false_iff_ne.mpr c7
     have c7b1 : ((rd l0 0) != 1) = true := bne_iff_ne.mpr c7
     have H' := Aside0.mk H
     clear H
     go_wp2_with (first | ((with_reducible refine gate_callee (f := 15) rfl ?_); refine goesL_ (some 15) rfl rfl Try.func15 (by kernel_rfl) rfl #[.int .i64 (l0.length : Int)] rfl (by (try simp only [List.map_toArray, List.map_cons, List.map_nil]); first | done | rfl | (simp only [List.length_drop, List.length_take]; rfl)) ?_; (with_reducible refine (chandleryref08_Range.calls (l0.length : Int) true _ A4.out).mono ?_); rintro e w' ⟨rfl, ⟨nd, rfl⟩⟩; refine ⟨_, rfl, ?_⟩; have p235 : 0 ≤ (0 : Int) := (by omega); have q235 : 0 < (l0.length : Int) := of_decide_eq_true (by first | (with_reducible assumption) | assumption); obtain ⟨ad235, e235, hx235_0⟩ := Kd.at_int HR0.out 0 p235 q235; cases e235; have qi235 : (0 < l0.length) = True := eq_true (by omega); (try rw [show ((0 : Int)).toNat = 0 from rfl] at hx235_0); (try rw [Addr.add_zero'] at hx235_0); replace hx235_0 := (HB.out.cell (World.block_lt_of_cell? w _ hx235_0)).trans hx235_0; replace p235 := eq_true p235; replace q235 := eq_true q235; have p236 : 0 ≤ (0 : Int) := (by omega); have q236 : 0 < (l0.length : Int) := of_decide_eq_true (by first | (with_reducible assumption) | assumption); obtain ⟨ad236, e236, hx236_0⟩ := Kd.at_int HR0.out 0 p236 q236; obtain rfl : ad235 = ad236 := (by injection e236); have qi236 : (0 < l0.length) = True := eq_true (by omega); (try rw [show ((0 : Int)).toNat = 0 from rfl] at hx236_0); (try rw [Addr.add_zero'] at hx236_0); replace hx236_0 := (HB.out.cell (World.block_lt_of_cell? w _ hx236_0)).trans hx236_0; replace p236 := eq_true p236; replace q236 := eq_true q236))
     go_meet
     case rel => exact ⟨_, (((rd l0 0) != 2)), (by first | rfl | (simp; done) | exact congrArg Value.bool (Go.Proofs.YtjhenmegcgnkgaaX.isEmpty_ne_ _) | exact congrArg Value.bool (Go.Proofs.YtjhenmegcgnkgaaX.ne_isEmpty_ _) | (simp [*]; done)), H', ⟨by first | omega | exact Nat.le_refl _⟩, ⟨by (with_reducible repeat (first | refine blk_drewN ?_ _ | refine blk_drew ?_ | refine blk_alloc ?_ _)); exact BK233.out⟩, ⟨by repeat (first | (with_reducible first | exact HB.out | apply below_alloc | apply pw_below_drewN | apply below_drew1 | refine below_set ?_ GE233.out) | exact HB.out)⟩⟩
   ·rw [if_neg c6] at H
    exact absurd H (by simp)
  ·replace c5 := Bool.eq_false_iff.mpr c5
   subst c5
   have H1 : (chandleryref08_Parse.j0 k l0 true) = some (r1, r2, r3, r4, r5) := by rw [if_neg (show ¬ (false = true) by decide)] at H; exact H
   clear H
   have H := H1
   clear H1
   have H' := Aside0.mk H
   clear H
   go_wp2_with (first | ((with_reducible refine gate_callee (f := 15) rfl ?_); refine goesL_ (some 15) rfl rfl Try.func15 (by kernel_rfl) rfl #[.int .i64 (l0.length : Int)] rfl (by (try simp only [List.map_toArray, List.map_cons, List.map_nil]); first | done | rfl | (simp only [List.length_drop, List.length_take]; rfl)) ?_; (with_reducible refine (chandleryref08_Range.calls (l0.length : Int) false _ A4.out).mono ?_); rintro e w' ⟨rfl, ⟨nd, rfl⟩⟩; refine ⟨_, rfl, ?_⟩))
   go_meet
   case rel => exact ⟨_, (true), (by first | rfl | (simp; done) | exact congrArg Value.bool (Go.Proofs.YtjhenmegcgnkgaaX.isEmpty_ne_ _) | exact congrArg Value.bool (Go.Proofs.YtjhenmegcgnkgaaX.ne_isEmpty_ _) | (simp [*]; done)), H', ⟨by first | omega | exact Nat.le_refl _⟩, ⟨by (with_reducible repeat (first | refine blk_drewN ?_ _ | refine blk_drew ?_ | refine blk_alloc ?_ _)); exact BK233.out⟩, ⟨by repeat (first | (with_reducible first | exact HB.out | apply below_alloc | apply pw_below_drewN | apply below_drew1 | refine below_set ?_ GE233.out) | exact HB.out)⟩⟩
 case rest =>
  clear HC2
  try clear c1
  try clear c2
  try clear p2
  try clear q2
  try clear hx2
  try clear qi2
  try clear c5
  try clear c6
  try clear c6b0
  try clear c6b1
  try clear c7
  try clear c7b0
  try clear c7b1
  try clear hx235_0
  try clear hx236_0
  try clear p235
  try clear p236
  try clear q235
  try clear q236
  obtain ⟨kq, x28_1, rfl, HA, HJ1, BK233, HB⟩ := hcut
  cases kq with
  | zero => exact absurd HA.out (by simp [chandleryref08_Parse.j0])
  | succ kj1 =>
   have H := HA.out
   clear HA
   simp only [chandleryref08_Parse.j0] at H
   by_cases c8 : x28_1 = true
   ·subst c8
    have H1 : (some (false, ([] : List (S42)), ([] : List ByteArray), ([] : List Int), false)) = some (r1, r2, r3, r4, r5) := by rw [if_pos rfl] at H; exact H
    clear H
    have H := H1
    clear H1
    simp only [Option.some.injEq, Prod.mk.injEq] at H
    obtain ⟨rfl, rfl, rfl, rfl, rfl⟩ := H
    have hcz9_0 : wc.cell? ⟨gb233, 0, none⟩ = some (.bool false) := (blk_cell BK233.out 0).trans rfl
    have hcz9_1 : wc.cell? ⟨gb233, 1, none⟩ = some (.slice none 0 0) := (blk_cell BK233.out 1).trans rfl
    have hcz9_2 : wc.cell? ⟨gb233, 2, none⟩ = some (.slice none 0 0) := (blk_cell BK233.out 2).trans rfl
    have hcz9_3 : wc.cell? ⟨gb233, 3, none⟩ = some (.slice none 0 0) := (blk_cell BK233.out 3).trans rfl
    have hfz9_0 := blk_frozen BK233.out 0
    have hfz9_1 := blk_frozen BK233.out 1
    have hfz9_2 := blk_frozen BK233.out 2
    have hfz9_3 := blk_frozen BK233.out 3
    go_wp2
    refine bodyPost_ret (results_ct rfl _ _ gb233 26 #[.bool false, .slice none 0 0, .slice none 0 0, .slice none 0 0] (0, 0) _ rfl (by (with_reducible repeat (first | refine blk_drewN ?_ _ | refine blk_drew ?_ | refine blk_alloc ?_ _)); refine blk_put (cs := #[.bool false, .slice none 0 0, .slice none 0 0, .slice none 0 0]) ?_ 3 _ rfl; (with_reducible repeat (first | refine blk_drewN ?_ _ | refine blk_drew ?_ | refine blk_alloc ?_ _)); refine blk_put (cs := #[.bool false, .slice none 0 0, .slice none 0 0, .slice none 0 0]) ?_ 2 _ rfl; (with_reducible repeat (first | refine blk_drewN ?_ _ | refine blk_drew ?_ | refine blk_alloc ?_ _)); refine blk_put (cs := #[.bool false, .slice none 0 0, .slice none 0 0, .slice none 0 0]) ?_ 1 _ rfl; (with_reducible repeat (first | refine blk_drewN ?_ _ | refine blk_drew ?_ | refine blk_alloc ?_ _)); refine blk_put (cs := #[.bool false, .slice none 0 0, .slice none 0 0, .slice none 0 0]) ?_ 0 _ rfl; (with_reducible repeat (first | refine blk_drewN ?_ _ | refine blk_drew ?_ | refine blk_alloc ?_ _)); exact BK233.out) Try.underlying26 rfl (by kernel_rfl)) rfl ?_
    exact ⟨_, _, _, by first | rfl | (simp [errW_none, errW_some] <;> rfl) | (simp [*, errW_none, errW_some] <;> rfl), by first | exact Kd.R_nil _ _ _ _ _ | exact Kd.N_nil _ _ _ _ _ | exact Kd.V_nil _ _ _ _ _ | exact Kd.Q_nil _ _ _ _ _ | exact Kd.S_nil _ _ _ _ _, by first | exact Kd.R_nil _ _ _ _ _ | exact Kd.N_nil _ _ _ _ _ | exact Kd.V_nil _ _ _ _ _ | exact Kd.Q_nil _ _ _ _ _ | exact Kd.S_nil _ _ _ _ _, by first | exact Kd.R_nil _ _ _ _ _ | exact Kd.N_nil _ _ _ _ _ | exact Kd.V_nil _ _ _ _ _ | exact Kd.Q_nil _ _ _ _ _ | exact Kd.S_nil _ _ _ _ _, by repeat (first | (with_reducible first | exact HB.out | apply below_alloc | apply pw_below_drewN | apply below_drew1 | refine below_set ?_ GE233.out) | exact HB.out)⟩
   ·replace c8 := Bool.eq_false_iff.mpr c8
    subst c8
    have H1 : (if 0 < (l0.length : Int) then (if 1 < (l0.length : Int) then (if 2 < (l0.length : Int) then (chandleryref08_Parse.l0 kj1 l0 (wrap64 ((wrap64 (256 * (wrap64 (rd l0 1)))) + (wrap64 (rd l0 2)))) 3 0 ((rd l0 0) == 1) ([] : List Int)) else (none)) else (none)) else (none)) = some (r1, r2, r3, r4, r5) := by rw [if_neg (show ¬ (false = true) by decide)] at H; exact H
    clear H
    have H := H1
    clear H1
    by_cases c10 : 0 < (l0.length : Int)
    ·rw [if_pos c10] at H
     have c10b0 : decide (0 < (l0.length : Int)) = true := decide_eq_true c10
     have c10b1 : decide (0 < l0.length) = true := decide_eq_true (by omega)
     clear c10
     by_cases c11 : 1 < (l0.length : Int)
     ·rw [if_pos c11] at H
      have c11b0 : decide (1 < (l0.length : Int)) = true := decide_eq_true c11
      have c11b1 : decide (1 < l0.length) = true := decide_eq_true (by omega)
      clear c11
      by_cases c12 : 2 < (l0.length : Int)
      ·rw [if_pos c12] at H
       have c12b0 : decide (2 < (l0.length : Int)) = true := decide_eq_true c12
       have c12b1 : decide (2 < l0.length) = true := decide_eq_true (by omega)
       clear c12
       have H' := Aside0.mk H
       clear H
       have p237 : 0 ≤ (0 : Int) := (by omega)
       have q237 : 0 < (l0.length : Int) := of_decide_eq_true (by first | (with_reducible assumption) | assumption)
       obtain ⟨ad237, e237, hx237_0⟩ := Kd.at_int HR0.out 0 p237 q237
       cases e237
       have qi237 : (0 < l0.length) = True := eq_true (by omega)
       (try rw [show ((0 : Int)).toNat = 0 from rfl] at hx237_0)
       (try rw [Addr.add_zero'] at hx237_0)
       replace hx237_0 := (HB.out.cell (World.block_lt_of_cell? w _ hx237_0)).trans hx237_0
       replace p237 := eq_true p237
       replace q237 := eq_true q237
       try go_wp2_with (first | ((with_reducible refine gate_dst (N := 4) rfl ?_); (try (refine gate_guard (by rfl) ?_; dsimp only)); refine box_event ?hg (N := 4) ?hd (cs := #[.bool false, .slice none 0 0, .slice none 0 0, .slice none 0 0]) (t := 26) ?hr ?_; (case hd => rfl); (case hg => rfl); (case hr => first | (go_simp; done) | (go_simp; rfl)); intro gb238 hg w13 hbox hb; have n0_ := Aside0.mk (blk_below (g := gb233) (o := .cells #[.bool false, .slice none 0 0, .slice none 0 0, .slice none 0 0] 26 (0, 0)) (by (with_reducible repeat (first | refine blk_drewN ?_ _ | refine blk_drew ?_ | refine blk_alloc ?_ _)); exact BK233.out) hb); have n1_ := Aside0.mk (below_step (by repeat (first | (with_reducible first | exact HB.out | apply below_alloc | apply pw_below_drewN | apply below_drew1 | refine below_set ?_ GE233.out) | exact HB.out)) hb); have n2_ := Aside0.mk (hbox); have n3_ := Aside0.mk ((by rw [hg]; exact (below_size (by repeat (first | (with_reducible first | exact HB.out | apply below_alloc | apply pw_below_drewN | apply below_drew1 | refine below_set ?_ GE233.out) | exact HB.out))) : w.heap.size ≤ gb238)); have n4_ := Aside0.mk ((by rw [hg]; exact (below_size (by repeat (first | (with_reducible first | exact HB.out | apply below_alloc | apply pw_below_drewN | apply below_drew1 | refine below_set ?_ GE233.out) | exact HB.out))) : w.heap.size ≤ gb238)); have n5_ := Aside0.mk ((by rw [hg]; exact Nat.ne_of_lt (blk_lt (g := gb233) (o := .cells #[.bool false, .slice none 0 0, .slice none 0 0, .slice none 0 0] 26 (0, 0)) (by (with_reducible repeat (first | refine blk_drewN ?_ _ | refine blk_drew ?_ | refine blk_alloc ?_ _)); exact BK233.out)) : gb233 ≠ gb238)); have n6_ := Aside0.mk ((by rw [hg]; exact Nat.ne_of_gt (blk_lt (g := gb233) (o := .cells #[.bool false, .slice none 0 0, .slice none 0 0, .slice none 0 0] 26 (0, 0)) (by (with_reducible repeat (first | refine blk_drewN ?_ _ | refine blk_drew ?_ | refine blk_alloc ?_ _)); exact BK233.out)) : gb238 ≠ gb233)); clear BK233; clear HB; have BK233 := n0_; have HB := n1_; have BK238 := n2_; have GW238 := n3_; have GE238 := n4_; have NB233_238 := n5_; have NB238_233 := n6_; clear n0_ n1_ n2_ n3_ n4_ n5_ n6_; clear hb hbox hg; have hnb14 := NB238_233.out; have hnc14 := NB233_238.out; have hcz15_0 : w13.cell? ⟨gb238, 0, none⟩ = some (.bool false) := (blk_cell BK238.out 0).trans rfl; have hcz15_1 : w13.cell? ⟨gb238, 1, none⟩ = some (.slice none 0 0) := (blk_cell BK238.out 1).trans rfl; have hcz15_2 : w13.cell? ⟨gb238, 2, none⟩ = some (.slice none 0 0) := (blk_cell BK238.out 2).trans rfl; have hcz15_3 : w13.cell? ⟨gb238, 3, none⟩ = some (.slice none 0 0) := (blk_cell BK238.out 3).trans rfl; have hfz15_0 := blk_frozen BK238.out 0; have hfz15_1 := blk_frozen BK238.out 1; have hfz15_2 := blk_frozen BK238.out 2; have hfz15_3 := blk_frozen BK238.out 3))
       have n0_ : Aside0 (((((w13.setCell ⟨gb238, 0, none⟩ (.bool ((rd l0 0) == 1))).setCell ⟨gb238, 1, none⟩ (.slice none 0 0)).setCell ⟨gb238, 2, none⟩ (.slice none 0 0)).setCell ⟨gb238, 3, none⟩ (.slice none 0 0)).heap[gb233]? = some (.cells #[.bool false, .slice none 0 0, .slice none 0 0, .slice none 0 0] 26 (0, 0))) := ⟨by (with_reducible repeat (first | refine blk_drewN ?_ _ | refine blk_drew ?_ | refine blk_alloc ?_ _)); refine blk_far ?_ NB233_238.out _; (with_reducible repeat (first | refine blk_drewN ?_ _ | refine blk_drew ?_ | refine blk_alloc ?_ _)); refine blk_far ?_ NB233_238.out _; (with_reducible repeat (first | refine blk_drewN ?_ _ | refine blk_drew ?_ | refine blk_alloc ?_ _)); refine blk_far ?_ NB233_238.out _; (with_reducible repeat (first | refine blk_drewN ?_ _ | refine blk_drew ?_ | refine blk_alloc ?_ _)); refine blk_far ?_ NB233_238.out _; (with_reducible repeat (first | refine blk_drewN ?_ _ | refine blk_drew ?_ | refine blk_alloc ?_ _)); exact BK233.out⟩
       have n1_ : Aside0 (((((w13.setCell ⟨gb238, 0, none⟩ (.bool ((rd l0 0) == 1))).setCell ⟨gb238, 1, none⟩ (.slice none 0 0)).setCell ⟨gb238, 2, none⟩ (.slice none 0 0)).setCell ⟨gb238, 3, none⟩ (.slice none 0 0)).heap[gb238]? = some (.cells #[.bool ((rd l0 0) == 1), .slice none 0 0, .slice none 0 0, .slice none 0 0] 26 (0, 0))) := ⟨by (with_reducible repeat (first | refine blk_drewN ?_ _ | refine blk_drew ?_ | refine blk_alloc ?_ _)); refine blk_put (cs := #[.bool ((rd l0 0) == 1), .slice none 0 0, .slice none 0 0, .slice none 0 0]) ?_ 3 _ rfl; (with_reducible repeat (first | refine blk_drewN ?_ _ | refine blk_drew ?_ | refine blk_alloc ?_ _)); refine blk_put (cs := #[.bool ((rd l0 0) == 1), .slice none 0 0, .slice none 0 0, .slice none 0 0]) ?_ 2 _ rfl; (with_reducible repeat (first | refine blk_drewN ?_ _ | refine blk_drew ?_ | refine blk_alloc ?_ _)); refine blk_put (cs := #[.bool ((rd l0 0) == 1), .slice none 0 0, .slice none 0 0, .slice none 0 0]) ?_ 1 _ rfl; (with_reducible repeat (first | refine blk_drewN ?_ _ | refine blk_drew ?_ | refine blk_alloc ?_ _)); refine blk_put (cs := #[.bool false, .slice none 0 0, .slice none 0 0, .slice none 0 0]) ?_ 0 _ rfl; (with_reducible repeat (first | refine blk_drewN ?_ _ | refine blk_drew ?_ | refine blk_alloc ?_ _)); exact BK238.out⟩
       have n2_ : Aside0 (Below w.heap.size w ((((w13.setCell ⟨gb238, 0, none⟩ (.bool ((rd l0 0) == 1))).setCell ⟨gb238, 1, none⟩ (.slice none 0 0)).setCell ⟨gb238, 2, none⟩ (.slice none 0 0)).setCell ⟨gb238, 3, none⟩ (.slice none 0 0))) := ⟨by repeat (first | (with_reducible first | exact HB.out | apply below_alloc | apply pw_below_drewN | apply below_drew1 | refine below_set ?_ GE233.out | refine below_set ?_ GE238.out) | exact HB.out)⟩
       (try clear BK233)
       (try clear BK238)
       (try clear HB)
       generalize ((((w13.setCell ⟨gb238, 0, none⟩ (.bool ((rd l0 0) == 1))).setCell ⟨gb238, 1, none⟩ (.slice none 0 0)).setCell ⟨gb238, 2, none⟩ (.slice none 0 0)).setCell ⟨gb238, 3, none⟩ (.slice none 0 0)) = w16 at n0_ n1_ n2_ ⊢
       have BK233 := n0_
       have BK238 := n1_
       have HB := n2_
       clear n0_ n1_ n2_
       have n0_ := Aside0.mk (blk_drew BK233.out)
       have n1_ := Aside0.mk (blk_drew BK238.out)
       have n2_ := Aside0.mk (below_drew1 HB.out)
       clear BK233
       clear BK238
       clear HB
       have BK233 := n0_
       have BK238 := n1_
       have HB := n2_
       clear n0_ n1_ n2_
       have p239 : 0 ≤ (1 : Int) := (by omega)
       have q239 : 1 < (l0.length : Int) := of_decide_eq_true (by first | (with_reducible assumption) | assumption)
       obtain ⟨ad239, e239, hx239_0⟩ := Kd.at_int HR0.out 1 p239 q239
       have hw239_0 := hx239_0
       (try rw [show ((1 : Int)).toNat = 1 from rfl] at hw239_0)
       (try rw [show 1 * 1 = 1 from rfl] at hw239_0)
       (try simp only [Nat.reduceMul, Nat.reduceEqDiff, Go.Addr.add, ↓reduceIte] at hw239_0)
       obtain rfl : ad237 = ad239 := (by injection e239)
       (try simp only [show (1 : Int).toNat = 1 from rfl, Nat.reduceMul, Nat.reduceEqDiff, Go.Addr.add, ↓reduceIte] at hx239_0)
       have qi239 : (1 < l0.length) = True := eq_true (by omega)
       (try rw [show ((1 : Int)).toNat = 1 from rfl] at hx239_0)
       replace hx239_0 := (HB.out.cell (World.block_lt_of_cell? w _ hx239_0)).trans hx239_0
       replace p239 := eq_true p239
       replace q239 := eq_true q239
       have p240 : 0 ≤ (2 : Int) := (by omega)
       have q240 : 2 < (l0.length : Int) := of_decide_eq_true (by first | (with_reducible assumption) | assumption)
       obtain ⟨ad240, e240, hx240_0⟩ := Kd.at_int HR0.out 2 p240 q240
       have hw240_0 := hx240_0
       (try rw [show ((2 : Int)).toNat = 2 from rfl] at hw240_0)
       (try rw [show 2 * 1 = 2 from rfl] at hw240_0)
       (try simp only [Nat.reduceMul, Nat.reduceEqDiff, Go.Addr.add, ↓reduceIte] at hw240_0)
       obtain rfl : ad237 = ad240 := (by injection e240)
       (try simp only [show (2 : Int).toNat = 2 from rfl, Nat.reduceMul, Nat.reduceEqDiff, Go.Addr.add, ↓reduceIte] at hx240_0)
       have qi240 : (2 < l0.length) = True := eq_true (by omega)
       (try rw [show ((2 : Int)).toNat = 2 from rfl] at hx240_0)
       replace hx240_0 := (HB.out.cell (World.block_lt_of_cell? w _ hx240_0)).trans hx240_0
       replace p240 := eq_true p240
       replace q240 := eq_true q240
       refine start_ (n := 11) (S := fun w' => w'.cell? ⟨ad237.block, ad237.off + 1, none⟩ = some (.int .u8 (rd l0 1)) ∧ w'.cell? ⟨ad237.block, ad237.off + 2, none⟩ = some (.int .u8 (rd l0 2))) (ds := []) #[false, false, false, false, false, false, false, false, false, false, false] (by kernel_rfl) rfl rfl ⟨((HB.out.cell (World.block_lt_of_cell? w _ hw239_0)).trans hw239_0), ((HB.out.cell (World.block_lt_of_cell? w _ hw240_0)).trans hw240_0)⟩ (fun hHeld => ?_); refine with_tabW chandleryref08_Parse.tab4 chandleryref08_Parse.bits4 (fun HT_ HW_ => ?_)
       generalize w16.drew = w17 at BK233 BK238 HB hx239_0 hx240_0 hHeld ⊢
       refine pure_ (i := 0) (N := some 35) (v := ?_) (a' := ?_) #[true, false, false, false, false, false, false, false, false, false, false] rfl rfl (any_of HT_.out (by kernel_rfl)) (fun _ _ _ h => h) (Or.inl ⟨by rfl, ?_⟩) ?_ ?_
       rotate_left
       ·intro w'
        go_simp
        with_reducible rfl
       rotate_left
       ·simp only [Act.put, List.setIfInBounds_toArray, List.set_cons_zero, List.set_cons_succ, i64_w, i32_w]
        rfl
       refine pure_ (i := 1) (N := some 36) (v := ?_) (a' := ?_) #[true, true, false, false, false, false, false, false, false, false, false] rfl rfl (any_of HT_.out (by kernel_rfl)) (fun _ _ _ h => h) (Or.inl ⟨by rfl, ?_⟩) ?_ ?_
       rotate_left
       ·intro w'
        go_simp
        with_reducible rfl
       rotate_left
       ·simp only [Act.put, List.setIfInBounds_toArray, List.set_cons_zero, List.set_cons_succ, i64_w, i32_w]
        rfl
       refine pure_ (i := 5) (N := some 40) (v := ?_) (a' := ?_) #[true, true, false, false, false, true, false, false, false, false, false] rfl rfl (any_of HT_.out (by kernel_rfl)) (fun _ _ _ h => h) (Or.inl ⟨by rfl, ?_⟩) ?_ ?_
       rotate_left
       ·intro w'
        go_simp
        with_reducible rfl
       rotate_left
       ·simp only [Act.put, List.setIfInBounds_toArray, List.set_cons_zero, List.set_cons_succ, i64_w, i32_w]
        rfl
       refine pure_ (i := 6) (N := some 41) (v := ?_) (a' := ?_) #[true, true, false, false, false, true, true, false, false, false, false] rfl rfl (any_of HT_.out (by kernel_rfl)) (fun _ _ _ h => h) (Or.inl ⟨by rfl, ?_⟩) ?_ ?_
       rotate_left
       ·intro w'
        go_simp
        with_reducible rfl
       rotate_left
       ·simp only [Act.put, List.setIfInBounds_toArray, List.set_cons_zero, List.set_cons_succ, i64_w, i32_w]
        rfl
       refine take_ (i := 2) (N := some 37) (v := ?_) (a' := ?_) #[true, true, true, false, false, true, true, false, false, false, false] rfl rfl (take_ofW HT_.out HW_.out (by kernel_rfl)) (fun _ _ _ h => h) (Or.inl ⟨by rfl, ?_⟩) hHeld ?_ ?_
       rotate_left
       ·rintro w' ⟨s0, s1⟩
        go_simp
        with_reducible rfl
       rotate_left
       ·simp only [Act.put, List.setIfInBounds_toArray, List.set_cons_zero, List.set_cons_succ, i64_w, i32_w]
        rfl
       refine pure_ (i := 3) (N := some 38) (v := ?_) (a' := ?_) #[true, true, true, true, false, true, true, false, false, false, false] rfl rfl (any_of HT_.out (by kernel_rfl)) (fun _ _ _ h => h) (Or.inl ⟨by rfl, ?_⟩) ?_ ?_
       rotate_left
       ·intro w'
        go_simp
        with_reducible rfl
       rotate_left
       ·simp only [Act.put, List.setIfInBounds_toArray, List.set_cons_zero, List.set_cons_succ, i64_w, i32_w]
        rfl
       refine pure_ (i := 4) (N := some 39) (v := ?_) (a' := ?_) #[true, true, true, true, true, true, true, false, false, false, false] rfl rfl (any_of HT_.out (by kernel_rfl)) (fun _ _ _ h => h) (Or.inl ⟨by rfl, ?_⟩) ?_ ?_
       rotate_left
       ·intro w'
        go_simp
        with_reducible rfl
       rotate_left
       ·simp only [Act.put, List.setIfInBounds_toArray, List.set_cons_zero, List.set_cons_succ, i64_w, i32_w]
        rfl
       refine take_ (i := 7) (N := some 42) (v := ?_) (a' := ?_) #[true, true, true, true, true, true, true, true, false, false, false] rfl rfl (take_ofW HT_.out HW_.out (by kernel_rfl)) (fun _ _ _ h => h) (Or.inl ⟨by rfl, ?_⟩) hHeld ?_ ?_
       rotate_left
       ·rintro w' ⟨s0, s1⟩
        go_simp
        with_reducible rfl
       rotate_left
       ·simp only [Act.put, List.setIfInBounds_toArray, List.set_cons_zero, List.set_cons_succ, i64_w, i32_w]
        rfl
       refine pure_ (i := 8) (N := some 43) (v := ?_) (a' := ?_) #[true, true, true, true, true, true, true, true, true, false, false] rfl rfl (any_of HT_.out (by kernel_rfl)) (fun _ _ _ h => h) (Or.inl ⟨by rfl, ?_⟩) ?_ ?_
       rotate_left
       ·intro w'
        go_simp
        with_reducible rfl
       rotate_left
       ·simp only [Act.put, List.setIfInBounds_toArray, List.set_cons_zero, List.set_cons_succ, i64_w, i32_w]
        rfl
       refine pure_ (i := 9) (N := some 44) (v := ?_) (a' := ?_) #[true, true, true, true, true, true, true, true, true, true, false] rfl rfl (any_of HT_.out (by kernel_rfl)) (fun _ _ _ h => h) (Or.inl ⟨by rfl, ?_⟩) ?_ ?_
       rotate_left
       ·intro w'
        go_simp
        with_reducible rfl
       rotate_left
       ·simp only [Act.put, List.setIfInBounds_toArray, List.set_cons_zero, List.set_cons_succ, i64_w, i32_w]
        rfl
       refine pure_ (i := 10) (N := some 5) (v := ?_) (a' := ?_) #[true, true, true, true, true, true, true, true, true, true, true] rfl rfl (any_of HT_.out (by kernel_rfl)) (fun _ _ _ h => h) (Or.inl ⟨by rfl, ?_⟩) ?_ ?_
       rotate_left
       ·intro w'
        go_simp
        with_reducible rfl
       rotate_left
       ·simp only [Act.put, List.setIfInBounds_toArray, List.set_cons_zero, List.set_cons_succ, i64_w, i32_w]
        rfl
       refine done_ (done_of HT_.out (by kernel_rfl)) ?_
       try go_wp2
       (generalize hz_ : Value.bool (rd l0 0 == 1) = vz_; clear hz_)
       go_loopg [6, 7] kj1 (fun kq v6 v7 w' => ∃ (x6_2 : Int) (x7_2 : Int) (x234000_2 : Bool) (x239003_2 : List Int) (u239003 : Value), v6 = .int .i64 x6_2 ∧ v7 = .int .i64 x7_2 ∧ Aside0 (chandleryref08_Parse.l0 kq l0 (wrap64 ((wrap64 (256 * (wrap64 (rd l0 1)))) + (wrap64 (rd l0 2)))) x6_2 x7_2 ((rd l0 0) == 1) x239003_2 = some (r1, r2, r3, r4, r5)) ∧ Aside0 (kq ≤ kj1) ∧ Aside0 (Kd.R (Kd.int .i64) 3 w' w.heap.size (fun _ => True) u239003 x239003_2) ∧ Aside0 (w'.heap[gb233]? = some (.cells #[.bool x234000_2, (.slice none 0 0), (.slice none 0 0), (.slice none 0 0)] 26 (0, 0))) ∧ Aside0 (w'.heap[gb238]? = some (.cells #[.bool ((rd l0 0) == 1), (.slice none 0 0), (.slice none 0 0), u239003] 26 (0, 0))) ∧ Aside0 (Below w.heap.size w w'))
       case atStart => exact ⟨(3), (0), (false), (([] : List Int)), (.slice none 0 0), (by first | rfl | (simp; done) | exact congrArg Value.bool (Go.Proofs.YtjhenmegcgnkgaaX.isEmpty_ne_ _) | exact congrArg Value.bool (Go.Proofs.YtjhenmegcgnkgaaX.ne_isEmpty_ _) | (simp [*]; done)), (by first | rfl | (simp; done) | exact congrArg Value.bool (Go.Proofs.YtjhenmegcgnkgaaX.isEmpty_ne_ _) | exact congrArg Value.bool (Go.Proofs.YtjhenmegcgnkgaaX.ne_isEmpty_ _) | (simp [*]; done)), H', ⟨Nat.le_refl _⟩, ⟨by first | exact Kd.R_nil _ _ _ _ _ | exact Kd.N_nil _ _ _ _ _ | exact Kd.V_nil _ _ _ _ _ | exact Kd.Q_nil _ _ _ _ _ | exact Kd.S_nil _ _ _ _ _⟩, ⟨by (with_reducible repeat (first | refine blk_drewN ?_ _ | refine blk_drew ?_ | refine blk_alloc ?_ _)); exact BK233.out⟩, ⟨by (with_reducible repeat (first | refine blk_drewN ?_ _ | refine blk_drew ?_ | refine blk_alloc ?_ _)); exact BK238.out⟩, ⟨by repeat (first | (with_reducible first | exact HB.out | apply below_alloc | apply pw_below_drewN | apply below_drew1 | refine below_set ?_ GE233.out | refine below_set ?_ GE238.out) | exact HB.out)⟩⟩
       case round =>
        clear H'
        try clear c1
        try clear c2
        try clear p2
        try clear q2
        try clear hx2
        try clear qi2
        try clear c5
        try clear c6
        try clear c6b0
        try clear c6b1
        try clear p6
        try clear c7
        try clear c7b0
        try clear c7b1
        try clear c8
        try clear c10
        try clear c10b0
        try clear c10b1
        try clear c11
        try clear c11b0
        try clear c11b1
        try clear c12
        try clear c12b0
        try clear c12b1
        try clear c14
        try clear c15
        try clear hcz15_0
        try clear hcz15_1
        try clear hcz15_2
        try clear hcz15_3
        try clear hcz9_0
        try clear hcz9_1
        try clear hcz9_2
        try clear hcz9_3
        try clear hfz15_0
        try clear hfz15_1
        try clear hfz15_2
        try clear hfz15_3
        try clear hfz9_0
        try clear hfz9_1
        try clear hfz9_2
        try clear hfz9_3
        try clear hx235_0
        try clear hx236_0
        try clear hx237_0
        try clear hx239_0
        try clear hx240_0
        try clear p2
        try clear p235
        try clear p236
        try clear p237
        try clear p239
        try clear p240
        try clear q2
        try clear q235
        try clear q236
        try clear q237
        try clear q239
        try clear q240
        obtain ⟨x6_2, x7_2, x234000_2, x239003_2, u239003, rfl, rfl, HA, HK2, HO_239003, BK233, BK238, HB⟩ := hrel
        cases gk with
        | zero => exact absurd HA.out (by simp [chandleryref08_Parse.l0])
        | succ k2 =>
         have H := HA.out
         clear HA
         simp only [chandleryref08_Parse.l0] at H
         have HC18 := Aside0.mk H
         clear H
         go_upto_region 7 with (fail)
         go_cut [52] (fun v52 wc => ∃ (kq : Nat) (x52_17 : Bool), v52 = .bool x52_17 ∧ Aside0 (chandleryref08_Parse.j2 kq l0 (wrap64 ((wrap64 (256 * (wrap64 (rd l0 1)))) + (wrap64 (rd l0 2)))) x6_2 x7_2 x52_17 ((rd l0 0) == 1) x239003_2 = some (r1, r2, r3, r4, r5)) ∧ Aside0 (kq ≤ k2) ∧ Aside0 (Kd.R (Kd.int .i64) 3 wc w.heap.size (fun _ => True) u239003 x239003_2) ∧ Aside0 (wc.heap[gb233]? = some (.cells #[.bool x234000_2, (.slice none 0 0), (.slice none 0 0), (.slice none 0 0)] 26 (0, 0))) ∧ Aside0 (wc.heap[gb238]? = some (.cells #[.bool ((rd l0 0) == 1), (.slice none 0 0), (.slice none 0 0), u239003] 26 (0, 0))) ∧ Aside0 (Below w.heap.size w wc))
         case first =>
          have H := HC18.out
          clear HC18
          by_cases c19 : x7_2 ≤ (wrap64 ((wrap64 (256 * (wrap64 (rd l0 1)))) + (wrap64 (rd l0 2))))
          ·rw [if_pos c19] at H
           have c19b0 : decide (x7_2 ≤ (wrap64 ((wrap64 (256 * (wrap64 (rd l0 1)))) + (wrap64 (rd l0 2))))) = true := decide_eq_true c19
           clear c19
           (first | rw [c19b0] | (simp only [i64_w, i32_w]; rw [c19b0]) | skip)
           have H' := Aside0.mk H
           clear H
           have hnb20 := NB238_233.out
           have hnc20 := NB233_238.out
           have hcz21_0 : wr.cell? ⟨gb238, 0, none⟩ = some (.bool ((rd l0 0) == 1)) := (blk_cell BK238.out 0).trans rfl
           have hcz21_1 : wr.cell? ⟨gb238, 1, none⟩ = some (.slice none 0 0) := (blk_cell BK238.out 1).trans rfl
           have hcz21_2 : wr.cell? ⟨gb238, 2, none⟩ = some (.slice none 0 0) := (blk_cell BK238.out 2).trans rfl
           have hcz21_3 : wr.cell? ⟨gb238, 3, none⟩ = some (u239003) := (blk_cell BK238.out 3).trans rfl
           have hfz21_0 := blk_frozen BK238.out 0
           have hfz21_1 := blk_frozen BK238.out 1
           have hfz21_2 := blk_frozen BK238.out 2
           have hfz21_3 := blk_frozen BK238.out 3
           go_wp2
           go_meet
           case rel => exact ⟨_, (!((rd l0 0) == 1)), (by first | rfl | (simp; done) | exact congrArg Value.bool (Go.Proofs.YtjhenmegcgnkgaaX.isEmpty_ne_ _) | exact congrArg Value.bool (Go.Proofs.YtjhenmegcgnkgaaX.ne_isEmpty_ _) | (simp [*]; done)), H', ⟨by have := HJ1.out; have := HK2.out; first | omega | exact Nat.le_refl _⟩, ⟨by (with_reducible repeat (first | apply Kd.R_alloc | apply Kd.R_drewN | apply Kd.R_drew)); exact HO_239003.out⟩, ⟨by (with_reducible repeat (first | refine blk_drewN ?_ _ | refine blk_drew ?_ | refine blk_alloc ?_ _)); exact BK233.out⟩, ⟨by (with_reducible repeat (first | refine blk_drewN ?_ _ | refine blk_drew ?_ | refine blk_alloc ?_ _)); exact BK238.out⟩, ⟨by repeat (first | (with_reducible first | exact HB.out | apply below_alloc | apply pw_below_drewN | apply below_drew1 | refine below_set ?_ GE233.out | refine below_set ?_ GE238.out) | exact HB.out)⟩⟩
          ·rw [if_neg c19] at H
           have c19b0 : decide (x7_2 ≤ (wrap64 ((wrap64 (256 * (wrap64 (rd l0 1)))) + (wrap64 (rd l0 2))))) = false := decide_eq_false c19
           clear c19
           (first | rw [c19b0] | (simp only [i64_w, i32_w]; rw [c19b0]) | skip)
           have H' := Aside0.mk H
           clear H
           go_wp2
           go_meet
           case rel => exact ⟨_, (false), (by first | rfl | (simp; done) | exact congrArg Value.bool (Go.Proofs.YtjhenmegcgnkgaaX.isEmpty_ne_ _) | exact congrArg Value.bool (Go.Proofs.YtjhenmegcgnkgaaX.ne_isEmpty_ _) | (simp [*]; done)), H', ⟨by have := HJ1.out; have := HK2.out; first | omega | exact Nat.le_refl _⟩, ⟨by (with_reducible repeat (first | apply Kd.R_alloc | apply Kd.R_drewN | apply Kd.R_drew)); exact HO_239003.out⟩, ⟨by (with_reducible repeat (first | refine blk_drewN ?_ _ | refine blk_drew ?_ | refine blk_alloc ?_ _)); exact BK233.out⟩, ⟨by (with_reducible repeat (first | refine blk_drewN ?_ _ | refine blk_drew ?_ | refine blk_alloc ?_ _)); exact BK238.out⟩, ⟨by repeat (first | (with_reducible first | exact HB.out | apply below_alloc | apply pw_below_drewN | apply below_drew1 | refine below_set ?_ GE233.out | refine below_set ?_ GE238.out) | exact HB.out)⟩⟩
         case rest =>
          clear HC18
          try clear c1
          try clear c2
          try clear p2
          try clear q2
          try clear hx2
          try clear qi2
          try clear c5
          try clear c6
          try clear c6b0
          try clear c6b1
          try clear p6
          try clear c7
          try clear c7b0
          try clear c7b1
          try clear c8
          try clear c10
          try clear c10b0
          try clear c10b1
          try clear c11
          try clear c11b0
          try clear c11b1
          try clear c12
          try clear c12b0
          try clear c12b1
          try clear c14
          try clear c15
          try clear c19
          try clear c19b0
          try clear c20
          try clear hcz15_0
          try clear hcz15_1
          try clear hcz15_2
          try clear hcz15_3
          try clear hcz21_0
          try clear hcz21_1
          try clear hcz21_2
          try clear hcz21_3
          try clear hcz9_0
          try clear hcz9_1
          try clear hcz9_2
          try clear hcz9_3
          try clear hfz15_0
          try clear hfz15_1
          try clear hfz15_2
          try clear hfz15_3
          try clear hfz21_0
          try clear hfz21_1
          try clear hfz21_2
          try clear hfz21_3
          try clear hfz9_0
          try clear hfz9_1
          try clear hfz9_2
          try clear hfz9_3
          try clear hx235_0
          try clear hx236_0
          try clear hx237_0
          try clear hx239_0
          try clear hx240_0
          try clear p2
          try clear p235
          try clear p236
          try clear p237
          try clear p239
          try clear p240
          try clear p6
          try clear q2
          try clear q235
          try clear q236
          try clear q237
          try clear q239
          try clear q240
          obtain ⟨kq, x52_17, rfl, HA, HJ17, HO_239003, BK233, BK238, HB⟩ := hcut
          cases kq with
          | zero => exact absurd HA.out (by simp [chandleryref08_Parse.j2])
          | succ kj17 =>
           have H := HA.out
           clear HA
           simp only [chandleryref08_Parse.j2] at H
           by_cases c22 : x52_17 = true
           ·subst c22
            have H1 : (if (wrap64 (x6_2 + 3)) > (l0.length : Int) then (some (false, ([] : List (S42)), ([] : List ByteArray), ([] : List Int), false)) else (if 0 ≤ x6_2 then (if x6_2 < (l0.length : Int) then (if 0 ≤ (wrap64 (x6_2 + 1)) then (if (wrap64 (x6_2 + 1)) < (l0.length : Int) then (if 0 ≤ (wrap64 (x6_2 + 2)) then (if (wrap64 (x6_2 + 2)) < (l0.length : Int) then (if x239003_2.length < 17592186044416 then (chandleryref08_Parse.l0 kj17 l0 (wrap64 ((wrap64 (256 * (wrap64 (rd l0 1)))) + (wrap64 (rd l0 2)))) (wrap64 (x6_2 + 3)) (wrap64 (x7_2 + 1)) ((rd l0 0) == 1) (x239003_2 ++ [wrap64 ((wrap64 ((wrap64 (65536 * (wrap64 (rd l0 x6_2)))) + (wrap64 (256 * (wrap64 (rd l0 (wrap64 (x6_2 + 1)))))))) + (wrap64 (rd l0 (wrap64 (x6_2 + 2)))))])) else (none)) else (none)) else (none)) else (none)) else (none)) else (none)) else (none))) = some (r1, r2, r3, r4, r5) := by rw [if_pos rfl] at H; exact H
            clear H
            have H := H1
            clear H1
            by_cases c23 : (wrap64 (x6_2 + 3)) > (l0.length : Int)
            ·rw [if_pos c23] at H
             have c23b0 : decide ((l0.length : Int) < (wrap64 (x6_2 + 3))) = true := decide_eq_true c23
             clear c23
             simp only [Option.some.injEq, Prod.mk.injEq] at H
             obtain ⟨rfl, rfl, rfl, rfl, rfl⟩ := H
             have hnb24 := NB233_238.out
             have hnc24 := NB238_233.out
             have hcz25_0 : wc.cell? ⟨gb233, 0, none⟩ = some (.bool x234000_2) := (blk_cell BK233.out 0).trans rfl
             have hcz25_1 : wc.cell? ⟨gb233, 1, none⟩ = some (.slice none 0 0) := (blk_cell BK233.out 1).trans rfl
             have hcz25_2 : wc.cell? ⟨gb233, 2, none⟩ = some (.slice none 0 0) := (blk_cell BK233.out 2).trans rfl
             have hcz25_3 : wc.cell? ⟨gb233, 3, none⟩ = some (.slice none 0 0) := (blk_cell BK233.out 3).trans rfl
             have hfz25_0 := blk_frozen BK233.out 0
             have hfz25_1 := blk_frozen BK233.out 1
             have hfz25_2 := blk_frozen BK233.out 2
             have hfz25_3 := blk_frozen BK233.out 3
             go_wp2
             refine bodyPost_ret (results_ct rfl _ _ gb233 26 #[.bool false, .slice none 0 0, .slice none 0 0, .slice none 0 0] (0, 0) _ rfl (by (with_reducible repeat (first | refine blk_drewN ?_ _ | refine blk_drew ?_ | refine blk_alloc ?_ _)); refine blk_put (cs := #[.bool false, .slice none 0 0, .slice none 0 0, .slice none 0 0]) ?_ 3 _ rfl; (with_reducible repeat (first | refine blk_drewN ?_ _ | refine blk_drew ?_ | refine blk_alloc ?_ _)); refine blk_put (cs := #[.bool false, .slice none 0 0, .slice none 0 0, .slice none 0 0]) ?_ 2 _ rfl; (with_reducible repeat (first | refine blk_drewN ?_ _ | refine blk_drew ?_ | refine blk_alloc ?_ _)); refine blk_put (cs := #[.bool false, .slice none 0 0, .slice none 0 0, .slice none 0 0]) ?_ 1 _ rfl; (with_reducible repeat (first | refine blk_drewN ?_ _ | refine blk_drew ?_ | refine blk_alloc ?_ _)); refine blk_put (cs := #[.bool x234000_2, .slice none 0 0, .slice none 0 0, .slice none 0 0]) ?_ 0 _ rfl; (with_reducible repeat (first | refine blk_drewN ?_ _ | refine blk_drew ?_ | refine blk_alloc ?_ _)); exact BK233.out) Try.underlying26 rfl (by kernel_rfl)) rfl ?_
             exact ⟨_, _, _, by first | rfl | (simp [errW_none, errW_some] <;> rfl) | (simp [*, errW_none, errW_some] <;> rfl), by first | exact Kd.R_nil _ _ _ _ _ | exact Kd.N_nil _ _ _ _ _ | exact Kd.V_nil _ _ _ _ _ | exact Kd.Q_nil _ _ _ _ _ | exact Kd.S_nil _ _ _ _ _, by first | exact Kd.R_nil _ _ _ _ _ | exact Kd.N_nil _ _ _ _ _ | exact Kd.V_nil _ _ _ _ _ | exact Kd.Q_nil _ _ _ _ _ | exact Kd.S_nil _ _ _ _ _, by first | exact Kd.R_nil _ _ _ _ _ | exact Kd.N_nil _ _ _ _ _ | exact Kd.V_nil _ _ _ _ _ | exact Kd.Q_nil _ _ _ _ _ | exact Kd.S_nil _ _ _ _ _, by repeat (first | (with_reducible first | exact HB.out | apply below_alloc | apply pw_below_drewN | apply below_drew1 | refine below_set ?_ GE233.out | refine below_set ?_ GE238.out) | exact HB.out)⟩
            ·rw [if_neg c23] at H
             have c23b0 : decide ((l0.length : Int) < (wrap64 (x6_2 + 3))) = false := decide_eq_false c23
             clear c23
             by_cases c26 : 0 ≤ x6_2
             ·rw [if_pos c26] at H
              have c26b0 : decide (0 ≤ x6_2) = true := decide_eq_true c26
              clear c26
              by_cases c27 : x6_2 < (l0.length : Int)
              ·rw [if_pos c27] at H
               have c27b0 : decide (x6_2 < (l0.length : Int)) = true := decide_eq_true c27
               clear c27
               obtain ⟨ji28, hji28⟩ : ∃ j_ : Int, (wrap64 (x6_2 + 1)) = j_ := ⟨_, rfl⟩
               replace H : (if 0 ≤ (ji28) then (if (ji28) < (l0.length : Int) then (if 0 ≤ (wrap64 (x6_2 + 2)) then (if (wrap64 (x6_2 + 2)) < (l0.length : Int) then (if x239003_2.length < 17592186044416 then (chandleryref08_Parse.l0 kj17 l0 (wrap64 ((wrap64 (256 * (wrap64 (rd l0 1)))) + (wrap64 (rd l0 2)))) (wrap64 (x6_2 + 3)) (wrap64 (x7_2 + 1)) ((rd l0 0) == 1) (x239003_2 ++ [wrap64 ((wrap64 ((wrap64 (65536 * (wrap64 (rd l0 x6_2)))) + (wrap64 (256 * (wrap64 (rd l0 (ji28))))))) + (wrap64 (rd l0 (wrap64 (x6_2 + 2)))))])) else (none)) else (none)) else (none)) else (none)) else (none)) = some (r1, r2, r3, r4, r5) := by first | (rw [hji28] at H; exact H) | (simp only [hji28] at H ⊢; exact H)
               have hji28w : (IntKind.i64.wrap (x6_2 + 1)) = ji28 := (i64_w _).trans hji28
               by_cases c29 : 0 ≤ (ji28)
               ·rw [if_pos c29] at H
                have c29b0 : decide (0 ≤ (ji28)) = true := decide_eq_true c29
                clear c29
                by_cases c30 : (ji28) < (l0.length : Int)
                ·rw [if_pos c30] at H
                 have c30b0 : decide ((ji28) < (l0.length : Int)) = true := decide_eq_true c30
                 clear c30
                 obtain ⟨ji31, hji31⟩ : ∃ j_ : Int, (wrap64 (x6_2 + 2)) = j_ := ⟨_, rfl⟩
                 replace H : (if 0 ≤ (ji31) then (if (ji31) < (l0.length : Int) then (if x239003_2.length < 17592186044416 then (chandleryref08_Parse.l0 kj17 l0 (wrap64 ((wrap64 (256 * (wrap64 (rd l0 1)))) + (wrap64 (rd l0 2)))) (wrap64 (x6_2 + 3)) (wrap64 (x7_2 + 1)) ((rd l0 0) == 1) (x239003_2 ++ [wrap64 ((wrap64 ((wrap64 (65536 * (wrap64 (rd l0 x6_2)))) + (wrap64 (256 * (wrap64 (rd l0 (ji28))))))) + (wrap64 (rd l0 (ji31))))])) else (none)) else (none)) else (none)) = some (r1, r2, r3, r4, r5) := by first | (rw [hji31] at H; exact H) | (simp only [hji31] at H ⊢; exact H)
                 have hji31w : (IntKind.i64.wrap (x6_2 + 2)) = ji31 := (i64_w _).trans hji31
                 by_cases c32 : 0 ≤ (ji31)
                 ·rw [if_pos c32] at H
                  have c32b0 : decide (0 ≤ (ji31)) = true := decide_eq_true c32
                  clear c32
                  by_cases c33 : (ji31) < (l0.length : Int)
                  ·rw [if_pos c33] at H
                   have c33b0 : decide ((ji31) < (l0.length : Int)) = true := decide_eq_true c33
                   clear c33
                   by_cases c34 : x239003_2.length < 17592186044416
                   ·rw [if_pos c34] at H
                    have LMc34 := Aside0.mk c34
                    clear c34
                    obtain ⟨y244, hy244⟩ : ∃ y_ : List Int, y_ = (x239003_2 ++ [wrap64 ((wrap64 ((wrap64 (65536 * (wrap64 (rd l0 x6_2)))) + (wrap64 (256 * (wrap64 (rd l0 (ji28))))))) + (wrap64 (rd l0 (ji31))))]) := ⟨_, rfl⟩
                    replace H : (chandleryref08_Parse.l0 kj17 l0 (wrap64 ((wrap64 (256 * (wrap64 (rd l0 1)))) + (wrap64 (rd l0 2)))) (wrap64 (x6_2 + 3)) (wrap64 (x7_2 + 1)) ((rd l0 0) == 1) y244) = some (r1, r2, r3, r4, r5) := by first | (rw [hy244]; with_reducible exact H) | (have H2_ := (Option.bind_some _ _).symm.trans H; rw [hy244]; with_reducible exact H2_) | (have H2_ := (Option.bind_some _ _).symm.trans H; with_reducible exact H2_) | with_reducible exact H | (rw [hy244]; exact H) | exact H
                    have Ny244 := Aside0.mk hy244
                    clear hy244
                    have H' := Aside0.mk H
                    clear H
                    try go_wp2
                    have n0_ := Aside0.mk (Kd.R_drew HO_239003.out)
                    have n1_ := Aside0.mk (blk_drew BK233.out)
                    have n2_ := Aside0.mk (blk_drew BK238.out)
                    have n3_ := Aside0.mk (below_drew1 HB.out)
                    clear HO_239003
                    clear BK233
                    clear BK238
                    clear HB
                    have HO_239003 := n0_
                    have BK233 := n1_
                    have BK238 := n2_
                    have HB := n3_
                    clear n0_ n1_ n2_ n3_
                    have p241 : 0 ≤ (x6_2 : Int) := of_decide_eq_true (by first | (with_reducible assumption) | assumption)
                    have q241 : x6_2 < (l0.length : Int) := of_decide_eq_true (by first | (with_reducible assumption) | assumption)
                    obtain ⟨ad241, e241, hx241_0⟩ := Kd.at_int HR0.out x6_2 p241 q241
                    have hw241_0 := hx241_0
                    obtain rfl : ad237 = ad241 := (by injection e241)
                    replace hx241_0 := (HB.out.cell (World.block_lt_of_cell? w _ hx241_0)).trans hx241_0
                    replace p241 := eq_true p241
                    replace q241 := eq_true q241
                    have p242 : 0 ≤ ((ji28) : Int) := of_decide_eq_true (by first | (with_reducible assumption) | assumption)
                    have q242 : (ji28) < (l0.length : Int) := of_decide_eq_true (by first | (with_reducible assumption) | assumption)
                    obtain ⟨ad242, e242, hx242_0⟩ := Kd.at_int HR0.out (ji28) p242 q242
                    have hw242_0 := hx242_0
                    obtain rfl : ad237 = ad242 := (by injection e242)
                    replace hx242_0 := (HB.out.cell (World.block_lt_of_cell? w _ hx242_0)).trans hx242_0
                    replace p242 := eq_true p242
                    replace q242 := eq_true q242
                    have p243 : 0 ≤ ((ji31) : Int) := of_decide_eq_true (by first | (with_reducible assumption) | assumption)
                    have q243 : (ji31) < (l0.length : Int) := of_decide_eq_true (by first | (with_reducible assumption) | assumption)
                    obtain ⟨ad243, e243, hx243_0⟩ := Kd.at_int HR0.out (ji31) p243 q243
                    have hw243_0 := hx243_0
                    obtain rfl : ad237 = ad243 := (by injection e243)
                    replace hx243_0 := (HB.out.cell (World.block_lt_of_cell? w _ hx243_0)).trans hx243_0
                    replace p243 := eq_true p243
                    replace q243 := eq_true q243
                    refine start_ (n := 27) (S := fun w' => w'.cell? ⟨gb238, 0, none⟩ = some (.bool ((rd l0 0) == 1)) ∧ w'.cell? ⟨gb238, 1, none⟩ = some (.slice none 0 0) ∧ w'.cell? ⟨gb238, 2, none⟩ = some (.slice none 0 0) ∧ w'.cell? ⟨gb238, 3, none⟩ = some (u239003) ∧ w'.cell? (ad237.add (x6_2).toNat) = some (.int .u8 (rd l0 x6_2)) ∧ w'.cell? (ad237.add ((ji28)).toNat) = some (.int .u8 (rd l0 (ji28))) ∧ w'.cell? (ad237.add ((ji31)).toNat) = some (.int .u8 (rd l0 (ji31)))) (ds := [26]) #[false, false, false, false, false, false, false, false, false, false, false, false, false, false, false, false, false, false, false, false, false, false, false, false, false, false, false] (by kernel_rfl) rfl rfl ⟨(blk_cell BK238.out 0).trans rfl, (blk_cell BK238.out 1).trans rfl, (blk_cell BK238.out 2).trans rfl, (blk_cell BK238.out 3).trans rfl, ((HB.out.cell (World.block_lt_of_cell? w _ hw241_0)).trans hw241_0), ((HB.out.cell (World.block_lt_of_cell? w _ hw242_0)).trans hw242_0), ((HB.out.cell (World.block_lt_of_cell? w _ hw243_0)).trans hw243_0)⟩ (fun hHeld => ?_); refine with_tabW chandleryref08_Parse.tab11 chandleryref08_Parse.bits11 (fun HT_ HW_ => ?_)
                    generalize wc.drew = w35 at HO_239003 BK233 BK238 HB hx241_0 hx242_0 hx243_0 hHeld ⊢
                    refine pure_ (i := 0) (N := some 61) (v := ?_) (a' := ?_) #[true, false, false, false, false, false, false, false, false, false, false, false, false, false, false, false, false, false, false, false, false, false, false, false, false, false, false] rfl rfl (any_of HT_.out (by kernel_rfl)) (fun _ _ _ h => h) (Or.inl ⟨by rfl, ?_⟩) ?_ ?_
                    rotate_left
                    ·intro w'
                     go_simp
                     with_reducible rfl
                    rotate_left
                    ·simp only [Act.put, List.setIfInBounds_toArray, List.set_cons_zero, List.set_cons_succ, i64_w, i32_w]
                     rfl
                    refine pure_ (i := 2) (N := some 63) (v := ?_) (a' := ?_) #[true, false, true, false, false, false, false, false, false, false, false, false, false, false, false, false, false, false, false, false, false, false, false, false, false, false, false] rfl rfl (any_of HT_.out (by kernel_rfl)) (fun _ _ _ h => h) (Or.inl ⟨by rfl, ?_⟩) ?_ ?_
                    rotate_left
                    ·intro w'
                     go_simp
                     with_reducible rfl
                    rotate_left
                    ·simp only [Act.put, List.setIfInBounds_toArray, List.set_cons_zero, List.set_cons_succ, i64_w, i32_w]
                     rfl
                    refine pure_ (i := 3) (N := some 64) (v := ?_) (a' := ?_) #[true, false, true, true, false, false, false, false, false, false, false, false, false, false, false, false, false, false, false, false, false, false, false, false, false, false, false] rfl rfl (any_of HT_.out (by kernel_rfl)) (fun _ _ _ h => h) (Or.inl ⟨by rfl, ?_⟩) ?_ ?_
                    rotate_left
                    ·intro w'
                     go_simp
                     with_reducible rfl
                    rotate_left
                    ·simp only [Act.put, List.setIfInBounds_toArray, List.set_cons_zero, List.set_cons_succ, i64_w, i32_w]
                     rfl
                    refine pure_ (i := 4) (N := some 65) (v := ?_) (a' := ?_) #[true, false, true, true, true, false, false, false, false, false, false, false, false, false, false, false, false, false, false, false, false, false, false, false, false, false, false] rfl rfl (any_of HT_.out (by kernel_rfl)) (fun _ _ _ h => h) (Or.inl ⟨by rfl, ?_⟩) ?_ ?_
                    rotate_left
                    ·intro w'
                     go_simp
                     with_reducible rfl
                    rotate_left
                    ·simp only [Act.put, List.setIfInBounds_toArray, List.set_cons_zero, List.set_cons_succ, i64_w, i32_w]
                     rfl
                    refine pure_ (i := 8) (N := some 69) (v := ?_) (a' := ?_) #[true, false, true, true, true, false, false, false, true, false, false, false, false, false, false, false, false, false, false, false, false, false, false, false, false, false, false] rfl rfl (any_of HT_.out (by kernel_rfl)) (fun _ _ _ h => h) (Or.inl ⟨by rfl, ?_⟩) ?_ ?_
                    rotate_left
                    ·intro w'
                     go_simp
                     with_reducible rfl
                    rotate_left
                    ·simp only [Act.put, List.setIfInBounds_toArray, List.set_cons_zero, List.set_cons_succ, i64_w, i32_w]
                     rfl
                    refine pure_ (i := 9) (N := some 70) (v := ?_) (a' := ?_) #[true, false, true, true, true, false, false, false, true, true, false, false, false, false, false, false, false, false, false, false, false, false, false, false, false, false, false] rfl rfl (any_of HT_.out (by kernel_rfl)) (fun _ _ _ h => h) (Or.inl ⟨by rfl, ?_⟩) ?_ ?_
                    rotate_left
                    ·intro w'
                     go_simp
                     with_reducible rfl
                    rotate_left
                    ·simp only [Act.put, List.setIfInBounds_toArray, List.set_cons_zero, List.set_cons_succ, i64_w, i32_w]
                     rfl
                    refine pure_ (i := 10) (N := some 71) (v := ?_) (a' := ?_) #[true, false, true, true, true, false, false, false, true, true, true, false, false, false, false, false, false, false, false, false, false, false, false, false, false, false, false] rfl rfl (any_of HT_.out (by kernel_rfl)) (fun _ _ _ h => h) (Or.inl ⟨by rfl, ?_⟩) ?_ ?_
                    rotate_left
                    ·intro w'
                     go_simp
                     with_reducible rfl
                    rotate_left
                    ·simp only [Act.put, List.setIfInBounds_toArray, List.set_cons_zero, List.set_cons_succ, i64_w, i32_w]
                     rfl
                    refine pure_ (i := 11) (N := some 72) (v := ?_) (a' := ?_) #[true, false, true, true, true, false, false, false, true, true, true, true, false, false, false, false, false, false, false, false, false, false, false, false, false, false, false] rfl rfl (any_of HT_.out (by kernel_rfl)) (fun _ _ _ h => h) (Or.inl ⟨by rfl, ?_⟩) ?_ ?_
                    rotate_left
                    ·intro w'
                     go_simp
                     with_reducible rfl
                    rotate_left
                    ·simp only [Act.put, List.setIfInBounds_toArray, List.set_cons_zero, List.set_cons_succ, i64_w, i32_w]
                     rfl
                    refine pure_ (i := 16) (N := some 77) (v := ?_) (a' := ?_) #[true, false, true, true, true, false, false, false, true, true, true, true, false, false, false, false, true, false, false, false, false, false, false, false, false, false, false] rfl rfl (any_of HT_.out (by kernel_rfl)) (fun _ _ _ h => h) (Or.inl ⟨by rfl, ?_⟩) ?_ ?_
                    rotate_left
                    ·intro w'
                     go_simp
                     with_reducible rfl
                    rotate_left
                    ·simp only [Act.put, List.setIfInBounds_toArray, List.set_cons_zero, List.set_cons_succ, i64_w, i32_w]
                     rfl
                    refine pure_ (i := 17) (N := some 78) (v := ?_) (a' := ?_) #[true, false, true, true, true, false, false, false, true, true, true, true, false, false, false, false, true, true, false, false, false, false, false, false, false, false, false] rfl rfl (any_of HT_.out (by kernel_rfl)) (fun _ _ _ h => h) (Or.inl ⟨by rfl, ?_⟩) ?_ ?_
                    rotate_left
                    ·intro w'
                     go_simp
                     with_reducible rfl
                    rotate_left
                    ·simp only [Act.put, List.setIfInBounds_toArray, List.set_cons_zero, List.set_cons_succ, i64_w, i32_w]
                     rfl
                    refine pure_ (i := 18) (N := some 79) (v := ?_) (a' := ?_) #[true, false, true, true, true, false, false, false, true, true, true, true, false, false, false, false, true, true, true, false, false, false, false, false, false, false, false] rfl rfl (any_of HT_.out (by kernel_rfl)) (fun _ _ _ h => h) (Or.inl ⟨by rfl, ?_⟩) ?_ ?_
                    rotate_left
                    ·intro w'
                     go_simp
                     with_reducible rfl
                    rotate_left
                    ·simp only [Act.put, List.setIfInBounds_toArray, List.set_cons_zero, List.set_cons_succ, i64_w, i32_w]
                     rfl
                    refine pure_ (i := 19) (N := some 80) (v := ?_) (a' := ?_) #[true, false, true, true, true, false, false, false, true, true, true, true, false, false, false, false, true, true, true, true, false, false, false, false, false, false, false] rfl rfl (any_of HT_.out (by kernel_rfl)) (fun _ _ _ h => h) (Or.inl ⟨by rfl, ?_⟩) ?_ ?_
                    rotate_left
                    ·intro w'
                     go_simp
                     with_reducible rfl
                    rotate_left
                    ·simp only [Act.put, List.setIfInBounds_toArray, List.set_cons_zero, List.set_cons_succ, i64_w, i32_w]
                     rfl
                    refine take_ (i := 1) (N := some 62) (v := ?_) (a' := ?_) #[true, true, true, true, true, false, false, false, true, true, true, true, false, false, false, false, true, true, true, true, false, false, false, false, false, false, false] rfl rfl (take_ofW HT_.out HW_.out (by kernel_rfl)) (fun _ _ _ h => h) (Or.inl ⟨by rfl, ?_⟩) hHeld ?_ ?_
                    rotate_left
                    ·rintro w' ⟨s0, s1, s2, s3, s4, s5, s6⟩
                     go_simp
                     with_reducible rfl
                    rotate_left
                    ·simp only [Act.put, List.setIfInBounds_toArray, List.set_cons_zero, List.set_cons_succ, i64_w, i32_w]
                     rfl
                    refine take_ (i := 5) (N := some 66) (v := ?_) (a' := ?_) #[true, true, true, true, true, true, false, false, true, true, true, true, false, false, false, false, true, true, true, true, false, false, false, false, false, false, false] rfl rfl (take_ofW HT_.out HW_.out (by kernel_rfl)) (fun _ _ _ h => h) (Or.inl ⟨by rfl, ?_⟩) hHeld ?_ ?_
                    rotate_left
                    ·rintro w' ⟨s0, s1, s2, s3, s4, s5, s6⟩
                     go_simp
                     with_reducible rfl
                    rotate_left
                    ·simp only [Act.put, List.setIfInBounds_toArray, List.set_cons_zero, List.set_cons_succ, i64_w, i32_w]
                     rfl
                    refine pure_ (i := 6) (N := some 67) (v := ?_) (a' := ?_) #[true, true, true, true, true, true, true, false, true, true, true, true, false, false, false, false, true, true, true, true, false, false, false, false, false, false, false] rfl rfl (any_of HT_.out (by kernel_rfl)) (fun _ _ _ h => h) (Or.inl ⟨by rfl, ?_⟩) ?_ ?_
                    rotate_left
                    ·intro w'
                     go_simp
                     with_reducible rfl
                    rotate_left
                    ·simp only [Act.put, List.setIfInBounds_toArray, List.set_cons_zero, List.set_cons_succ, i64_w, i32_w]
                     rfl
                    refine pure_ (i := 7) (N := some 68) (v := ?_) (a' := ?_) #[true, true, true, true, true, true, true, true, true, true, true, true, false, false, false, false, true, true, true, true, false, false, false, false, false, false, false] rfl rfl (any_of HT_.out (by kernel_rfl)) (fun _ _ _ h => h) (Or.inl ⟨by rfl, ?_⟩) ?_ ?_
                    rotate_left
                    ·intro w'
                     go_simp
                     with_reducible rfl
                    rotate_left
                    ·simp only [Act.put, List.setIfInBounds_toArray, List.set_cons_zero, List.set_cons_succ, i64_w, i32_w]
                     rfl
                    refine take_ (i := 12) (N := some 73) (v := ?_) (a' := ?_) #[true, true, true, true, true, true, true, true, true, true, true, true, true, false, false, false, true, true, true, true, false, false, false, false, false, false, false] rfl rfl (take_ofW HT_.out HW_.out (by kernel_rfl)) (fun _ _ _ h => h) (Or.inl ⟨by rfl, ?_⟩) hHeld ?_ ?_
                    rotate_left
                    ·rintro w' ⟨s0, s1, s2, s3, s4, s5, s6⟩
                     go_simp
                     with_reducible rfl
                    rotate_left
                    ·simp only [Act.put, List.setIfInBounds_toArray, List.set_cons_zero, List.set_cons_succ, i64_w, i32_w]
                     rfl
                    refine pure_ (i := 13) (N := some 74) (v := ?_) (a' := ?_) #[true, true, true, true, true, true, true, true, true, true, true, true, true, true, false, false, true, true, true, true, false, false, false, false, false, false, false] rfl rfl (any_of HT_.out (by kernel_rfl)) (fun _ _ _ h => h) (Or.inl ⟨by rfl, ?_⟩) ?_ ?_
                    rotate_left
                    ·intro w'
                     go_simp
                     with_reducible rfl
                    rotate_left
                    ·simp only [Act.put, List.setIfInBounds_toArray, List.set_cons_zero, List.set_cons_succ, i64_w, i32_w]
                     rfl
                    refine pure_ (i := 14) (N := some 75) (v := ?_) (a' := ?_) #[true, true, true, true, true, true, true, true, true, true, true, true, true, true, true, false, true, true, true, true, false, false, false, false, false, false, false] rfl rfl (any_of HT_.out (by kernel_rfl)) (fun _ _ _ h => h) (Or.inl ⟨by rfl, ?_⟩) ?_ ?_
                    rotate_left
                    ·intro w'
                     go_simp
                     with_reducible rfl
                    rotate_left
                    ·simp only [Act.put, List.setIfInBounds_toArray, List.set_cons_zero, List.set_cons_succ, i64_w, i32_w]
                     rfl
                    refine pure_ (i := 15) (N := some 76) (v := ?_) (a' := ?_) #[true, true, true, true, true, true, true, true, true, true, true, true, true, true, true, true, true, true, true, true, false, false, false, false, false, false, false] rfl rfl (any_of HT_.out (by kernel_rfl)) (fun _ _ _ h => h) (Or.inl ⟨by rfl, ?_⟩) ?_ ?_
                    rotate_left
                    ·intro w'
                     go_simp
                     with_reducible rfl
                    rotate_left
                    ·simp only [Act.put, List.setIfInBounds_toArray, List.set_cons_zero, List.set_cons_succ, i64_w, i32_w]
                     rfl
                    refine take_ (i := 20) (N := some 81) (v := ?_) (a' := ?_) #[true, true, true, true, true, true, true, true, true, true, true, true, true, true, true, true, true, true, true, true, true, false, false, false, false, false, false] rfl rfl (take_ofW HT_.out HW_.out (by kernel_rfl)) (fun _ _ _ h => h) (Or.inl ⟨by rfl, ?_⟩) hHeld ?_ ?_
                    rotate_left
                    ·rintro w' ⟨s0, s1, s2, s3, s4, s5, s6⟩
                     go_simp
                     with_reducible rfl
                    rotate_left
                    ·simp only [Act.put, List.setIfInBounds_toArray, List.set_cons_zero, List.set_cons_succ, i64_w, i32_w]
                     rfl
                    refine pure_ (i := 21) (N := some 82) (v := ?_) (a' := ?_) #[true, true, true, true, true, true, true, true, true, true, true, true, true, true, true, true, true, true, true, true, true, true, false, false, false, false, false] rfl rfl (any_of HT_.out (by kernel_rfl)) (fun _ _ _ h => h) (Or.inl ⟨by rfl, ?_⟩) ?_ ?_
                    rotate_left
                    ·intro w'
                     go_simp
                     with_reducible rfl
                    rotate_left
                    ·simp only [Act.put, List.setIfInBounds_toArray, List.set_cons_zero, List.set_cons_succ, i64_w, i32_w]
                     rfl
                    refine pure_ (i := 22) (N := some 83) (v := ?_) (a' := ?_) #[true, true, true, true, true, true, true, true, true, true, true, true, true, true, true, true, true, true, true, true, true, true, true, false, false, false, false] rfl rfl (any_of HT_.out (by kernel_rfl)) (fun _ _ _ h => h) (Or.inl ⟨by rfl, ?_⟩) ?_ ?_
                    rotate_left
                    ·intro w'
                     go_simp
                     with_reducible rfl
                    rotate_left
                    ·simp only [Act.put, List.setIfInBounds_toArray, List.set_cons_zero, List.set_cons_succ, i64_w, i32_w]
                     rfl
                    refine one_ (i := 23) (N := some 84) #[true, true, true, true, true, true, true, true, true, true, true, true, true, true, true, true, true, true, true, true, true, true, true, true, false, false, false] rfl rfl (one_of HT_.out (by kernel_rfl)) (by decide) (fun K hK => ?_)
                    refine value_ (w1 := ?_) (v := ?_) (by rfl) rfl ?_ ?_
                    rotate_left 2
                    ·go_simp
                     constructor
                     ·rfl
                     ·rfl
                    refine hK.out _ _ ⟨(blk_cell (blk_alloc BK238.out _) 0).trans rfl, (blk_cell (blk_alloc BK238.out _) 1).trans rfl, (blk_cell (blk_alloc BK238.out _) 2).trans rfl, (blk_cell (blk_alloc BK238.out _) 3).trans rfl, (World.cell?_alloc_lt _ _ _ (World.block_lt_of_cell? _ _ (((HB.out.cell (World.block_lt_of_cell? w _ hw241_0)).trans hw241_0)))).trans (((HB.out.cell (World.block_lt_of_cell? w _ hw241_0)).trans hw241_0)), (World.cell?_alloc_lt _ _ _ (World.block_lt_of_cell? _ _ (((HB.out.cell (World.block_lt_of_cell? w _ hw242_0)).trans hw242_0)))).trans (((HB.out.cell (World.block_lt_of_cell? w _ hw242_0)).trans hw242_0)), (World.cell?_alloc_lt _ _ _ (World.block_lt_of_cell? _ _ (((HB.out.cell (World.block_lt_of_cell? w _ hw243_0)).trans hw243_0)))).trans (((HB.out.cell (World.block_lt_of_cell? w _ hw243_0)).trans hw243_0))⟩ (fun hHeld => ?_)
                    clear hK K
                    refine norm_ (a' := ?_) ?_ ?_
                    rotate_left
                    ·show Act.put _ (some 84) _ = _
                     simp only [Act.put, List.setIfInBounds_toArray, List.set_cons_zero, List.set_cons_succ, i64_w, i32_w]
                     rfl
                    refine one_ (i := 24) (N := some 85) #[true, true, true, true, true, true, true, true, true, true, true, true, true, true, true, true, true, true, true, true, true, true, true, true, true, false, false] rfl rfl (one_of HT_.out (by kernel_rfl)) (by decide) (fun K hK => ?_)
                    refine Kd.R_append_step (Kd.int .i64) (w0 := w) w.heap.size (by rfl) (.tmp 62) (.tmp 84) 24 3 (.int .i64 0) 8 rfl Try.underlying24 info3 rfl (by decide) (by omega) u239003 x239003_2 (wrap64 ((wrap64 ((wrap64 (65536 * (wrap64 (rd l0 x6_2)))) + (wrap64 (256 * (wrap64 (rd l0 (ji28))))))) + (wrap64 (rd l0 (ji31))))) [.int .i64 (wrap64 ((wrap64 ((wrap64 (65536 * (wrap64 (rd l0 x6_2)))) + (wrap64 (256 * (wrap64 (rd l0 (ji28))))))) + (wrap64 (rd l0 (ji31)))))] (fun _ => True) (fun _ => False) rfl rfl ?aP (fun _ hk => hk.elim) ?aF ?aO ?aB ?aS ?aL ?_
                    (case aP => exact rfl)
                    (case aB => exact (by repeat (first | (with_reducible first | exact HB.out | apply below_alloc | apply pw_below_drewN | apply below_drew1 | refine below_set ?_ GE233.out | refine below_set ?_ GE238.out) | exact HB.out)))
                    (case aF => exact (fun _ _ => trivial))
                    (case aO => exact (by (with_reducible repeat (first | apply Kd.R_alloc | apply Kd.R_drewN | apply Kd.R_drew)); exact HO_239003.out))
                    (case aS => exact (below_size (by repeat (first | (with_reducible first | exact HB.out | apply below_alloc | apply pw_below_drewN | apply below_drew1 | refine below_set ?_ GE233.out | refine below_set ?_ GE238.out) | exact HB.out))))
                    (case aL => have := LMc34.out; omega)
                    intro v245 w36 ho hb hg hat
                    rw [← Ny244.out] at ho
                    have n0_ := Aside0.mk (blk_grown (g := gb233) (o := .cells #[.bool x234000_2, .slice none 0 0, .slice none 0 0, .slice none 0 0] 26 (0, 0)) (by (with_reducible repeat (first | refine blk_drewN ?_ _ | refine blk_drew ?_ | refine blk_alloc ?_ _)); exact BK233.out) hg (Kd.R_ne HO_239003.out BK233.out (by decide)))
                    have n1_ := Aside0.mk (blk_grown (g := gb238) (o := .cells #[.bool ((rd l0 0) == 1), .slice none 0 0, .slice none 0 0, u239003] 26 (0, 0)) (by (with_reducible repeat (first | refine blk_drewN ?_ _ | refine blk_drew ?_ | refine blk_alloc ?_ _)); exact BK238.out) hg (Kd.R_ne HO_239003.out BK238.out (by decide)))
                    have n2_ := Aside0.mk (hb)
                    have n3_ := Aside0.mk (ho)
                    clear BK233
                    clear BK238
                    clear HB
                    clear HO_239003
                    have BK233 := n0_
                    have BK238 := n1_
                    have HB := n2_
                    have HO246 := n3_
                    clear n0_ n1_ n2_ n3_
                    clear ho hb hg hat
                    obtain ⟨Ao37, co37, eo37⟩ := Kd.R_slice HO246.out
                    (first | subst eo37 | (injection eo37 with f1_ f2_ f3_; have f4_ := f1_.symm; have f5_ := f3_.symm; clear f1_ f2_ f3_; subst f4_; subst f5_))
                    refine hK.out _ _ ⟨(blk_cell BK238.out 0).trans rfl, (blk_cell BK238.out 1).trans rfl, (blk_cell BK238.out 2).trans rfl, (blk_cell BK238.out 3).trans rfl, ((HB.out.cell (World.block_lt_of_cell? w _ hw241_0)).trans hw241_0), ((HB.out.cell (World.block_lt_of_cell? w _ hw242_0)).trans hw242_0), ((HB.out.cell (World.block_lt_of_cell? w _ hw243_0)).trans hw243_0)⟩ (fun hHeld => ?_)
                    clear hK K
                    refine norm_ (a' := ?_) ?_ ?_
                    rotate_left
                    ·show Act.put _ (some 85) _ = _
                     simp only [Act.put, List.setIfInBounds_toArray, List.set_cons_zero, List.set_cons_succ, i64_w, i32_w]
                     rfl
                    refine pure_ (i := 25) (N := some 86) (v := ?_) (a' := ?_) #[true, true, true, true, true, true, true, true, true, true, true, true, true, true, true, true, true, true, true, true, true, true, true, true, true, true, false] rfl rfl (any_of HT_.out (by kernel_rfl)) (fun _ _ _ h => h) (Or.inl ⟨by rfl, ?_⟩) ?_ ?_
                    rotate_left
                    ·intro w'
                     go_simp
                     with_reducible rfl
                    rotate_left
                    ·simp only [Act.put, List.setIfInBounds_toArray, List.set_cons_zero, List.set_cons_succ, i64_w, i32_w]
                     rfl
                    refine last_ (i := 26) (N := none) #[true, true, true, true, true, true, true, true, true, true, true, true, true, true, true, true, true, true, true, true, true, true, true, true, true, true, true] rfl rfl (one_of HT_.out (by kernel_rfl)) (by decide) (fun K hK => ?_)
                    have hs38 : w36.cell? ⟨gb238, 3, none⟩ = some (u239003) := (blk_cell BK238.out 3).trans rfl
                    have hfs38 := blk_frozen BK238.out 3
                    have hns38_0 := NB233_238.out
                    have hms38_0 := NB238_233.out
                    refine skip_ (w1 := ?_) (by rfl) rfl ?_ ?_
                    rotate_left
                    ·go_simp
                     rfl
                    refine hK.out _ _ ?_
                    clear hK K
                    refine done_ (done_of HT_.out (by kernel_rfl)) ?_
                    try go_wp2
                    go_roundg kj17
                    case measure => have := HJ1.out; have := HK2.out; have := HJ17.out; omega
                    case rel => exact ⟨(wrap64 (x6_2 + 3)), (wrap64 (x7_2 + 1)), (x234000_2), (y244), (.slice Ao37 y244.length co37), (by first | rfl | (simp; done) | exact congrArg Value.bool (Go.Proofs.YtjhenmegcgnkgaaX.isEmpty_ne_ _) | exact congrArg Value.bool (Go.Proofs.YtjhenmegcgnkgaaX.ne_isEmpty_ _) | (simp [*]; done)), (by first | rfl | (simp; done) | exact congrArg Value.bool (Go.Proofs.YtjhenmegcgnkgaaX.isEmpty_ne_ _) | exact congrArg Value.bool (Go.Proofs.YtjhenmegcgnkgaaX.ne_isEmpty_ _) | (simp [*]; done)), H', ⟨by have := HJ1.out; have := HK2.out; have := HJ17.out; omega⟩, ⟨by (with_reducible repeat (first | apply Kd.R_alloc | apply Kd.R_drewN | apply Kd.R_drew)); exact Kd.R_mono (Kd.R_far (p := ⟨gb238, 3, none⟩) (Kd.R_types HO246.out BK238.out (by decide)) (fun _ hk => hk.2) (.slice Ao37 y244.length co37)) (fun _ hk => trivial)⟩, ⟨by (with_reducible repeat (first | refine blk_drewN ?_ _ | refine blk_drew ?_ | refine blk_alloc ?_ _)); refine blk_far ?_ NB233_238.out _; (with_reducible repeat (first | refine blk_drewN ?_ _ | refine blk_drew ?_ | refine blk_alloc ?_ _)); exact BK233.out⟩, ⟨by (with_reducible repeat (first | refine blk_drewN ?_ _ | refine blk_drew ?_ | refine blk_alloc ?_ _)); refine blk_put (cs := #[.bool ((rd l0 0) == 1), .slice none 0 0, .slice none 0 0, u239003]) ?_ 3 _ rfl; (with_reducible repeat (first | refine blk_drewN ?_ _ | refine blk_drew ?_ | refine blk_alloc ?_ _)); exact BK238.out⟩, ⟨by repeat (first | (with_reducible first | exact HB.out | apply below_alloc | apply pw_below_drewN | apply below_drew1 | refine below_set ?_ GE233.out | refine below_set ?_ GE238.out) | exact HB.out)⟩⟩
                   ·rw [if_neg c34] at H
                    exact absurd H (by simp)
                  ·rw [if_neg c33] at H
                   exact absurd H (by simp)
                 ·rw [if_neg c32] at H
                  exact absurd H (by simp)
                ·rw [if_neg c30] at H
                 exact absurd H (by simp)
               ·rw [if_neg c29] at H
                exact absurd H (by simp)
              ·rw [if_neg c27] at H
               exact absurd H (by simp)
             ·rw [if_neg c26] at H
              exact absurd H (by simp)
           ·replace c22 := Bool.eq_false_iff.mpr c22
            subst c22
            have H1 : (chandleryref08_Parse.l1 kj17 l0 (wrap64 ((wrap64 (256 * (wrap64 (rd l0 1)))) + (wrap64 (rd l0 2)))) x6_2 0 ((rd l0 0) == 1) ([] : List (S42)) ([] : List ByteArray) x239003_2) = some (r1, r2, r3, r4, r5) := by rw [if_neg (show ¬ (false = true) by decide)] at H; exact H
            clear H
            have H := H1
            clear H1
            have H' := Aside0.mk H
            clear H
            go_wp2
            go_loopg [6, 8] kj17 (fun kq v6 v8 w' => ∃ (x6_4 : Int) (x8_4 : Int) (x239001_4 : List (S42)) (x239002_4 : List ByteArray) (u239001 : Value) (u239002 : Value), v6 = .int .i64 x6_4 ∧ v8 = .int .i64 x8_4 ∧ Aside0 (chandleryref08_Parse.l1 kq l0 (wrap64 ((wrap64 (256 * (wrap64 (rd l0 1)))) + (wrap64 (rd l0 2)))) x6_4 x8_4 ((rd l0 0) == 1) x239001_4 x239002_4 x239003_2 = some (r1, r2, r3, r4, r5)) ∧ Aside0 (kq ≤ kj17) ∧ Aside0 (Kd.R k42 42 w' w.heap.size (fun _ => True) u239001 x239001_4) ∧ Aside0 (Kd.R Kd.string 9 w' w.heap.size (fun _ => True) u239002 x239002_4) ∧ Aside0 (Kd.R (Kd.int .i64) 3 w' w.heap.size (fun _ => True) u239003 x239003_2) ∧ Aside0 (w'.heap[gb233]? = some (.cells #[.bool x234000_2, (.slice none 0 0), (.slice none 0 0), (.slice none 0 0)] 26 (0, 0))) ∧ Aside0 (w'.heap[gb238]? = some (.cells #[.bool ((rd l0 0) == 1), u239001, u239002, u239003] 26 (0, 0))) ∧ Aside0 (Below w.heap.size w w'))
            case atStart => exact ⟨(x6_2), (0), (([] : List (S42))), (([] : List ByteArray)), (.slice none 0 0), (.slice none 0 0), (by first | rfl | (simp; done) | exact congrArg Value.bool (Go.Proofs.YtjhenmegcgnkgaaX.isEmpty_ne_ _) | exact congrArg Value.bool (Go.Proofs.YtjhenmegcgnkgaaX.ne_isEmpty_ _) | (simp [*]; done)), (by first | rfl | (simp; done) | exact congrArg Value.bool (Go.Proofs.YtjhenmegcgnkgaaX.isEmpty_ne_ _) | exact congrArg Value.bool (Go.Proofs.YtjhenmegcgnkgaaX.ne_isEmpty_ _) | (simp [*]; done)), H', ⟨Nat.le_refl _⟩, ⟨by first | exact Kd.R_nil _ _ _ _ _ | exact Kd.N_nil _ _ _ _ _ | exact Kd.V_nil _ _ _ _ _ | exact Kd.Q_nil _ _ _ _ _ | exact Kd.S_nil _ _ _ _ _⟩, ⟨by first | exact Kd.R_nil _ _ _ _ _ | exact Kd.N_nil _ _ _ _ _ | exact Kd.V_nil _ _ _ _ _ | exact Kd.Q_nil _ _ _ _ _ | exact Kd.S_nil _ _ _ _ _⟩, ⟨by (with_reducible repeat (first | apply Kd.R_alloc | apply Kd.R_drewN | apply Kd.R_drew)); exact HO_239003.out⟩, ⟨by (with_reducible repeat (first | refine blk_drewN ?_ _ | refine blk_drew ?_ | refine blk_alloc ?_ _)); exact BK233.out⟩, ⟨by (with_reducible repeat (first | refine blk_drewN ?_ _ | refine blk_drew ?_ | refine blk_alloc ?_ _)); exact BK238.out⟩, ⟨by repeat (first | (with_reducible first | exact HB.out | apply below_alloc | apply pw_below_drewN | apply below_drew1 | refine below_set ?_ GE233.out | refine below_set ?_ GE238.out) | exact HB.out)⟩⟩
            case round =>
             clear H'
             try clear c1
             try clear c2
             try clear p2
             try clear q2
             try clear hx2
             try clear qi2
             try clear c3
             try clear c5
             try clear c6
             try clear c6b0
             try clear c6b1
             try clear p6
             try clear c7
             try clear c7b0
             try clear c7b1
             try clear c8
             try clear c10
             try clear c10b0
             try clear c10b1
             try clear c11
             try clear c11b0
             try clear c11b1
             try clear c12
             try clear c12b0
             try clear c12b1
             try clear c14
             try clear c15
             try clear c19
             try clear c19b0
             try clear c20
             try clear c22
             try clear c23
             try clear c23b0
             try clear p23
             try clear q23
             try clear hx23
             try clear c24
             try clear p24
             try clear q24
             try clear hx24
             try clear c26
             try clear c26b0
             try clear c27
             try clear c27b0
             try clear c29
             try clear c29b0
             try clear c30
             try clear c30b0
             try clear c32
             try clear c32b0
             try clear c33
             try clear c33b0
             try clear c34
             try clear hcz15_0
             try clear hcz15_1
             try clear hcz15_2
             try clear hcz15_3
             try clear hcz21_0
             try clear hcz21_1
             try clear hcz21_2
             try clear hcz21_3
             try clear hcz25_0
             try clear hcz25_1
             try clear hcz25_2
             try clear hcz25_3
             try clear hcz9_0
             try clear hcz9_1
             try clear hcz9_2
             try clear hcz9_3
             try clear hfz15_0
             try clear hfz15_1
             try clear hfz15_2
             try clear hfz15_3
             try clear hfz21_0
             try clear hfz21_1
             try clear hfz21_2
             try clear hfz21_3
             try clear hfz25_0
             try clear hfz25_1
             try clear hfz25_2
             try clear hfz25_3
             try clear hfz9_0
             try clear hfz9_1
             try clear hfz9_2
             try clear hfz9_3
             try clear hx235_0
             try clear hx236_0
             try clear hx237_0
             try clear hx239_0
             try clear hx240_0
             try clear hx241_0
             try clear hx242_0
             try clear hx243_0
             try clear p2
             try clear p235
             try clear p236
             try clear p237
             try clear p239
             try clear p240
             try clear p241
             try clear p242
             try clear p243
             try clear p6
             try clear q2
             try clear q235
             try clear q236
             try clear q237
             try clear q239
             try clear q240
             try clear q241
             try clear q242
             try clear q243
             obtain ⟨x6_4, x8_4, x239001_4, x239002_4, u239001, u239002, rfl, rfl, HA, HK4, HO_239001, HO_239002, HO_239003, BK233, BK238, HB⟩ := hrel
             cases gk with
             | zero => exact absurd HA.out (by simp [chandleryref08_Parse.l1])
             | succ k4 =>
              have H := HA.out
              clear HA
              simp only [chandleryref08_Parse.l1] at H
              have HC39 := Aside0.mk H
              clear H
              go_upto_region 14 with (fail)
              go_cut [95] (fun v95 wc => ∃ (kq : Nat) (x95_38 : Bool), v95 = .bool x95_38 ∧ Aside0 (chandleryref08_Parse.j4 kq l0 (wrap64 ((wrap64 (256 * (wrap64 (rd l0 1)))) + (wrap64 (rd l0 2)))) x6_4 x8_4 x95_38 ((rd l0 0) == 1) x239001_4 x239002_4 x239003_2 = some (r1, r2, r3, r4, r5)) ∧ Aside0 (kq ≤ k4) ∧ Aside0 (Kd.R k42 42 wc w.heap.size (fun _ => True) u239001 x239001_4) ∧ Aside0 (Kd.R Kd.string 9 wc w.heap.size (fun _ => True) u239002 x239002_4) ∧ Aside0 (Kd.R (Kd.int .i64) 3 wc w.heap.size (fun _ => True) u239003 x239003_2) ∧ Aside0 (wc.heap[gb233]? = some (.cells #[.bool x234000_2, (.slice none 0 0), (.slice none 0 0), (.slice none 0 0)] 26 (0, 0))) ∧ Aside0 (wc.heap[gb238]? = some (.cells #[.bool ((rd l0 0) == 1), u239001, u239002, u239003] 26 (0, 0))) ∧ Aside0 (Below w.heap.size w wc))
              case first =>
               have H := HC39.out
               clear HC39
               by_cases c40 : x8_4 < (wrap64 ((wrap64 (256 * (wrap64 (rd l0 1)))) + (wrap64 (rd l0 2))))
               ·rw [if_pos c40] at H
                have c40b0 : decide (x8_4 < (wrap64 ((wrap64 (256 * (wrap64 (rd l0 1)))) + (wrap64 (rd l0 2))))) = true := decide_eq_true c40
                clear c40
                (first | rw [c40b0] | (simp only [i64_w, i32_w]; rw [c40b0]) | skip)
                have H' := Aside0.mk H
                clear H
                go_wp2
                go_meet
                case rel => exact ⟨_, (decide (x6_4 ≥ 0)), (by first | rfl | (simp; done) | exact congrArg Value.bool (Go.Proofs.YtjhenmegcgnkgaaX.isEmpty_ne_ _) | exact congrArg Value.bool (Go.Proofs.YtjhenmegcgnkgaaX.ne_isEmpty_ _) | (simp [*]; done)), H', ⟨by have := HJ1.out; have := HK2.out; have := HJ17.out; have := HK4.out; first | omega | exact Nat.le_refl _⟩, ⟨by (with_reducible repeat (first | apply Kd.R_alloc | apply Kd.R_drewN | apply Kd.R_drew)); exact HO_239001.out⟩, ⟨by (with_reducible repeat (first | apply Kd.R_alloc | apply Kd.R_drewN | apply Kd.R_drew)); exact HO_239002.out⟩, ⟨by (with_reducible repeat (first | apply Kd.R_alloc | apply Kd.R_drewN | apply Kd.R_drew)); exact HO_239003.out⟩, ⟨by (with_reducible repeat (first | refine blk_drewN ?_ _ | refine blk_drew ?_ | refine blk_alloc ?_ _)); exact BK233.out⟩, ⟨by (with_reducible repeat (first | refine blk_drewN ?_ _ | refine blk_drew ?_ | refine blk_alloc ?_ _)); exact BK238.out⟩, ⟨by repeat (first | (with_reducible first | exact HB.out | apply below_alloc | apply pw_below_drewN | apply below_drew1 | refine below_set ?_ GE233.out | refine below_set ?_ GE238.out) | exact HB.out)⟩⟩
               ·rw [if_neg c40] at H
                have c40b0 : decide (x8_4 < (wrap64 ((wrap64 (256 * (wrap64 (rd l0 1)))) + (wrap64 (rd l0 2))))) = false := decide_eq_false c40
                clear c40
                (first | rw [c40b0] | (simp only [i64_w, i32_w]; rw [c40b0]) | skip)
                have H' := Aside0.mk H
                clear H
                go_wp2
                go_meet
                case rel => exact ⟨_, (false), (by first | rfl | (simp; done) | exact congrArg Value.bool (Go.Proofs.YtjhenmegcgnkgaaX.isEmpty_ne_ _) | exact congrArg Value.bool (Go.Proofs.YtjhenmegcgnkgaaX.ne_isEmpty_ _) | (simp [*]; done)), H', ⟨by have := HJ1.out; have := HK2.out; have := HJ17.out; have := HK4.out; first | omega | exact Nat.le_refl _⟩, ⟨by (with_reducible repeat (first | apply Kd.R_alloc | apply Kd.R_drewN | apply Kd.R_drew)); exact HO_239001.out⟩, ⟨by (with_reducible repeat (first | apply Kd.R_alloc | apply Kd.R_drewN | apply Kd.R_drew)); exact HO_239002.out⟩, ⟨by (with_reducible repeat (first | apply Kd.R_alloc | apply Kd.R_drewN | apply Kd.R_drew)); exact HO_239003.out⟩, ⟨by (with_reducible repeat (first | refine blk_drewN ?_ _ | refine blk_drew ?_ | refine blk_alloc ?_ _)); exact BK233.out⟩, ⟨by (with_reducible repeat (first | refine blk_drewN ?_ _ | refine blk_drew ?_ | refine blk_alloc ?_ _)); exact BK238.out⟩, ⟨by repeat (first | (with_reducible first | exact HB.out | apply below_alloc | apply pw_below_drewN | apply below_drew1 | refine below_set ?_ GE233.out | refine below_set ?_ GE238.out) | exact HB.out)⟩⟩
              case rest =>
               clear HC39
               try clear c1
               try clear c2
               try clear p2
               try clear q2
               try clear hx2
               try clear qi2
               try clear c3
               try clear c4
               try clear c5
               try clear c6
               try clear c6b0
               try clear c6b1
               try clear p6
               try clear c7
               try clear c7b0
               try clear c7b1
               try clear c8
               try clear c10
               try clear c10b0
               try clear c10b1
               try clear c11
               try clear c11b0
               try clear c11b1
               try clear c12
               try clear c12b0
               try clear c12b1
               try clear c14
               try clear c15
               try clear c19
               try clear c19b0
               try clear c20
               try clear c22
               try clear c23
               try clear c23b0
               try clear p23
               try clear q23
               try clear hx23
               try clear c24
               try clear p24
               try clear q24
               try clear hx24
               try clear c26
               try clear c26b0
               try clear c27
               try clear c27b0
               try clear c29
               try clear c29b0
               try clear c30
               try clear c30b0
               try clear c32
               try clear c32b0
               try clear c33
               try clear c33b0
               try clear c34
               try clear c40
               try clear c40b0
               try clear hcz15_0
               try clear hcz15_1
               try clear hcz15_2
               try clear hcz15_3
               try clear hcz21_0
               try clear hcz21_1
               try clear hcz21_2
               try clear hcz21_3
               try clear hcz25_0
               try clear hcz25_1
               try clear hcz25_2
               try clear hcz25_3
               try clear hcz9_0
               try clear hcz9_1
               try clear hcz9_2
               try clear hcz9_3
               try clear hfz15_0
               try clear hfz15_1
               try clear hfz15_2
               try clear hfz15_3
               try clear hfz21_0
               try clear hfz21_1
               try clear hfz21_2
               try clear hfz21_3
               try clear hfz25_0
               try clear hfz25_1
               try clear hfz25_2
               try clear hfz25_3
               try clear hfz9_0
               try clear hfz9_1
               try clear hfz9_2
               try clear hfz9_3
               try clear hx235_0
               try clear hx236_0
               try clear hx237_0
               try clear hx239_0
               try clear hx240_0
               try clear hx241_0
               try clear hx242_0
               try clear hx243_0
               try clear p2
               try clear p23
               try clear p235
               try clear p236
               try clear p237
               try clear p239
               try clear p24
               try clear p240
               try clear p241
               try clear p242
               try clear p243
               try clear p6
               try clear q2
               try clear q23
               try clear q235
               try clear q236
               try clear q237
               try clear q239
               try clear q24
               try clear q240
               try clear q241
               try clear q242
               try clear q243
               obtain ⟨kq, x95_38, rfl, HA, HJ38, HO_239001, HO_239002, HO_239003, BK233, BK238, HB⟩ := hcut
               cases kq with
               | zero => exact absurd HA.out (by simp [chandleryref08_Parse.j4])
               | succ kj38 =>
                have H := HA.out
                clear HA
                simp only [chandleryref08_Parse.j4] at H
                by_cases c41 : x95_38 = true
                ·subst c41
                 have H1 : ((chandleryref08_text.f l0 x6_4).bind fun bt247 => (if ((rd l0 0) == 1) = true then ((chandleryref08_text.f l0 bt247.2).bind fun bt249 => (if x239001_4.length < 4398046511104 then (chandleryref08_Parse.l1 kj38 l0 (wrap64 ((wrap64 (256 * (wrap64 (rd l0 1)))) + (wrap64 (rd l0 2)))) bt249.2 (wrap64 (x8_4 + 1)) ((rd l0 0) == 1) (x239001_4 ++ [(⟨bt247.1, bt249.1⟩ : S42)]) x239002_4 x239003_2) else (none))) else (if x239002_4.length < 8796093022208 then (chandleryref08_Parse.l1 kj38 l0 (wrap64 ((wrap64 (256 * (wrap64 (rd l0 1)))) + (wrap64 (rd l0 2)))) bt247.2 (wrap64 (x8_4 + 1)) ((rd l0 0) == 1) x239001_4 (x239002_4 ++ [bt247.1]) x239003_2) else (none)))) = some (r1, r2, r3, r4, r5) := by rw [if_pos rfl] at H; exact H
                 clear H
                 have H := H1
                 clear H1
                 replace H := Option.bind_eq_some_iff.mp H
                 obtain ⟨⟨t247, t248⟩, A420, H⟩ := H
                 replace H : (if ((rd l0 0) == 1) = true then ((chandleryref08_text.f l0 t248).bind fun bt249 => (if x239001_4.length < 4398046511104 then (chandleryref08_Parse.l1 kj38 l0 (wrap64 ((wrap64 (256 * (wrap64 (rd l0 1)))) + (wrap64 (rd l0 2)))) bt249.2 (wrap64 (x8_4 + 1)) ((rd l0 0) == 1) (x239001_4 ++ [(⟨t247, bt249.1⟩ : S42)]) x239002_4 x239003_2) else (none))) else (if x239002_4.length < 8796093022208 then (chandleryref08_Parse.l1 kj38 l0 (wrap64 ((wrap64 (256 * (wrap64 (rd l0 1)))) + (wrap64 (rd l0 2)))) t248 (wrap64 (x8_4 + 1)) ((rd l0 0) == 1) x239001_4 (x239002_4 ++ [t247]) x239003_2) else (none))) = some (r1, r2, r3, r4, r5) := H
                 have A42 := Aside0.mk A420
                 clear A420
                 by_cases c43 : ((rd l0 0) == 1) = true
                 ·rw [if_pos c43] at H
                  have c43b0 : ((rd l0 0) == 1) = true := c43
                  (try (have c43b1 : decide ((rd l0 0) = 1) = true := by simpa using c43))
                  (try (have c43b2 : ((rd l0 0) == 1) = true := by simpa using c43))
                  clear c43
                  replace H := Option.bind_eq_some_iff.mp H
                  obtain ⟨⟨t249, t250⟩, A440, H⟩ := H
                  replace H : (if x239001_4.length < 4398046511104 then (chandleryref08_Parse.l1 kj38 l0 (wrap64 ((wrap64 (256 * (wrap64 (rd l0 1)))) + (wrap64 (rd l0 2)))) t250 (wrap64 (x8_4 + 1)) ((rd l0 0) == 1) (x239001_4 ++ [(⟨t247, t249⟩ : S42)]) x239002_4 x239003_2) else (none)) = some (r1, r2, r3, r4, r5) := H
                  have A44 := Aside0.mk A440
                  clear A440
                  by_cases c45 : x239001_4.length < 4398046511104
                  ·rw [if_pos c45] at H
                   have LMc45 := Aside0.mk c45
                   clear c45
                   obtain ⟨y251, hy251⟩ : ∃ y_ : List (S42), y_ = (x239001_4 ++ [(⟨t247, t249⟩ : S42)]) := ⟨_, rfl⟩
                   replace H : (chandleryref08_Parse.l1 kj38 l0 (wrap64 ((wrap64 (256 * (wrap64 (rd l0 1)))) + (wrap64 (rd l0 2)))) t250 (wrap64 (x8_4 + 1)) ((rd l0 0) == 1) y251 x239002_4 x239003_2) = some (r1, r2, r3, r4, r5) := by first | (rw [hy251]; with_reducible exact H) | (have H2_ := (Option.bind_some _ _).symm.trans H; rw [hy251]; with_reducible exact H2_) | (have H2_ := (Option.bind_some _ _).symm.trans H; with_reducible exact H2_) | with_reducible exact H | (rw [hy251]; exact H) | exact H
                   have Ny251 := Aside0.mk hy251
                   clear hy251
                   have H' := Aside0.mk H
                   clear H
                   go_wp2_with (first | ((with_reducible refine gate_callee (f := 37) rfl ?_); refine goesL_ (some 101) rfl rfl Try.func37 (by kernel_rfl) rfl #[.slice (some ad237) l0.length c0, .int .i64 x6_4] rfl (by (try simp only [List.map_toArray, List.map_cons, List.map_nil]); first | done | rfl | (simp only [List.length_drop, List.length_take]; rfl)) ?_; (with_reducible refine (chandleryref08_text.calls _ _ l0 x6_4 t247 t248 _ ?side1 ?side2 A42.out).mono ?_); (case side1 => repeat (first | exact (Kd.C_below HR0.out HB.out) | (with_reducible refine Kd.C_alloc ?_ _) | (with_reducible refine Kd.C_drewN ?_ _) | (with_reducible refine Kd.C_drew ?_))); (case side2 => exact HC0.out); rintro e w' ⟨rfl, ⟨nd, rfl⟩⟩; refine ⟨_, rfl, ?_⟩; (try (rw [drewN_self wc]; generalize hq_ : World.drewN wc _ = wc; have n0_ : Aside0 (Kd.R k42 42 wc w.heap.size (fun _ => True) u239001 x239001_4) := ⟨by rw [← hq_]; exact (by (with_reducible repeat (first | apply Kd.R_alloc | apply Kd.R_drewN | apply Kd.R_drew)); exact HO_239001.out)⟩; have n1_ : Aside0 (Kd.R Kd.string 9 wc w.heap.size (fun _ => True) u239002 x239002_4) := ⟨by rw [← hq_]; exact (by (with_reducible repeat (first | apply Kd.R_alloc | apply Kd.R_drewN | apply Kd.R_drew)); exact HO_239002.out)⟩; have n2_ : Aside0 (Kd.R (Kd.int .i64) 3 wc w.heap.size (fun _ => True) u239003 x239003_2) := ⟨by rw [← hq_]; exact (by (with_reducible repeat (first | apply Kd.R_alloc | apply Kd.R_drewN | apply Kd.R_drew)); exact HO_239003.out)⟩; have n3_ : Aside0 (wc.heap[gb233]? = some (.cells #[.bool x234000_2, .slice none 0 0, .slice none 0 0, .slice none 0 0] 26 (0, 0))) := ⟨by rw [← hq_]; exact (by (with_reducible repeat (first | refine blk_drewN ?_ _ | refine blk_drew ?_ | refine blk_alloc ?_ _)); exact BK233.out)⟩; have n4_ : Aside0 (wc.heap[gb238]? = some (.cells #[.bool ((rd l0 0) == 1), u239001, u239002, u239003] 26 (0, 0))) := ⟨by rw [← hq_]; exact (by (with_reducible repeat (first | refine blk_drewN ?_ _ | refine blk_drew ?_ | refine blk_alloc ?_ _)); exact BK238.out)⟩; have n5_ : Aside0 (Below w.heap.size w wc) := ⟨by rw [← hq_]; exact (by repeat (first | (with_reducible first | exact HB.out | apply below_alloc | apply pw_below_drewN | apply below_drew1 | refine below_set ?_ GE233.out | refine below_set ?_ GE238.out) | exact HB.out))⟩; clear HO_239001 HO_239002 HO_239003 BK233 BK238 HB hq_; have HO_239001 := n0_; have HO_239002 := n1_; have HO_239003 := n2_; have BK233 := n3_; have BK238 := n4_; have HB := n5_; clear n0_ n1_ n2_ n3_ n4_ n5_)); have hnb46 := NB238_233.out; have hnc46 := NB233_238.out; have hcz47_0 : wc.cell? ⟨gb238, 0, none⟩ = some (.bool ((rd l0 0) == 1)) := (blk_cell BK238.out 0).trans rfl; have hcz47_1 : wc.cell? ⟨gb238, 1, none⟩ = some (u239001) := (blk_cell BK238.out 1).trans rfl; have hcz47_2 : wc.cell? ⟨gb238, 2, none⟩ = some (u239002) := (blk_cell BK238.out 2).trans rfl; have hcz47_3 : wc.cell? ⟨gb238, 3, none⟩ = some (u239003) := (blk_cell BK238.out 3).trans rfl; have hfz47_0 := blk_frozen BK238.out 0; have hfz47_1 := blk_frozen BK238.out 1; have hfz47_2 := blk_frozen BK238.out 2; have hfz47_3 := blk_frozen BK238.out 3) | ((with_reducible refine gate_callee (f := 37) rfl ?_); refine goesL_ (some 117) rfl rfl Try.func37 (by kernel_rfl) rfl #[.slice (some ad237) l0.length c0, .int .i64 t248] rfl (by (try simp only [List.map_toArray, List.map_cons, List.map_nil]); first | done | rfl | (simp only [List.length_drop, List.length_take]; rfl)) ?_; (with_reducible refine (chandleryref08_text.calls _ _ l0 t248 t249 t250 _ ?side1 ?side2 A44.out).mono ?_); (case side1 => repeat (first | exact (Kd.C_below HR0.out HB.out) | (with_reducible refine Kd.C_alloc ?_ _) | (with_reducible refine Kd.C_drewN ?_ _) | (with_reducible refine Kd.C_drew ?_))); (case side2 => exact HC0.out); rintro e w' ⟨rfl, ⟨nd, rfl⟩⟩; refine ⟨_, rfl, ?_⟩; (try (rw [drewN_self wc]; generalize hq_ : World.drewN wc _ = wc; have n0_ : Aside0 (Kd.R k42 42 wc w.heap.size (fun _ => True) u239001 x239001_4) := ⟨by rw [← hq_]; exact (by (with_reducible repeat (first | apply Kd.R_alloc | apply Kd.R_drewN | apply Kd.R_drew)); exact HO_239001.out)⟩; have n1_ : Aside0 (Kd.R Kd.string 9 wc w.heap.size (fun _ => True) u239002 x239002_4) := ⟨by rw [← hq_]; exact (by (with_reducible repeat (first | apply Kd.R_alloc | apply Kd.R_drewN | apply Kd.R_drew)); exact HO_239002.out)⟩; have n2_ : Aside0 (Kd.R (Kd.int .i64) 3 wc w.heap.size (fun _ => True) u239003 x239003_2) := ⟨by rw [← hq_]; exact (by (with_reducible repeat (first | apply Kd.R_alloc | apply Kd.R_drewN | apply Kd.R_drew)); exact HO_239003.out)⟩; have n3_ : Aside0 (wc.heap[gb233]? = some (.cells #[.bool x234000_2, .slice none 0 0, .slice none 0 0, .slice none 0 0] 26 (0, 0))) := ⟨by rw [← hq_]; exact (by (with_reducible repeat (first | refine blk_drewN ?_ _ | refine blk_drew ?_ | refine blk_alloc ?_ _)); exact BK233.out)⟩; have n4_ : Aside0 (wc.heap[gb238]? = some (.cells #[.bool ((rd l0 0) == 1), u239001, u239002, u239003] 26 (0, 0))) := ⟨by rw [← hq_]; exact (by (with_reducible repeat (first | refine blk_drewN ?_ _ | refine blk_drew ?_ | refine blk_alloc ?_ _)); exact BK238.out)⟩; have n5_ : Aside0 (Below w.heap.size w wc) := ⟨by rw [← hq_]; exact (by repeat (first | (with_reducible first | exact HB.out | apply below_alloc | apply pw_below_drewN | apply below_drew1 | refine below_set ?_ GE233.out | refine below_set ?_ GE238.out) | exact HB.out))⟩; clear HO_239001 HO_239002 HO_239003 BK233 BK238 HB hq_; have HO_239001 := n0_; have HO_239002 := n1_; have HO_239003 := n2_; have BK233 := n3_; have BK238 := n4_; have HB := n5_; clear n0_ n1_ n2_ n3_ n4_ n5_)); have hnb46 := NB238_233.out; have hnc46 := NB233_238.out; have hcz47_0 : wc.cell? ⟨gb238, 0, none⟩ = some (.bool ((rd l0 0) == 1)) := (blk_cell BK238.out 0).trans rfl; have hcz47_1 : wc.cell? ⟨gb238, 1, none⟩ = some (u239001) := (blk_cell BK238.out 1).trans rfl; have hcz47_2 : wc.cell? ⟨gb238, 2, none⟩ = some (u239002) := (blk_cell BK238.out 2).trans rfl; have hcz47_3 : wc.cell? ⟨gb238, 3, none⟩ = some (u239003) := (blk_cell BK238.out 3).trans rfl; have hfz47_0 := blk_frozen BK238.out 0; have hfz47_1 := blk_frozen BK238.out 1; have hfz47_2 := blk_frozen BK238.out 2; have hfz47_3 := blk_frozen BK238.out 3) | ((with_reducible refine gate_builtin (b := .append) (xs := #[.tmp 122, .tmp 126]) rfl ?_); (try (refine gate_guard (by rfl) ?_; dsimp only)); at_builtin; refine Kd.R_append k42 (w0 := w) w.heap.size rfl (.tmp 122) (.tmp 126) 22 42 (.agg #[(.string ⟨#[]⟩), (.string ⟨#[]⟩)]) 32 rfl Try.underlying22 info42 rfl (by decide) (by omega) u239001 x239001_4 (⟨t247, t249⟩ : S42) [.string t247, .string t249] (fun _ => True) (fun _ => False) rfl rfl ?aP (fun _ hk => hk.elim) ?aF ?aO ?aB ?aS ?aL ?_; (case aP => exact k42_mkM _ _ _ (⟨t247, t249⟩ : S42)); (case aB => exact (by repeat (first | (with_reducible first | exact HB.out | apply below_alloc | apply pw_below_drewN | apply below_drew1 | refine below_set ?_ GE233.out | refine below_set ?_ GE238.out) | exact HB.out))); (case aF => exact (fun _ _ => trivial)); (case aO => exact (by (with_reducible repeat (first | apply Kd.R_alloc | apply Kd.R_drewN | apply Kd.R_drew)); exact HO_239001.out)); (case aS => exact (below_size (by repeat (first | (with_reducible first | exact HB.out | apply below_alloc | apply pw_below_drewN | apply below_drew1 | refine below_set ?_ GE233.out | refine below_set ?_ GE238.out) | exact HB.out)))); (case aL => have := LMc45.out; omega); intro v252 w48 ho hb hg hat; rw [← Ny251.out] at ho; have n0_ := Aside0.mk (Kd.R_over' (by (with_reducible repeat (first | apply Kd.R_alloc | apply Kd.R_drewN | apply Kd.R_drew)); exact HO_239002.out) (Kd.R_typed (by (with_reducible repeat (first | apply Kd.R_alloc | apply Kd.R_drewN | apply Kd.R_drew)); exact HO_239001.out)) (by decide) hg); have n1_ := Aside0.mk (Kd.R_over' (by (with_reducible repeat (first | apply Kd.R_alloc | apply Kd.R_drewN | apply Kd.R_drew)); exact HO_239003.out) (Kd.R_typed (by (with_reducible repeat (first | apply Kd.R_alloc | apply Kd.R_drewN | apply Kd.R_drew)); exact HO_239001.out)) (by decide) hg); have n2_ := Aside0.mk (blk_grown (g := gb233) (o := .cells #[.bool x234000_2, .slice none 0 0, .slice none 0 0, .slice none 0 0] 26 (0, 0)) (by (with_reducible repeat (first | refine blk_drewN ?_ _ | refine blk_drew ?_ | refine blk_alloc ?_ _)); exact BK233.out) hg (Kd.R_ne HO_239001.out BK233.out (by decide))); have n3_ := Aside0.mk (blk_grown (g := gb238) (o := .cells #[.bool ((rd l0 0) == 1), u239001, u239002, u239003] 26 (0, 0)) (by (with_reducible repeat (first | refine blk_drewN ?_ _ | refine blk_drew ?_ | refine blk_alloc ?_ _)); exact BK238.out) hg (Kd.R_ne HO_239001.out BK238.out (by decide))); have n4_ := Aside0.mk (hb); have n5_ := Aside0.mk (ho); clear HO_239002; clear HO_239003; clear BK233; clear BK238; clear HB; clear HO_239001; have HO_239002 := n0_; have HO_239003 := n1_; have BK233 := n2_; have BK238 := n3_; have HB := n4_; have HO253 := n5_; clear n0_ n1_ n2_ n3_ n4_ n5_; clear ho hb hg hat; obtain ⟨Ao49, co49, eo49⟩ := Kd.R_slice HO253.out; subst eo49; have hcz50_0 : w48.cell? ⟨gb238, 0, none⟩ = some (.bool ((rd l0 0) == 1)) := (blk_cell BK238.out 0).trans rfl; have hcz50_1 : w48.cell? ⟨gb238, 1, none⟩ = some (u239001) := (blk_cell BK238.out 1).trans rfl; have hcz50_2 : w48.cell? ⟨gb238, 2, none⟩ = some (u239002) := (blk_cell BK238.out 2).trans rfl; have hcz50_3 : w48.cell? ⟨gb238, 3, none⟩ = some (u239003) := (blk_cell BK238.out 3).trans rfl; have hfz50_0 := blk_frozen BK238.out 0; have hfz50_1 := blk_frozen BK238.out 1; have hfz50_2 := blk_frozen BK238.out 2; have hfz50_3 := blk_frozen BK238.out 3))
                   go_roundg kj38
                   case measure => have := HJ1.out; have := HK2.out; have := HJ17.out; have := HK4.out; have := HJ38.out; omega
                   case rel => exact ⟨(t250), (wrap64 (x8_4 + 1)), (y251), (x239002_4), (.slice Ao49 y251.length co49), (u239002), (by first | rfl | (simp; done) | exact congrArg Value.bool (Go.Proofs.YtjhenmegcgnkgaaX.isEmpty_ne_ _) | exact congrArg Value.bool (Go.Proofs.YtjhenmegcgnkgaaX.ne_isEmpty_ _) | (simp [*]; done)), (by first | rfl | (simp; done) | exact congrArg Value.bool (Go.Proofs.YtjhenmegcgnkgaaX.isEmpty_ne_ _) | exact congrArg Value.bool (Go.Proofs.YtjhenmegcgnkgaaX.ne_isEmpty_ _) | (simp [*]; done)), H', ⟨by have := HJ1.out; have := HK2.out; have := HJ17.out; have := HK4.out; have := HJ38.out; omega⟩, ⟨by (with_reducible repeat (first | apply Kd.R_alloc | apply Kd.R_drewN | apply Kd.R_drew)); exact Kd.R_mono (Kd.R_far (p := ⟨gb238, 1, none⟩) (Kd.R_types HO253.out BK238.out (by decide)) (fun _ hk => hk.2) (.slice Ao49 y251.length co49)) (fun _ hk => trivial)⟩, ⟨by (with_reducible repeat (first | apply Kd.R_alloc | apply Kd.R_drewN | apply Kd.R_drew)); exact Kd.R_mono (Kd.R_far (p := ⟨gb238, 1, none⟩) (Kd.R_types HO_239002.out BK238.out (by decide)) (fun _ hk => hk.2) (.slice Ao49 y251.length co49)) (fun _ hk => trivial)⟩, ⟨by (with_reducible repeat (first | apply Kd.R_alloc | apply Kd.R_drewN | apply Kd.R_drew)); exact Kd.R_mono (Kd.R_far (p := ⟨gb238, 1, none⟩) (Kd.R_types HO_239003.out BK238.out (by decide)) (fun _ hk => hk.2) (.slice Ao49 y251.length co49)) (fun _ hk => trivial)⟩, ⟨by (with_reducible repeat (first | refine blk_drewN ?_ _ | refine blk_drew ?_ | refine blk_alloc ?_ _)); refine blk_far ?_ NB233_238.out _; (with_reducible repeat (first | refine blk_drewN ?_ _ | refine blk_drew ?_ | refine blk_alloc ?_ _)); exact BK233.out⟩, ⟨by (with_reducible repeat (first | refine blk_drewN ?_ _ | refine blk_drew ?_ | refine blk_alloc ?_ _)); refine blk_put (cs := #[.bool ((rd l0 0) == 1), u239001, u239002, u239003]) ?_ 1 _ rfl; (with_reducible repeat (first | refine blk_drewN ?_ _ | refine blk_drew ?_ | refine blk_alloc ?_ _)); exact BK238.out⟩, ⟨by repeat (first | (with_reducible first | exact HB.out | apply below_alloc | apply pw_below_drewN | apply below_drew1 | refine below_set ?_ GE233.out | refine below_set ?_ GE238.out) | exact HB.out)⟩⟩
                  ·rw [if_neg c45] at H
                   exact absurd H (by simp)
                 ·rw [if_neg c43] at H
                  have c43b0 : ((rd l0 0) == 1) = false := by simpa using c43
                  (try (have c43b1 : decide ((rd l0 0) = 1) = false := by simpa using c43))
                  (try (have c43b2 : ((rd l0 0) == 1) = false := by simpa using c43))
                  (try (have c43b3 : ¬ ((rd l0 0) = 1) := by simpa using c43))
                  clear c43
                  by_cases c51 : x239002_4.length < 8796093022208
                  ·rw [if_pos c51] at H
                   have LMc51 := Aside0.mk c51
                   clear c51
                   obtain ⟨y254, hy254⟩ : ∃ y_ : List ByteArray, y_ = (x239002_4 ++ [t247]) := ⟨_, rfl⟩
                   replace H : (chandleryref08_Parse.l1 kj38 l0 (wrap64 ((wrap64 (256 * (wrap64 (rd l0 1)))) + (wrap64 (rd l0 2)))) t248 (wrap64 (x8_4 + 1)) ((rd l0 0) == 1) x239001_4 y254 x239003_2) = some (r1, r2, r3, r4, r5) := by first | (rw [hy254]; with_reducible exact H) | (have H2_ := (Option.bind_some _ _).symm.trans H; rw [hy254]; with_reducible exact H2_) | (have H2_ := (Option.bind_some _ _).symm.trans H; with_reducible exact H2_) | with_reducible exact H | (rw [hy254]; exact H) | exact H
                   have Ny254 := Aside0.mk hy254
                   clear hy254
                   have H' := Aside0.mk H
                   clear H
                   go_wp2_with (first | ((with_reducible refine gate_callee (f := 37) rfl ?_); refine goesL_ (some 101) rfl rfl Try.func37 (by kernel_rfl) rfl #[.slice (some ad237) l0.length c0, .int .i64 x6_4] rfl (by (try simp only [List.map_toArray, List.map_cons, List.map_nil]); first | done | rfl | (simp only [List.length_drop, List.length_take]; rfl)) ?_; (with_reducible refine (chandleryref08_text.calls _ _ l0 x6_4 t247 t248 _ ?side1 ?side2 A42.out).mono ?_); (case side1 => repeat (first | exact (Kd.C_below HR0.out HB.out) | (with_reducible refine Kd.C_alloc ?_ _) | (with_reducible refine Kd.C_drewN ?_ _) | (with_reducible refine Kd.C_drew ?_))); (case side2 => exact HC0.out); rintro e w' ⟨rfl, ⟨nd, rfl⟩⟩; refine ⟨_, rfl, ?_⟩; (try (rw [drewN_self wc]; generalize hq_ : World.drewN wc _ = wc; have n0_ : Aside0 (Kd.R k42 42 wc w.heap.size (fun _ => True) u239001 x239001_4) := ⟨by rw [← hq_]; exact (by (with_reducible repeat (first | apply Kd.R_alloc | apply Kd.R_drewN | apply Kd.R_drew)); exact HO_239001.out)⟩; have n1_ : Aside0 (Kd.R Kd.string 9 wc w.heap.size (fun _ => True) u239002 x239002_4) := ⟨by rw [← hq_]; exact (by (with_reducible repeat (first | apply Kd.R_alloc | apply Kd.R_drewN | apply Kd.R_drew)); exact HO_239002.out)⟩; have n2_ : Aside0 (Kd.R (Kd.int .i64) 3 wc w.heap.size (fun _ => True) u239003 x239003_2) := ⟨by rw [← hq_]; exact (by (with_reducible repeat (first | apply Kd.R_alloc | apply Kd.R_drewN | apply Kd.R_drew)); exact HO_239003.out)⟩; have n3_ : Aside0 (wc.heap[gb233]? = some (.cells #[.bool x234000_2, .slice none 0 0, .slice none 0 0, .slice none 0 0] 26 (0, 0))) := ⟨by rw [← hq_]; exact (by (with_reducible repeat (first | refine blk_drewN ?_ _ | refine blk_drew ?_ | refine blk_alloc ?_ _)); exact BK233.out)⟩; have n4_ : Aside0 (wc.heap[gb238]? = some (.cells #[.bool ((rd l0 0) == 1), u239001, u239002, u239003] 26 (0, 0))) := ⟨by rw [← hq_]; exact (by (with_reducible repeat (first | refine blk_drewN ?_ _ | refine blk_drew ?_ | refine blk_alloc ?_ _)); exact BK238.out)⟩; have n5_ : Aside0 (Below w.heap.size w wc) := ⟨by rw [← hq_]; exact (by repeat (first | (with_reducible first | exact HB.out | apply below_alloc | apply pw_below_drewN | apply below_drew1 | refine below_set ?_ GE233.out | refine below_set ?_ GE238.out) | exact HB.out))⟩; clear HO_239001 HO_239002 HO_239003 BK233 BK238 HB hq_; have HO_239001 := n0_; have HO_239002 := n1_; have HO_239003 := n2_; have BK233 := n3_; have BK238 := n4_; have HB := n5_; clear n0_ n1_ n2_ n3_ n4_ n5_)); have hnb52 := NB238_233.out; have hnc52 := NB233_238.out; have hcz53_0 : wc.cell? ⟨gb238, 0, none⟩ = some (.bool ((rd l0 0) == 1)) := (blk_cell BK238.out 0).trans rfl; have hcz53_1 : wc.cell? ⟨gb238, 1, none⟩ = some (u239001) := (blk_cell BK238.out 1).trans rfl; have hcz53_2 : wc.cell? ⟨gb238, 2, none⟩ = some (u239002) := (blk_cell BK238.out 2).trans rfl; have hcz53_3 : wc.cell? ⟨gb238, 3, none⟩ = some (u239003) := (blk_cell BK238.out 3).trans rfl; have hfz53_0 := blk_frozen BK238.out 0; have hfz53_1 := blk_frozen BK238.out 1; have hfz53_2 := blk_frozen BK238.out 2; have hfz53_3 := blk_frozen BK238.out 3) | ((with_reducible refine gate_builtin (b := .append) (xs := #[.tmp 109, .tmp 111]) rfl ?_); (try (refine gate_guard (by rfl) ?_; dsimp only)); at_builtin; refine Kd.R_append Kd.string (w0 := w) w.heap.size rfl (.tmp 109) (.tmp 111) 23 9 (.string ⟨#[]⟩) 16 rfl Try.underlying23 info9 rfl (by decide) (by omega) u239002 x239002_4 t247 [.string t247] (fun _ => True) (fun _ => False) rfl rfl ?aP (fun _ hk => hk.elim) ?aF ?aO ?aB ?aS ?aL ?_; (case aP => exact rfl); (case aB => exact (by repeat (first | (with_reducible first | exact HB.out | apply below_alloc | apply pw_below_drewN | apply below_drew1 | refine below_set ?_ GE233.out | refine below_set ?_ GE238.out) | exact HB.out))); (case aF => exact (fun _ _ => trivial)); (case aO => exact (by (with_reducible repeat (first | apply Kd.R_alloc | apply Kd.R_drewN | apply Kd.R_drew)); exact HO_239002.out)); (case aS => exact (below_size (by repeat (first | (with_reducible first | exact HB.out | apply below_alloc | apply pw_below_drewN | apply below_drew1 | refine below_set ?_ GE233.out | refine below_set ?_ GE238.out) | exact HB.out)))); (case aL => have := LMc51.out; omega); intro v255 w54 ho hb hg hat; rw [← Ny254.out] at ho; have n0_ := Aside0.mk (Kd.R_over' (by (with_reducible repeat (first | apply Kd.R_alloc | apply Kd.R_drewN | apply Kd.R_drew)); exact HO_239001.out) (Kd.R_typed (by (with_reducible repeat (first | apply Kd.R_alloc | apply Kd.R_drewN | apply Kd.R_drew)); exact HO_239002.out)) (by decide) hg); have n1_ := Aside0.mk (Kd.R_over' (by (with_reducible repeat (first | apply Kd.R_alloc | apply Kd.R_drewN | apply Kd.R_drew)); exact HO_239003.out) (Kd.R_typed (by (with_reducible repeat (first | apply Kd.R_alloc | apply Kd.R_drewN | apply Kd.R_drew)); exact HO_239002.out)) (by decide) hg); have n2_ := Aside0.mk (blk_grown (g := gb233) (o := .cells #[.bool x234000_2, .slice none 0 0, .slice none 0 0, .slice none 0 0] 26 (0, 0)) (by (with_reducible repeat (first | refine blk_drewN ?_ _ | refine blk_drew ?_ | refine blk_alloc ?_ _)); exact BK233.out) hg (Kd.R_ne HO_239002.out BK233.out (by decide))); have n3_ := Aside0.mk (blk_grown (g := gb238) (o := .cells #[.bool ((rd l0 0) == 1), u239001, u239002, u239003] 26 (0, 0)) (by (with_reducible repeat (first | refine blk_drewN ?_ _ | refine blk_drew ?_ | refine blk_alloc ?_ _)); exact BK238.out) hg (Kd.R_ne HO_239002.out BK238.out (by decide))); have n4_ := Aside0.mk (hb); have n5_ := Aside0.mk (ho); clear HO_239001; clear HO_239003; clear BK233; clear BK238; clear HB; clear HO_239002; have HO_239001 := n0_; have HO_239003 := n1_; have BK233 := n2_; have BK238 := n3_; have HB := n4_; have HO256 := n5_; clear n0_ n1_ n2_ n3_ n4_ n5_; clear ho hb hg hat; obtain ⟨Ao55, co55, eo55⟩ := Kd.R_slice HO256.out; subst eo55; have hcz56_0 : w54.cell? ⟨gb238, 0, none⟩ = some (.bool ((rd l0 0) == 1)) := (blk_cell BK238.out 0).trans rfl; have hcz56_1 : w54.cell? ⟨gb238, 1, none⟩ = some (u239001) := (blk_cell BK238.out 1).trans rfl; have hcz56_2 : w54.cell? ⟨gb238, 2, none⟩ = some (u239002) := (blk_cell BK238.out 2).trans rfl; have hcz56_3 : w54.cell? ⟨gb238, 3, none⟩ = some (u239003) := (blk_cell BK238.out 3).trans rfl; have hfz56_0 := blk_frozen BK238.out 0; have hfz56_1 := blk_frozen BK238.out 1; have hfz56_2 := blk_frozen BK238.out 2; have hfz56_3 := blk_frozen BK238.out 3))
                   go_roundg kj38
                   case measure => have := HJ1.out; have := HK2.out; have := HJ17.out; have := HK4.out; have := HJ38.out; omega
                   case rel => exact ⟨(t248), (wrap64 (x8_4 + 1)), (x239001_4), (y254), (u239001), (.slice Ao55 y254.length co55), (by first | rfl | (simp; done) | exact congrArg Value.bool (Go.Proofs.YtjhenmegcgnkgaaX.isEmpty_ne_ _) | exact congrArg Value.bool (Go.Proofs.YtjhenmegcgnkgaaX.ne_isEmpty_ _) | (simp [*]; done)), (by first | rfl | (simp; done) | exact congrArg Value.bool (Go.Proofs.YtjhenmegcgnkgaaX.isEmpty_ne_ _) | exact congrArg Value.bool (Go.Proofs.YtjhenmegcgnkgaaX.ne_isEmpty_ _) | (simp [*]; done)), H', ⟨by have := HJ1.out; have := HK2.out; have := HJ17.out; have := HK4.out; have := HJ38.out; omega⟩, ⟨by (with_reducible repeat (first | apply Kd.R_alloc | apply Kd.R_drewN | apply Kd.R_drew)); exact Kd.R_mono (Kd.R_far (p := ⟨gb238, 2, none⟩) (Kd.R_types HO_239001.out BK238.out (by decide)) (fun _ hk => hk.2) (.slice Ao55 y254.length co55)) (fun _ hk => trivial)⟩, ⟨by (with_reducible repeat (first | apply Kd.R_alloc | apply Kd.R_drewN | apply Kd.R_drew)); exact Kd.R_mono (Kd.R_far (p := ⟨gb238, 2, none⟩) (Kd.R_types HO256.out BK238.out (by decide)) (fun _ hk => hk.2) (.slice Ao55 y254.length co55)) (fun _ hk => trivial)⟩, ⟨by (with_reducible repeat (first | apply Kd.R_alloc | apply Kd.R_drewN | apply Kd.R_drew)); exact Kd.R_mono (Kd.R_far (p := ⟨gb238, 2, none⟩) (Kd.R_types HO_239003.out BK238.out (by decide)) (fun _ hk => hk.2) (.slice Ao55 y254.length co55)) (fun _ hk => trivial)⟩, ⟨by (with_reducible repeat (first | refine blk_drewN ?_ _ | refine blk_drew ?_ | refine blk_alloc ?_ _)); refine blk_far ?_ NB233_238.out _; (with_reducible repeat (first | refine blk_drewN ?_ _ | refine blk_drew ?_ | refine blk_alloc ?_ _)); exact BK233.out⟩, ⟨by (with_reducible repeat (first | refine blk_drewN ?_ _ | refine blk_drew ?_ | refine blk_alloc ?_ _)); refine blk_put (cs := #[.bool ((rd l0 0) == 1), u239001, u239002, u239003]) ?_ 2 _ rfl; (with_reducible repeat (first | refine blk_drewN ?_ _ | refine blk_drew ?_ | refine blk_alloc ?_ _)); exact BK238.out⟩, ⟨by repeat (first | (with_reducible first | exact HB.out | apply below_alloc | apply pw_below_drewN | apply below_drew1 | refine below_set ?_ GE233.out | refine below_set ?_ GE238.out) | exact HB.out)⟩⟩
                  ·rw [if_neg c51] at H
                   exact absurd H (by simp)
                ·replace c41 := Bool.eq_false_iff.mpr c41
                 subst c41
                 have H1 : (if x6_4 < 0 then (some (false, ([] : List (S42)), ([] : List ByteArray), ([] : List Int), false)) else ((chandleryref08_Check.f kj38 ((rd l0 0) == 1) x239001_4 x239002_4 x239003_2 (l0.length : Int)).bind fun t257 => (if t257 = 0 then ((chandleryref08_Bytes.f kj38 ((rd l0 0) == 1) x239001_4 x239002_4 x239003_2 (l0.length : Int)).bind fun t258 => (if (strOfNums t258).toList = (strOfNums l0).toList then (some (((rd l0 0) == 1), x239001_4, x239002_4, x239003_2, true)) else (some (false, ([] : List (S42)), ([] : List ByteArray), ([] : List Int), false)))) else (some (false, ([] : List (S42)), ([] : List ByteArray), ([] : List Int), false))))) = some (r1, r2, r3, r4, r5) := by rw [if_neg (show ¬ (false = true) by decide)] at H; exact H
                 clear H
                 have H := H1
                 clear H1
                 by_cases c57 : x6_4 < 0
                 ·rw [if_pos c57] at H
                  have c57b0 : decide (x6_4 < 0) = true := decide_eq_true c57
                  clear c57
                  simp only [Option.some.injEq, Prod.mk.injEq] at H
                  obtain ⟨rfl, rfl, rfl, rfl, rfl⟩ := H
                  try go_wp2
                  have n0_ := Aside0.mk (Kd.R_drew HO_239001.out)
                  have n1_ := Aside0.mk (Kd.R_drew HO_239002.out)
                  have n2_ := Aside0.mk (Kd.R_drew HO_239003.out)
                  have n3_ := Aside0.mk (blk_drew BK233.out)
                  have n4_ := Aside0.mk (blk_drew BK238.out)
                  have n5_ := Aside0.mk (below_drew1 HB.out)
                  clear HO_239001
                  clear HO_239002
                  clear HO_239003
                  clear BK233
                  clear BK238
                  clear HB
                  have HO_239001 := n0_
                  have HO_239002 := n1_
                  have HO_239003 := n2_
                  have BK233 := n3_
                  have BK238 := n4_
                  have HB := n5_
                  clear n0_ n1_ n2_ n3_ n4_ n5_
                  refine start_ (n := 19) (S := fun w' => True) (ds := []) #[false, false, false, false, false, false, false, false, false, false, false, false, false, false, false, false, false, false, false] (by kernel_rfl) rfl rfl trivial (fun hHeld => ?_); refine with_tabW chandleryref08_Parse.tab23 chandleryref08_Parse.bits23 (fun HT_ HW_ => ?_)
                  generalize wc.drew = w58 at HO_239001 HO_239002 HO_239003 BK233 BK238 HB hHeld ⊢
                  refine pure_ (i := 0) (N := some 129) (v := ?_) (a' := ?_) #[true, false, false, false, false, false, false, false, false, false, false, false, false, false, false, false, false, false, false] rfl rfl (any_of HT_.out (by kernel_rfl)) (fun _ _ _ h => h) (Or.inl ⟨by rfl, ?_⟩) ?_ ?_
                  rotate_left
                  ·intro w'
                   go_simp
                   with_reducible rfl
                  rotate_left
                  ·simp only [Act.put, List.setIfInBounds_toArray, List.set_cons_zero, List.set_cons_succ, i64_w, i32_w]
                   rfl
                  refine pure_ (i := 1) (N := some 130) (v := ?_) (a' := ?_) #[true, true, false, false, false, false, false, false, false, false, false, false, false, false, false, false, false, false, false] rfl rfl (any_of HT_.out (by kernel_rfl)) (fun _ _ _ h => h) (Or.inl ⟨by rfl, ?_⟩) ?_ ?_
                  rotate_left
                  ·intro w'
                   go_simp
                   with_reducible rfl
                  rotate_left
                  ·simp only [Act.put, List.setIfInBounds_toArray, List.set_cons_zero, List.set_cons_succ, i64_w, i32_w]
                   rfl
                  refine pure_ (i := 2) (N := some 131) (v := ?_) (a' := ?_) #[true, true, true, false, false, false, false, false, false, false, false, false, false, false, false, false, false, false, false] rfl rfl (any_of HT_.out (by kernel_rfl)) (fun _ _ _ h => h) (Or.inl ⟨by rfl, ?_⟩) ?_ ?_
                  rotate_left
                  ·intro w'
                   go_simp
                   with_reducible rfl
                  rotate_left
                  ·simp only [Act.put, List.setIfInBounds_toArray, List.set_cons_zero, List.set_cons_succ, i64_w, i32_w]
                   rfl
                  refine pure_ (i := 3) (N := some 132) (v := undef) (a' := ?_) #[true, true, true, true, false, false, false, false, false, false, false, false, false, false, false, false, false, false, false] rfl rfl (any_of HT_.out (by kernel_rfl)) (fun _ _ _ h => h) (Or.inr ⟨by rfl, rfl⟩) ?_ ?_
                  rotate_left
                  ·simp only [Act.put, List.setIfInBounds_toArray, List.set_cons_zero, List.set_cons_succ, i64_w, i32_w]
                   rfl
                  refine pure_ (i := 4) (N := some 133) (v := undef) (a' := ?_) #[true, true, true, true, true, false, false, false, false, false, false, false, false, false, false, false, false, false, false] rfl rfl (any_of HT_.out (by kernel_rfl)) (fun _ _ _ h => h) (Or.inr ⟨by rfl, rfl⟩) ?_ ?_
                  rotate_left
                  ·simp only [Act.put, List.setIfInBounds_toArray, List.set_cons_zero, List.set_cons_succ, i64_w, i32_w]
                   rfl
                  refine pure_ (i := 5) (N := some 134) (v := undef) (a' := ?_) #[true, true, true, true, true, true, false, false, false, false, false, false, false, false, false, false, false, false, false] rfl rfl (any_of HT_.out (by kernel_rfl)) (fun _ _ _ h => h) (Or.inr ⟨by rfl, rfl⟩) ?_ ?_
                  rotate_left
                  ·simp only [Act.put, List.setIfInBounds_toArray, List.set_cons_zero, List.set_cons_succ, i64_w, i32_w]
                   rfl
                  refine pure_ (i := 6) (N := some 135) (v := undef) (a' := ?_) #[true, true, true, true, true, true, true, false, false, false, false, false, false, false, false, false, false, false, false] rfl rfl (any_of HT_.out (by kernel_rfl)) (fun _ _ _ h => h) (Or.inr ⟨by rfl, rfl⟩) ?_ ?_
                  rotate_left
                  ·simp only [Act.put, List.setIfInBounds_toArray, List.set_cons_zero, List.set_cons_succ, i64_w, i32_w]
                   rfl
                  refine pure_ (i := 7) (N := some 136) (v := undef) (a' := ?_) #[true, true, true, true, true, true, true, true, false, false, false, false, false, false, false, false, false, false, false] rfl rfl (any_of HT_.out (by kernel_rfl)) (fun _ _ _ h => h) (Or.inr ⟨by rfl, rfl⟩) ?_ ?_
                  rotate_left
                  ·simp only [Act.put, List.setIfInBounds_toArray, List.set_cons_zero, List.set_cons_succ, i64_w, i32_w]
                   rfl
                  refine pure_ (i := 8) (N := some 137) (v := ?_) (a' := ?_) #[true, true, true, true, true, true, true, true, true, false, false, false, false, false, false, false, false, false, false] rfl rfl (any_of HT_.out (by kernel_rfl)) (fun _ _ _ h => h) (Or.inl ⟨by rfl, ?_⟩) ?_ ?_
                  rotate_left
                  ·intro w'
                   go_simp
                   with_reducible rfl
                  rotate_left
                  ·simp only [Act.put, List.setIfInBounds_toArray, List.set_cons_zero, List.set_cons_succ, i64_w, i32_w]
                   rfl
                  refine pure_ (i := 9) (N := some 138) (v := ?_) (a' := ?_) #[true, true, true, true, true, true, true, true, true, true, false, false, false, false, false, false, false, false, false] rfl rfl (any_of HT_.out (by kernel_rfl)) (fun _ _ _ h => h) (Or.inl ⟨by rfl, ?_⟩) ?_ ?_
                  rotate_left
                  ·intro w'
                   go_simp
                   with_reducible rfl
                  rotate_left
                  ·simp only [Act.put, List.setIfInBounds_toArray, List.set_cons_zero, List.set_cons_succ, i64_w, i32_w]
                   rfl
                  refine pure_ (i := 10) (N := some 139) (v := undef) (a' := ?_) #[true, true, true, true, true, true, true, true, true, true, true, false, false, false, false, false, false, false, false] rfl rfl (any_of HT_.out (by kernel_rfl)) (fun _ _ _ h => h) (Or.inr ⟨by rfl, rfl⟩) ?_ ?_
                  rotate_left
                  ·simp only [Act.put, List.setIfInBounds_toArray, List.set_cons_zero, List.set_cons_succ, i64_w, i32_w]
                   rfl
                  refine pure_ (i := 11) (N := some 140) (v := undef) (a' := ?_) #[true, true, true, true, true, true, true, true, true, true, true, true, false, false, false, false, false, false, false] rfl rfl (any_of HT_.out (by kernel_rfl)) (fun _ _ _ h => h) (Or.inr ⟨by rfl, rfl⟩) ?_ ?_
                  rotate_left
                  ·simp only [Act.put, List.setIfInBounds_toArray, List.set_cons_zero, List.set_cons_succ, i64_w, i32_w]
                   rfl
                  refine pure_ (i := 12) (N := some 141) (v := undef) (a' := ?_) #[true, true, true, true, true, true, true, true, true, true, true, true, true, false, false, false, false, false, false] rfl rfl (any_of HT_.out (by kernel_rfl)) (fun _ _ _ h => h) (Or.inr ⟨by rfl, rfl⟩) ?_ ?_
                  rotate_left
                  ·simp only [Act.put, List.setIfInBounds_toArray, List.set_cons_zero, List.set_cons_succ, i64_w, i32_w]
                   rfl
                  refine pure_ (i := 13) (N := some 142) (v := undef) (a' := ?_) #[true, true, true, true, true, true, true, true, true, true, true, true, true, true, false, false, false, false, false] rfl rfl (any_of HT_.out (by kernel_rfl)) (fun _ _ _ h => h) (Or.inr ⟨by rfl, rfl⟩) ?_ ?_
                  rotate_left
                  ·simp only [Act.put, List.setIfInBounds_toArray, List.set_cons_zero, List.set_cons_succ, i64_w, i32_w]
                   rfl
                  refine pure_ (i := 14) (N := some 143) (v := undef) (a' := ?_) #[true, true, true, true, true, true, true, true, true, true, true, true, true, true, true, false, false, false, false] rfl rfl (any_of HT_.out (by kernel_rfl)) (fun _ _ _ h => h) (Or.inr ⟨by rfl, rfl⟩) ?_ ?_
                  rotate_left
                  ·simp only [Act.put, List.setIfInBounds_toArray, List.set_cons_zero, List.set_cons_succ, i64_w, i32_w]
                   rfl
                  refine pure_ (i := 15) (N := some 144) (v := undef) (a' := ?_) #[true, true, true, true, true, true, true, true, true, true, true, true, true, true, true, true, false, false, false] rfl rfl (any_of HT_.out (by kernel_rfl)) (fun _ _ _ h => h) (Or.inr ⟨by rfl, rfl⟩) ?_ ?_
                  rotate_left
                  ·simp only [Act.put, List.setIfInBounds_toArray, List.set_cons_zero, List.set_cons_succ, i64_w, i32_w]
                   rfl
                  refine pure_ (i := 16) (N := some 145) (v := undef) (a' := ?_) #[true, true, true, true, true, true, true, true, true, true, true, true, true, true, true, true, true, false, false] rfl rfl (any_of HT_.out (by kernel_rfl)) (fun _ _ _ h => h) (Or.inr ⟨by rfl, rfl⟩) ?_ ?_
                  rotate_left
                  ·simp only [Act.put, List.setIfInBounds_toArray, List.set_cons_zero, List.set_cons_succ, i64_w, i32_w]
                   rfl
                  refine pure_ (i := 17) (N := some 146) (v := undef) (a' := ?_) #[true, true, true, true, true, true, true, true, true, true, true, true, true, true, true, true, true, true, false] rfl rfl (any_of HT_.out (by kernel_rfl)) (fun _ _ _ h => h) (Or.inr ⟨by rfl, rfl⟩) ?_ ?_
                  rotate_left
                  ·simp only [Act.put, List.setIfInBounds_toArray, List.set_cons_zero, List.set_cons_succ, i64_w, i32_w]
                   rfl
                  refine pure_ (i := 18) (N := some 147) (v := ?_) (a' := ?_) #[true, true, true, true, true, true, true, true, true, true, true, true, true, true, true, true, true, true, true] rfl rfl (any_of HT_.out (by kernel_rfl)) (fun _ _ _ h => h) (Or.inl ⟨by rfl, ?_⟩) ?_ ?_
                  rotate_left
                  ·intro w'
                   go_simp
                   with_reducible rfl
                  rotate_left
                  ·simp only [Act.put, List.setIfInBounds_toArray, List.set_cons_zero, List.set_cons_succ, i64_w, i32_w]
                   rfl
                  refine done_ (done_of HT_.out (by kernel_rfl)) ?_
                  have hnb59 := NB233_238.out
                  have hnc59 := NB238_233.out
                  have hcz60_0 : w58.cell? ⟨gb233, 0, none⟩ = some (.bool x234000_2) := (blk_cell BK233.out 0).trans rfl
                  have hcz60_1 : w58.cell? ⟨gb233, 1, none⟩ = some (.slice none 0 0) := (blk_cell BK233.out 1).trans rfl
                  have hcz60_2 : w58.cell? ⟨gb233, 2, none⟩ = some (.slice none 0 0) := (blk_cell BK233.out 2).trans rfl
                  have hcz60_3 : w58.cell? ⟨gb233, 3, none⟩ = some (.slice none 0 0) := (blk_cell BK233.out 3).trans rfl
                  have hfz60_0 := blk_frozen BK233.out 0
                  have hfz60_1 := blk_frozen BK233.out 1
                  have hfz60_2 := blk_frozen BK233.out 2
                  have hfz60_3 := blk_frozen BK233.out 3
                  try go_wp2
                  refine bodyPost_ret (results_ct rfl _ _ gb233 26 #[.bool false, .slice none 0 0, .slice none 0 0, .slice none 0 0] (0, 0) _ rfl (by (with_reducible repeat (first | refine blk_drewN ?_ _ | refine blk_drew ?_ | refine blk_alloc ?_ _)); refine blk_put (cs := #[.bool false, .slice none 0 0, .slice none 0 0, .slice none 0 0]) ?_ 3 _ rfl; (with_reducible repeat (first | refine blk_drewN ?_ _ | refine blk_drew ?_ | refine blk_alloc ?_ _)); refine blk_put (cs := #[.bool false, .slice none 0 0, .slice none 0 0, .slice none 0 0]) ?_ 2 _ rfl; (with_reducible repeat (first | refine blk_drewN ?_ _ | refine blk_drew ?_ | refine blk_alloc ?_ _)); refine blk_put (cs := #[.bool false, .slice none 0 0, .slice none 0 0, .slice none 0 0]) ?_ 1 _ rfl; (with_reducible repeat (first | refine blk_drewN ?_ _ | refine blk_drew ?_ | refine blk_alloc ?_ _)); refine blk_put (cs := #[.bool x234000_2, .slice none 0 0, .slice none 0 0, .slice none 0 0]) ?_ 0 _ rfl; (with_reducible repeat (first | refine blk_drewN ?_ _ | refine blk_drew ?_ | refine blk_alloc ?_ _)); exact BK233.out) Try.underlying26 rfl (by kernel_rfl)) rfl ?_
                  exact ⟨_, _, _, by first | rfl | (simp [errW_none, errW_some] <;> rfl) | (simp [*, errW_none, errW_some] <;> rfl), by first | exact Kd.R_nil _ _ _ _ _ | exact Kd.N_nil _ _ _ _ _ | exact Kd.V_nil _ _ _ _ _ | exact Kd.Q_nil _ _ _ _ _ | exact Kd.S_nil _ _ _ _ _, by first | exact Kd.R_nil _ _ _ _ _ | exact Kd.N_nil _ _ _ _ _ | exact Kd.V_nil _ _ _ _ _ | exact Kd.Q_nil _ _ _ _ _ | exact Kd.S_nil _ _ _ _ _, by first | exact Kd.R_nil _ _ _ _ _ | exact Kd.N_nil _ _ _ _ _ | exact Kd.V_nil _ _ _ _ _ | exact Kd.Q_nil _ _ _ _ _ | exact Kd.S_nil _ _ _ _ _, by repeat (first | (with_reducible first | exact HB.out | apply below_alloc | apply pw_below_drewN | apply below_drew1 | refine below_set ?_ GE233.out | refine below_set ?_ GE238.out) | exact HB.out)⟩
                 ·rw [if_neg c57] at H
                  have c57b0 : decide (x6_4 < 0) = false := decide_eq_false c57
                  clear c57
                  replace H := Option.bind_eq_some_iff.mp H
                  obtain ⟨t257, A610, H⟩ := H
                  replace H : (if t257 = 0 then ((chandleryref08_Bytes.f kj38 ((rd l0 0) == 1) x239001_4 x239002_4 x239003_2 (l0.length : Int)).bind fun t258 => (if (strOfNums t258).toList = (strOfNums l0).toList then (some (((rd l0 0) == 1), x239001_4, x239002_4, x239003_2, true)) else (some (false, ([] : List (S42)), ([] : List ByteArray), ([] : List Int), false)))) else (some (false, ([] : List (S42)), ([] : List ByteArray), ([] : List Int), false))) = some (r1, r2, r3, r4, r5) := H
                  have A61 := Aside0.mk A610
                  clear A610
                  by_cases c62 : t257 = 0
                  ·rw [if_pos c62] at H
                   have c62b0 : (t257 == 0) = true := beq_iff_eq.mpr c62
                   have c62b1 : (t257 != 0) = false := bne_eq_false_iff_eq.mpr c62
                   clear c62
                   replace H := Option.bind_eq_some_iff.mp H
                   obtain ⟨t258, A630, H⟩ := H
                   replace H : (if (strOfNums t258).toList = (strOfNums l0).toList then (some (((rd l0 0) == 1), x239001_4, x239002_4, x239003_2, true)) else (some (false, ([] : List (S42)), ([] : List ByteArray), ([] : List Int), false))) = some (r1, r2, r3, r4, r5) := H
                   have A63 := Aside0.mk A630
                   clear A630
                   by_cases c64 : (strOfNums t258).toList = (strOfNums l0).toList
                   ·rw [if_pos c64] at H
                    have c64b0 : ((strOfNums t258).toList == (strOfNums l0).toList) = true := beq_iff_eq.mpr c64
                    have c64b1 : ((strOfNums t258).toList != (strOfNums l0).toList) = false := bne_eq_false_iff_eq.mpr c64
                    clear c64
                    simp only [Option.some.injEq, Prod.mk.injEq] at H
                    obtain ⟨rfl, rfl, rfl, rfl, rfl⟩ := H
                    obtain ⟨Ao65, co65, eo65⟩ := Kd.R_slice HO_239001.out
                    subst eo65
                    obtain ⟨Ao66, co66, eo66⟩ := Kd.R_slice HO_239002.out
                    subst eo66
                    obtain ⟨Ao67, co67, eo67⟩ := Kd.R_slice HO_239003.out
                    subst eo67
                    try go_wp2
                    have n0_ := Aside0.mk (Kd.R_drew HO_239001.out)
                    have n1_ := Aside0.mk (Kd.R_drew HO_239002.out)
                    have n2_ := Aside0.mk (Kd.R_drew HO_239003.out)
                    have n3_ := Aside0.mk (blk_drew BK233.out)
                    have n4_ := Aside0.mk (blk_drew BK238.out)
                    have n5_ := Aside0.mk (below_drew1 HB.out)
                    clear HO_239001
                    clear HO_239002
                    clear HO_239003
                    clear BK233
                    clear BK238
                    clear HB
                    have HO_239001 := n0_
                    have HO_239002 := n1_
                    have HO_239003 := n2_
                    have BK233 := n3_
                    have BK238 := n4_
                    have HB := n5_
                    clear n0_ n1_ n2_ n3_ n4_ n5_
                    refine start_ (n := 19) (S := fun w' => w'.cell? ⟨gb238, 0, none⟩ = some (.bool ((rd l0 0) == 1)) ∧ w'.cell? ⟨gb238, 1, none⟩ = some (.slice Ao65 x239001_4.length co65) ∧ w'.cell? ⟨gb238, 2, none⟩ = some (.slice Ao66 x239002_4.length co66) ∧ w'.cell? ⟨gb238, 3, none⟩ = some (.slice Ao67 x239003_2.length co67) ∧ (convert 30 9 (.slice (some ad237) l0.length c0)).run Try.prog w' = .ok (.string (strOfNums l0)) w') (ds := []) #[false, false, false, false, false, false, false, false, false, false, false, false, false, false, false, false, false, false, false] (by kernel_rfl) rfl rfl ⟨(blk_cell BK238.out 0).trans rfl, (blk_cell BK238.out 1).trans rfl, (blk_cell BK238.out 2).trans rfl, (blk_cell BK238.out 3).trans rfl, Kd.C_string (P := Try.prog) (A := (some ad237)) (c := c0) Try.underlying30 Try.underlying5 Try.underlying9 (Kd.C_below HR0.out HB.out)⟩ (fun hHeld => ?_); refine with_tabW chandleryref08_Parse.tab23 chandleryref08_Parse.bits23 (fun HT_ HW_ => ?_)
                    generalize wc.drew = w68 at HO_239001 HO_239002 HO_239003 BK233 BK238 HB hHeld ⊢
                    refine pure_ (i := 0) (N := some 129) (v := ?_) (a' := ?_) #[true, false, false, false, false, false, false, false, false, false, false, false, false, false, false, false, false, false, false] rfl rfl (any_of HT_.out (by kernel_rfl)) (fun _ _ _ h => h) (Or.inl ⟨by rfl, ?_⟩) ?_ ?_
                    rotate_left
                    ·intro w'
                     go_simp
                     with_reducible rfl
                    rotate_left
                    ·simp only [Act.put, List.setIfInBounds_toArray, List.set_cons_zero, List.set_cons_succ, i64_w, i32_w]
                     rfl
                    refine pure_ (i := 1) (N := some 130) (v := ?_) (a' := ?_) #[true, true, false, false, false, false, false, false, false, false, false, false, false, false, false, false, false, false, false] rfl rfl (any_of HT_.out (by kernel_rfl)) (fun _ _ _ h => h) (Or.inl ⟨by rfl, ?_⟩) ?_ ?_
                    rotate_left
                    ·intro w'
                     go_simp
                     with_reducible rfl
                    rotate_left
                    ·simp only [Act.put, List.setIfInBounds_toArray, List.set_cons_zero, List.set_cons_succ, i64_w, i32_w]
                     rfl
                    refine pure_ (i := 2) (N := some 131) (v := ?_) (a' := ?_) #[true, true, true, false, false, false, false, false, false, false, false, false, false, false, false, false, false, false, false] rfl rfl (any_of HT_.out (by kernel_rfl)) (fun _ _ _ h => h) (Or.inl ⟨by rfl, ?_⟩) ?_ ?_
                    rotate_left
                    ·intro w'
                     go_simp
                     with_reducible rfl
                    rotate_left
                    ·simp only [Act.put, List.setIfInBounds_toArray, List.set_cons_zero, List.set_cons_succ, i64_w, i32_w]
                     rfl
                    refine pure_ (i := 4) (N := some 133) (v := ?_) (a' := ?_) #[true, true, true, false, true, false, false, false, false, false, false, false, false, false, false, false, false, false, false] rfl rfl (any_of HT_.out (by kernel_rfl)) (fun _ _ _ h => h) (Or.inl ⟨by rfl, ?_⟩) ?_ ?_
                    rotate_left
                    ·intro w'
                     go_simp
                     with_reducible rfl
                    rotate_left
                    ·simp only [Act.put, List.setIfInBounds_toArray, List.set_cons_zero, List.set_cons_succ, i64_w, i32_w]
                     rfl
                    refine pure_ (i := 5) (N := some 134) (v := ?_) (a' := ?_) #[true, true, true, false, true, true, false, false, false, false, false, false, false, false, false, false, false, false, false] rfl rfl (any_of HT_.out (by kernel_rfl)) (fun _ _ _ h => h) (Or.inl ⟨by rfl, ?_⟩) ?_ ?_
                    rotate_left
                    ·intro w'
                     go_simp
                     with_reducible rfl
                    rotate_left
                    ·simp only [Act.put, List.setIfInBounds_toArray, List.set_cons_zero, List.set_cons_succ, i64_w, i32_w]
                     rfl
                    refine take_ (i := 3) (N := some 132) (v := ?_) (a' := ?_) #[true, true, true, true, true, true, false, false, false, false, false, false, false, false, false, false, false, false, false] rfl rfl (take_ofW HT_.out HW_.out (by kernel_rfl)) (fun _ _ _ h => h) (Or.inl ⟨by rfl, ?_⟩) hHeld ?_ ?_
                    rotate_left
                    ·rintro w' ⟨s0, s1, s2, s3, s4⟩
                     go_simp
                     with_reducible rfl
                    rotate_left
                    ·simp only [Act.put, List.setIfInBounds_toArray, List.set_cons_zero, List.set_cons_succ, i64_w, i32_w]
                     rfl
                    refine one_ (i := 6) (N := some 135) #[true, true, true, true, true, true, true, false, false, false, false, false, false, false, false, false, false, false, false] rfl rfl (one_of HT_.out (by kernel_rfl)) (by decide) (fun K hK => ?_)
                    refine goes_ Try.func9 (by kernel_rfl) rfl #[.agg #[.bool ((rd l0 0) == 1), .slice Ao65 x239001_4.length co65, .slice Ao66 x239002_4.length co66, .slice Ao67 x239003_2.length co67], .int .i64 (l0.length : Int)] (by rfl) rfl rfl (by (try simp only [List.map_toArray, List.map_cons, List.map_nil]); first | done | rfl | (simp only [List.length_drop, List.length_take]; rfl)) ?_
                    with_reducible refine (chandleryref08_Check.calls kj38 ((rd l0 0) == 1) _ _ x239001_4 _ _ x239002_4 _ _ x239003_2 (l0.length : Int) t257 _ ?side1 ?side2 ?side3 ?side4 ?side5 ?side6 A61.out).mono ?_
                    (case side1 => repeat (first | exact (Kd.R_reads' HO_239001.out).2.2 | (with_reducible refine Kd.C_alloc ?_ _) | (with_reducible refine Kd.C_drewN ?_ _) | (with_reducible refine Kd.C_drew ?_)))
                    (case side2 => exact (Kd.R_reads' HO_239001.out).2.1)
                    (case side3 => repeat (first | exact (Kd.R_reads' HO_239002.out).2.2 | (with_reducible refine Kd.C_alloc ?_ _) | (with_reducible refine Kd.C_drewN ?_ _) | (with_reducible refine Kd.C_drew ?_)))
                    (case side4 => exact (Kd.R_reads' HO_239002.out).2.1)
                    (case side5 => repeat (first | exact (Kd.R_reads' HO_239003.out).2.2 | (with_reducible refine Kd.C_alloc ?_ _) | (with_reducible refine Kd.C_drewN ?_ _) | (with_reducible refine Kd.C_drew ?_)))
                    (case side6 => exact (Kd.R_reads' HO_239003.out).2.1)
                    rintro e w69 ⟨rfl, hb⟩
                    refine ⟨_, rfl, ?_⟩
                    have n0_ := Aside0.mk (Kd.R_below (by (with_reducible repeat (first | apply Kd.R_alloc | apply Kd.R_drewN | apply Kd.R_drew)); exact HO_239001.out) hb)
                    have n1_ := Aside0.mk (Kd.R_below (by (with_reducible repeat (first | apply Kd.R_alloc | apply Kd.R_drewN | apply Kd.R_drew)); exact HO_239002.out) hb)
                    have n2_ := Aside0.mk (Kd.R_below (by (with_reducible repeat (first | apply Kd.R_alloc | apply Kd.R_drewN | apply Kd.R_drew)); exact HO_239003.out) hb)
                    have n3_ := Aside0.mk (blk_below (g := gb233) (o := .cells #[.bool x234000_2, .slice none 0 0, .slice none 0 0, .slice none 0 0] 26 (0, 0)) (by (with_reducible repeat (first | refine blk_drewN ?_ _ | refine blk_drew ?_ | refine blk_alloc ?_ _)); exact BK233.out) hb)
                    have n4_ := Aside0.mk (blk_below (g := gb238) (o := .cells #[.bool ((rd l0 0) == 1), .slice Ao65 x239001_4.length co65, .slice Ao66 x239002_4.length co66, .slice Ao67 x239003_2.length co67] 26 (0, 0)) (by (with_reducible repeat (first | refine blk_drewN ?_ _ | refine blk_drew ?_ | refine blk_alloc ?_ _)); exact BK238.out) hb)
                    have n5_ := Aside0.mk (below_step (by repeat (first | (with_reducible first | exact HB.out | apply below_alloc | apply pw_below_drewN | apply below_drew1 | refine below_set ?_ GE233.out | refine below_set ?_ GE238.out) | exact HB.out)) hb)
                    clear HO_239001
                    clear HO_239002
                    clear HO_239003
                    clear BK233
                    clear BK238
                    clear HB
                    have HO_239001 := n0_
                    have HO_239002 := n1_
                    have HO_239003 := n2_
                    have BK233 := n3_
                    have BK238 := n4_
                    have HB := n5_
                    clear n0_ n1_ n2_ n3_ n4_ n5_
                    (try clear hb)
                    (try clear hb2)
                    (try clear hk)
                    (try clear hi)
                    refine hK.out _ _ ⟨(blk_cell BK238.out 0).trans rfl, (blk_cell BK238.out 1).trans rfl, (blk_cell BK238.out 2).trans rfl, (blk_cell BK238.out 3).trans rfl, Kd.C_string (P := Try.prog) (A := (some ad237)) (c := c0) Try.underlying30 Try.underlying5 Try.underlying9 (Kd.C_below HR0.out HB.out)⟩ (fun hHeld => ?_)
                    clear hK K
                    refine norm_ (a' := ?_) ?_ ?_
                    rotate_left
                    ·show Act.put _ (some 135) _ = _
                     simp only [Act.put, List.setIfInBounds_toArray, List.set_cons_zero, List.set_cons_succ, i64_w, i32_w]
                     rfl
                    refine pure_ (i := 7) (N := some 136) (v := ?_) (a' := ?_) #[true, true, true, true, true, true, true, true, false, false, false, false, false, false, false, false, false, false, false] rfl rfl (any_of HT_.out (by kernel_rfl)) (fun _ _ _ h => h) (Or.inl ⟨by rfl, ?_⟩) ?_ ?_
                    rotate_left
                    ·intro w'
                     go_simp
                     with_reducible rfl
                    rotate_left
                    ·simp only [Act.put, List.setIfInBounds_toArray, List.set_cons_zero, List.set_cons_succ, i64_w, i32_w]
                     rfl
                    refine pure_ (i := 8) (N := some 137) (v := ?_) (a' := ?_) #[true, true, true, true, true, true, true, true, true, false, false, false, false, false, false, false, false, false, false] rfl rfl (any_of HT_.out (by kernel_rfl)) (fun _ _ _ h => h) (Or.inl ⟨by rfl, ?_⟩) ?_ ?_
                    rotate_left
                    ·intro w'
                     go_simp
                     with_reducible rfl
                    rotate_left
                    ·simp only [Act.put, List.setIfInBounds_toArray, List.set_cons_zero, List.set_cons_succ, i64_w, i32_w]
                     rfl
                    refine pure_ (i := 9) (N := some 138) (v := ?_) (a' := ?_) #[true, true, true, true, true, true, true, true, true, true, false, false, false, false, false, false, false, false, false] rfl rfl (any_of HT_.out (by kernel_rfl)) (fun _ _ _ h => h) (Or.inl ⟨by rfl, ?_⟩) ?_ ?_
                    rotate_left
                    ·intro w'
                     go_simp
                     with_reducible rfl
                    rotate_left
                    ·simp only [Act.put, List.setIfInBounds_toArray, List.set_cons_zero, List.set_cons_succ, i64_w, i32_w]
                     rfl
                    refine pure_ (i := 11) (N := some 140) (v := ?_) (a' := ?_) #[true, true, true, true, true, true, true, true, true, true, false, true, false, false, false, false, false, false, false] rfl rfl (any_of HT_.out (by kernel_rfl)) (fun _ _ _ h => h) (Or.inl ⟨by rfl, ?_⟩) ?_ ?_
                    rotate_left
                    ·intro w'
                     go_simp
                     with_reducible rfl
                    rotate_left
                    ·simp only [Act.put, List.setIfInBounds_toArray, List.set_cons_zero, List.set_cons_succ, i64_w, i32_w]
                     rfl
                    refine pure_ (i := 12) (N := some 141) (v := ?_) (a' := ?_) #[true, true, true, true, true, true, true, true, true, true, false, true, true, false, false, false, false, false, false] rfl rfl (any_of HT_.out (by kernel_rfl)) (fun _ _ _ h => h) (Or.inl ⟨by rfl, ?_⟩) ?_ ?_
                    rotate_left
                    ·intro w'
                     go_simp
                     with_reducible rfl
                    rotate_left
                    ·simp only [Act.put, List.setIfInBounds_toArray, List.set_cons_zero, List.set_cons_succ, i64_w, i32_w]
                     rfl
                    refine pure_ (i := 15) (N := some 144) (v := ?_) (a' := ?_) #[true, true, true, true, true, true, true, true, true, true, false, true, true, false, false, true, false, false, false] rfl rfl (any_of HT_.out (by kernel_rfl)) (fun _ _ _ h => h) (Or.inl ⟨by rfl, ?_⟩) ?_ ?_
                    rotate_left
                    ·intro w'
                     go_simp
                     with_reducible rfl
                    rotate_left
                    ·simp only [Act.put, List.setIfInBounds_toArray, List.set_cons_zero, List.set_cons_succ, i64_w, i32_w]
                     rfl
                    refine take_ (i := 16) (N := some 145) (v := ?_) (a' := ?_) #[true, true, true, true, true, true, true, true, true, true, false, true, true, false, false, true, true, false, false] rfl rfl (take_ofW HT_.out HW_.out (by kernel_rfl)) (fun _ _ _ h => h) (Or.inl ⟨by rfl, ?_⟩) hHeld ?_ ?_
                    rotate_left
                    ·rintro w' ⟨s0, s1, s2, s3, s4⟩
                     go_simp
                     with_reducible rfl
                    rotate_left
                    ·simp only [Act.put, List.setIfInBounds_toArray, List.set_cons_zero, List.set_cons_succ, i64_w, i32_w]
                     rfl
                    refine take_ (i := 10) (N := some 139) (v := ?_) (a' := ?_) #[true, true, true, true, true, true, true, true, true, true, true, true, true, false, false, true, true, false, false] rfl rfl (take_ofW HT_.out HW_.out (by kernel_rfl)) (fun _ _ _ h => h) (Or.inl ⟨by rfl, ?_⟩) hHeld ?_ ?_
                    rotate_left
                    ·rintro w' ⟨s0, s1, s2, s3, s4⟩
                     go_simp
                     with_reducible rfl
                    rotate_left
                    ·simp only [Act.put, List.setIfInBounds_toArray, List.set_cons_zero, List.set_cons_succ, i64_w, i32_w]
                     rfl
                    refine one_ (i := 13) (N := some 142) #[true, true, true, true, true, true, true, true, true, true, true, true, true, true, false, true, true, false, false] rfl rfl (one_of HT_.out (by kernel_rfl)) (by decide) (fun K hK => ?_)
                    refine goes_ Try.func18 (by kernel_rfl) rfl #[.agg #[.bool ((rd l0 0) == 1), .slice Ao65 x239001_4.length co65, .slice Ao66 x239002_4.length co66, .slice Ao67 x239003_2.length co67], .int .i64 (l0.length : Int)] (by rfl) rfl rfl (by (try simp only [List.map_toArray, List.map_cons, List.map_nil]); first | done | rfl | (simp only [List.length_drop, List.length_take]; rfl)) ?_
                    with_reducible refine (chandleryref08_Bytes.calls kj38 ((rd l0 0) == 1) _ _ x239001_4 _ _ x239002_4 _ _ x239003_2 (l0.length : Int) t258 _ ?side1 ?side2 ?side3 ?side4 ?side5 ?side6 A63.out).mono ?_
                    (case side1 => repeat (first | exact (Kd.R_reads' HO_239001.out).2.2 | (with_reducible refine Kd.C_alloc ?_ _) | (with_reducible refine Kd.C_drewN ?_ _) | (with_reducible refine Kd.C_drew ?_)))
                    (case side2 => exact (Kd.R_reads' HO_239001.out).2.1)
                    (case side3 => repeat (first | exact (Kd.R_reads' HO_239002.out).2.2 | (with_reducible refine Kd.C_alloc ?_ _) | (with_reducible refine Kd.C_drewN ?_ _) | (with_reducible refine Kd.C_drew ?_)))
                    (case side4 => exact (Kd.R_reads' HO_239002.out).2.1)
                    (case side5 => repeat (first | exact (Kd.R_reads' HO_239003.out).2.2 | (with_reducible refine Kd.C_alloc ?_ _) | (with_reducible refine Kd.C_drewN ?_ _) | (with_reducible refine Kd.C_drew ?_)))
                    (case side6 => exact (Kd.R_reads' HO_239003.out).2.1)
                    rintro e w70 ⟨v259, rfl, ho0, hb⟩
                    refine ⟨_, rfl, ?_⟩
                    have n0_ := Aside0.mk (Kd.R_below (by (with_reducible repeat (first | apply Kd.R_alloc | apply Kd.R_drewN | apply Kd.R_drew)); exact HO_239001.out) hb)
                    have n1_ := Aside0.mk (Kd.R_below (by (with_reducible repeat (first | apply Kd.R_alloc | apply Kd.R_drewN | apply Kd.R_drew)); exact HO_239002.out) hb)
                    have n2_ := Aside0.mk (Kd.R_below (by (with_reducible repeat (first | apply Kd.R_alloc | apply Kd.R_drewN | apply Kd.R_drew)); exact HO_239003.out) hb)
                    have n3_ := Aside0.mk (Kd.R_lower ho0 (below_size (by repeat (first | (with_reducible first | exact HB.out | apply below_alloc | apply pw_below_drewN | apply below_drew1 | refine below_set ?_ GE233.out | refine below_set ?_ GE238.out) | exact HB.out))))
                    have n4_ := Aside0.mk (blk_below (g := gb233) (o := .cells #[.bool x234000_2, .slice none 0 0, .slice none 0 0, .slice none 0 0] 26 (0, 0)) (by (with_reducible repeat (first | refine blk_drewN ?_ _ | refine blk_drew ?_ | refine blk_alloc ?_ _)); exact BK233.out) hb)
                    have n5_ := Aside0.mk (blk_below (g := gb238) (o := .cells #[.bool ((rd l0 0) == 1), .slice Ao65 x239001_4.length co65, .slice Ao66 x239002_4.length co66, .slice Ao67 x239003_2.length co67] 26 (0, 0)) (by (with_reducible repeat (first | refine blk_drewN ?_ _ | refine blk_drew ?_ | refine blk_alloc ?_ _)); exact BK238.out) hb)
                    have n6_ := Aside0.mk (below_step (by repeat (first | (with_reducible first | exact HB.out | apply below_alloc | apply pw_below_drewN | apply below_drew1 | refine below_set ?_ GE233.out | refine below_set ?_ GE238.out) | exact HB.out)) hb)
                    clear HO_239001
                    clear HO_239002
                    clear HO_239003
                    clear BK233
                    clear BK238
                    clear HB
                    have HO_239001 := n0_
                    have HO_239002 := n1_
                    have HO_239003 := n2_
                    have HO260 := n3_
                    have BK233 := n4_
                    have BK238 := n5_
                    have HB := n6_
                    clear n0_ n1_ n2_ n3_ n4_ n5_ n6_
                    (try clear hb)
                    (try clear hb2)
                    (try clear hk)
                    (try clear hi)
                    (try clear ho0)
                    have hcv72 := Kd.C_string (P := Try.prog) (A := (some ad237)) (c := c0) Try.underlying30 Try.underlying5 Try.underlying9 (Kd.C_below HR0.out HB.out); have hcv72u := fun nq_ : Nat => Kd.C_string (P := Try.prog) (A := (some ad237)) (c := c0) Try.underlying30 Try.underlying5 Try.underlying9 (Kd.C_drewN (Kd.C_below HR0.out HB.out) nq_)
                    refine hK.out _ _ ⟨(blk_cell BK238.out 0).trans rfl, (blk_cell BK238.out 1).trans rfl, (blk_cell BK238.out 2).trans rfl, (blk_cell BK238.out 3).trans rfl, Kd.C_string (P := Try.prog) (A := (some ad237)) (c := c0) Try.underlying30 Try.underlying5 Try.underlying9 (Kd.C_below HR0.out HB.out)⟩ (fun hHeld => ?_)
                    clear hK K
                    refine norm_ (a' := ?_) ?_ ?_
                    rotate_left
                    ·show Act.put _ (some 142) _ = _
                     simp only [Act.put, List.setIfInBounds_toArray, List.set_cons_zero, List.set_cons_succ, i64_w, i32_w]
                     rfl
                    refine one_ (i := 14) (N := some 143) #[true, true, true, true, true, true, true, true, true, true, true, true, true, true, true, true, true, false, false] rfl rfl (one_of HT_.out (by kernel_rfl)) (by decide) (fun K hK => ?_)
                    have hcv71 := own_string (P := Try.prog) Try.underlying30 Try.underlying5 Try.underlying9 (Kd.own_of_R HO260.out); have hcv71u := fun nq_ : Nat => own_string (P := Try.prog) Try.underlying30 Try.underlying5 Try.underlying9 (Kd.own_of_R (Kd.R_drewN HO260.out nq_))
                    refine value_ (w1 := ?_) (v := ?_) (by rfl) rfl ?_ ?_
                    rotate_left 2
                    ·go_simp
                     constructor
                     ·rfl
                     ·rfl
                    clear hcv71
                    refine hK.out _ _ ⟨(blk_cell BK238.out 0).trans rfl, (blk_cell BK238.out 1).trans rfl, (blk_cell BK238.out 2).trans rfl, (blk_cell BK238.out 3).trans rfl, Kd.C_string (P := Try.prog) (A := (some ad237)) (c := c0) Try.underlying30 Try.underlying5 Try.underlying9 (Kd.C_below HR0.out HB.out)⟩ (fun hHeld => ?_)
                    clear hK K
                    refine norm_ (a' := ?_) ?_ ?_
                    rotate_left
                    ·show Act.put _ (some 143) _ = _
                     simp only [Act.put, List.setIfInBounds_toArray, List.set_cons_zero, List.set_cons_succ, i64_w, i32_w]
                     rfl
                    refine pure_ (i := 17) (N := some 146) (v := ?_) (a' := ?_) #[true, true, true, true, true, true, true, true, true, true, true, true, true, true, true, true, true, true, false] rfl rfl (any_of HT_.out (by kernel_rfl)) (fun _ _ _ h => h) (Or.inl ⟨by rfl, ?_⟩) ?_ ?_
                    rotate_left
                    ·intro w'
                     go_simp
                     with_reducible rfl
                    rotate_left
                    ·simp only [Act.put, List.setIfInBounds_toArray, List.set_cons_zero, List.set_cons_succ, i64_w, i32_w]
                     rfl
                    refine pure_ (i := 18) (N := some 147) (v := ?_) (a' := ?_) #[true, true, true, true, true, true, true, true, true, true, true, true, true, true, true, true, true, true, true] rfl rfl (any_of HT_.out (by kernel_rfl)) (fun _ _ _ h => h) (Or.inl ⟨by rfl, ?_⟩) ?_ ?_
                    rotate_left
                    ·intro w'
                     go_simp
                     with_reducible rfl
                    rotate_left
                    ·simp only [Act.put, List.setIfInBounds_toArray, List.set_cons_zero, List.set_cons_succ, i64_w, i32_w]
                     rfl
                    refine done_ (done_of HT_.out (by kernel_rfl)) ?_
                    have hnb74 := NB238_233.out
                    have hnc74 := NB233_238.out
                    have hcz75_0 : w70.cell? ⟨gb238, 0, none⟩ = some (.bool ((rd l0 0) == 1)) := (blk_cell BK238.out 0).trans rfl
                    have hcz75_1 : w70.cell? ⟨gb238, 1, none⟩ = some (.slice Ao65 x239001_4.length co65) := (blk_cell BK238.out 1).trans rfl
                    have hcz75_2 : w70.cell? ⟨gb238, 2, none⟩ = some (.slice Ao66 x239002_4.length co66) := (blk_cell BK238.out 2).trans rfl
                    have hcz75_3 : w70.cell? ⟨gb238, 3, none⟩ = some (.slice Ao67 x239003_2.length co67) := (blk_cell BK238.out 3).trans rfl
                    have hfz75_0 := blk_frozen BK238.out 0
                    have hfz75_1 := blk_frozen BK238.out 1
                    have hfz75_2 := blk_frozen BK238.out 2
                    have hfz75_3 := blk_frozen BK238.out 3
                    have hcz76_0 : w70.cell? ⟨gb233, 0, none⟩ = some (.bool x234000_2) := (blk_cell BK233.out 0).trans rfl
                    have hcz76_1 : w70.cell? ⟨gb233, 1, none⟩ = some (.slice none 0 0) := (blk_cell BK233.out 1).trans rfl
                    have hcz76_2 : w70.cell? ⟨gb233, 2, none⟩ = some (.slice none 0 0) := (blk_cell BK233.out 2).trans rfl
                    have hcz76_3 : w70.cell? ⟨gb233, 3, none⟩ = some (.slice none 0 0) := (blk_cell BK233.out 3).trans rfl
                    have hfz76_0 := blk_frozen BK233.out 0
                    have hfz76_1 := blk_frozen BK233.out 1
                    have hfz76_2 := blk_frozen BK233.out 2
                    have hfz76_3 := blk_frozen BK233.out 3
                    try go_wp2
                    refine bodyPost_ret (results_ct rfl _ _ gb233 26 #[.bool ((rd l0 0) == 1), .slice Ao65 x239001_4.length co65, .slice Ao66 x239002_4.length co66, .slice Ao67 x239003_2.length co67] (0, 0) _ rfl (by (with_reducible repeat (first | refine blk_drewN ?_ _ | refine blk_drew ?_ | refine blk_alloc ?_ _)); refine blk_put (cs := #[.bool ((rd l0 0) == 1), .slice Ao65 x239001_4.length co65, .slice Ao66 x239002_4.length co66, .slice none 0 0]) ?_ 3 _ rfl; (with_reducible repeat (first | refine blk_drewN ?_ _ | refine blk_drew ?_ | refine blk_alloc ?_ _)); refine blk_put (cs := #[.bool ((rd l0 0) == 1), .slice Ao65 x239001_4.length co65, .slice none 0 0, .slice none 0 0]) ?_ 2 _ rfl; (with_reducible repeat (first | refine blk_drewN ?_ _ | refine blk_drew ?_ | refine blk_alloc ?_ _)); refine blk_put (cs := #[.bool ((rd l0 0) == 1), .slice none 0 0, .slice none 0 0, .slice none 0 0]) ?_ 1 _ rfl; (with_reducible repeat (first | refine blk_drewN ?_ _ | refine blk_drew ?_ | refine blk_alloc ?_ _)); refine blk_put (cs := #[.bool x234000_2, .slice none 0 0, .slice none 0 0, .slice none 0 0]) ?_ 0 _ rfl; (with_reducible repeat (first | refine blk_drewN ?_ _ | refine blk_drew ?_ | refine blk_alloc ?_ _)); exact BK233.out) Try.underlying26 rfl (by kernel_rfl)) rfl ?_
                    exact ⟨_, _, _, by first | rfl | (simp [errW_none, errW_some] <;> rfl) | (simp [*, errW_none, errW_some] <;> rfl), by (with_reducible repeat (first | apply Kd.R_alloc | apply Kd.R_drewN | apply Kd.R_drew)); exact Kd.R_mono (Kd.R_far (p := ⟨gb233, 3, none⟩) (Kd.R_far (p := ⟨gb233, 2, none⟩) (Kd.R_far (p := ⟨gb233, 1, none⟩) (Kd.R_far (p := ⟨gb233, 0, none⟩) (Kd.R_types HO_239001.out BK233.out (by decide)) (fun _ hk => hk.2) (.bool ((rd l0 0) == 1))) (fun _ hk => hk.2) (.slice Ao65 x239001_4.length co65)) (fun _ hk => hk.2) (.slice Ao66 x239002_4.length co66)) (fun _ hk => hk.2) (.slice Ao67 x239003_2.length co67)) (fun _ hk => trivial), by (with_reducible repeat (first | apply Kd.R_alloc | apply Kd.R_drewN | apply Kd.R_drew)); exact Kd.R_mono (Kd.R_far (p := ⟨gb233, 3, none⟩) (Kd.R_far (p := ⟨gb233, 2, none⟩) (Kd.R_far (p := ⟨gb233, 1, none⟩) (Kd.R_far (p := ⟨gb233, 0, none⟩) (Kd.R_types HO_239002.out BK233.out (by decide)) (fun _ hk => hk.2) (.bool ((rd l0 0) == 1))) (fun _ hk => hk.2) (.slice Ao65 x239001_4.length co65)) (fun _ hk => hk.2) (.slice Ao66 x239002_4.length co66)) (fun _ hk => hk.2) (.slice Ao67 x239003_2.length co67)) (fun _ hk => trivial), by (with_reducible repeat (first | apply Kd.R_alloc | apply Kd.R_drewN | apply Kd.R_drew)); exact Kd.R_mono (Kd.R_far (p := ⟨gb233, 3, none⟩) (Kd.R_far (p := ⟨gb233, 2, none⟩) (Kd.R_far (p := ⟨gb233, 1, none⟩) (Kd.R_far (p := ⟨gb233, 0, none⟩) (Kd.R_types HO_239003.out BK233.out (by decide)) (fun _ hk => hk.2) (.bool ((rd l0 0) == 1))) (fun _ hk => hk.2) (.slice Ao65 x239001_4.length co65)) (fun _ hk => hk.2) (.slice Ao66 x239002_4.length co66)) (fun _ hk => hk.2) (.slice Ao67 x239003_2.length co67)) (fun _ hk => trivial), by repeat (first | (with_reducible first | exact HB.out | apply below_alloc | apply pw_below_drewN | apply below_drew1 | refine below_set ?_ GE233.out | refine below_set ?_ GE238.out) | exact HB.out)⟩
                   ·rw [if_neg c64] at H
                    have c64b0 : ((strOfNums t258).toList == (strOfNums l0).toList) = false := beq_eq_false_iff_ne.mpr c64
                    have c64b1 : ((strOfNums t258).toList != (strOfNums l0).toList) = true := bne_iff_ne.mpr c64
                    simp only [Option.some.injEq, Prod.mk.injEq] at H
                    obtain ⟨rfl, rfl, rfl, rfl, rfl⟩ := H
                    obtain ⟨Ao77, co77, eo77⟩ := Kd.R_slice HO_239001.out
                    subst eo77
                    obtain ⟨Ao78, co78, eo78⟩ := Kd.R_slice HO_239002.out
                    subst eo78
                    obtain ⟨Ao79, co79, eo79⟩ := Kd.R_slice HO_239003.out
                    subst eo79
                    try go_wp2
                    have n0_ := Aside0.mk (Kd.R_drew HO_239001.out)
                    have n1_ := Aside0.mk (Kd.R_drew HO_239002.out)
                    have n2_ := Aside0.mk (Kd.R_drew HO_239003.out)
                    have n3_ := Aside0.mk (blk_drew BK233.out)
                    have n4_ := Aside0.mk (blk_drew BK238.out)
                    have n5_ := Aside0.mk (below_drew1 HB.out)
                    clear HO_239001
                    clear HO_239002
                    clear HO_239003
                    clear BK233
                    clear BK238
                    clear HB
                    have HO_239001 := n0_
                    have HO_239002 := n1_
                    have HO_239003 := n2_
                    have BK233 := n3_
                    have BK238 := n4_
                    have HB := n5_
                    clear n0_ n1_ n2_ n3_ n4_ n5_
                    refine start_ (n := 19) (S := fun w' => w'.cell? ⟨gb238, 0, none⟩ = some (.bool ((rd l0 0) == 1)) ∧ w'.cell? ⟨gb238, 1, none⟩ = some (.slice Ao77 x239001_4.length co77) ∧ w'.cell? ⟨gb238, 2, none⟩ = some (.slice Ao78 x239002_4.length co78) ∧ w'.cell? ⟨gb238, 3, none⟩ = some (.slice Ao79 x239003_2.length co79) ∧ (convert 30 9 (.slice (some ad237) l0.length c0)).run Try.prog w' = .ok (.string (strOfNums l0)) w') (ds := []) #[false, false, false, false, false, false, false, false, false, false, false, false, false, false, false, false, false, false, false] (by kernel_rfl) rfl rfl ⟨(blk_cell BK238.out 0).trans rfl, (blk_cell BK238.out 1).trans rfl, (blk_cell BK238.out 2).trans rfl, (blk_cell BK238.out 3).trans rfl, Kd.C_string (P := Try.prog) (A := (some ad237)) (c := c0) Try.underlying30 Try.underlying5 Try.underlying9 (Kd.C_below HR0.out HB.out)⟩ (fun hHeld => ?_); refine with_tabW chandleryref08_Parse.tab23 chandleryref08_Parse.bits23 (fun HT_ HW_ => ?_)
                    generalize wc.drew = w80 at HO_239001 HO_239002 HO_239003 BK233 BK238 HB hHeld ⊢
                    refine pure_ (i := 0) (N := some 129) (v := ?_) (a' := ?_) #[true, false, false, false, false, false, false, false, false, false, false, false, false, false, false, false, false, false, false] rfl rfl (any_of HT_.out (by kernel_rfl)) (fun _ _ _ h => h) (Or.inl ⟨by rfl, ?_⟩) ?_ ?_
                    rotate_left
                    ·intro w'
                     go_simp
                     with_reducible rfl
                    rotate_left
                    ·simp only [Act.put, List.setIfInBounds_toArray, List.set_cons_zero, List.set_cons_succ, i64_w, i32_w]
                     rfl
                    refine pure_ (i := 1) (N := some 130) (v := ?_) (a' := ?_) #[true, true, false, false, false, false, false, false, false, false, false, false, false, false, false, false, false, false, false] rfl rfl (any_of HT_.out (by kernel_rfl)) (fun _ _ _ h => h) (Or.inl ⟨by rfl, ?_⟩) ?_ ?_
                    rotate_left
                    ·intro w'
                     go_simp
                     with_reducible rfl
                    rotate_left
                    ·simp only [Act.put, List.setIfInBounds_toArray, List.set_cons_zero, List.set_cons_succ, i64_w, i32_w]
                     rfl
                    refine pure_ (i := 2) (N := some 131) (v := ?_) (a' := ?_) #[true, true, true, false, false, false, false, false, false, false, false, false, false, false, false, false, false, false, false] rfl rfl (any_of HT_.out (by kernel_rfl)) (fun _ _ _ h => h) (Or.inl ⟨by rfl, ?_⟩) ?_ ?_
                    rotate_left
                    ·intro w'
                     go_simp
                     with_reducible rfl
                    rotate_left
                    ·simp only [Act.put, List.setIfInBounds_toArray, List.set_cons_zero, List.set_cons_succ, i64_w, i32_w]
                     rfl
                    refine pure_ (i := 4) (N := some 133) (v := ?_) (a' := ?_) #[true, true, true, false, true, false, false, false, false, false, false, false, false, false, false, false, false, false, false] rfl rfl (any_of HT_.out (by kernel_rfl)) (fun _ _ _ h => h) (Or.inl ⟨by rfl, ?_⟩) ?_ ?_
                    rotate_left
                    ·intro w'
                     go_simp
                     with_reducible rfl
                    rotate_left
                    ·simp only [Act.put, List.setIfInBounds_toArray, List.set_cons_zero, List.set_cons_succ, i64_w, i32_w]
                     rfl
                    refine pure_ (i := 5) (N := some 134) (v := ?_) (a' := ?_) #[true, true, true, false, true, true, false, false, false, false, false, false, false, false, false, false, false, false, false] rfl rfl (any_of HT_.out (by kernel_rfl)) (fun _ _ _ h => h) (Or.inl ⟨by rfl, ?_⟩) ?_ ?_
                    rotate_left
                    ·intro w'
                     go_simp
                     with_reducible rfl
                    rotate_left
                    ·simp only [Act.put, List.setIfInBounds_toArray, List.set_cons_zero, List.set_cons_succ, i64_w, i32_w]
                     rfl
                    refine take_ (i := 3) (N := some 132) (v := ?_) (a' := ?_) #[true, true, true, true, true, true, false, false, false, false, false, false, false, false, false, false, false, false, false] rfl rfl (take_ofW HT_.out HW_.out (by kernel_rfl)) (fun _ _ _ h => h) (Or.inl ⟨by rfl, ?_⟩) hHeld ?_ ?_
                    rotate_left
                    ·rintro w' ⟨s0, s1, s2, s3, s4⟩
                     go_simp
                     with_reducible rfl
                    rotate_left
                    ·simp only [Act.put, List.setIfInBounds_toArray, List.set_cons_zero, List.set_cons_succ, i64_w, i32_w]
                     rfl
                    refine one_ (i := 6) (N := some 135) #[true, true, true, true, true, true, true, false, false, false, false, false, false, false, false, false, false, false, false] rfl rfl (one_of HT_.out (by kernel_rfl)) (by decide) (fun K hK => ?_)
                    refine goes_ Try.func9 (by kernel_rfl) rfl #[.agg #[.bool ((rd l0 0) == 1), .slice Ao77 x239001_4.length co77, .slice Ao78 x239002_4.length co78, .slice Ao79 x239003_2.length co79], .int .i64 (l0.length : Int)] (by rfl) rfl rfl (by (try simp only [List.map_toArray, List.map_cons, List.map_nil]); first | done | rfl | (simp only [List.length_drop, List.length_take]; rfl)) ?_
                    with_reducible refine (chandleryref08_Check.calls kj38 ((rd l0 0) == 1) _ _ x239001_4 _ _ x239002_4 _ _ x239003_2 (l0.length : Int) t257 _ ?side1 ?side2 ?side3 ?side4 ?side5 ?side6 A61.out).mono ?_
                    (case side1 => repeat (first | exact (Kd.R_reads' HO_239001.out).2.2 | (with_reducible refine Kd.C_alloc ?_ _) | (with_reducible refine Kd.C_drewN ?_ _) | (with_reducible refine Kd.C_drew ?_)))
                    (case side2 => exact (Kd.R_reads' HO_239001.out).2.1)
                    (case side3 => repeat (first | exact (Kd.R_reads' HO_239002.out).2.2 | (with_reducible refine Kd.C_alloc ?_ _) | (with_reducible refine Kd.C_drewN ?_ _) | (with_reducible refine Kd.C_drew ?_)))
                    (case side4 => exact (Kd.R_reads' HO_239002.out).2.1)
                    (case side5 => repeat (first | exact (Kd.R_reads' HO_239003.out).2.2 | (with_reducible refine Kd.C_alloc ?_ _) | (with_reducible refine Kd.C_drewN ?_ _) | (with_reducible refine Kd.C_drew ?_)))
                    (case side6 => exact (Kd.R_reads' HO_239003.out).2.1)
                    rintro e w81 ⟨rfl, hb⟩
                    refine ⟨_, rfl, ?_⟩
                    have n0_ := Aside0.mk (Kd.R_below (by (with_reducible repeat (first | apply Kd.R_alloc | apply Kd.R_drewN | apply Kd.R_drew)); exact HO_239001.out) hb)
                    have n1_ := Aside0.mk (Kd.R_below (by (with_reducible repeat (first | apply Kd.R_alloc | apply Kd.R_drewN | apply Kd.R_drew)); exact HO_239002.out) hb)
                    have n2_ := Aside0.mk (Kd.R_below (by (with_reducible repeat (first | apply Kd.R_alloc | apply Kd.R_drewN | apply Kd.R_drew)); exact HO_239003.out) hb)
                    have n3_ := Aside0.mk (blk_below (g := gb233) (o := .cells #[.bool x234000_2, .slice none 0 0, .slice none 0 0, .slice none 0 0] 26 (0, 0)) (by (with_reducible repeat (first | refine blk_drewN ?_ _ | refine blk_drew ?_ | refine blk_alloc ?_ _)); exact BK233.out) hb)
                    have n4_ := Aside0.mk (blk_below (g := gb238) (o := .cells #[.bool ((rd l0 0) == 1), .slice Ao77 x239001_4.length co77, .slice Ao78 x239002_4.length co78, .slice Ao79 x239003_2.length co79] 26 (0, 0)) (by (with_reducible repeat (first | refine blk_drewN ?_ _ | refine blk_drew ?_ | refine blk_alloc ?_ _)); exact BK238.out) hb)
                    have n5_ := Aside0.mk (below_step (by repeat (first | (with_reducible first | exact HB.out | apply below_alloc | apply pw_below_drewN | apply below_drew1 | refine below_set ?_ GE233.out | refine below_set ?_ GE238.out) | exact HB.out)) hb)
                    clear HO_239001
                    clear HO_239002
                    clear HO_239003
                    clear BK233
                    clear BK238
                    clear HB
                    have HO_239001 := n0_
                    have HO_239002 := n1_
                    have HO_239003 := n2_
                    have BK233 := n3_
                    have BK238 := n4_
                    have HB := n5_
                    clear n0_ n1_ n2_ n3_ n4_ n5_
                    (try clear hb)
                    (try clear hb2)
                    (try clear hk)
                    (try clear hi)
                    refine hK.out _ _ ⟨(blk_cell BK238.out 0).trans rfl, (blk_cell BK238.out 1).trans rfl, (blk_cell BK238.out 2).trans rfl, (blk_cell BK238.out 3).trans rfl, Kd.C_string (P := Try.prog) (A := (some ad237)) (c := c0) Try.underlying30 Try.underlying5 Try.underlying9 (Kd.C_below HR0.out HB.out)⟩ (fun hHeld => ?_)
                    clear hK K
                    refine norm_ (a' := ?_) ?_ ?_
                    rotate_left
                    ·show Act.put _ (some 135) _ = _
                     simp only [Act.put, List.setIfInBounds_toArray, List.set_cons_zero, List.set_cons_succ, i64_w, i32_w]
                     rfl
                    refine pure_ (i := 7) (N := some 136) (v := ?_) (a' := ?_) #[true, true, true, true, true, true, true, true, false, false, false, false, false, false, false, false, false, false, false] rfl rfl (any_of HT_.out (by kernel_rfl)) (fun _ _ _ h => h) (Or.inl ⟨by rfl, ?_⟩) ?_ ?_
                    rotate_left
                    ·intro w'
                     go_simp
                     with_reducible rfl
                    rotate_left
                    ·simp only [Act.put, List.setIfInBounds_toArray, List.set_cons_zero, List.set_cons_succ, i64_w, i32_w]
                     rfl
                    refine pure_ (i := 8) (N := some 137) (v := ?_) (a' := ?_) #[true, true, true, true, true, true, true, true, true, false, false, false, false, false, false, false, false, false, false] rfl rfl (any_of HT_.out (by kernel_rfl)) (fun _ _ _ h => h) (Or.inl ⟨by rfl, ?_⟩) ?_ ?_
                    rotate_left
                    ·intro w'
                     go_simp
                     with_reducible rfl
                    rotate_left
                    ·simp only [Act.put, List.setIfInBounds_toArray, List.set_cons_zero, List.set_cons_succ, i64_w, i32_w]
                     rfl
                    refine pure_ (i := 9) (N := some 138) (v := ?_) (a' := ?_) #[true, true, true, true, true, true, true, true, true, true, false, false, false, false, false, false, false, false, false] rfl rfl (any_of HT_.out (by kernel_rfl)) (fun _ _ _ h => h) (Or.inl ⟨by rfl, ?_⟩) ?_ ?_
                    rotate_left
                    ·intro w'
                     go_simp
                     with_reducible rfl
                    rotate_left
                    ·simp only [Act.put, List.setIfInBounds_toArray, List.set_cons_zero, List.set_cons_succ, i64_w, i32_w]
                     rfl
                    refine pure_ (i := 11) (N := some 140) (v := ?_) (a' := ?_) #[true, true, true, true, true, true, true, true, true, true, false, true, false, false, false, false, false, false, false] rfl rfl (any_of HT_.out (by kernel_rfl)) (fun _ _ _ h => h) (Or.inl ⟨by rfl, ?_⟩) ?_ ?_
                    rotate_left
                    ·intro w'
                     go_simp
                     with_reducible rfl
                    rotate_left
                    ·simp only [Act.put, List.setIfInBounds_toArray, List.set_cons_zero, List.set_cons_succ, i64_w, i32_w]
                     rfl
                    refine pure_ (i := 12) (N := some 141) (v := ?_) (a' := ?_) #[true, true, true, true, true, true, true, true, true, true, false, true, true, false, false, false, false, false, false] rfl rfl (any_of HT_.out (by kernel_rfl)) (fun _ _ _ h => h) (Or.inl ⟨by rfl, ?_⟩) ?_ ?_
                    rotate_left
                    ·intro w'
                     go_simp
                     with_reducible rfl
                    rotate_left
                    ·simp only [Act.put, List.setIfInBounds_toArray, List.set_cons_zero, List.set_cons_succ, i64_w, i32_w]
                     rfl
                    refine pure_ (i := 15) (N := some 144) (v := ?_) (a' := ?_) #[true, true, true, true, true, true, true, true, true, true, false, true, true, false, false, true, false, false, false] rfl rfl (any_of HT_.out (by kernel_rfl)) (fun _ _ _ h => h) (Or.inl ⟨by rfl, ?_⟩) ?_ ?_
                    rotate_left
                    ·intro w'
                     go_simp
                     with_reducible rfl
                    rotate_left
                    ·simp only [Act.put, List.setIfInBounds_toArray, List.set_cons_zero, List.set_cons_succ, i64_w, i32_w]
                     rfl
                    refine take_ (i := 16) (N := some 145) (v := ?_) (a' := ?_) #[true, true, true, true, true, true, true, true, true, true, false, true, true, false, false, true, true, false, false] rfl rfl (take_ofW HT_.out HW_.out (by kernel_rfl)) (fun _ _ _ h => h) (Or.inl ⟨by rfl, ?_⟩) hHeld ?_ ?_
                    rotate_left
                    ·rintro w' ⟨s0, s1, s2, s3, s4⟩
                     go_simp
                     with_reducible rfl
                    rotate_left
                    ·simp only [Act.put, List.setIfInBounds_toArray, List.set_cons_zero, List.set_cons_succ, i64_w, i32_w]
                     rfl
                    refine take_ (i := 10) (N := some 139) (v := ?_) (a' := ?_) #[true, true, true, true, true, true, true, true, true, true, true, true, true, false, false, true, true, false, false] rfl rfl (take_ofW HT_.out HW_.out (by kernel_rfl)) (fun _ _ _ h => h) (Or.inl ⟨by rfl, ?_⟩) hHeld ?_ ?_
                    rotate_left
                    ·rintro w' ⟨s0, s1, s2, s3, s4⟩
                     go_simp
                     with_reducible rfl
                    rotate_left
                    ·simp only [Act.put, List.setIfInBounds_toArray, List.set_cons_zero, List.set_cons_succ, i64_w, i32_w]
                     rfl
                    refine one_ (i := 13) (N := some 142) #[true, true, true, true, true, true, true, true, true, true, true, true, true, true, false, true, true, false, false] rfl rfl (one_of HT_.out (by kernel_rfl)) (by decide) (fun K hK => ?_)
                    refine goes_ Try.func18 (by kernel_rfl) rfl #[.agg #[.bool ((rd l0 0) == 1), .slice Ao77 x239001_4.length co77, .slice Ao78 x239002_4.length co78, .slice Ao79 x239003_2.length co79], .int .i64 (l0.length : Int)] (by rfl) rfl rfl (by (try simp only [List.map_toArray, List.map_cons, List.map_nil]); first | done | rfl | (simp only [List.length_drop, List.length_take]; rfl)) ?_
                    with_reducible refine (chandleryref08_Bytes.calls kj38 ((rd l0 0) == 1) _ _ x239001_4 _ _ x239002_4 _ _ x239003_2 (l0.length : Int) t258 _ ?side1 ?side2 ?side3 ?side4 ?side5 ?side6 A63.out).mono ?_
                    (case side1 => repeat (first | exact (Kd.R_reads' HO_239001.out).2.2 | (with_reducible refine Kd.C_alloc ?_ _) | (with_reducible refine Kd.C_drewN ?_ _) | (with_reducible refine Kd.C_drew ?_)))
                    (case side2 => exact (Kd.R_reads' HO_239001.out).2.1)
                    (case side3 => repeat (first | exact (Kd.R_reads' HO_239002.out).2.2 | (with_reducible refine Kd.C_alloc ?_ _) | (with_reducible refine Kd.C_drewN ?_ _) | (with_reducible refine Kd.C_drew ?_)))
                    (case side4 => exact (Kd.R_reads' HO_239002.out).2.1)
                    (case side5 => repeat (first | exact (Kd.R_reads' HO_239003.out).2.2 | (with_reducible refine Kd.C_alloc ?_ _) | (with_reducible refine Kd.C_drewN ?_ _) | (with_reducible refine Kd.C_drew ?_)))
                    (case side6 => exact (Kd.R_reads' HO_239003.out).2.1)
                    rintro e w82 ⟨v259, rfl, ho0, hb⟩
                    refine ⟨_, rfl, ?_⟩
                    have n0_ := Aside0.mk (Kd.R_below (by (with_reducible repeat (first | apply Kd.R_alloc | apply Kd.R_drewN | apply Kd.R_drew)); exact HO_239001.out) hb)
                    have n1_ := Aside0.mk (Kd.R_below (by (with_reducible repeat (first | apply Kd.R_alloc | apply Kd.R_drewN | apply Kd.R_drew)); exact HO_239002.out) hb)
                    have n2_ := Aside0.mk (Kd.R_below (by (with_reducible repeat (first | apply Kd.R_alloc | apply Kd.R_drewN | apply Kd.R_drew)); exact HO_239003.out) hb)
                    have n3_ := Aside0.mk (Kd.R_lower ho0 (below_size (by repeat (first | (with_reducible first | exact HB.out | apply below_alloc | apply pw_below_drewN | apply below_drew1 | refine below_set ?_ GE233.out | refine below_set ?_ GE238.out) | exact HB.out))))
                    have n4_ := Aside0.mk (blk_below (g := gb233) (o := .cells #[.bool x234000_2, .slice none 0 0, .slice none 0 0, .slice none 0 0] 26 (0, 0)) (by (with_reducible repeat (first | refine blk_drewN ?_ _ | refine blk_drew ?_ | refine blk_alloc ?_ _)); exact BK233.out) hb)
                    have n5_ := Aside0.mk (blk_below (g := gb238) (o := .cells #[.bool ((rd l0 0) == 1), .slice Ao77 x239001_4.length co77, .slice Ao78 x239002_4.length co78, .slice Ao79 x239003_2.length co79] 26 (0, 0)) (by (with_reducible repeat (first | refine blk_drewN ?_ _ | refine blk_drew ?_ | refine blk_alloc ?_ _)); exact BK238.out) hb)
                    have n6_ := Aside0.mk (below_step (by repeat (first | (with_reducible first | exact HB.out | apply below_alloc | apply pw_below_drewN | apply below_drew1 | refine below_set ?_ GE233.out | refine below_set ?_ GE238.out) | exact HB.out)) hb)
                    clear HO_239001
                    clear HO_239002
                    clear HO_239003
                    clear BK233
                    clear BK238
                    clear HB
                    have HO_239001 := n0_
                    have HO_239002 := n1_
                    have HO_239003 := n2_
                    have HO260 := n3_
                    have BK233 := n4_
                    have BK238 := n5_
                    have HB := n6_
                    clear n0_ n1_ n2_ n3_ n4_ n5_ n6_
                    (try clear hb)
                    (try clear hb2)
                    (try clear hk)
                    (try clear hi)
                    (try clear ho0)
                    have hcv84 := Kd.C_string (P := Try.prog) (A := (some ad237)) (c := c0) Try.underlying30 Try.underlying5 Try.underlying9 (Kd.C_below HR0.out HB.out); have hcv84u := fun nq_ : Nat => Kd.C_string (P := Try.prog) (A := (some ad237)) (c := c0) Try.underlying30 Try.underlying5 Try.underlying9 (Kd.C_drewN (Kd.C_below HR0.out HB.out) nq_)
                    refine hK.out _ _ ⟨(blk_cell BK238.out 0).trans rfl, (blk_cell BK238.out 1).trans rfl, (blk_cell BK238.out 2).trans rfl, (blk_cell BK238.out 3).trans rfl, Kd.C_string (P := Try.prog) (A := (some ad237)) (c := c0) Try.underlying30 Try.underlying5 Try.underlying9 (Kd.C_below HR0.out HB.out)⟩ (fun hHeld => ?_)
                    clear hK K
                    refine norm_ (a' := ?_) ?_ ?_
                    rotate_left
                    ·show Act.put _ (some 142) _ = _
                     simp only [Act.put, List.setIfInBounds_toArray, List.set_cons_zero, List.set_cons_succ, i64_w, i32_w]
                     rfl
                    refine one_ (i := 14) (N := some 143) #[true, true, true, true, true, true, true, true, true, true, true, true, true, true, true, true, true, false, false] rfl rfl (one_of HT_.out (by kernel_rfl)) (by decide) (fun K hK => ?_)
                    have hcv83 := own_string (P := Try.prog) Try.underlying30 Try.underlying5 Try.underlying9 (Kd.own_of_R HO260.out); have hcv83u := fun nq_ : Nat => own_string (P := Try.prog) Try.underlying30 Try.underlying5 Try.underlying9 (Kd.own_of_R (Kd.R_drewN HO260.out nq_))
                    refine value_ (w1 := ?_) (v := ?_) (by rfl) rfl ?_ ?_
                    rotate_left 2
                    ·go_simp
                     constructor
                     ·rfl
                     ·rfl
                    clear hcv83
                    refine hK.out _ _ ⟨(blk_cell BK238.out 0).trans rfl, (blk_cell BK238.out 1).trans rfl, (blk_cell BK238.out 2).trans rfl, (blk_cell BK238.out 3).trans rfl, Kd.C_string (P := Try.prog) (A := (some ad237)) (c := c0) Try.underlying30 Try.underlying5 Try.underlying9 (Kd.C_below HR0.out HB.out)⟩ (fun hHeld => ?_)
                    clear hK K
                    refine norm_ (a' := ?_) ?_ ?_
                    rotate_left
                    ·show Act.put _ (some 143) _ = _
                     simp only [Act.put, List.setIfInBounds_toArray, List.set_cons_zero, List.set_cons_succ, i64_w, i32_w]
                     rfl
                    refine pure_ (i := 17) (N := some 146) (v := ?_) (a' := ?_) #[true, true, true, true, true, true, true, true, true, true, true, true, true, true, true, true, true, true, false] rfl rfl (any_of HT_.out (by kernel_rfl)) (fun _ _ _ h => h) (Or.inl ⟨by rfl, ?_⟩) ?_ ?_
                    rotate_left
                    ·intro w'
                     go_simp
                     with_reducible rfl
                    rotate_left
                    ·simp only [Act.put, List.setIfInBounds_toArray, List.set_cons_zero, List.set_cons_succ, i64_w, i32_w]
                     rfl
                    refine pure_ (i := 18) (N := some 147) (v := ?_) (a' := ?_) #[true, true, true, true, true, true, true, true, true, true, true, true, true, true, true, true, true, true, true] rfl rfl (any_of HT_.out (by kernel_rfl)) (fun _ _ _ h => h) (Or.inl ⟨by rfl, ?_⟩) ?_ ?_
                    rotate_left
                    ·intro w'
                     go_simp
                     with_reducible rfl
                    rotate_left
                    ·simp only [Act.put, List.setIfInBounds_toArray, List.set_cons_zero, List.set_cons_succ, i64_w, i32_w]
                     rfl
                    refine done_ (done_of HT_.out (by kernel_rfl)) ?_
                    have hnb86 := NB233_238.out
                    have hnc86 := NB238_233.out
                    have hcz87_0 : w82.cell? ⟨gb233, 0, none⟩ = some (.bool x234000_2) := (blk_cell BK233.out 0).trans rfl
                    have hcz87_1 : w82.cell? ⟨gb233, 1, none⟩ = some (.slice none 0 0) := (blk_cell BK233.out 1).trans rfl
                    have hcz87_2 : w82.cell? ⟨gb233, 2, none⟩ = some (.slice none 0 0) := (blk_cell BK233.out 2).trans rfl
                    have hcz87_3 : w82.cell? ⟨gb233, 3, none⟩ = some (.slice none 0 0) := (blk_cell BK233.out 3).trans rfl
                    have hfz87_0 := blk_frozen BK233.out 0
                    have hfz87_1 := blk_frozen BK233.out 1
                    have hfz87_2 := blk_frozen BK233.out 2
                    have hfz87_3 := blk_frozen BK233.out 3
                    try go_wp2
                    refine bodyPost_ret (results_ct rfl _ _ gb233 26 #[.bool false, .slice none 0 0, .slice none 0 0, .slice none 0 0] (0, 0) _ rfl (by (with_reducible repeat (first | refine blk_drewN ?_ _ | refine blk_drew ?_ | refine blk_alloc ?_ _)); refine blk_put (cs := #[.bool false, .slice none 0 0, .slice none 0 0, .slice none 0 0]) ?_ 3 _ rfl; (with_reducible repeat (first | refine blk_drewN ?_ _ | refine blk_drew ?_ | refine blk_alloc ?_ _)); refine blk_put (cs := #[.bool false, .slice none 0 0, .slice none 0 0, .slice none 0 0]) ?_ 2 _ rfl; (with_reducible repeat (first | refine blk_drewN ?_ _ | refine blk_drew ?_ | refine blk_alloc ?_ _)); refine blk_put (cs := #[.bool false, .slice none 0 0, .slice none 0 0, .slice none 0 0]) ?_ 1 _ rfl; (with_reducible repeat (first | refine blk_drewN ?_ _ | refine blk_drew ?_ | refine blk_alloc ?_ _)); refine blk_put (cs := #[.bool x234000_2, .slice none 0 0, .slice none 0 0, .slice none 0 0]) ?_ 0 _ rfl; (with_reducible repeat (first | refine blk_drewN ?_ _ | refine blk_drew ?_ | refine blk_alloc ?_ _)); exact BK233.out) Try.underlying26 rfl (by kernel_rfl)) rfl ?_
                    exact ⟨_, _, _, by first | rfl | (simp [errW_none, errW_some] <;> rfl) | (simp [*, errW_none, errW_some] <;> rfl), by first | exact Kd.R_nil _ _ _ _ _ | exact Kd.N_nil _ _ _ _ _ | exact Kd.V_nil _ _ _ _ _ | exact Kd.Q_nil _ _ _ _ _ | exact Kd.S_nil _ _ _ _ _, by first | exact Kd.R_nil _ _ _ _ _ | exact Kd.N_nil _ _ _ _ _ | exact Kd.V_nil _ _ _ _ _ | exact Kd.Q_nil _ _ _ _ _ | exact Kd.S_nil _ _ _ _ _, by first | exact Kd.R_nil _ _ _ _ _ | exact Kd.N_nil _ _ _ _ _ | exact Kd.V_nil _ _ _ _ _ | exact Kd.Q_nil _ _ _ _ _ | exact Kd.S_nil _ _ _ _ _, by repeat (first | (with_reducible first | exact HB.out | apply below_alloc | apply pw_below_drewN | apply below_drew1 | refine below_set ?_ GE233.out | refine below_set ?_ GE238.out) | exact HB.out)⟩
                  ·rw [if_neg c62] at H
                   have c62b0 : (t257 == 0) = false := beq_eq_false_iff_ne.mpr c62
                   have c62b1 : (t257 != 0) = true := bne_iff_ne.mpr c62
                   simp only [Option.some.injEq, Prod.mk.injEq] at H
                   obtain ⟨rfl, rfl, rfl, rfl, rfl⟩ := H
                   try go_wp2
                   have n0_ := Aside0.mk (Kd.R_drew HO_239001.out)
                   have n1_ := Aside0.mk (Kd.R_drew HO_239002.out)
                   have n2_ := Aside0.mk (Kd.R_drew HO_239003.out)
                   have n3_ := Aside0.mk (blk_drew BK233.out)
                   have n4_ := Aside0.mk (blk_drew BK238.out)
                   have n5_ := Aside0.mk (below_drew1 HB.out)
                   clear HO_239001
                   clear HO_239002
                   clear HO_239003
                   clear BK233
                   clear BK238
                   clear HB
                   have HO_239001 := n0_
                   have HO_239002 := n1_
                   have HO_239003 := n2_
                   have BK233 := n3_
                   have BK238 := n4_
                   have HB := n5_
                   clear n0_ n1_ n2_ n3_ n4_ n5_
                   obtain ⟨Ao89, co89, eo89⟩ := Kd.R_slice HO_239001.out
                   (first | subst eo89 | (injection eo89 with f1_ f2_ f3_; have f4_ := f1_.symm; have f5_ := f3_.symm; clear f1_ f2_ f3_; subst f4_; subst f5_))
                   obtain ⟨Ao90, co90, eo90⟩ := Kd.R_slice HO_239002.out
                   (first | subst eo90 | (injection eo90 with f1_ f2_ f3_; have f4_ := f1_.symm; have f5_ := f3_.symm; clear f1_ f2_ f3_; subst f4_; subst f5_))
                   obtain ⟨Ao91, co91, eo91⟩ := Kd.R_slice HO_239003.out
                   (first | subst eo91 | (injection eo91 with f1_ f2_ f3_; have f4_ := f1_.symm; have f5_ := f3_.symm; clear f1_ f2_ f3_; subst f4_; subst f5_))
                   refine start_ (n := 19) (S := fun w' => w'.cell? ⟨gb238, 0, none⟩ = some (.bool ((rd l0 0) == 1)) ∧ w'.cell? ⟨gb238, 1, none⟩ = some (.slice Ao89 x239001_4.length co89) ∧ w'.cell? ⟨gb238, 2, none⟩ = some (.slice Ao90 x239002_4.length co90) ∧ w'.cell? ⟨gb238, 3, none⟩ = some (.slice Ao91 x239003_2.length co91)) (ds := []) #[false, false, false, false, false, false, false, false, false, false, false, false, false, false, false, false, false, false, false] (by kernel_rfl) rfl rfl ⟨(blk_cell BK238.out 0).trans rfl, (blk_cell BK238.out 1).trans rfl, (blk_cell BK238.out 2).trans rfl, (blk_cell BK238.out 3).trans rfl⟩ (fun hHeld => ?_); refine with_tabW chandleryref08_Parse.tab23 chandleryref08_Parse.bits23 (fun HT_ HW_ => ?_)
                   generalize wc.drew = w88 at HO_239001 HO_239002 HO_239003 BK233 BK238 HB hHeld ⊢
                   refine pure_ (i := 0) (N := some 129) (v := ?_) (a' := ?_) #[true, false, false, false, false, false, false, false, false, false, false, false, false, false, false, false, false, false, false] rfl rfl (any_of HT_.out (by kernel_rfl)) (fun _ _ _ h => h) (Or.inl ⟨by rfl, ?_⟩) ?_ ?_
                   rotate_left
                   ·intro w'
                    go_simp
                    with_reducible rfl
                   rotate_left
                   ·simp only [Act.put, List.setIfInBounds_toArray, List.set_cons_zero, List.set_cons_succ, i64_w, i32_w]
                    rfl
                   refine pure_ (i := 1) (N := some 130) (v := ?_) (a' := ?_) #[true, true, false, false, false, false, false, false, false, false, false, false, false, false, false, false, false, false, false] rfl rfl (any_of HT_.out (by kernel_rfl)) (fun _ _ _ h => h) (Or.inl ⟨by rfl, ?_⟩) ?_ ?_
                   rotate_left
                   ·intro w'
                    go_simp
                    with_reducible rfl
                   rotate_left
                   ·simp only [Act.put, List.setIfInBounds_toArray, List.set_cons_zero, List.set_cons_succ, i64_w, i32_w]
                    rfl
                   refine pure_ (i := 2) (N := some 131) (v := ?_) (a' := ?_) #[true, true, true, false, false, false, false, false, false, false, false, false, false, false, false, false, false, false, false] rfl rfl (any_of HT_.out (by kernel_rfl)) (fun _ _ _ h => h) (Or.inl ⟨by rfl, ?_⟩) ?_ ?_
                   rotate_left
                   ·intro w'
                    go_simp
                    with_reducible rfl
                   rotate_left
                   ·simp only [Act.put, List.setIfInBounds_toArray, List.set_cons_zero, List.set_cons_succ, i64_w, i32_w]
                    rfl
                   refine pure_ (i := 4) (N := some 133) (v := ?_) (a' := ?_) #[true, true, true, false, true, false, false, false, false, false, false, false, false, false, false, false, false, false, false] rfl rfl (any_of HT_.out (by kernel_rfl)) (fun _ _ _ h => h) (Or.inl ⟨by rfl, ?_⟩) ?_ ?_
                   rotate_left
                   ·intro w'
                    go_simp
                    with_reducible rfl
                   rotate_left
                   ·simp only [Act.put, List.setIfInBounds_toArray, List.set_cons_zero, List.set_cons_succ, i64_w, i32_w]
                    rfl
                   refine pure_ (i := 5) (N := some 134) (v := ?_) (a' := ?_) #[true, true, true, false, true, true, false, false, false, false, false, false, false, false, false, false, false, false, false] rfl rfl (any_of HT_.out (by kernel_rfl)) (fun _ _ _ h => h) (Or.inl ⟨by rfl, ?_⟩) ?_ ?_
                   rotate_left
                   ·intro w'
                    go_simp
                    with_reducible rfl
                   rotate_left
                   ·simp only [Act.put, List.setIfInBounds_toArray, List.set_cons_zero, List.set_cons_succ, i64_w, i32_w]
                    rfl
                   refine take_ (i := 3) (N := some 132) (v := ?_) (a' := ?_) #[true, true, true, true, true, true, false, false, false, false, false, false, false, false, false, false, false, false, false] rfl rfl (take_ofW HT_.out HW_.out (by kernel_rfl)) (fun _ _ _ h => h) (Or.inl ⟨by rfl, ?_⟩) hHeld ?_ ?_
                   rotate_left
                   ·rintro w' ⟨s0, s1, s2, s3⟩
                    go_simp
                    with_reducible rfl
                   rotate_left
                   ·simp only [Act.put, List.setIfInBounds_toArray, List.set_cons_zero, List.set_cons_succ, i64_w, i32_w]
                    rfl
                   refine one_ (i := 6) (N := some 135) #[true, true, true, true, true, true, true, false, false, false, false, false, false, false, false, false, false, false, false] rfl rfl (one_of HT_.out (by kernel_rfl)) (by decide) (fun K hK => ?_)
                   refine goes_ Try.func9 (by kernel_rfl) rfl #[.agg #[.bool ((rd l0 0) == 1), .slice Ao89 x239001_4.length co89, .slice Ao90 x239002_4.length co90, .slice Ao91 x239003_2.length co91], .int .i64 (l0.length : Int)] (by rfl) rfl rfl (by (try simp only [List.map_toArray, List.map_cons, List.map_nil]); first | done | rfl | (simp only [List.length_drop, List.length_take]; rfl)) ?_
                   with_reducible refine (chandleryref08_Check.calls kj38 ((rd l0 0) == 1) _ _ x239001_4 _ _ x239002_4 _ _ x239003_2 (l0.length : Int) t257 _ ?side1 ?side2 ?side3 ?side4 ?side5 ?side6 A61.out).mono ?_
                   (case side1 => repeat (first | exact (Kd.R_reads' HO_239001.out).2.2 | (with_reducible refine Kd.C_alloc ?_ _) | (with_reducible refine Kd.C_drewN ?_ _) | (with_reducible refine Kd.C_drew ?_)))
                   (case side2 => exact (Kd.R_reads' HO_239001.out).2.1)
                   (case side3 => repeat (first | exact (Kd.R_reads' HO_239002.out).2.2 | (with_reducible refine Kd.C_alloc ?_ _) | (with_reducible refine Kd.C_drewN ?_ _) | (with_reducible refine Kd.C_drew ?_)))
                   (case side4 => exact (Kd.R_reads' HO_239002.out).2.1)
                   (case side5 => repeat (first | exact (Kd.R_reads' HO_239003.out).2.2 | (with_reducible refine Kd.C_alloc ?_ _) | (with_reducible refine Kd.C_drewN ?_ _) | (with_reducible refine Kd.C_drew ?_)))
                   (case side6 => exact (Kd.R_reads' HO_239003.out).2.1)
                   rintro e w92 ⟨rfl, hb⟩
                   refine ⟨_, rfl, ?_⟩
                   have n0_ := Aside0.mk (Kd.R_below (by (with_reducible repeat (first | apply Kd.R_alloc | apply Kd.R_drewN | apply Kd.R_drew)); exact HO_239001.out) hb)
                   have n1_ := Aside0.mk (Kd.R_below (by (with_reducible repeat (first | apply Kd.R_alloc | apply Kd.R_drewN | apply Kd.R_drew)); exact HO_239002.out) hb)
                   have n2_ := Aside0.mk (Kd.R_below (by (with_reducible repeat (first | apply Kd.R_alloc | apply Kd.R_drewN | apply Kd.R_drew)); exact HO_239003.out) hb)
                   have n3_ := Aside0.mk (blk_below (g := gb233) (o := .cells #[.bool x234000_2, .slice none 0 0, .slice none 0 0, .slice none 0 0] 26 (0, 0)) (by (with_reducible repeat (first | refine blk_drewN ?_ _ | refine blk_drew ?_ | refine blk_alloc ?_ _)); exact BK233.out) hb)
                   have n4_ := Aside0.mk (blk_below (g := gb238) (o := .cells #[.bool ((rd l0 0) == 1), .slice Ao89 x239001_4.length co89, .slice Ao90 x239002_4.length co90, .slice Ao91 x239003_2.length co91] 26 (0, 0)) (by (with_reducible repeat (first | refine blk_drewN ?_ _ | refine blk_drew ?_ | refine blk_alloc ?_ _)); exact BK238.out) hb)
                   have n5_ := Aside0.mk (below_step (by repeat (first | (with_reducible first | exact HB.out | apply below_alloc | apply pw_below_drewN | apply below_drew1 | refine below_set ?_ GE233.out | refine below_set ?_ GE238.out) | exact HB.out)) hb)
                   clear HO_239001
                   clear HO_239002
                   clear HO_239003
                   clear BK233
                   clear BK238
                   clear HB
                   have HO_239001 := n0_
                   have HO_239002 := n1_
                   have HO_239003 := n2_
                   have BK233 := n3_
                   have BK238 := n4_
                   have HB := n5_
                   clear n0_ n1_ n2_ n3_ n4_ n5_
                   (try clear hb)
                   (try clear hb2)
                   (try clear hk)
                   (try clear hi)
                   refine hK.out _ _ ⟨(blk_cell BK238.out 0).trans rfl, (blk_cell BK238.out 1).trans rfl, (blk_cell BK238.out 2).trans rfl, (blk_cell BK238.out 3).trans rfl⟩ (fun hHeld => ?_)
                   clear hK K
                   refine norm_ (a' := ?_) ?_ ?_
                   rotate_left
                   ·show Act.put _ (some 135) _ = _
                    simp only [Act.put, List.setIfInBounds_toArray, List.set_cons_zero, List.set_cons_succ, i64_w, i32_w]
                    rfl
                   refine pure_ (i := 7) (N := some 136) (v := ?_) (a' := ?_) #[true, true, true, true, true, true, true, true, false, false, false, false, false, false, false, false, false, false, false] rfl rfl (any_of HT_.out (by kernel_rfl)) (fun _ _ _ h => h) (Or.inl ⟨by rfl, ?_⟩) ?_ ?_
                   rotate_left
                   ·intro w'
                    go_simp
                    with_reducible rfl
                   rotate_left
                   ·simp only [Act.put, List.setIfInBounds_toArray, List.set_cons_zero, List.set_cons_succ, i64_w, i32_w]
                    rfl
                   refine pure_ (i := 8) (N := some 137) (v := ?_) (a' := ?_) #[true, true, true, true, true, true, true, true, true, false, false, false, false, false, false, false, false, false, false] rfl rfl (any_of HT_.out (by kernel_rfl)) (fun _ _ _ h => h) (Or.inl ⟨by rfl, ?_⟩) ?_ ?_
                   rotate_left
                   ·intro w'
                    go_simp
                    with_reducible rfl
                   rotate_left
                   ·simp only [Act.put, List.setIfInBounds_toArray, List.set_cons_zero, List.set_cons_succ, i64_w, i32_w]
                    rfl
                   refine pure_ (i := 9) (N := some 138) (v := ?_) (a' := ?_) #[true, true, true, true, true, true, true, true, true, true, false, false, false, false, false, false, false, false, false] rfl rfl (any_of HT_.out (by kernel_rfl)) (fun _ _ _ h => h) (Or.inl ⟨by rfl, ?_⟩) ?_ ?_
                   rotate_left
                   ·intro w'
                    go_simp
                    with_reducible rfl
                   rotate_left
                   ·simp only [Act.put, List.setIfInBounds_toArray, List.set_cons_zero, List.set_cons_succ, i64_w, i32_w]
                    rfl
                   refine pure_ (i := 10) (N := some 139) (v := undef) (a' := ?_) #[true, true, true, true, true, true, true, true, true, true, true, false, false, false, false, false, false, false, false] rfl rfl (any_of HT_.out (by kernel_rfl)) (fun _ _ _ h => h) (Or.inr ⟨by rfl, rfl⟩) ?_ ?_
                   rotate_left
                   ·simp only [Act.put, List.setIfInBounds_toArray, List.set_cons_zero, List.set_cons_succ, i64_w, i32_w]
                    rfl
                   refine pure_ (i := 11) (N := some 140) (v := undef) (a' := ?_) #[true, true, true, true, true, true, true, true, true, true, true, true, false, false, false, false, false, false, false] rfl rfl (any_of HT_.out (by kernel_rfl)) (fun _ _ _ h => h) (Or.inr ⟨by rfl, rfl⟩) ?_ ?_
                   rotate_left
                   ·simp only [Act.put, List.setIfInBounds_toArray, List.set_cons_zero, List.set_cons_succ, i64_w, i32_w]
                    rfl
                   refine pure_ (i := 12) (N := some 141) (v := undef) (a' := ?_) #[true, true, true, true, true, true, true, true, true, true, true, true, true, false, false, false, false, false, false] rfl rfl (any_of HT_.out (by kernel_rfl)) (fun _ _ _ h => h) (Or.inr ⟨by rfl, rfl⟩) ?_ ?_
                   rotate_left
                   ·simp only [Act.put, List.setIfInBounds_toArray, List.set_cons_zero, List.set_cons_succ, i64_w, i32_w]
                    rfl
                   refine pure_ (i := 13) (N := some 142) (v := undef) (a' := ?_) #[true, true, true, true, true, true, true, true, true, true, true, true, true, true, false, false, false, false, false] rfl rfl (any_of HT_.out (by kernel_rfl)) (fun _ _ _ h => h) (Or.inr ⟨by rfl, rfl⟩) ?_ ?_
                   rotate_left
                   ·simp only [Act.put, List.setIfInBounds_toArray, List.set_cons_zero, List.set_cons_succ, i64_w, i32_w]
                    rfl
                   refine pure_ (i := 14) (N := some 143) (v := undef) (a' := ?_) #[true, true, true, true, true, true, true, true, true, true, true, true, true, true, true, false, false, false, false] rfl rfl (any_of HT_.out (by kernel_rfl)) (fun _ _ _ h => h) (Or.inr ⟨by rfl, rfl⟩) ?_ ?_
                   rotate_left
                   ·simp only [Act.put, List.setIfInBounds_toArray, List.set_cons_zero, List.set_cons_succ, i64_w, i32_w]
                    rfl
                   refine pure_ (i := 15) (N := some 144) (v := undef) (a' := ?_) #[true, true, true, true, true, true, true, true, true, true, true, true, true, true, true, true, false, false, false] rfl rfl (any_of HT_.out (by kernel_rfl)) (fun _ _ _ h => h) (Or.inr ⟨by rfl, rfl⟩) ?_ ?_
                   rotate_left
                   ·simp only [Act.put, List.setIfInBounds_toArray, List.set_cons_zero, List.set_cons_succ, i64_w, i32_w]
                    rfl
                   refine pure_ (i := 16) (N := some 145) (v := undef) (a' := ?_) #[true, true, true, true, true, true, true, true, true, true, true, true, true, true, true, true, true, false, false] rfl rfl (any_of HT_.out (by kernel_rfl)) (fun _ _ _ h => h) (Or.inr ⟨by rfl, rfl⟩) ?_ ?_
                   rotate_left
                   ·simp only [Act.put, List.setIfInBounds_toArray, List.set_cons_zero, List.set_cons_succ, i64_w, i32_w]
                    rfl
                   refine pure_ (i := 17) (N := some 146) (v := undef) (a' := ?_) #[true, true, true, true, true, true, true, true, true, true, true, true, true, true, true, true, true, true, false] rfl rfl (any_of HT_.out (by kernel_rfl)) (fun _ _ _ h => h) (Or.inr ⟨by rfl, rfl⟩) ?_ ?_
                   rotate_left
                   ·simp only [Act.put, List.setIfInBounds_toArray, List.set_cons_zero, List.set_cons_succ, i64_w, i32_w]
                    rfl
                   refine pure_ (i := 18) (N := some 147) (v := ?_) (a' := ?_) #[true, true, true, true, true, true, true, true, true, true, true, true, true, true, true, true, true, true, true] rfl rfl (any_of HT_.out (by kernel_rfl)) (fun _ _ _ h => h) (Or.inl ⟨by rfl, ?_⟩) ?_ ?_
                   rotate_left
                   ·intro w'
                    go_simp
                    with_reducible rfl
                   rotate_left
                   ·simp only [Act.put, List.setIfInBounds_toArray, List.set_cons_zero, List.set_cons_succ, i64_w, i32_w]
                    rfl
                   refine done_ (done_of HT_.out (by kernel_rfl)) ?_
                   have hnb93 := NB233_238.out
                   have hnc93 := NB238_233.out
                   have hcz94_0 : w92.cell? ⟨gb233, 0, none⟩ = some (.bool x234000_2) := (blk_cell BK233.out 0).trans rfl
                   have hcz94_1 : w92.cell? ⟨gb233, 1, none⟩ = some (.slice none 0 0) := (blk_cell BK233.out 1).trans rfl
                   have hcz94_2 : w92.cell? ⟨gb233, 2, none⟩ = some (.slice none 0 0) := (blk_cell BK233.out 2).trans rfl
                   have hcz94_3 : w92.cell? ⟨gb233, 3, none⟩ = some (.slice none 0 0) := (blk_cell BK233.out 3).trans rfl
                   have hfz94_0 := blk_frozen BK233.out 0
                   have hfz94_1 := blk_frozen BK233.out 1
                   have hfz94_2 := blk_frozen BK233.out 2
                   have hfz94_3 := blk_frozen BK233.out 3
                   try go_wp2
                   refine bodyPost_ret (results_ct rfl _ _ gb233 26 #[.bool false, .slice none 0 0, .slice none 0 0, .slice none 0 0] (0, 0) _ rfl (by (with_reducible repeat (first | refine blk_drewN ?_ _ | refine blk_drew ?_ | refine blk_alloc ?_ _)); refine blk_put (cs := #[.bool false, .slice none 0 0, .slice none 0 0, .slice none 0 0]) ?_ 3 _ rfl; (with_reducible repeat (first | refine blk_drewN ?_ _ | refine blk_drew ?_ | refine blk_alloc ?_ _)); refine blk_put (cs := #[.bool false, .slice none 0 0, .slice none 0 0, .slice none 0 0]) ?_ 2 _ rfl; (with_reducible repeat (first | refine blk_drewN ?_ _ | refine blk_drew ?_ | refine blk_alloc ?_ _)); refine blk_put (cs := #[.bool false, .slice none 0 0, .slice none 0 0, .slice none 0 0]) ?_ 1 _ rfl; (with_reducible repeat (first | refine blk_drewN ?_ _ | refine blk_drew ?_ | refine blk_alloc ?_ _)); refine blk_put (cs := #[.bool x234000_2, .slice none 0 0, .slice none 0 0, .slice none 0 0]) ?_ 0 _ rfl; (with_reducible repeat (first | refine blk_drewN ?_ _ | refine blk_drew ?_ | refine blk_alloc ?_ _)); exact BK233.out) Try.underlying26 rfl (by kernel_rfl)) rfl ?_
                   exact ⟨_, _, _, by first | rfl | (simp [errW_none, errW_some] <;> rfl) | (simp [*, errW_none, errW_some] <;> rfl), by first | exact Kd.R_nil _ _ _ _ _ | exact Kd.N_nil _ _ _ _ _ | exact Kd.V_nil _ _ _ _ _ | exact Kd.Q_nil _ _ _ _ _ | exact Kd.S_nil _ _ _ _ _, by first | exact Kd.R_nil _ _ _ _ _ | exact Kd.N_nil _ _ _ _ _ | exact Kd.V_nil _ _ _ _ _ | exact Kd.Q_nil _ _ _ _ _ | exact Kd.S_nil _ _ _ _ _, by first | exact Kd.R_nil _ _ _ _ _ | exact Kd.N_nil _ _ _ _ _ | exact Kd.V_nil _ _ _ _ _ | exact Kd.Q_nil _ _ _ _ _ | exact Kd.S_nil _ _ _ _ _, by repeat (first | (with_reducible first | exact HB.out | apply below_alloc | apply pw_below_drewN | apply below_drew1 | refine below_set ?_ GE233.out | refine below_set ?_ GE238.out) | exact HB.out)⟩
      ·rw [if_neg c12] at H
       exact absurd H (by simp)
     ·rw [if_neg c11] at H
      exact absurd H (by simp)
    ·rw [if_neg c10] at H
     exact absurd H (by simp)
end Go.Proofs.Ytjhenmegcgnkgaa.PNode
