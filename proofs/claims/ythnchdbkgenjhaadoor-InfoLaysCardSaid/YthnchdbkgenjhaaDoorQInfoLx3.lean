-- printed with xprint.py over the kit's print
import Derived.Test.YthnchdbkgenjhaaDoorQInfoLx0
import Derived.Test.YthnchdbkgenjhaaDoorQInfoLx1
import Derived.Test.YthnchdbkgenjhaaDoorQInfoLx2
namespace Go.Proofs.YthnchdbkgenjhaaDoor.PInfoL
open Go.RowKit Go.Proofs.YthnchdbkgenjhaaDoorW.PrintWords Go.Proofs.YthnchdbkgenjhaaDoorW.PrintLast Go.Proofs.YthnchdbkgenjhaaDoorW.PrintMore
attribute [local go_sem] max2_int min2_int max_two min_two max_three min_three max_four min_four   -- for this text's walks alone
set_option linter.unusedVariables false
set_option linter.unusedSimpArgs false
mutual
def chandlerylaw22_InfoLays.j0 : Nat → ByteArray → ByteArray → Int → List Int → Int → Bool → ByteArray → Int → List ByteArray → Option (Bool)
 | 0, _, _, _, _, _, _, _, _, _ => none
 | k + 1, x0, x7, x8, x9, x11, x52, x146000, x146001, x146002 => if x52 = true then (some false) else ((chandleryref22_Plain.f x146000 x146001 x146002).bind fun t163 => (if (t163 != (x8 == 0)) = true then (chandlerylaw22_InfoLays.j1 k x0 x9 x11 true x146000 x146001 x146002) else (if x8 = 0 then ((chandleryref22_Value.f x146000 x146001 x146002).bind fun t164 => (if x7.toList = t164.toList then (chandlerylaw22_InfoLays.j1 k x0 x9 x11 false x146000 x146001 x146002) else (chandlerylaw22_InfoLays.j1 k x0 x9 x11 true x146000 x146001 x146002))) else (if x8 = 1 then (chandlerylaw22_InfoLays.j1 k x0 x9 x11 (x7.toList != ([] : List UInt8)) x146000 x146001 x146002) else (chandlerylaw22_InfoLays.j1 k x0 x9 x11 true x146000 x146001 x146002)))))
def chandlerylaw22_InfoLays.j1 : Nat → ByteArray → List Int → Int → Bool → ByteArray → Int → List ByteArray → Option (Bool)
 | 0, _, _, _, _, _, _, _ => none
 | k + 1, x0, x9, x11, x79, x146000, x146001, x146002 => if x79 = true then (some false) else (if x11 = 0 then ((chandlerylaw22_awake.f k).bind fun t165 => (if t165 = true then ((chandleryref22_Bytes.f x0 x146000 x146001 x146002).bind fun t166 => (some ((strOfNums x9).toList == (strOfNums t166).toList))) else (some false))) else ((chandlerylaw22_awake.f k).bind fun t169 => (if t169 = true then (some ((x9.length : Int) == 0)) else (some false))))
end
def chandlerylaw22_InfoLays.f (k : Nat) (a0 : ByteArray) (a1_0 : ByteArray) (a1_1 : Int) (l1_2 : List ByteArray) : Option (Bool) := (chandlerylaw22_few.f k a0 a1_0 a1_1 l1_2).bind fun t146 => (if t146 = true then ((some (([] : List ByteArray) : List ByteArray)).bind fun y148 => (if y148.length + l1_2.length < 8796093022208 then ((some (y148 ++ l1_2 : List ByteArray)).bind fun y151 => ((info_Check.f a0 a1_0 a1_1 y151).bind fun t154 => ((info_Value.f a1_0 a1_1 y151).bind fun bt155 => ((info_Bytes.f a0 a1_0 a1_1 y151).bind fun bt157 => ((chandleryref22_Check.f a0 a1_0 a1_1 l1_2).bind fun t161 => ((chandleryref22_Same.f k a1_0 a1_1 y151 a1_0 a1_1 l1_2).bind fun t162 => (if t162 = true then (if t154 = t161 then (chandlerylaw22_InfoLays.j0 k a0 bt155.1 bt155.2 bt157.1 t161 (bt157.2 != t161) a1_0 a1_1 l1_2) else (chandlerylaw22_InfoLays.j0 k a0 bt155.1 bt155.2 bt157.1 t161 true a1_0 a1_1 l1_2)) else (chandlerylaw22_InfoLays.j0 k a0 bt155.1 bt155.2 bt157.1 t161 true a1_0 a1_1 l1_2)))))))) else (none))) else (some true))
def chandlerylaw22_InfoLays.T15 : Bool × List (List Nat × List Nat) := (true, [([], []), ([0, 0], [0]), ([1], [1]), ([2, 1], [1, 2]), ([1], [1]), ([1], [1]), ([4, 5, 1, 1], [1, 4, 5]), ([6, 1], [1, 6]), ([3, 7, 1], [1, 3, 7]), ([1, 8], [1, 8]), ([9, 6, 0, 1, 2, 3, 4, 5, 6, 7, 8, 9], [9])])
def chandlerylaw22_InfoLays.B15 : List Nat := [0, 1, 3, 7, 3, 3, 51, 115, 255, 511, 1023]
theorem chandlerylaw22_InfoLays.tab15 : rtab .any (opsOf Tryd.f3 15) = chandlerylaw22_InfoLays.T15 := by kernel_rfl
theorem chandlerylaw22_InfoLays.bits15 : waitsOk chandlerylaw22_InfoLays.T15.2 chandlerylaw22_InfoLays.B15 = true := by kernel_rfl
set_option maxHeartbeats 8000000 in
set_option maxRecDepth 100000 in
theorem chandlerylaw22_InfoLays.calls (k : Nat) (a0 : ByteArray) (a1_0 : ByteArray) (a1_1 : Int) (A1_2 : Option Addr) (c1_2 : Nat) (l1_2 : List ByteArray) (r : Bool) (w : World) (hr1_2 : Kd.C Kd.string w A1_2 l1_2.length l1_2) (hc1_2 : l1_2.length ≤ c1_2) (h : chandlerylaw22_InfoLays.f k a0 a1_0 a1_1 l1_2 = some r) :
  Calls Tryd.prog 3 #[.string a0, .agg #[.string a1_0, .int .i64 a1_1, .slice A1_2 l1_2.length c1_2]] w fun e w' => e = .returned (.bool r) ∧ Below w.heap.size w w' := by
 have hu24 := Tryd.underlying24
 have HR1_2 := Aside0.mk hr1_2
 have HC1_2 := Aside0.mk hc1_2
 clear hr1_2 hc1_2
 have HB := Aside0.mk (Below.refl w.heap.size w)
 have H : ((chandlerylaw22_few.f k a0 a1_0 a1_1 l1_2).bind fun t146 => (if t146 = true then ((some (([] : List ByteArray) : List ByteArray)).bind fun y148 => (if y148.length + l1_2.length < 8796093022208 then ((some (y148 ++ l1_2 : List ByteArray)).bind fun y151 => ((info_Check.f a0 a1_0 a1_1 y151).bind fun t154 => ((info_Value.f a1_0 a1_1 y151).bind fun bt155 => ((info_Bytes.f a0 a1_0 a1_1 y151).bind fun bt157 => ((chandleryref22_Check.f a0 a1_0 a1_1 l1_2).bind fun t161 => ((chandleryref22_Same.f k a1_0 a1_1 y151 a1_0 a1_1 l1_2).bind fun t162 => (if t162 = true then (if t154 = t161 then (chandlerylaw22_InfoLays.j0 k a0 bt155.1 bt155.2 bt157.1 t161 (bt157.2 != t161) a1_0 a1_1 l1_2) else (chandlerylaw22_InfoLays.j0 k a0 bt155.1 bt155.2 bt157.1 t161 true a1_0 a1_1 l1_2)) else (chandlerylaw22_InfoLays.j0 k a0 bt155.1 bt155.2 bt157.1 t161 true a1_0 a1_1 l1_2)))))))) else (none))) else (some true))) = some r := h
 clear h
 replace H := Option.bind_eq_some_iff.mp H
 obtain ⟨t146, A30, H⟩ := H
 replace H : (if t146 = true then ((some (([] : List ByteArray) : List ByteArray)).bind fun y148 => (if y148.length + l1_2.length < 8796093022208 then ((some (y148 ++ l1_2 : List ByteArray)).bind fun y151 => ((info_Check.f a0 a1_0 a1_1 y151).bind fun t154 => ((info_Value.f a1_0 a1_1 y151).bind fun bt155 => ((info_Bytes.f a0 a1_0 a1_1 y151).bind fun bt157 => ((chandleryref22_Check.f a0 a1_0 a1_1 l1_2).bind fun t161 => ((chandleryref22_Same.f k a1_0 a1_1 y151 a1_0 a1_1 l1_2).bind fun t162 => (if t162 = true then (if t154 = t161 then (chandlerylaw22_InfoLays.j0 k a0 bt155.1 bt155.2 bt157.1 t161 (bt157.2 != t161) a1_0 a1_1 l1_2) else (chandlerylaw22_InfoLays.j0 k a0 bt155.1 bt155.2 bt157.1 t161 true a1_0 a1_1 l1_2)) else (chandlerylaw22_InfoLays.j0 k a0 bt155.1 bt155.2 bt157.1 t161 true a1_0 a1_1 l1_2)))))))) else (none))) else (some true)) = some r := H
 have A3 := Aside0.mk A30
 clear A30
 by_cases c4 : t146 = true
 ·subst c4
  have H1 : ((some (([] : List ByteArray) : List ByteArray)).bind fun y148 => (if y148.length + l1_2.length < 8796093022208 then ((some (y148 ++ l1_2 : List ByteArray)).bind fun y151 => ((info_Check.f a0 a1_0 a1_1 y151).bind fun t154 => ((info_Value.f a1_0 a1_1 y151).bind fun bt155 => ((info_Bytes.f a0 a1_0 a1_1 y151).bind fun bt157 => ((chandleryref22_Check.f a0 a1_0 a1_1 l1_2).bind fun t161 => ((chandleryref22_Same.f k a1_0 a1_1 y151 a1_0 a1_1 l1_2).bind fun t162 => (if t162 = true then (if t154 = t161 then (chandlerylaw22_InfoLays.j0 k a0 bt155.1 bt155.2 bt157.1 t161 (bt157.2 != t161) a1_0 a1_1 l1_2) else (chandlerylaw22_InfoLays.j0 k a0 bt155.1 bt155.2 bt157.1 t161 true a1_0 a1_1 l1_2)) else (chandlerylaw22_InfoLays.j0 k a0 bt155.1 bt155.2 bt157.1 t161 true a1_0 a1_1 l1_2)))))))) else (none))) = some r := by rw [if_pos rfl] at H; exact H
  clear H
  have H := H1
  clear H1
  obtain ⟨y148, hy148⟩ : ∃ y_ : List ByteArray, y_ = (([] : List ByteArray)) := ⟨_, rfl⟩
  replace H : (if y148.length + l1_2.length < 8796093022208 then ((some (y148 ++ l1_2 : List ByteArray)).bind fun y151 => ((info_Check.f a0 a1_0 a1_1 y151).bind fun t154 => ((info_Value.f a1_0 a1_1 y151).bind fun bt155 => ((info_Bytes.f a0 a1_0 a1_1 y151).bind fun bt157 => ((chandleryref22_Check.f a0 a1_0 a1_1 l1_2).bind fun t161 => ((chandleryref22_Same.f k a1_0 a1_1 y151 a1_0 a1_1 l1_2).bind fun t162 => (if t162 = true then (if t154 = t161 then (chandlerylaw22_InfoLays.j0 k a0 bt155.1 bt155.2 bt157.1 t161 (bt157.2 != t161) a1_0 a1_1 l1_2) else (chandlerylaw22_InfoLays.j0 k a0 bt155.1 bt155.2 bt157.1 t161 true a1_0 a1_1 l1_2)) else (chandlerylaw22_InfoLays.j0 k a0 bt155.1 bt155.2 bt157.1 t161 true a1_0 a1_1 l1_2)))))))) else (none)) = some r := by first | (rw [hy148]; with_reducible exact H) | (have H2_ := (Option.bind_some _ _).symm.trans H; rw [hy148]; with_reducible exact H2_) | (have H2_ := (Option.bind_some _ _).symm.trans H; with_reducible exact H2_) | with_reducible exact H | (rw [hy148]; exact H) | exact H
  have Ny148 := Aside0.mk hy148
  clear hy148
  by_cases c5 : y148.length + l1_2.length < 8796093022208
  ·rw [if_pos c5] at H
   have LMc5 := Aside0.mk c5
   clear c5
   obtain ⟨y151, hy151⟩ : ∃ y_ : List ByteArray, y_ = (y148 ++ l1_2) := ⟨_, rfl⟩
   replace H : ((info_Check.f a0 a1_0 a1_1 y151).bind fun t154 => ((info_Value.f a1_0 a1_1 y151).bind fun bt155 => ((info_Bytes.f a0 a1_0 a1_1 y151).bind fun bt157 => ((chandleryref22_Check.f a0 a1_0 a1_1 l1_2).bind fun t161 => ((chandleryref22_Same.f k a1_0 a1_1 y151 a1_0 a1_1 l1_2).bind fun t162 => (if t162 = true then (if t154 = t161 then (chandlerylaw22_InfoLays.j0 k a0 bt155.1 bt155.2 bt157.1 t161 (bt157.2 != t161) a1_0 a1_1 l1_2) else (chandlerylaw22_InfoLays.j0 k a0 bt155.1 bt155.2 bt157.1 t161 true a1_0 a1_1 l1_2)) else (chandlerylaw22_InfoLays.j0 k a0 bt155.1 bt155.2 bt157.1 t161 true a1_0 a1_1 l1_2))))))) = some r := by first | (rw [hy151]; with_reducible exact H) | (have H2_ := (Option.bind_some _ _).symm.trans H; rw [hy151]; with_reducible exact H2_) | (have H2_ := (Option.bind_some _ _).symm.trans H; with_reducible exact H2_) | with_reducible exact H | (rw [hy151]; exact H) | exact H
   have Ny151 := Aside0.mk hy151
   clear hy151
   replace H := Option.bind_eq_some_iff.mp H
   obtain ⟨t154, A60, H⟩ := H
   replace H : ((info_Value.f a1_0 a1_1 y151).bind fun bt155 => ((info_Bytes.f a0 a1_0 a1_1 y151).bind fun bt157 => ((chandleryref22_Check.f a0 a1_0 a1_1 l1_2).bind fun t161 => ((chandleryref22_Same.f k a1_0 a1_1 y151 a1_0 a1_1 l1_2).bind fun t162 => (if t162 = true then (if t154 = t161 then (chandlerylaw22_InfoLays.j0 k a0 bt155.1 bt155.2 bt157.1 t161 (bt157.2 != t161) a1_0 a1_1 l1_2) else (chandlerylaw22_InfoLays.j0 k a0 bt155.1 bt155.2 bt157.1 t161 true a1_0 a1_1 l1_2)) else (chandlerylaw22_InfoLays.j0 k a0 bt155.1 bt155.2 bt157.1 t161 true a1_0 a1_1 l1_2)))))) = some r := H
   have A6 := Aside0.mk A60
   clear A60
   replace H := Option.bind_eq_some_iff.mp H
   obtain ⟨⟨t155, t156⟩, A70, H⟩ := H
   replace H : ((info_Bytes.f a0 a1_0 a1_1 y151).bind fun bt157 => ((chandleryref22_Check.f a0 a1_0 a1_1 l1_2).bind fun t161 => ((chandleryref22_Same.f k a1_0 a1_1 y151 a1_0 a1_1 l1_2).bind fun t162 => (if t162 = true then (if t154 = t161 then (chandlerylaw22_InfoLays.j0 k a0 t155 t156 bt157.1 t161 (bt157.2 != t161) a1_0 a1_1 l1_2) else (chandlerylaw22_InfoLays.j0 k a0 t155 t156 bt157.1 t161 true a1_0 a1_1 l1_2)) else (chandlerylaw22_InfoLays.j0 k a0 t155 t156 bt157.1 t161 true a1_0 a1_1 l1_2))))) = some r := H
   have A7 := Aside0.mk A70
   clear A70
   replace H := Option.bind_eq_some_iff.mp H
   obtain ⟨⟨t157, t160⟩, A80, H⟩ := H
   replace H : ((chandleryref22_Check.f a0 a1_0 a1_1 l1_2).bind fun t161 => ((chandleryref22_Same.f k a1_0 a1_1 y151 a1_0 a1_1 l1_2).bind fun t162 => (if t162 = true then (if t154 = t161 then (chandlerylaw22_InfoLays.j0 k a0 t155 t156 t157 t161 (t160 != t161) a1_0 a1_1 l1_2) else (chandlerylaw22_InfoLays.j0 k a0 t155 t156 t157 t161 true a1_0 a1_1 l1_2)) else (chandlerylaw22_InfoLays.j0 k a0 t155 t156 t157 t161 true a1_0 a1_1 l1_2)))) = some r := H
   have A8 := Aside0.mk A80
   clear A80
   replace H := Option.bind_eq_some_iff.mp H
   obtain ⟨t161, A90, H⟩ := H
   replace H : ((chandleryref22_Same.f k a1_0 a1_1 y151 a1_0 a1_1 l1_2).bind fun t162 => (if t162 = true then (if t154 = t161 then (chandlerylaw22_InfoLays.j0 k a0 t155 t156 t157 t161 (t160 != t161) a1_0 a1_1 l1_2) else (chandlerylaw22_InfoLays.j0 k a0 t155 t156 t157 t161 true a1_0 a1_1 l1_2)) else (chandlerylaw22_InfoLays.j0 k a0 t155 t156 t157 t161 true a1_0 a1_1 l1_2))) = some r := H
   have A9 := Aside0.mk A90
   clear A90
   have HC10 := Aside0.mk H
   clear H
   go_enter Tryd.func3, Tryd.ntmps3
   go_upto_region 9 with (first | ((with_reducible refine gate_dst (N := 3) rfl ?_); (try (refine gate_guard (by rfl) ?_; dsimp only)); refine box_event ?hg (N := 3) ?hd (cs := #[.string a1_0, .int .i64 a1_1, .slice A1_2 l1_2.length c1_2]) (t := 24) ?hr ?_; (case hd => rfl); (case hg => rfl); (case hr => first | (go_simp; done) | (go_simp; rfl)); intro gb145 hg w11 hbox hb; have n0_ := Aside0.mk (below_step (by repeat (first | (with_reducible first | exact HB.out | apply below_alloc | apply pw_below_drewN | apply below_drew1) | exact HB.out)) hb); have n1_ := Aside0.mk (hbox); have n2_ := Aside0.mk ((by rw [hg]; exact (below_size (by repeat (first | (with_reducible first | exact HB.out | apply below_alloc | apply pw_below_drewN | apply below_drew1) | exact HB.out))) : w.heap.size ≤ gb145)); have n3_ := Aside0.mk ((by rw [hg]; exact (below_size (by repeat (first | (with_reducible first | exact HB.out | apply below_alloc | apply pw_below_drewN | apply below_drew1) | exact HB.out))) : w.heap.size ≤ gb145)); clear HB; have HB := n0_; have BK145 := n1_; have GW145 := n2_; have GE145 := n3_; clear n0_ n1_ n2_ n3_; clear hb hbox hg; have hcz12_0 : w11.cell? ⟨gb145, 0, none⟩ = some (.string a1_0) := (blk_cell BK145.out 0).trans rfl; have hcz12_1 : w11.cell? ⟨gb145, 1, none⟩ = some (.int .i64 a1_1) := (blk_cell BK145.out 1).trans rfl; have hcz12_2 : w11.cell? ⟨gb145, 2, none⟩ = some (.slice A1_2 l1_2.length c1_2) := (blk_cell BK145.out 2).trans rfl; have hfz12_0 := blk_frozen BK145.out 0; have hfz12_1 := blk_frozen BK145.out 1; have hfz12_2 := blk_frozen BK145.out 2) | ((with_reducible refine gate_callee (f := 7) rfl ?_); refine goesL_ (some 14) rfl rfl Tryd.func7 (by kernel_rfl) rfl #[.string a0, .agg #[.string a1_0, .int .i64 a1_1, .slice A1_2 l1_2.length c1_2]] rfl (by (try simp only [List.map_toArray, List.map_cons, List.map_nil]); first | done | rfl | (simp only [List.length_drop, List.length_take]; rfl)) ?_; (with_reducible refine (chandlerylaw22_few.calls k a0 a1_0 a1_1 _ _ l1_2 true _ ?side1 ?side2 A3.out).mono ?_); (case side1 => repeat (first | exact (Kd.C_below HR1_2.out HB.out) | (with_reducible refine Kd.C_alloc ?_ _) | (with_reducible refine Kd.C_drewN ?_ _) | (with_reducible refine Kd.C_drew ?_))); (case side2 => exact HC1_2.out); rintro e w13 ⟨rfl, hb⟩; refine ⟨_, rfl, ?_⟩; have n0_ := Aside0.mk (blk_below (g := gb145) (o := .cells #[.string a1_0, .int .i64 a1_1, .slice A1_2 l1_2.length c1_2] 24 (0, 0)) (by (with_reducible repeat (first | refine blk_drewN ?_ _ | refine blk_drew ?_ | refine blk_alloc ?_ _)); exact BK145.out) hb); have n1_ := Aside0.mk (below_step (by repeat (first | (with_reducible first | exact HB.out | apply below_alloc | apply pw_below_drewN | apply below_drew1 | refine below_set ?_ GE145.out) | exact HB.out)) hb); clear BK145; clear HB; have BK145 := n0_; have HB := n1_; clear n0_ n1_; (try clear hb); (try clear hb2); (try clear hk); (try clear hi); have hcz14_0 : w13.cell? ⟨gb145, 0, none⟩ = some (.string a1_0) := (blk_cell BK145.out 0).trans rfl; have hcz14_1 : w13.cell? ⟨gb145, 1, none⟩ = some (.int .i64 a1_1) := (blk_cell BK145.out 1).trans rfl; have hcz14_2 : w13.cell? ⟨gb145, 2, none⟩ = some (.slice A1_2 l1_2.length c1_2) := (blk_cell BK145.out 2).trans rfl; have hfz14_0 := blk_frozen BK145.out 0; have hfz14_1 := blk_frozen BK145.out 1; have hfz14_2 := blk_frozen BK145.out 2) | ((with_reducible refine gate_dst (N := 5) rfl ?_); (try (refine gate_guard (by rfl) ?_; dsimp only)); refine box_event ?hg (N := 5) ?hd (cs := #[.string (⟨#[]⟩ : ByteArray), .int .i64 0, .slice none 0 0]) (t := 24) ?hr ?_; (case hd => rfl); (case hg => rfl); (case hr => first | (go_simp; done) | (go_simp; rfl)); intro gb147 hg w15 hbox hb; have n0_ := Aside0.mk (blk_below (g := gb145) (o := .cells #[.string a1_0, .int .i64 a1_1, .slice A1_2 l1_2.length c1_2] 24 (0, 0)) (by (with_reducible repeat (first | refine blk_drewN ?_ _ | refine blk_drew ?_ | refine blk_alloc ?_ _)); exact BK145.out) hb); have n1_ := Aside0.mk (below_step (by repeat (first | (with_reducible first | exact HB.out | apply below_alloc | apply pw_below_drewN | apply below_drew1 | refine below_set ?_ GE145.out) | exact HB.out)) hb); have n2_ := Aside0.mk (hbox); have n3_ := Aside0.mk ((by rw [hg]; exact (below_size (by repeat (first | (with_reducible first | exact HB.out | apply below_alloc | apply pw_below_drewN | apply below_drew1 | refine below_set ?_ GE145.out) | exact HB.out))) : w.heap.size ≤ gb147)); have n4_ := Aside0.mk ((by rw [hg]; exact (below_size (by repeat (first | (with_reducible first | exact HB.out | apply below_alloc | apply pw_below_drewN | apply below_drew1 | refine below_set ?_ GE145.out) | exact HB.out))) : w.heap.size ≤ gb147)); have n5_ := Aside0.mk ((by rw [hg]; exact Nat.ne_of_lt (blk_lt (g := gb145) (o := .cells #[.string a1_0, .int .i64 a1_1, .slice A1_2 l1_2.length c1_2] 24 (0, 0)) (by (with_reducible repeat (first | refine blk_drewN ?_ _ | refine blk_drew ?_ | refine blk_alloc ?_ _)); exact BK145.out)) : gb145 ≠ gb147)); have n6_ := Aside0.mk ((by rw [hg]; exact Nat.ne_of_gt (blk_lt (g := gb145) (o := .cells #[.string a1_0, .int .i64 a1_1, .slice A1_2 l1_2.length c1_2] 24 (0, 0)) (by (with_reducible repeat (first | refine blk_drewN ?_ _ | refine blk_drew ?_ | refine blk_alloc ?_ _)); exact BK145.out)) : gb147 ≠ gb145)); clear BK145; clear HB; have BK145 := n0_; have HB := n1_; have BK147 := n2_; have GW147 := n3_; have GE147 := n4_; have NB145_147 := n5_; have NB147_145 := n6_; clear n0_ n1_ n2_ n3_ n4_ n5_ n6_; clear hb hbox hg; have hnb16 := NB147_145.out; have hnc16 := NB145_147.out; have hcz17_0 : w15.cell? ⟨gb147, 0, none⟩ = some (.string (⟨#[]⟩ : ByteArray)) := (blk_cell BK147.out 0).trans rfl; have hcz17_1 : w15.cell? ⟨gb147, 1, none⟩ = some (.int .i64 0) := (blk_cell BK147.out 1).trans rfl; have hcz17_2 : w15.cell? ⟨gb147, 2, none⟩ = some (.slice none 0 0) := (blk_cell BK147.out 2).trans rfl; have hfz17_0 := blk_frozen BK147.out 0; have hfz17_1 := blk_frozen BK147.out 1; have hfz17_2 := blk_frozen BK147.out 2) | ((with_reducible refine gate_dst (N := 17) rfl ?_); (try (refine gate_guard (by rfl) ?_; dsimp only)); refine Kd.R_lit Kd.string _ 9 ?hg (N := 17) ?hd (xs := ([] : List ByteArray)) (inner := []) (ok := fun _ => True) (okp := fun _ => True) ?hr ?hp (fun _ hk => hk) trivial (Below.refl _ _) (Nat.le_refl _) (by simp) ?_; (case hd => rfl); (case hg => rfl); (case hr => first | (go_simp; done) | (go_simp; rfl)); (case hp => exact (Reps.none _ _)); intro v149 w18 ho19 hb hg_ hnew_; clear hg_ hnew_; (first | rw [← Ny148.out] at ho19 | (simp only [Int.reduceToNat] at ho19; rw [← Ny148.out] at ho19)); have n0_ := Aside0.mk (Kd.R_lower ho19 (below_size (by repeat (first | (with_reducible first | exact HB.out | apply below_alloc | apply pw_below_drewN | apply below_drew1 | refine below_set ?_ GE145.out | refine below_set ?_ GE147.out) | exact HB.out)))); have n1_ := Aside0.mk (blk_below (g := gb145) (o := .cells #[.string a1_0, .int .i64 a1_1, .slice A1_2 l1_2.length c1_2] 24 (0, 0)) (by (with_reducible repeat (first | refine blk_drewN ?_ _ | refine blk_drew ?_ | refine blk_alloc ?_ _)); refine blk_far ?_ NB145_147.out _; (with_reducible repeat (first | refine blk_drewN ?_ _ | refine blk_drew ?_ | refine blk_alloc ?_ _)); refine blk_far ?_ NB145_147.out _; (with_reducible repeat (first | refine blk_drewN ?_ _ | refine blk_drew ?_ | refine blk_alloc ?_ _)); refine blk_far ?_ NB145_147.out _; (with_reducible repeat (first | refine blk_drewN ?_ _ | refine blk_drew ?_ | refine blk_alloc ?_ _)); exact BK145.out) hb); have n2_ := Aside0.mk (blk_below (g := gb147) (o := .cells #[.string a1_0, .int .i64 a1_1, .slice A1_2 l1_2.length c1_2] 24 (0, 0)) (by (with_reducible repeat (first | refine blk_drewN ?_ _ | refine blk_drew ?_ | refine blk_alloc ?_ _)); refine blk_put (cs := #[.string a1_0, .int .i64 a1_1, .slice none 0 0]) ?_ 2 _ rfl; (with_reducible repeat (first | refine blk_drewN ?_ _ | refine blk_drew ?_ | refine blk_alloc ?_ _)); refine blk_put (cs := #[.string a1_0, .int .i64 0, .slice none 0 0]) ?_ 1 _ rfl; (with_reducible repeat (first | refine blk_drewN ?_ _ | refine blk_drew ?_ | refine blk_alloc ?_ _)); refine blk_put (cs := #[.string (⟨#[]⟩ : ByteArray), .int .i64 0, .slice none 0 0]) ?_ 0 _ rfl; (with_reducible repeat (first | refine blk_drewN ?_ _ | refine blk_drew ?_ | refine blk_alloc ?_ _)); exact BK147.out) hb); have n3_ := Aside0.mk (below_step (by repeat (first | (with_reducible first | exact HB.out | apply below_alloc | apply pw_below_drewN | apply below_drew1 | refine below_set ?_ GE145.out | refine below_set ?_ GE147.out) | exact HB.out)) hb); clear BK145; clear BK147; clear HB; have HO150 := n0_; have BK145 := n1_; have BK147 := n2_; have HB := n3_; clear n0_ n1_ n2_ n3_; clear hb ho19; have hcz20_0 : w18.cell? ⟨gb145, 0, none⟩ = some (.string a1_0) := (blk_cell BK145.out 0).trans rfl; have hcz20_1 : w18.cell? ⟨gb145, 1, none⟩ = some (.int .i64 a1_1) := (blk_cell BK145.out 1).trans rfl; have hcz20_2 : w18.cell? ⟨gb145, 2, none⟩ = some (.slice A1_2 l1_2.length c1_2) := (blk_cell BK145.out 2).trans rfl; have hfz20_0 := blk_frozen BK145.out 0; have hfz20_1 := blk_frozen BK145.out 1; have hfz20_2 := blk_frozen BK145.out 2) | ((with_reducible refine gate_builtin (b := .append) (xs := #[.tmp 17, .tmp 19]) rfl ?_); (try (refine gate_guard (by rfl) ?_; dsimp only)); at_builtin; refine Kd.R_append_rows Kd.string (w0 := w) w.heap.size rfl (.tmp 17) (.tmp 19) 22 9 (.string ⟨#[]⟩) 16 rfl Tryd.underlying22 info9 rfl (by decide) (by omega) v149 y148 l1_2 _ _ _ (fun _ => True) (fun _ => False) rfl rfl ?aO ?aR (fun _ _ h => h) (fun _ h => h.elim) ?aF ?aB ?aS ?aL ?_; (case aR => repeat (first | exact (Kd.C_below HR1_2.out HB.out) | (with_reducible refine Kd.C_alloc ?_ _) | (with_reducible refine Kd.C_drewN ?_ _) | (with_reducible refine Kd.C_drew ?_))); (case aB => exact (by repeat (first | (with_reducible first | exact HB.out | apply below_alloc | apply pw_below_drewN | apply below_drew1 | refine below_set ?_ GE145.out | refine below_set ?_ GE147.out) | exact HB.out))); (case aF => exact (fun _ _ => trivial)); (case aO => exact (by (with_reducible repeat (first | apply Kd.R_alloc | apply Kd.R_drewN | apply Kd.R_drew)); exact HO150.out)); (case aS => exact (below_size (by repeat (first | (with_reducible first | exact HB.out | apply below_alloc | apply pw_below_drewN | apply below_drew1 | refine below_set ?_ GE145.out | refine below_set ?_ GE147.out) | exact HB.out)))); (case aL => have := LMc5.out; omega); intro v152 w21 ho hb hg hat; rw [← Ny151.out] at ho; have n0_ := Aside0.mk (blk_grown (g := gb145) (o := .cells #[.string a1_0, .int .i64 a1_1, .slice A1_2 l1_2.length c1_2] 24 (0, 0)) (by (with_reducible repeat (first | refine blk_drewN ?_ _ | refine blk_drew ?_ | refine blk_alloc ?_ _)); exact BK145.out) hg (Kd.R_ne HO150.out BK145.out (by decide))); have n1_ := Aside0.mk (blk_grown (g := gb147) (o := .cells #[.string a1_0, .int .i64 a1_1, .slice A1_2 l1_2.length c1_2] 24 (0, 0)) (by (with_reducible repeat (first | refine blk_drewN ?_ _ | refine blk_drew ?_ | refine blk_alloc ?_ _)); exact BK147.out) hg (Kd.R_ne HO150.out BK147.out (by decide))); have n2_ := Aside0.mk (hb); have n3_ := Aside0.mk (ho); clear BK145; clear BK147; clear HB; clear HO150; have BK145 := n0_; have BK147 := n1_; have HB := n2_; have HO153 := n3_; clear n0_ n1_ n2_ n3_; clear ho hb hg hat; obtain ⟨Ao22, co22, eo22⟩ := Kd.R_slice HO153.out; subst eo22; have hcz23_0 : w21.cell? ⟨gb147, 0, none⟩ = some (.string a1_0) := (blk_cell BK147.out 0).trans rfl; have hcz23_1 : w21.cell? ⟨gb147, 1, none⟩ = some (.int .i64 a1_1) := (blk_cell BK147.out 1).trans rfl; have hcz23_2 : w21.cell? ⟨gb147, 2, none⟩ = some (.slice A1_2 l1_2.length c1_2) := (blk_cell BK147.out 2).trans rfl; have hfz23_0 := blk_frozen BK147.out 0; have hfz23_1 := blk_frozen BK147.out 1; have hfz23_2 := blk_frozen BK147.out 2) | ((with_reducible refine gate_callee (f := 8) rfl ?_); refine goesL_ (some 24) rfl rfl Tryd.func8 (by kernel_rfl) rfl #[.string a0, .agg #[.string a1_0, .int .i64 a1_1, .slice Ao22 y151.length co22]] rfl (by (try simp only [List.map_toArray, List.map_cons, List.map_nil]); first | done | rfl | (simp only [List.length_drop, List.length_take]; rfl)) ?_; (with_reducible refine (info_Check.calls a0 a1_0 a1_1 _ _ y151 t154 _ ?side1 ?side2 A6.out).mono ?_); (case side1 => refine (Kd.R_reads' (e := 9) (base := w.heap.size) (ok := fun k_ => True) (n := y151.length) (c := co22) ?_).2.2; exact (by (with_reducible repeat (first | apply Kd.R_alloc | apply Kd.R_drewN | apply Kd.R_drew)); exact (Kd.R_mono (Kd.R_far (p := ⟨gb147, 2, none⟩) (Kd.R_types HO153.out BK147.out (by decide)) (fun _ hk => hk.2) (.slice Ao22 y151.length co22)) (fun _ h_ => h_.1)))); (case side2 => exact (Kd.R_reads' HO153.out).2.1); rintro e w24 ⟨rfl, hb⟩; refine ⟨_, rfl, ?_⟩; have n0_ := Aside0.mk (Kd.R_below (by (with_reducible repeat (first | apply Kd.R_alloc | apply Kd.R_drewN | apply Kd.R_drew)); exact (Kd.R_mono (Kd.R_far (p := ⟨gb147, 2, none⟩) (Kd.R_types HO153.out BK147.out (by decide)) (fun _ hk => hk.2) (.slice Ao22 y151.length co22)) (fun _ h_ => h_.1))) hb); have n1_ := Aside0.mk (blk_below (g := gb145) (o := .cells #[.string a1_0, .int .i64 a1_1, .slice A1_2 l1_2.length c1_2] 24 (0, 0)) (by (with_reducible repeat (first | refine blk_drewN ?_ _ | refine blk_drew ?_ | refine blk_alloc ?_ _)); refine blk_far ?_ NB145_147.out _; (with_reducible repeat (first | refine blk_drewN ?_ _ | refine blk_drew ?_ | refine blk_alloc ?_ _)); exact BK145.out) hb); have n2_ := Aside0.mk (blk_below (g := gb147) (o := .cells #[.string a1_0, .int .i64 a1_1, .slice Ao22 y151.length co22] 24 (0, 0)) (by (with_reducible repeat (first | refine blk_drewN ?_ _ | refine blk_drew ?_ | refine blk_alloc ?_ _)); refine blk_put (cs := #[.string a1_0, .int .i64 a1_1, .slice A1_2 l1_2.length c1_2]) ?_ 2 _ rfl; (with_reducible repeat (first | refine blk_drewN ?_ _ | refine blk_drew ?_ | refine blk_alloc ?_ _)); exact BK147.out) hb); have n3_ := Aside0.mk (below_step (by repeat (first | (with_reducible first | exact HB.out | apply below_alloc | apply pw_below_drewN | apply below_drew1 | refine below_set ?_ GE145.out | refine below_set ?_ GE147.out) | exact HB.out)) hb); clear HO153; clear BK145; clear BK147; clear HB; have HO153 := n0_; have BK145 := n1_; have BK147 := n2_; have HB := n3_; clear n0_ n1_ n2_ n3_; (try clear hb); (try clear hb2); (try clear hk); (try clear hi); have hcz25_0 : w24.cell? ⟨gb147, 0, none⟩ = some (.string a1_0) := (blk_cell BK147.out 0).trans rfl; have hcz25_1 : w24.cell? ⟨gb147, 1, none⟩ = some (.int .i64 a1_1) := (blk_cell BK147.out 1).trans rfl; have hcz25_2 : w24.cell? ⟨gb147, 2, none⟩ = some (.slice Ao22 y151.length co22) := (blk_cell BK147.out 2).trans rfl; have hfz25_0 := blk_frozen BK147.out 0; have hfz25_1 := blk_frozen BK147.out 1; have hfz25_2 := blk_frozen BK147.out 2) | ((with_reducible refine gate_callee (f := 9) rfl ?_); refine goesL_ (some 27) rfl rfl Tryd.func9 (by kernel_rfl) rfl #[.agg #[.string a1_0, .int .i64 a1_1, .slice Ao22 y151.length co22]] rfl (by (try simp only [List.map_toArray, List.map_cons, List.map_nil]); first | done | rfl | (simp only [List.length_drop, List.length_take]; rfl)) ?_; (with_reducible refine (info_Value.calls a1_0 a1_1 _ _ y151 t155 t156 _ ?side1 ?side2 A7.out).mono ?_); (case side1 => repeat (first | exact (Kd.R_reads' HO153.out).2.2 | (with_reducible refine Kd.C_alloc ?_ _) | (with_reducible refine Kd.C_drewN ?_ _) | (with_reducible refine Kd.C_drew ?_))); (case side2 => exact (Kd.R_reads' HO153.out).2.1); rintro e w26 ⟨rfl, hb⟩; refine ⟨_, rfl, ?_⟩; have n0_ := Aside0.mk (Kd.R_below (by (with_reducible repeat (first | apply Kd.R_alloc | apply Kd.R_drewN | apply Kd.R_drew)); exact HO153.out) hb); have n1_ := Aside0.mk (blk_below (g := gb145) (o := .cells #[.string a1_0, .int .i64 a1_1, .slice A1_2 l1_2.length c1_2] 24 (0, 0)) (by (with_reducible repeat (first | refine blk_drewN ?_ _ | refine blk_drew ?_ | refine blk_alloc ?_ _)); exact BK145.out) hb); have n2_ := Aside0.mk (blk_below (g := gb147) (o := .cells #[.string a1_0, .int .i64 a1_1, .slice Ao22 y151.length co22] 24 (0, 0)) (by (with_reducible repeat (first | refine blk_drewN ?_ _ | refine blk_drew ?_ | refine blk_alloc ?_ _)); exact BK147.out) hb); have n3_ := Aside0.mk (below_step (by repeat (first | (with_reducible first | exact HB.out | apply below_alloc | apply pw_below_drewN | apply below_drew1 | refine below_set ?_ GE145.out | refine below_set ?_ GE147.out) | exact HB.out)) hb); clear HO153; clear BK145; clear BK147; clear HB; have HO153 := n0_; have BK145 := n1_; have BK147 := n2_; have HB := n3_; clear n0_ n1_ n2_ n3_; (try clear hb); (try clear hb2); (try clear hk); (try clear hi); have hcz27_0 : w26.cell? ⟨gb147, 0, none⟩ = some (.string a1_0) := (blk_cell BK147.out 0).trans rfl; have hcz27_1 : w26.cell? ⟨gb147, 1, none⟩ = some (.int .i64 a1_1) := (blk_cell BK147.out 1).trans rfl; have hcz27_2 : w26.cell? ⟨gb147, 2, none⟩ = some (.slice Ao22 y151.length co22) := (blk_cell BK147.out 2).trans rfl; have hfz27_0 := blk_frozen BK147.out 0; have hfz27_1 := blk_frozen BK147.out 1; have hfz27_2 := blk_frozen BK147.out 2) | ((with_reducible refine gate_callee (f := 10) rfl ?_); refine goesL_ (some 33) rfl rfl Tryd.func10 (by kernel_rfl) rfl #[.string a0, .agg #[.string a1_0, .int .i64 a1_1, .slice Ao22 y151.length co22]] rfl (by (try simp only [List.map_toArray, List.map_cons, List.map_nil]); first | done | rfl | (simp only [List.length_drop, List.length_take]; rfl)) ?_; (with_reducible refine (info_Bytes.calls a0 a1_0 a1_1 _ _ y151 t157 t160 _ ?side1 ?side2 A8.out).mono ?_); (case side1 => repeat (first | exact (Kd.R_reads' HO153.out).2.2 | (with_reducible refine Kd.C_alloc ?_ _) | (with_reducible refine Kd.C_drewN ?_ _) | (with_reducible refine Kd.C_drew ?_))); (case side2 => exact (Kd.R_reads' HO153.out).2.1); rintro e w28 ⟨v158, rfl, ho0, hb⟩; refine ⟨_, rfl, ?_⟩; have n0_ := Aside0.mk (Kd.R_below (by (with_reducible repeat (first | apply Kd.R_alloc | apply Kd.R_drewN | apply Kd.R_drew)); exact HO153.out) hb); have n1_ := Aside0.mk (Kd.V_lower (Kd.V_mono (ok' := fun k_ => some k_ ≠ (.slice Ao22 y151.length co22 : Value).ownBlock ∧ k_ ≠ gb145 ∧ k_ ≠ gb147) (Go.Proofs.YthnchdbkgenjhaaDoorX.V_fresh ho0) (fun k_ hk_ => ⟨(Kd.fresh' (Kd.R_lt (by (with_reducible repeat (first | apply Kd.R_alloc | apply Kd.R_drewN | apply Kd.R_drew)); exact HO153.out)) k_ hk_.2.1), (Kd.freshB (g := gb145) (o := .cells #[.string a1_0, .int .i64 a1_1, .slice A1_2 l1_2.length c1_2] 24 (0, 0)) (by (with_reducible repeat (first | refine blk_drewN ?_ _ | refine blk_drew ?_ | refine blk_alloc ?_ _)); exact BK145.out) k_ hk_.2.1), (Kd.freshB (g := gb147) (o := .cells #[.string a1_0, .int .i64 a1_1, .slice Ao22 y151.length co22] 24 (0, 0)) (by (with_reducible repeat (first | refine blk_drewN ?_ _ | refine blk_drew ?_ | refine blk_alloc ?_ _)); exact BK147.out) k_ hk_.2.1)⟩)) (below_size (by repeat (first | (with_reducible first | exact HB.out | apply below_alloc | apply pw_below_drewN | apply below_drew1 | refine below_set ?_ GE145.out | refine below_set ?_ GE147.out) | exact HB.out)))); have n2_ := Aside0.mk (blk_below (g := gb145) (o := .cells #[.string a1_0, .int .i64 a1_1, .slice A1_2 l1_2.length c1_2] 24 (0, 0)) (by (with_reducible repeat (first | refine blk_drewN ?_ _ | refine blk_drew ?_ | refine blk_alloc ?_ _)); exact BK145.out) hb); have n3_ := Aside0.mk (blk_below (g := gb147) (o := .cells #[.string a1_0, .int .i64 a1_1, .slice Ao22 y151.length co22] 24 (0, 0)) (by (with_reducible repeat (first | refine blk_drewN ?_ _ | refine blk_drew ?_ | refine blk_alloc ?_ _)); exact BK147.out) hb); have n4_ := Aside0.mk (below_step (by repeat (first | (with_reducible first | exact HB.out | apply below_alloc | apply pw_below_drewN | apply below_drew1 | refine below_set ?_ GE145.out | refine below_set ?_ GE147.out) | exact HB.out)) hb); clear HO153; clear BK145; clear BK147; clear HB; have HO153 := n0_; have HO159 := n1_; have BK145 := n2_; have BK147 := n3_; have HB := n4_; clear n0_ n1_ n2_ n3_ n4_; (try clear hb); (try clear hb2); (try clear hk); (try clear hi); (try clear ho0); have hcz29_0 : w28.cell? ⟨gb145, 0, none⟩ = some (.string a1_0) := (blk_cell BK145.out 0).trans rfl; have hcz29_1 : w28.cell? ⟨gb145, 1, none⟩ = some (.int .i64 a1_1) := (blk_cell BK145.out 1).trans rfl; have hcz29_2 : w28.cell? ⟨gb145, 2, none⟩ = some (.slice A1_2 l1_2.length c1_2) := (blk_cell BK145.out 2).trans rfl; have hfz29_0 := blk_frozen BK145.out 0; have hfz29_1 := blk_frozen BK145.out 1; have hfz29_2 := blk_frozen BK145.out 2) | ((with_reducible refine gate_callee (f := 11) rfl ?_); refine goesL_ (some 38) rfl rfl Tryd.func11 (by kernel_rfl) rfl #[.string a0, .agg #[.string a1_0, .int .i64 a1_1, .slice A1_2 l1_2.length c1_2]] rfl (by (try simp only [List.map_toArray, List.map_cons, List.map_nil]); first | done | rfl | (simp only [List.length_drop, List.length_take]; rfl)) ?_; (with_reducible refine (chandleryref22_Check.calls a0 a1_0 a1_1 _ _ l1_2 t161 _ ?side1 ?side2 A9.out).mono ?_); (case side1 => repeat (first | exact (Kd.C_below HR1_2.out HB.out) | (with_reducible refine Kd.C_alloc ?_ _) | (with_reducible refine Kd.C_drewN ?_ _) | (with_reducible refine Kd.C_drew ?_))); (case side2 => exact HC1_2.out); rintro e w30 ⟨rfl, hb⟩; refine ⟨_, rfl, ?_⟩; have n0_ := Aside0.mk (Kd.R_below (by (with_reducible repeat (first | apply Kd.R_alloc | apply Kd.R_drewN | apply Kd.R_drew)); exact HO153.out) hb); have n1_ := Aside0.mk (Kd.V_below (by (with_reducible repeat (first | apply Kd.V_alloc | apply Kd.V_drewN | apply Kd.V_drew)); exact HO159.out) hb); have n2_ := Aside0.mk (blk_below (g := gb145) (o := .cells #[.string a1_0, .int .i64 a1_1, .slice A1_2 l1_2.length c1_2] 24 (0, 0)) (by (with_reducible repeat (first | refine blk_drewN ?_ _ | refine blk_drew ?_ | refine blk_alloc ?_ _)); exact BK145.out) hb); have n3_ := Aside0.mk (blk_below (g := gb147) (o := .cells #[.string a1_0, .int .i64 a1_1, .slice Ao22 y151.length co22] 24 (0, 0)) (by (with_reducible repeat (first | refine blk_drewN ?_ _ | refine blk_drew ?_ | refine blk_alloc ?_ _)); exact BK147.out) hb); have n4_ := Aside0.mk (below_step (by repeat (first | (with_reducible first | exact HB.out | apply below_alloc | apply pw_below_drewN | apply below_drew1 | refine below_set ?_ GE145.out | refine below_set ?_ GE147.out) | exact HB.out)) hb); clear HO153; clear HO159; clear BK145; clear BK147; clear HB; have HO153 := n0_; have HO159 := n1_; have BK145 := n2_; have BK147 := n3_; have HB := n4_; clear n0_ n1_ n2_ n3_ n4_; (try clear hb); (try clear hb2); (try clear hk); (try clear hi)))
   (try simp only [Act.put, List.setIfInBounds_toArray, List.set_cons_zero, List.set_cons_succ])
   go_cut [52] (fun v52 wc => ∃ (kq : Nat) (x52_9 : Bool), v52 = .bool x52_9 ∧ Aside0 (chandlerylaw22_InfoLays.j0 kq a0 t155 t156 t157 t161 x52_9 a1_0 a1_1 l1_2 = some r) ∧ Aside0 (kq ≤ k) ∧ Aside0 (Kd.V (Kd.int .u8) 5 wc w.heap.size (fun k_ => some k_ ≠ ((.slice Ao22 y151.length co22) : Value).ownBlock ∧ k_ ≠ gb145 ∧ k_ ≠ gb147) v158 t157) ∧ Aside0 (Kd.R Kd.string 9 wc w.heap.size (fun _ => True) (.slice Ao22 y151.length co22) y151) ∧ Aside0 (wc.heap[gb145]? = some (.cells #[.string a1_0, .int .i64 a1_1, (.slice A1_2 l1_2.length c1_2)] 24 (0, 0))) ∧ Aside0 (wc.heap[gb147]? = some (.cells #[.string a1_0, .int .i64 a1_1, (.slice Ao22 y151.length co22)] 24 (0, 0))) ∧ Aside0 (Below w.heap.size w wc))
   case first =>
    have H := HC10.out
    clear HC10
    replace H := Option.bind_eq_some_iff.mp H
    obtain ⟨t162, A310, H⟩ := H
    replace H : (if t162 = true then (if t154 = t161 then (chandlerylaw22_InfoLays.j0 k a0 t155 t156 t157 t161 (t160 != t161) a1_0 a1_1 l1_2) else (chandlerylaw22_InfoLays.j0 k a0 t155 t156 t157 t161 true a1_0 a1_1 l1_2)) else (chandlerylaw22_InfoLays.j0 k a0 t155 t156 t157 t161 true a1_0 a1_1 l1_2)) = some r := H
    have A31 := Aside0.mk A310
    clear A310
    by_cases c32 : t162 = true
    ·subst c32
     have H1 : (if t154 = t161 then (chandlerylaw22_InfoLays.j0 k a0 t155 t156 t157 t161 (t160 != t161) a1_0 a1_1 l1_2) else (chandlerylaw22_InfoLays.j0 k a0 t155 t156 t157 t161 true a1_0 a1_1 l1_2)) = some r := by rw [if_pos rfl] at H; exact H
     clear H
     have H := H1
     clear H1
     by_cases c33 : t154 = t161
     ·rw [if_pos c33] at H
      have c33b0 : (t154 == t161) = true := beq_iff_eq.mpr c33
      have c33b1 : (t154 != t161) = false := bne_eq_false_iff_eq.mpr c33
      clear c33
      (first | rw [c33b0] | (simp only [i64_w, i32_w]; rw [c33b0]) | skip)
      have H' := Aside0.mk H
      clear H
      have hnb34 := NB147_145.out
      have hnc34 := NB145_147.out
      have hcz35_0 : w30.cell? ⟨gb147, 0, none⟩ = some (.string a1_0) := (blk_cell BK147.out 0).trans rfl
      have hcz35_1 : w30.cell? ⟨gb147, 1, none⟩ = some (.int .i64 a1_1) := (blk_cell BK147.out 1).trans rfl
      have hcz35_2 : w30.cell? ⟨gb147, 2, none⟩ = some (.slice Ao22 y151.length co22) := (blk_cell BK147.out 2).trans rfl
      have hfz35_0 := blk_frozen BK147.out 0
      have hfz35_1 := blk_frozen BK147.out 1
      have hfz35_2 := blk_frozen BK147.out 2
      have hcz36_0 : w30.cell? ⟨gb145, 0, none⟩ = some (.string a1_0) := (blk_cell BK145.out 0).trans rfl
      have hcz36_1 : w30.cell? ⟨gb145, 1, none⟩ = some (.int .i64 a1_1) := (blk_cell BK145.out 1).trans rfl
      have hcz36_2 : w30.cell? ⟨gb145, 2, none⟩ = some (.slice A1_2 l1_2.length c1_2) := (blk_cell BK145.out 2).trans rfl
      have hfz36_0 := blk_frozen BK145.out 0
      have hfz36_1 := blk_frozen BK145.out 1
      have hfz36_2 := blk_frozen BK145.out 2
      go_wp2_with (first | ((with_reducible refine gate_callee (f := 12) rfl ?_); refine goesL_ (some 41) rfl rfl Tryd.func12 (by kernel_rfl) rfl #[.agg #[.string a1_0, .int .i64 a1_1, .slice Ao22 y151.length co22], .agg #[.string a1_0, .int .i64 a1_1, .slice A1_2 l1_2.length c1_2]] rfl (by (try simp only [List.map_toArray, List.map_cons, List.map_nil]); first | done | rfl | (simp only [List.length_drop, List.length_take]; rfl)) ?_; (with_reducible refine (chandleryref22_Same.calls k a1_0 a1_1 _ _ y151 a1_0 a1_1 _ _ l1_2 true _ ?side1 ?side2 ?side3 ?side4 A31.out).mono ?_); (case side1 => repeat (first | exact (Kd.R_reads' HO153.out).2.2 | (with_reducible refine Kd.C_alloc ?_ _) | (with_reducible refine Kd.C_drewN ?_ _) | (with_reducible refine Kd.C_drew ?_))); (case side2 => exact (Kd.R_reads' HO153.out).2.1); (case side3 => repeat (first | exact (Kd.C_below HR1_2.out HB.out) | (with_reducible refine Kd.C_alloc ?_ _) | (with_reducible refine Kd.C_drewN ?_ _) | (with_reducible refine Kd.C_drew ?_))); (case side4 => exact HC1_2.out); rintro e w37 ⟨rfl, hb⟩; refine ⟨_, rfl, ?_⟩; have n0_ := Aside0.mk (Kd.R_below (by (with_reducible repeat (first | apply Kd.R_alloc | apply Kd.R_drewN | apply Kd.R_drew)); exact HO153.out) hb); have n1_ := Aside0.mk (Kd.V_below (by (with_reducible repeat (first | apply Kd.V_alloc | apply Kd.V_drewN | apply Kd.V_drew)); exact HO159.out) hb); have n2_ := Aside0.mk (blk_below (g := gb145) (o := .cells #[.string a1_0, .int .i64 a1_1, .slice A1_2 l1_2.length c1_2] 24 (0, 0)) (by (with_reducible repeat (first | refine blk_drewN ?_ _ | refine blk_drew ?_ | refine blk_alloc ?_ _)); exact BK145.out) hb); have n3_ := Aside0.mk (blk_below (g := gb147) (o := .cells #[.string a1_0, .int .i64 a1_1, .slice Ao22 y151.length co22] 24 (0, 0)) (by (with_reducible repeat (first | refine blk_drewN ?_ _ | refine blk_drew ?_ | refine blk_alloc ?_ _)); exact BK147.out) hb); have n4_ := Aside0.mk (below_step (by repeat (first | (with_reducible first | exact HB.out | apply below_alloc | apply pw_below_drewN | apply below_drew1 | refine below_set ?_ GE145.out | refine below_set ?_ GE147.out) | exact HB.out)) hb); clear HO153; clear HO159; clear BK145; clear BK147; clear HB; have HO153 := n0_; have HO159 := n1_; have BK145 := n2_; have BK147 := n3_; have HB := n4_; clear n0_ n1_ n2_ n3_ n4_; (try clear hb); (try clear hb2); (try clear hk); (try clear hi)))
      go_meet
      case rel => exact ⟨_, ((t160 != t161)), (by first | rfl | (simp; done) | exact congrArg Value.bool (Go.Proofs.YthnchdbkgenjhaaDoorX.isEmpty_ne_ _) | exact congrArg Value.bool (Go.Proofs.YthnchdbkgenjhaaDoorX.ne_isEmpty_ _) | (simp [*]; done)), H', ⟨by first | omega | exact Nat.le_refl _⟩, ⟨by (with_reducible repeat (first | apply Kd.V_alloc | apply Kd.V_drewN | apply Kd.V_drew)); exact HO159.out⟩, ⟨by (with_reducible repeat (first | apply Kd.R_alloc | apply Kd.R_drewN | apply Kd.R_drew)); exact HO153.out⟩, ⟨by (with_reducible repeat (first | refine blk_drewN ?_ _ | refine blk_drew ?_ | refine blk_alloc ?_ _)); exact BK145.out⟩, ⟨by (with_reducible repeat (first | refine blk_drewN ?_ _ | refine blk_drew ?_ | refine blk_alloc ?_ _)); exact BK147.out⟩, ⟨by repeat (first | (with_reducible first | exact HB.out | apply below_alloc | apply pw_below_drewN | apply below_drew1 | refine below_set ?_ GE145.out | refine below_set ?_ GE147.out) | exact HB.out)⟩⟩
     ·rw [if_neg c33] at H
      have c33b0 : (t154 == t161) = false := beq_eq_false_iff_ne.mpr c33
      have c33b1 : (t154 != t161) = true := bne_iff_ne.mpr c33
      (first | rw [c33b0] | (simp only [i64_w, i32_w]; rw [c33b0]) | skip)
      have H' := Aside0.mk H
      clear H
      have hnb38 := NB147_145.out
      have hnc38 := NB145_147.out
      have hcz39_0 : w30.cell? ⟨gb147, 0, none⟩ = some (.string a1_0) := (blk_cell BK147.out 0).trans rfl
      have hcz39_1 : w30.cell? ⟨gb147, 1, none⟩ = some (.int .i64 a1_1) := (blk_cell BK147.out 1).trans rfl
      have hcz39_2 : w30.cell? ⟨gb147, 2, none⟩ = some (.slice Ao22 y151.length co22) := (blk_cell BK147.out 2).trans rfl
      have hfz39_0 := blk_frozen BK147.out 0
      have hfz39_1 := blk_frozen BK147.out 1
      have hfz39_2 := blk_frozen BK147.out 2
      have hcz40_0 : w30.cell? ⟨gb145, 0, none⟩ = some (.string a1_0) := (blk_cell BK145.out 0).trans rfl
      have hcz40_1 : w30.cell? ⟨gb145, 1, none⟩ = some (.int .i64 a1_1) := (blk_cell BK145.out 1).trans rfl
      have hcz40_2 : w30.cell? ⟨gb145, 2, none⟩ = some (.slice A1_2 l1_2.length c1_2) := (blk_cell BK145.out 2).trans rfl
      have hfz40_0 := blk_frozen BK145.out 0
      have hfz40_1 := blk_frozen BK145.out 1
      have hfz40_2 := blk_frozen BK145.out 2
      go_wp2_with (first | ((with_reducible refine gate_callee (f := 12) rfl ?_); refine goesL_ (some 41) rfl rfl Tryd.func12 (by kernel_rfl) rfl #[.agg #[.string a1_0, .int .i64 a1_1, .slice Ao22 y151.length co22], .agg #[.string a1_0, .int .i64 a1_1, .slice A1_2 l1_2.length c1_2]] rfl (by (try simp only [List.map_toArray, List.map_cons, List.map_nil]); first | done | rfl | (simp only [List.length_drop, List.length_take]; rfl)) ?_; (with_reducible refine (chandleryref22_Same.calls k a1_0 a1_1 _ _ y151 a1_0 a1_1 _ _ l1_2 true _ ?side1 ?side2 ?side3 ?side4 A31.out).mono ?_); (case side1 => repeat (first | exact (Kd.R_reads' HO153.out).2.2 | (with_reducible refine Kd.C_alloc ?_ _) | (with_reducible refine Kd.C_drewN ?_ _) | (with_reducible refine Kd.C_drew ?_))); (case side2 => exact (Kd.R_reads' HO153.out).2.1); (case side3 => repeat (first | exact (Kd.C_below HR1_2.out HB.out) | (with_reducible refine Kd.C_alloc ?_ _) | (with_reducible refine Kd.C_drewN ?_ _) | (with_reducible refine Kd.C_drew ?_))); (case side4 => exact HC1_2.out); rintro e w41 ⟨rfl, hb⟩; refine ⟨_, rfl, ?_⟩; have n0_ := Aside0.mk (Kd.R_below (by (with_reducible repeat (first | apply Kd.R_alloc | apply Kd.R_drewN | apply Kd.R_drew)); exact HO153.out) hb); have n1_ := Aside0.mk (Kd.V_below (by (with_reducible repeat (first | apply Kd.V_alloc | apply Kd.V_drewN | apply Kd.V_drew)); exact HO159.out) hb); have n2_ := Aside0.mk (blk_below (g := gb145) (o := .cells #[.string a1_0, .int .i64 a1_1, .slice A1_2 l1_2.length c1_2] 24 (0, 0)) (by (with_reducible repeat (first | refine blk_drewN ?_ _ | refine blk_drew ?_ | refine blk_alloc ?_ _)); exact BK145.out) hb); have n3_ := Aside0.mk (blk_below (g := gb147) (o := .cells #[.string a1_0, .int .i64 a1_1, .slice Ao22 y151.length co22] 24 (0, 0)) (by (with_reducible repeat (first | refine blk_drewN ?_ _ | refine blk_drew ?_ | refine blk_alloc ?_ _)); exact BK147.out) hb); have n4_ := Aside0.mk (below_step (by repeat (first | (with_reducible first | exact HB.out | apply below_alloc | apply pw_below_drewN | apply below_drew1 | refine below_set ?_ GE145.out | refine below_set ?_ GE147.out) | exact HB.out)) hb); clear HO153; clear HO159; clear BK145; clear BK147; clear HB; have HO153 := n0_; have HO159 := n1_; have BK145 := n2_; have BK147 := n3_; have HB := n4_; clear n0_ n1_ n2_ n3_ n4_; (try clear hb); (try clear hb2); (try clear hk); (try clear hi)))
      go_meet
      case rel => exact ⟨_, (true), (by first | rfl | (simp; done) | exact congrArg Value.bool (Go.Proofs.YthnchdbkgenjhaaDoorX.isEmpty_ne_ _) | exact congrArg Value.bool (Go.Proofs.YthnchdbkgenjhaaDoorX.ne_isEmpty_ _) | (simp [*]; done)), H', ⟨by first | omega | exact Nat.le_refl _⟩, ⟨by (with_reducible repeat (first | apply Kd.V_alloc | apply Kd.V_drewN | apply Kd.V_drew)); exact HO159.out⟩, ⟨by (with_reducible repeat (first | apply Kd.R_alloc | apply Kd.R_drewN | apply Kd.R_drew)); exact HO153.out⟩, ⟨by (with_reducible repeat (first | refine blk_drewN ?_ _ | refine blk_drew ?_ | refine blk_alloc ?_ _)); exact BK145.out⟩, ⟨by (with_reducible repeat (first | refine blk_drewN ?_ _ | refine blk_drew ?_ | refine blk_alloc ?_ _)); exact BK147.out⟩, ⟨by repeat (first | (with_reducible first | exact HB.out | apply below_alloc | apply pw_below_drewN | apply below_drew1 | refine below_set ?_ GE145.out | refine below_set ?_ GE147.out) | exact HB.out)⟩⟩
    ·replace c32 := Bool.eq_false_iff.mpr c32
     subst c32
     have H1 : (chandlerylaw22_InfoLays.j0 k a0 t155 t156 t157 t161 true a1_0 a1_1 l1_2) = some r := by rw [if_neg (show ¬ (false = true) by decide)] at H; exact H
     clear H
     have H := H1
     clear H1
     have H' := Aside0.mk H
     clear H
     have hnb42 := NB147_145.out
     have hnc42 := NB145_147.out
     have hcz43_0 : w30.cell? ⟨gb147, 0, none⟩ = some (.string a1_0) := (blk_cell BK147.out 0).trans rfl
     have hcz43_1 : w30.cell? ⟨gb147, 1, none⟩ = some (.int .i64 a1_1) := (blk_cell BK147.out 1).trans rfl
     have hcz43_2 : w30.cell? ⟨gb147, 2, none⟩ = some (.slice Ao22 y151.length co22) := (blk_cell BK147.out 2).trans rfl
     have hfz43_0 := blk_frozen BK147.out 0
     have hfz43_1 := blk_frozen BK147.out 1
     have hfz43_2 := blk_frozen BK147.out 2
     have hcz44_0 : w30.cell? ⟨gb145, 0, none⟩ = some (.string a1_0) := (blk_cell BK145.out 0).trans rfl
     have hcz44_1 : w30.cell? ⟨gb145, 1, none⟩ = some (.int .i64 a1_1) := (blk_cell BK145.out 1).trans rfl
     have hcz44_2 : w30.cell? ⟨gb145, 2, none⟩ = some (.slice A1_2 l1_2.length c1_2) := (blk_cell BK145.out 2).trans rfl
     have hfz44_0 := blk_frozen BK145.out 0
     have hfz44_1 := blk_frozen BK145.out 1
     have hfz44_2 := blk_frozen BK145.out 2
     go_wp2_with (first | ((with_reducible refine gate_callee (f := 12) rfl ?_); refine goesL_ (some 41) rfl rfl Tryd.func12 (by kernel_rfl) rfl #[.agg #[.string a1_0, .int .i64 a1_1, .slice Ao22 y151.length co22], .agg #[.string a1_0, .int .i64 a1_1, .slice A1_2 l1_2.length c1_2]] rfl (by (try simp only [List.map_toArray, List.map_cons, List.map_nil]); first | done | rfl | (simp only [List.length_drop, List.length_take]; rfl)) ?_; (with_reducible refine (chandleryref22_Same.calls k a1_0 a1_1 _ _ y151 a1_0 a1_1 _ _ l1_2 false _ ?side1 ?side2 ?side3 ?side4 A31.out).mono ?_); (case side1 => repeat (first | exact (Kd.R_reads' HO153.out).2.2 | (with_reducible refine Kd.C_alloc ?_ _) | (with_reducible refine Kd.C_drewN ?_ _) | (with_reducible refine Kd.C_drew ?_))); (case side2 => exact (Kd.R_reads' HO153.out).2.1); (case side3 => repeat (first | exact (Kd.C_below HR1_2.out HB.out) | (with_reducible refine Kd.C_alloc ?_ _) | (with_reducible refine Kd.C_drewN ?_ _) | (with_reducible refine Kd.C_drew ?_))); (case side4 => exact HC1_2.out); rintro e w45 ⟨rfl, hb⟩; refine ⟨_, rfl, ?_⟩; have n0_ := Aside0.mk (Kd.R_below (by (with_reducible repeat (first | apply Kd.R_alloc | apply Kd.R_drewN | apply Kd.R_drew)); exact HO153.out) hb); have n1_ := Aside0.mk (Kd.V_below (by (with_reducible repeat (first | apply Kd.V_alloc | apply Kd.V_drewN | apply Kd.V_drew)); exact HO159.out) hb); have n2_ := Aside0.mk (blk_below (g := gb145) (o := .cells #[.string a1_0, .int .i64 a1_1, .slice A1_2 l1_2.length c1_2] 24 (0, 0)) (by (with_reducible repeat (first | refine blk_drewN ?_ _ | refine blk_drew ?_ | refine blk_alloc ?_ _)); exact BK145.out) hb); have n3_ := Aside0.mk (blk_below (g := gb147) (o := .cells #[.string a1_0, .int .i64 a1_1, .slice Ao22 y151.length co22] 24 (0, 0)) (by (with_reducible repeat (first | refine blk_drewN ?_ _ | refine blk_drew ?_ | refine blk_alloc ?_ _)); exact BK147.out) hb); have n4_ := Aside0.mk (below_step (by repeat (first | (with_reducible first | exact HB.out | apply below_alloc | apply pw_below_drewN | apply below_drew1 | refine below_set ?_ GE145.out | refine below_set ?_ GE147.out) | exact HB.out)) hb); clear HO153; clear HO159; clear BK145; clear BK147; clear HB; have HO153 := n0_; have HO159 := n1_; have BK145 := n2_; have BK147 := n3_; have HB := n4_; clear n0_ n1_ n2_ n3_ n4_; (try clear hb); (try clear hb2); (try clear hk); (try clear hi)))
     go_meet
     case rel => exact ⟨_, (true), (by first | rfl | (simp; done) | exact congrArg Value.bool (Go.Proofs.YthnchdbkgenjhaaDoorX.isEmpty_ne_ _) | exact congrArg Value.bool (Go.Proofs.YthnchdbkgenjhaaDoorX.ne_isEmpty_ _) | (simp [*]; done)), H', ⟨by first | omega | exact Nat.le_refl _⟩, ⟨by (with_reducible repeat (first | apply Kd.V_alloc | apply Kd.V_drewN | apply Kd.V_drew)); exact HO159.out⟩, ⟨by (with_reducible repeat (first | apply Kd.R_alloc | apply Kd.R_drewN | apply Kd.R_drew)); exact HO153.out⟩, ⟨by (with_reducible repeat (first | refine blk_drewN ?_ _ | refine blk_drew ?_ | refine blk_alloc ?_ _)); exact BK145.out⟩, ⟨by (with_reducible repeat (first | refine blk_drewN ?_ _ | refine blk_drew ?_ | refine blk_alloc ?_ _)); exact BK147.out⟩, ⟨by repeat (first | (with_reducible first | exact HB.out | apply below_alloc | apply pw_below_drewN | apply below_drew1 | refine below_set ?_ GE145.out | refine below_set ?_ GE147.out) | exact HB.out)⟩⟩
   case rest =>
    clear HC10
    try clear c1
    try clear p2
    try clear c3
    try clear c4
    try clear c5
    try clear c7
    try clear c8
    try clear c9
    try clear c10
    try clear c11
    try clear c12
    try clear c16
    try clear c32
    try clear c33
    try clear c33b0
    try clear c33b1
    try clear c34
    try clear c38
    try clear c42
    try clear hcz12_0
    try clear hcz12_1
    try clear hcz12_2
    try clear hcz14_0
    try clear hcz14_1
    try clear hcz14_2
    try clear hcz17_0
    try clear hcz17_1
    try clear hcz17_2
    try clear hcz20_0
    try clear hcz20_1
    try clear hcz20_2
    try clear hcz23_0
    try clear hcz23_1
    try clear hcz23_2
    try clear hcz25_0
    try clear hcz25_1
    try clear hcz25_2
    try clear hcz27_0
    try clear hcz27_1
    try clear hcz27_2
    try clear hcz29_0
    try clear hcz29_1
    try clear hcz29_2
    try clear hcz35_0
    try clear hcz35_1
    try clear hcz35_2
    try clear hcz36_0
    try clear hcz36_1
    try clear hcz36_2
    try clear hcz39_0
    try clear hcz39_1
    try clear hcz39_2
    try clear hcz40_0
    try clear hcz40_1
    try clear hcz40_2
    try clear hcz43_0
    try clear hcz43_1
    try clear hcz43_2
    try clear hcz44_0
    try clear hcz44_1
    try clear hcz44_2
    try clear hfz12_0
    try clear hfz12_1
    try clear hfz12_2
    try clear hfz14_0
    try clear hfz14_1
    try clear hfz14_2
    try clear hfz17_0
    try clear hfz17_1
    try clear hfz17_2
    try clear hfz20_0
    try clear hfz20_1
    try clear hfz20_2
    try clear hfz23_0
    try clear hfz23_1
    try clear hfz23_2
    try clear hfz25_0
    try clear hfz25_1
    try clear hfz25_2
    try clear hfz27_0
    try clear hfz27_1
    try clear hfz27_2
    try clear hfz29_0
    try clear hfz29_1
    try clear hfz29_2
    try clear hfz35_0
    try clear hfz35_1
    try clear hfz35_2
    try clear hfz36_0
    try clear hfz36_1
    try clear hfz36_2
    try clear hfz39_0
    try clear hfz39_1
    try clear hfz39_2
    try clear hfz40_0
    try clear hfz40_1
    try clear hfz40_2
    try clear hfz43_0
    try clear hfz43_1
    try clear hfz43_2
    try clear hfz44_0
    try clear hfz44_1
    try clear hfz44_2
    obtain ⟨kq, x52_9, rfl, HA, HJ9, HO_9, HO_148002, BK145, BK147, HB⟩ := hcut
    cases kq with
    | zero => exact absurd HA.out (by simp [chandlerylaw22_InfoLays.j0])
    | succ kj9 =>
     have H := HA.out
     clear HA
     simp only [chandlerylaw22_InfoLays.j0] at H
     by_cases c46 : x52_9 = true
     ·subst c46
      have H1 : (some false) = some r := by rw [if_pos rfl] at H; exact H
      clear H
      have H := H1
      clear H1
      obtain rfl := Option.some.inj H
      go_wp2
      go_ret
      exact ⟨by first | rfl | (simp [errW_none, errW_some] <;> rfl) | (simp [*, errW_none, errW_some] <;> rfl), by repeat (first | (with_reducible first | exact HB.out | apply below_alloc | apply pw_below_drewN | apply below_drew1 | refine below_set ?_ GE145.out | refine below_set ?_ GE147.out) | exact HB.out)⟩
     ·replace c46 := Bool.eq_false_iff.mpr c46
      subst c46
      have H1 : ((chandleryref22_Plain.f a1_0 a1_1 l1_2).bind fun t163 => (if (t163 != (t156 == 0)) = true then (chandlerylaw22_InfoLays.j1 kj9 a0 t157 t161 true a1_0 a1_1 l1_2) else (if t156 = 0 then ((chandleryref22_Value.f a1_0 a1_1 l1_2).bind fun t164 => (if t155.toList = t164.toList then (chandlerylaw22_InfoLays.j1 kj9 a0 t157 t161 false a1_0 a1_1 l1_2) else (chandlerylaw22_InfoLays.j1 kj9 a0 t157 t161 true a1_0 a1_1 l1_2))) else (if t156 = 1 then (chandlerylaw22_InfoLays.j1 kj9 a0 t157 t161 (t155.toList != ([] : List UInt8)) a1_0 a1_1 l1_2) else (chandlerylaw22_InfoLays.j1 kj9 a0 t157 t161 true a1_0 a1_1 l1_2))))) = some r := by rw [if_neg (show ¬ (false = true) by decide)] at H; exact H
      clear H
      have H := H1
      clear H1
      have HC47 := Aside0.mk H
      clear H
      go_upto_region 11 with (fail)
      go_cut [79] (fun v79 wc => ∃ (kq : Nat) (x79_46 : Bool), v79 = .bool x79_46 ∧ Aside0 (chandlerylaw22_InfoLays.j1 kq a0 t157 t161 x79_46 a1_0 a1_1 l1_2 = some r) ∧ Aside0 (kq ≤ kj9) ∧ Aside0 (Kd.V (Kd.int .u8) 5 wc w.heap.size (fun k_ => some k_ ≠ ((.slice Ao22 y151.length co22) : Value).ownBlock ∧ k_ ≠ gb145 ∧ k_ ≠ gb147) v158 t157) ∧ Aside0 (Kd.R Kd.string 9 wc w.heap.size (fun _ => True) (.slice Ao22 y151.length co22) y151) ∧ Aside0 (wc.heap[gb145]? = some (.cells #[.string a1_0, .int .i64 a1_1, (.slice A1_2 l1_2.length c1_2)] 24 (0, 0))) ∧ Aside0 (wc.heap[gb147]? = some (.cells #[.string a1_0, .int .i64 a1_1, (.slice Ao22 y151.length co22)] 24 (0, 0))) ∧ Aside0 (Below w.heap.size w wc))
      case first =>
       have H := HC47.out
       clear HC47
       replace H := Option.bind_eq_some_iff.mp H
       obtain ⟨t163, A480, H⟩ := H
       replace H : (if (t163 != (t156 == 0)) = true then (chandlerylaw22_InfoLays.j1 kj9 a0 t157 t161 true a1_0 a1_1 l1_2) else (if t156 = 0 then ((chandleryref22_Value.f a1_0 a1_1 l1_2).bind fun t164 => (if t155.toList = t164.toList then (chandlerylaw22_InfoLays.j1 kj9 a0 t157 t161 false a1_0 a1_1 l1_2) else (chandlerylaw22_InfoLays.j1 kj9 a0 t157 t161 true a1_0 a1_1 l1_2))) else (if t156 = 1 then (chandlerylaw22_InfoLays.j1 kj9 a0 t157 t161 (t155.toList != ([] : List UInt8)) a1_0 a1_1 l1_2) else (chandlerylaw22_InfoLays.j1 kj9 a0 t157 t161 true a1_0 a1_1 l1_2)))) = some r := H
       have A48 := Aside0.mk A480
       clear A480
       by_cases c49 : (t163 != (t156 == 0)) = true
       ·rw [if_pos c49] at H
        have c49b0 : (t163 != (t156 == 0)) = true := c49
        (try (have c49b1 : decide (t163 = (t156 == 0)) = false := by simpa using c49))
        (try (have c49b2 : (t163 == (t156 == 0)) = false := by simpa using c49))
        (try (have c49b3 : ¬ (t163 = (t156 == 0)) := by simpa using c49))
        clear c49
        (first | rw [c49b0] | (simp only [i64_w, i32_w]; rw [c49b0]) | skip)
        have H' := Aside0.mk H
        clear H
        have hnb50 := NB145_147.out
        have hnc50 := NB147_145.out
        have hcz51_0 : wc.cell? ⟨gb145, 0, none⟩ = some (.string a1_0) := (blk_cell BK145.out 0).trans rfl
        have hcz51_1 : wc.cell? ⟨gb145, 1, none⟩ = some (.int .i64 a1_1) := (blk_cell BK145.out 1).trans rfl
        have hcz51_2 : wc.cell? ⟨gb145, 2, none⟩ = some (.slice A1_2 l1_2.length c1_2) := (blk_cell BK145.out 2).trans rfl
        have hfz51_0 := blk_frozen BK145.out 0
        have hfz51_1 := blk_frozen BK145.out 1
        have hfz51_2 := blk_frozen BK145.out 2
        go_wp2_with (first | ((with_reducible refine gate_callee (f := 13) rfl ?_); refine goesL_ (some 54) rfl rfl Tryd.func13 (by kernel_rfl) rfl #[.agg #[.string a1_0, .int .i64 a1_1, .slice A1_2 l1_2.length c1_2]] rfl (by (try simp only [List.map_toArray, List.map_cons, List.map_nil]); first | done | rfl | (simp only [List.length_drop, List.length_take]; rfl)) ?_; (with_reducible refine (chandleryref22_Plain.calls a1_0 a1_1 _ _ l1_2 t163 _ ?side1 ?side2 A48.out).mono ?_); (case side1 => repeat (first | exact (Kd.C_below HR1_2.out HB.out) | (with_reducible refine Kd.C_alloc ?_ _) | (with_reducible refine Kd.C_drewN ?_ _) | (with_reducible refine Kd.C_drew ?_))); (case side2 => exact HC1_2.out); rintro e w52 ⟨rfl, hb⟩; refine ⟨_, rfl, ?_⟩; have n0_ := Aside0.mk (Kd.V_below (by (with_reducible repeat (first | apply Kd.V_alloc | apply Kd.V_drewN | apply Kd.V_drew)); exact HO_9.out) hb); have n1_ := Aside0.mk (Kd.R_below (by (with_reducible repeat (first | apply Kd.R_alloc | apply Kd.R_drewN | apply Kd.R_drew)); exact HO_148002.out) hb); have n2_ := Aside0.mk (blk_below (g := gb145) (o := .cells #[.string a1_0, .int .i64 a1_1, .slice A1_2 l1_2.length c1_2] 24 (0, 0)) (by (with_reducible repeat (first | refine blk_drewN ?_ _ | refine blk_drew ?_ | refine blk_alloc ?_ _)); exact BK145.out) hb); have n3_ := Aside0.mk (blk_below (g := gb147) (o := .cells #[.string a1_0, .int .i64 a1_1, .slice Ao22 y151.length co22] 24 (0, 0)) (by (with_reducible repeat (first | refine blk_drewN ?_ _ | refine blk_drew ?_ | refine blk_alloc ?_ _)); exact BK147.out) hb); have n4_ := Aside0.mk (below_step (by repeat (first | (with_reducible first | exact HB.out | apply below_alloc | apply pw_below_drewN | apply below_drew1 | refine below_set ?_ GE145.out | refine below_set ?_ GE147.out) | exact HB.out)) hb); clear HO_9; clear HO_148002; clear BK145; clear BK147; clear HB; have HO_9 := n0_; have HO_148002 := n1_; have BK145 := n2_; have BK147 := n3_; have HB := n4_; clear n0_ n1_ n2_ n3_ n4_; (try clear hb); (try clear hb2); (try clear hk); (try clear hi)))
        go_meet
        case rel => exact ⟨_, (true), (by first | rfl | (simp; done) | exact congrArg Value.bool (Go.Proofs.YthnchdbkgenjhaaDoorX.isEmpty_ne_ _) | exact congrArg Value.bool (Go.Proofs.YthnchdbkgenjhaaDoorX.ne_isEmpty_ _) | (simp [*]; done)), H', ⟨by have := HJ9.out; first | omega | exact Nat.le_refl _⟩, ⟨by (with_reducible repeat (first | apply Kd.V_alloc | apply Kd.V_drewN | apply Kd.V_drew)); exact HO_9.out⟩, ⟨by (with_reducible repeat (first | apply Kd.R_alloc | apply Kd.R_drewN | apply Kd.R_drew)); exact HO_148002.out⟩, ⟨by (with_reducible repeat (first | refine blk_drewN ?_ _ | refine blk_drew ?_ | refine blk_alloc ?_ _)); exact BK145.out⟩, ⟨by (with_reducible repeat (first | refine blk_drewN ?_ _ | refine blk_drew ?_ | refine blk_alloc ?_ _)); exact BK147.out⟩, ⟨by repeat (first | (with_reducible first | exact HB.out | apply below_alloc | apply pw_below_drewN | apply below_drew1 | refine below_set ?_ GE145.out | refine below_set ?_ GE147.out) | exact HB.out)⟩⟩
       ·rw [if_neg c49] at H
        have c49b0 : (t163 != (t156 == 0)) = false := by simpa using c49
        (try (have c49b1 : decide (t163 = (t156 == 0)) = true := by simpa using c49))
        (try (have c49b2 : (t163 == (t156 == 0)) = true := by simpa using c49))
        clear c49
        (first | rw [c49b0] | (simp only [i64_w, i32_w]; rw [c49b0]) | skip)
        by_cases c53 : t156 = 0
        ·rw [if_pos c53] at H
         have c53b0 : (t156 == 0) = true := beq_iff_eq.mpr c53
         have c53b1 : (t156 != 0) = false := bne_eq_false_iff_eq.mpr c53
         try have c53b7 : t163 = true := by simpa [c53b0] using c49b0
         clear c53
         replace H := Option.bind_eq_some_iff.mp H
         obtain ⟨t164, A540, H⟩ := H
         replace H : (if t155.toList = t164.toList then (chandlerylaw22_InfoLays.j1 kj9 a0 t157 t161 false a1_0 a1_1 l1_2) else (chandlerylaw22_InfoLays.j1 kj9 a0 t157 t161 true a1_0 a1_1 l1_2)) = some r := H
         have A54 := Aside0.mk A540
         clear A540
         by_cases c55 : t155.toList = t164.toList
         ·rw [if_pos c55] at H
          have c55b0 : (t155.toList == t164.toList) = true := beq_iff_eq.mpr c55
          have c55b1 : (t155.toList != t164.toList) = false := bne_eq_false_iff_eq.mpr c55
          clear c55
          have H' := Aside0.mk H
          clear H
          have hnb56 := NB145_147.out
          have hnc56 := NB147_145.out
          have hcz57_0 : wc.cell? ⟨gb145, 0, none⟩ = some (.string a1_0) := (blk_cell BK145.out 0).trans rfl
          have hcz57_1 : wc.cell? ⟨gb145, 1, none⟩ = some (.int .i64 a1_1) := (blk_cell BK145.out 1).trans rfl
          have hcz57_2 : wc.cell? ⟨gb145, 2, none⟩ = some (.slice A1_2 l1_2.length c1_2) := (blk_cell BK145.out 2).trans rfl
          have hfz57_0 := blk_frozen BK145.out 0
          have hfz57_1 := blk_frozen BK145.out 1
          have hfz57_2 := blk_frozen BK145.out 2
          go_wp2_with (first | ((with_reducible refine gate_callee (f := 13) rfl ?_); refine goesL_ (some 54) rfl rfl Tryd.func13 (by kernel_rfl) rfl #[.agg #[.string a1_0, .int .i64 a1_1, .slice A1_2 l1_2.length c1_2]] rfl (by (try simp only [List.map_toArray, List.map_cons, List.map_nil]); first | done | rfl | (simp only [List.length_drop, List.length_take]; rfl)) ?_; (with_reducible refine (chandleryref22_Plain.calls a1_0 a1_1 _ _ l1_2 t163 _ ?side1 ?side2 A48.out).mono ?_); (case side1 => repeat (first | exact (Kd.C_below HR1_2.out HB.out) | (with_reducible refine Kd.C_alloc ?_ _) | (with_reducible refine Kd.C_drewN ?_ _) | (with_reducible refine Kd.C_drew ?_))); (case side2 => exact HC1_2.out); rintro e w58 ⟨rfl, hb⟩; refine ⟨_, rfl, ?_⟩; have n0_ := Aside0.mk (Kd.V_below (by (with_reducible repeat (first | apply Kd.V_alloc | apply Kd.V_drewN | apply Kd.V_drew)); exact HO_9.out) hb); have n1_ := Aside0.mk (Kd.R_below (by (with_reducible repeat (first | apply Kd.R_alloc | apply Kd.R_drewN | apply Kd.R_drew)); exact HO_148002.out) hb); have n2_ := Aside0.mk (blk_below (g := gb145) (o := .cells #[.string a1_0, .int .i64 a1_1, .slice A1_2 l1_2.length c1_2] 24 (0, 0)) (by (with_reducible repeat (first | refine blk_drewN ?_ _ | refine blk_drew ?_ | refine blk_alloc ?_ _)); exact BK145.out) hb); have n3_ := Aside0.mk (blk_below (g := gb147) (o := .cells #[.string a1_0, .int .i64 a1_1, .slice Ao22 y151.length co22] 24 (0, 0)) (by (with_reducible repeat (first | refine blk_drewN ?_ _ | refine blk_drew ?_ | refine blk_alloc ?_ _)); exact BK147.out) hb); have n4_ := Aside0.mk (below_step (by repeat (first | (with_reducible first | exact HB.out | apply below_alloc | apply pw_below_drewN | apply below_drew1 | refine below_set ?_ GE145.out | refine below_set ?_ GE147.out) | exact HB.out)) hb); clear HO_9; clear HO_148002; clear BK145; clear BK147; clear HB; have HO_9 := n0_; have HO_148002 := n1_; have BK145 := n2_; have BK147 := n3_; have HB := n4_; clear n0_ n1_ n2_ n3_ n4_; (try clear hb); (try clear hb2); (try clear hk); (try clear hi); have hcz59_0 : w58.cell? ⟨gb145, 0, none⟩ = some (.string a1_0) := (blk_cell BK145.out 0).trans rfl; have hcz59_1 : w58.cell? ⟨gb145, 1, none⟩ = some (.int .i64 a1_1) := (blk_cell BK145.out 1).trans rfl; have hcz59_2 : w58.cell? ⟨gb145, 2, none⟩ = some (.slice A1_2 l1_2.length c1_2) := (blk_cell BK145.out 2).trans rfl; have hfz59_0 := blk_frozen BK145.out 0; have hfz59_1 := blk_frozen BK145.out 1; have hfz59_2 := blk_frozen BK145.out 2) | (go_at_call 14; (with_reducible refine (chandleryref22_Value.calls a1_0 a1_1 _ _ l1_2 t164 _ ?side1 ?side2 A54.out).mono ?_); (case side1 => repeat (first | exact (Kd.C_below HR1_2.out HB.out) | (with_reducible refine Kd.C_alloc ?_ _) | (with_reducible refine Kd.C_drewN ?_ _) | (with_reducible refine Kd.C_drew ?_))); (case side2 => exact HC1_2.out); rintro e w60 ⟨rfl, hb⟩; have n0_ := Aside0.mk (Kd.V_below (by (with_reducible repeat (first | apply Kd.V_alloc | apply Kd.V_drewN | apply Kd.V_drew)); exact HO_9.out) hb); have n1_ := Aside0.mk (Kd.R_below (by (with_reducible repeat (first | apply Kd.R_alloc | apply Kd.R_drewN | apply Kd.R_drew)); exact HO_148002.out) hb); have n2_ := Aside0.mk (blk_below (g := gb145) (o := .cells #[.string a1_0, .int .i64 a1_1, .slice A1_2 l1_2.length c1_2] 24 (0, 0)) (by (with_reducible repeat (first | refine blk_drewN ?_ _ | refine blk_drew ?_ | refine blk_alloc ?_ _)); exact BK145.out) hb); have n3_ := Aside0.mk (blk_below (g := gb147) (o := .cells #[.string a1_0, .int .i64 a1_1, .slice Ao22 y151.length co22] 24 (0, 0)) (by (with_reducible repeat (first | refine blk_drewN ?_ _ | refine blk_drew ?_ | refine blk_alloc ?_ _)); exact BK147.out) hb); have n4_ := Aside0.mk (below_step (by repeat (first | (with_reducible first | exact HB.out | apply below_alloc | apply pw_below_drewN | apply below_drew1 | refine below_set ?_ GE145.out | refine below_set ?_ GE147.out) | exact HB.out)) hb); clear HO_9; clear HO_148002; clear BK145; clear BK147; clear HB; have HO_9 := n0_; have HO_148002 := n1_; have BK145 := n2_; have BK147 := n3_; have HB := n4_; clear n0_ n1_ n2_ n3_ n4_; (try clear hb); (try clear hb2); (try clear hk); (try clear hi)))
          go_meet
          case rel => exact ⟨_, (false), (by first | rfl | (simp; done) | exact congrArg Value.bool (Go.Proofs.YthnchdbkgenjhaaDoorX.isEmpty_ne_ _) | exact congrArg Value.bool (Go.Proofs.YthnchdbkgenjhaaDoorX.ne_isEmpty_ _) | (simp [*]; done)), H', ⟨by have := HJ9.out; first | omega | exact Nat.le_refl _⟩, ⟨by (with_reducible repeat (first | apply Kd.V_alloc | apply Kd.V_drewN | apply Kd.V_drew)); exact HO_9.out⟩, ⟨by (with_reducible repeat (first | apply Kd.R_alloc | apply Kd.R_drewN | apply Kd.R_drew)); exact HO_148002.out⟩, ⟨by (with_reducible repeat (first | refine blk_drewN ?_ _ | refine blk_drew ?_ | refine blk_alloc ?_ _)); exact BK145.out⟩, ⟨by (with_reducible repeat (first | refine blk_drewN ?_ _ | refine blk_drew ?_ | refine blk_alloc ?_ _)); exact BK147.out⟩, ⟨by repeat (first | (with_reducible first | exact HB.out | apply below_alloc | apply pw_below_drewN | apply below_drew1 | refine below_set ?_ GE145.out | refine below_set ?_ GE147.out) | exact HB.out)⟩⟩
         ·rw [if_neg c55] at H
          have c55b0 : (t155.toList == t164.toList) = false := beq_eq_false_iff_ne.mpr c55
          have c55b1 : (t155.toList != t164.toList) = true := bne_iff_ne.mpr c55
          have H' := Aside0.mk H
          clear H
          have hnb61 := NB145_147.out
          have hnc61 := NB147_145.out
          have hcz62_0 : wc.cell? ⟨gb145, 0, none⟩ = some (.string a1_0) := (blk_cell BK145.out 0).trans rfl
          have hcz62_1 : wc.cell? ⟨gb145, 1, none⟩ = some (.int .i64 a1_1) := (blk_cell BK145.out 1).trans rfl
          have hcz62_2 : wc.cell? ⟨gb145, 2, none⟩ = some (.slice A1_2 l1_2.length c1_2) := (blk_cell BK145.out 2).trans rfl
          have hfz62_0 := blk_frozen BK145.out 0
          have hfz62_1 := blk_frozen BK145.out 1
          have hfz62_2 := blk_frozen BK145.out 2
          go_wp2_with (first | ((with_reducible refine gate_callee (f := 13) rfl ?_); refine goesL_ (some 54) rfl rfl Tryd.func13 (by kernel_rfl) rfl #[.agg #[.string a1_0, .int .i64 a1_1, .slice A1_2 l1_2.length c1_2]] rfl (by (try simp only [List.map_toArray, List.map_cons, List.map_nil]); first | done | rfl | (simp only [List.length_drop, List.length_take]; rfl)) ?_; (with_reducible refine (chandleryref22_Plain.calls a1_0 a1_1 _ _ l1_2 t163 _ ?side1 ?side2 A48.out).mono ?_); (case side1 => repeat (first | exact (Kd.C_below HR1_2.out HB.out) | (with_reducible refine Kd.C_alloc ?_ _) | (with_reducible refine Kd.C_drewN ?_ _) | (with_reducible refine Kd.C_drew ?_))); (case side2 => exact HC1_2.out); rintro e w63 ⟨rfl, hb⟩; refine ⟨_, rfl, ?_⟩; have n0_ := Aside0.mk (Kd.V_below (by (with_reducible repeat (first | apply Kd.V_alloc | apply Kd.V_drewN | apply Kd.V_drew)); exact HO_9.out) hb); have n1_ := Aside0.mk (Kd.R_below (by (with_reducible repeat (first | apply Kd.R_alloc | apply Kd.R_drewN | apply Kd.R_drew)); exact HO_148002.out) hb); have n2_ := Aside0.mk (blk_below (g := gb145) (o := .cells #[.string a1_0, .int .i64 a1_1, .slice A1_2 l1_2.length c1_2] 24 (0, 0)) (by (with_reducible repeat (first | refine blk_drewN ?_ _ | refine blk_drew ?_ | refine blk_alloc ?_ _)); exact BK145.out) hb); have n3_ := Aside0.mk (blk_below (g := gb147) (o := .cells #[.string a1_0, .int .i64 a1_1, .slice Ao22 y151.length co22] 24 (0, 0)) (by (with_reducible repeat (first | refine blk_drewN ?_ _ | refine blk_drew ?_ | refine blk_alloc ?_ _)); exact BK147.out) hb); have n4_ := Aside0.mk (below_step (by repeat (first | (with_reducible first | exact HB.out | apply below_alloc | apply pw_below_drewN | apply below_drew1 | refine below_set ?_ GE145.out | refine below_set ?_ GE147.out) | exact HB.out)) hb); clear HO_9; clear HO_148002; clear BK145; clear BK147; clear HB; have HO_9 := n0_; have HO_148002 := n1_; have BK145 := n2_; have BK147 := n3_; have HB := n4_; clear n0_ n1_ n2_ n3_ n4_; (try clear hb); (try clear hb2); (try clear hk); (try clear hi); have hcz64_0 : w63.cell? ⟨gb145, 0, none⟩ = some (.string a1_0) := (blk_cell BK145.out 0).trans rfl; have hcz64_1 : w63.cell? ⟨gb145, 1, none⟩ = some (.int .i64 a1_1) := (blk_cell BK145.out 1).trans rfl; have hcz64_2 : w63.cell? ⟨gb145, 2, none⟩ = some (.slice A1_2 l1_2.length c1_2) := (blk_cell BK145.out 2).trans rfl; have hfz64_0 := blk_frozen BK145.out 0; have hfz64_1 := blk_frozen BK145.out 1; have hfz64_2 := blk_frozen BK145.out 2) | (go_at_call 14; (with_reducible refine (chandleryref22_Value.calls a1_0 a1_1 _ _ l1_2 t164 _ ?side1 ?side2 A54.out).mono ?_); (case side1 => repeat (first | exact (Kd.C_below HR1_2.out HB.out) | (with_reducible refine Kd.C_alloc ?_ _) | (with_reducible refine Kd.C_drewN ?_ _) | (with_reducible refine Kd.C_drew ?_))); (case side2 => exact HC1_2.out); rintro e w65 ⟨rfl, hb⟩; have n0_ := Aside0.mk (Kd.V_below (by (with_reducible repeat (first | apply Kd.V_alloc | apply Kd.V_drewN | apply Kd.V_drew)); exact HO_9.out) hb); have n1_ := Aside0.mk (Kd.R_below (by (with_reducible repeat (first | apply Kd.R_alloc | apply Kd.R_drewN | apply Kd.R_drew)); exact HO_148002.out) hb); have n2_ := Aside0.mk (blk_below (g := gb145) (o := .cells #[.string a1_0, .int .i64 a1_1, .slice A1_2 l1_2.length c1_2] 24 (0, 0)) (by (with_reducible repeat (first | refine blk_drewN ?_ _ | refine blk_drew ?_ | refine blk_alloc ?_ _)); exact BK145.out) hb); have n3_ := Aside0.mk (blk_below (g := gb147) (o := .cells #[.string a1_0, .int .i64 a1_1, .slice Ao22 y151.length co22] 24 (0, 0)) (by (with_reducible repeat (first | refine blk_drewN ?_ _ | refine blk_drew ?_ | refine blk_alloc ?_ _)); exact BK147.out) hb); have n4_ := Aside0.mk (below_step (by repeat (first | (with_reducible first | exact HB.out | apply below_alloc | apply pw_below_drewN | apply below_drew1 | refine below_set ?_ GE145.out | refine below_set ?_ GE147.out) | exact HB.out)) hb); clear HO_9; clear HO_148002; clear BK145; clear BK147; clear HB; have HO_9 := n0_; have HO_148002 := n1_; have BK145 := n2_; have BK147 := n3_; have HB := n4_; clear n0_ n1_ n2_ n3_ n4_; (try clear hb); (try clear hb2); (try clear hk); (try clear hi)))
          go_meet
          case rel => exact ⟨_, (true), (by first | rfl | (simp; done) | exact congrArg Value.bool (Go.Proofs.YthnchdbkgenjhaaDoorX.isEmpty_ne_ _) | exact congrArg Value.bool (Go.Proofs.YthnchdbkgenjhaaDoorX.ne_isEmpty_ _) | (simp [*]; done)), H', ⟨by have := HJ9.out; first | omega | exact Nat.le_refl _⟩, ⟨by (with_reducible repeat (first | apply Kd.V_alloc | apply Kd.V_drewN | apply Kd.V_drew)); exact HO_9.out⟩, ⟨by (with_reducible repeat (first | apply Kd.R_alloc | apply Kd.R_drewN | apply Kd.R_drew)); exact HO_148002.out⟩, ⟨by (with_reducible repeat (first | refine blk_drewN ?_ _ | refine blk_drew ?_ | refine blk_alloc ?_ _)); exact BK145.out⟩, ⟨by (with_reducible repeat (first | refine blk_drewN ?_ _ | refine blk_drew ?_ | refine blk_alloc ?_ _)); exact BK147.out⟩, ⟨by repeat (first | (with_reducible first | exact HB.out | apply below_alloc | apply pw_below_drewN | apply below_drew1 | refine below_set ?_ GE145.out | refine below_set ?_ GE147.out) | exact HB.out)⟩⟩
        ·rw [if_neg c53] at H
         have c53b0 : (t156 == 0) = false := beq_eq_false_iff_ne.mpr c53
         have c53b1 : (t156 != 0) = true := bne_iff_ne.mpr c53
         try have c53b7 : t163 = false := by simpa [c53b0] using c49b0
         by_cases c66 : t156 = 1
         ·rw [if_pos c66] at H
          have c66b0 : (t156 == 1) = true := beq_iff_eq.mpr c66
          have c66b1 : (t156 != 1) = false := bne_eq_false_iff_eq.mpr c66
          clear c66
          have H' := Aside0.mk H
          clear H
          have hnb67 := NB145_147.out
          have hnc67 := NB147_145.out
          have hcz68_0 : wc.cell? ⟨gb145, 0, none⟩ = some (.string a1_0) := (blk_cell BK145.out 0).trans rfl
          have hcz68_1 : wc.cell? ⟨gb145, 1, none⟩ = some (.int .i64 a1_1) := (blk_cell BK145.out 1).trans rfl
          have hcz68_2 : wc.cell? ⟨gb145, 2, none⟩ = some (.slice A1_2 l1_2.length c1_2) := (blk_cell BK145.out 2).trans rfl
          have hfz68_0 := blk_frozen BK145.out 0
          have hfz68_1 := blk_frozen BK145.out 1
          have hfz68_2 := blk_frozen BK145.out 2
          go_wp2_with (first | ((with_reducible refine gate_callee (f := 13) rfl ?_); refine goesL_ (some 54) rfl rfl Tryd.func13 (by kernel_rfl) rfl #[.agg #[.string a1_0, .int .i64 a1_1, .slice A1_2 l1_2.length c1_2]] rfl (by (try simp only [List.map_toArray, List.map_cons, List.map_nil]); first | done | rfl | (simp only [List.length_drop, List.length_take]; rfl)) ?_; (with_reducible refine (chandleryref22_Plain.calls a1_0 a1_1 _ _ l1_2 t163 _ ?side1 ?side2 A48.out).mono ?_); (case side1 => repeat (first | exact (Kd.C_below HR1_2.out HB.out) | (with_reducible refine Kd.C_alloc ?_ _) | (with_reducible refine Kd.C_drewN ?_ _) | (with_reducible refine Kd.C_drew ?_))); (case side2 => exact HC1_2.out); rintro e w69 ⟨rfl, hb⟩; refine ⟨_, rfl, ?_⟩; have n0_ := Aside0.mk (Kd.V_below (by (with_reducible repeat (first | apply Kd.V_alloc | apply Kd.V_drewN | apply Kd.V_drew)); exact HO_9.out) hb); have n1_ := Aside0.mk (Kd.R_below (by (with_reducible repeat (first | apply Kd.R_alloc | apply Kd.R_drewN | apply Kd.R_drew)); exact HO_148002.out) hb); have n2_ := Aside0.mk (blk_below (g := gb145) (o := .cells #[.string a1_0, .int .i64 a1_1, .slice A1_2 l1_2.length c1_2] 24 (0, 0)) (by (with_reducible repeat (first | refine blk_drewN ?_ _ | refine blk_drew ?_ | refine blk_alloc ?_ _)); exact BK145.out) hb); have n3_ := Aside0.mk (blk_below (g := gb147) (o := .cells #[.string a1_0, .int .i64 a1_1, .slice Ao22 y151.length co22] 24 (0, 0)) (by (with_reducible repeat (first | refine blk_drewN ?_ _ | refine blk_drew ?_ | refine blk_alloc ?_ _)); exact BK147.out) hb); have n4_ := Aside0.mk (below_step (by repeat (first | (with_reducible first | exact HB.out | apply below_alloc | apply pw_below_drewN | apply below_drew1 | refine below_set ?_ GE145.out | refine below_set ?_ GE147.out) | exact HB.out)) hb); clear HO_9; clear HO_148002; clear BK145; clear BK147; clear HB; have HO_9 := n0_; have HO_148002 := n1_; have BK145 := n2_; have BK147 := n3_; have HB := n4_; clear n0_ n1_ n2_ n3_ n4_; (try clear hb); (try clear hb2); (try clear hk); (try clear hi)))
          go_meet
          case rel => exact ⟨_, ((t155.toList != ([] : List UInt8))), (by first | rfl | (simp; done) | exact congrArg Value.bool (Go.Proofs.YthnchdbkgenjhaaDoorX.isEmpty_ne_ _) | exact congrArg Value.bool (Go.Proofs.YthnchdbkgenjhaaDoorX.ne_isEmpty_ _) | (simp [*]; done)), H', ⟨by have := HJ9.out; first | omega | exact Nat.le_refl _⟩, ⟨by (with_reducible repeat (first | apply Kd.V_alloc | apply Kd.V_drewN | apply Kd.V_drew)); exact HO_9.out⟩, ⟨by (with_reducible repeat (first | apply Kd.R_alloc | apply Kd.R_drewN | apply Kd.R_drew)); exact HO_148002.out⟩, ⟨by (with_reducible repeat (first | refine blk_drewN ?_ _ | refine blk_drew ?_ | refine blk_alloc ?_ _)); exact BK145.out⟩, ⟨by (with_reducible repeat (first | refine blk_drewN ?_ _ | refine blk_drew ?_ | refine blk_alloc ?_ _)); exact BK147.out⟩, ⟨by repeat (first | (with_reducible first | exact HB.out | apply below_alloc | apply pw_below_drewN | apply below_drew1 | refine below_set ?_ GE145.out | refine below_set ?_ GE147.out) | exact HB.out)⟩⟩
         ·rw [if_neg c66] at H
          have c66b0 : (t156 == 1) = false := beq_eq_false_iff_ne.mpr c66
          have c66b1 : (t156 != 1) = true := bne_iff_ne.mpr c66
          have H' := Aside0.mk H
          clear H
          have hnb70 := NB145_147.out
          have hnc70 := NB147_145.out
          have hcz71_0 : wc.cell? ⟨gb145, 0, none⟩ = some (.string a1_0) := (blk_cell BK145.out 0).trans rfl
          have hcz71_1 : wc.cell? ⟨gb145, 1, none⟩ = some (.int .i64 a1_1) := (blk_cell BK145.out 1).trans rfl
          have hcz71_2 : wc.cell? ⟨gb145, 2, none⟩ = some (.slice A1_2 l1_2.length c1_2) := (blk_cell BK145.out 2).trans rfl
          have hfz71_0 := blk_frozen BK145.out 0
          have hfz71_1 := blk_frozen BK145.out 1
          have hfz71_2 := blk_frozen BK145.out 2
          go_wp2_with (first | ((with_reducible refine gate_callee (f := 13) rfl ?_); refine goesL_ (some 54) rfl rfl Tryd.func13 (by kernel_rfl) rfl #[.agg #[.string a1_0, .int .i64 a1_1, .slice A1_2 l1_2.length c1_2]] rfl (by (try simp only [List.map_toArray, List.map_cons, List.map_nil]); first | done | rfl | (simp only [List.length_drop, List.length_take]; rfl)) ?_; (with_reducible refine (chandleryref22_Plain.calls a1_0 a1_1 _ _ l1_2 t163 _ ?side1 ?side2 A48.out).mono ?_); (case side1 => repeat (first | exact (Kd.C_below HR1_2.out HB.out) | (with_reducible refine Kd.C_alloc ?_ _) | (with_reducible refine Kd.C_drewN ?_ _) | (with_reducible refine Kd.C_drew ?_))); (case side2 => exact HC1_2.out); rintro e w72 ⟨rfl, hb⟩; refine ⟨_, rfl, ?_⟩; have n0_ := Aside0.mk (Kd.V_below (by (with_reducible repeat (first | apply Kd.V_alloc | apply Kd.V_drewN | apply Kd.V_drew)); exact HO_9.out) hb); have n1_ := Aside0.mk (Kd.R_below (by (with_reducible repeat (first | apply Kd.R_alloc | apply Kd.R_drewN | apply Kd.R_drew)); exact HO_148002.out) hb); have n2_ := Aside0.mk (blk_below (g := gb145) (o := .cells #[.string a1_0, .int .i64 a1_1, .slice A1_2 l1_2.length c1_2] 24 (0, 0)) (by (with_reducible repeat (first | refine blk_drewN ?_ _ | refine blk_drew ?_ | refine blk_alloc ?_ _)); exact BK145.out) hb); have n3_ := Aside0.mk (blk_below (g := gb147) (o := .cells #[.string a1_0, .int .i64 a1_1, .slice Ao22 y151.length co22] 24 (0, 0)) (by (with_reducible repeat (first | refine blk_drewN ?_ _ | refine blk_drew ?_ | refine blk_alloc ?_ _)); exact BK147.out) hb); have n4_ := Aside0.mk (below_step (by repeat (first | (with_reducible first | exact HB.out | apply below_alloc | apply pw_below_drewN | apply below_drew1 | refine below_set ?_ GE145.out | refine below_set ?_ GE147.out) | exact HB.out)) hb); clear HO_9; clear HO_148002; clear BK145; clear BK147; clear HB; have HO_9 := n0_; have HO_148002 := n1_; have BK145 := n2_; have BK147 := n3_; have HB := n4_; clear n0_ n1_ n2_ n3_ n4_; (try clear hb); (try clear hb2); (try clear hk); (try clear hi)))
          go_meet
          case rel => exact ⟨_, (true), (by first | rfl | (simp; done) | exact congrArg Value.bool (Go.Proofs.YthnchdbkgenjhaaDoorX.isEmpty_ne_ _) | exact congrArg Value.bool (Go.Proofs.YthnchdbkgenjhaaDoorX.ne_isEmpty_ _) | (simp [*]; done)), H', ⟨by have := HJ9.out; first | omega | exact Nat.le_refl _⟩, ⟨by (with_reducible repeat (first | apply Kd.V_alloc | apply Kd.V_drewN | apply Kd.V_drew)); exact HO_9.out⟩, ⟨by (with_reducible repeat (first | apply Kd.R_alloc | apply Kd.R_drewN | apply Kd.R_drew)); exact HO_148002.out⟩, ⟨by (with_reducible repeat (first | refine blk_drewN ?_ _ | refine blk_drew ?_ | refine blk_alloc ?_ _)); exact BK145.out⟩, ⟨by (with_reducible repeat (first | refine blk_drewN ?_ _ | refine blk_drew ?_ | refine blk_alloc ?_ _)); exact BK147.out⟩, ⟨by repeat (first | (with_reducible first | exact HB.out | apply below_alloc | apply pw_below_drewN | apply below_drew1 | refine below_set ?_ GE145.out | refine below_set ?_ GE147.out) | exact HB.out)⟩⟩
      case rest =>
       clear HC47
       try clear c1
       try clear p2
       try clear c3
       try clear c4
       try clear c5
       try clear c6
       try clear c7
       try clear c8
       try clear c9
       try clear c10
       try clear c11
       try clear c12
       try clear c13
       try clear c16
       try clear c32
       try clear c33
       try clear c33b0
       try clear c33b1
       try clear c34
       try clear c38
       try clear c42
       try clear c46
       try clear c49
       try clear c49b0
       try clear c49b1
       try clear c49b2
       try clear c50
       try clear c53
       try clear c53b0
       try clear c53b1
       try clear c55
       try clear c55b0
       try clear c55b1
       try clear c56
       try clear c61
       try clear c66
       try clear c66b0
       try clear c66b1
       try clear c67
       try clear c70
       try clear hcz12_0
       try clear hcz12_1
       try clear hcz12_2
       try clear hcz14_0
       try clear hcz14_1
       try clear hcz14_2
       try clear hcz17_0
       try clear hcz17_1
       try clear hcz17_2
       try clear hcz20_0
       try clear hcz20_1
       try clear hcz20_2
       try clear hcz23_0
       try clear hcz23_1
       try clear hcz23_2
       try clear hcz25_0
       try clear hcz25_1
       try clear hcz25_2
       try clear hcz27_0
       try clear hcz27_1
       try clear hcz27_2
       try clear hcz29_0
       try clear hcz29_1
       try clear hcz29_2
       try clear hcz35_0
       try clear hcz35_1
       try clear hcz35_2
       try clear hcz36_0
       try clear hcz36_1
       try clear hcz36_2
       try clear hcz39_0
       try clear hcz39_1
       try clear hcz39_2
       try clear hcz40_0
       try clear hcz40_1
       try clear hcz40_2
       try clear hcz43_0
       try clear hcz43_1
       try clear hcz43_2
       try clear hcz44_0
       try clear hcz44_1
       try clear hcz44_2
       try clear hcz51_0
       try clear hcz51_1
       try clear hcz51_2
       try clear hcz57_0
       try clear hcz57_1
       try clear hcz57_2
       try clear hcz59_0
       try clear hcz59_1
       try clear hcz59_2
       try clear hcz62_0
       try clear hcz62_1
       try clear hcz62_2
       try clear hcz64_0
       try clear hcz64_1
       try clear hcz64_2
       try clear hcz68_0
       try clear hcz68_1
       try clear hcz68_2
       try clear hcz71_0
       try clear hcz71_1
       try clear hcz71_2
       try clear hfz12_0
       try clear hfz12_1
       try clear hfz12_2
       try clear hfz14_0
       try clear hfz14_1
       try clear hfz14_2
       try clear hfz17_0
       try clear hfz17_1
       try clear hfz17_2
       try clear hfz20_0
       try clear hfz20_1
       try clear hfz20_2
       try clear hfz23_0
       try clear hfz23_1
       try clear hfz23_2
       try clear hfz25_0
       try clear hfz25_1
       try clear hfz25_2
       try clear hfz27_0
       try clear hfz27_1
       try clear hfz27_2
       try clear hfz29_0
       try clear hfz29_1
       try clear hfz29_2
       try clear hfz35_0
       try clear hfz35_1
       try clear hfz35_2
       try clear hfz36_0
       try clear hfz36_1
       try clear hfz36_2
       try clear hfz39_0
       try clear hfz39_1
       try clear hfz39_2
       try clear hfz40_0
       try clear hfz40_1
       try clear hfz40_2
       try clear hfz43_0
       try clear hfz43_1
       try clear hfz43_2
       try clear hfz44_0
       try clear hfz44_1
       try clear hfz44_2
       try clear hfz51_0
       try clear hfz51_1
       try clear hfz51_2
       try clear hfz57_0
       try clear hfz57_1
       try clear hfz57_2
       try clear hfz59_0
       try clear hfz59_1
       try clear hfz59_2
       try clear hfz62_0
       try clear hfz62_1
       try clear hfz62_2
       try clear hfz64_0
       try clear hfz64_1
       try clear hfz64_2
       try clear hfz68_0
       try clear hfz68_1
       try clear hfz68_2
       try clear hfz71_0
       try clear hfz71_1
       try clear hfz71_2
       try clear p2
       obtain ⟨kq, x79_46, rfl, HA, HJ46, HO_9, HO_148002, BK145, BK147, HB⟩ := hcut
       cases kq with
       | zero => exact absurd HA.out (by simp [chandlerylaw22_InfoLays.j1])
       | succ kj46 =>
        have H := HA.out
        clear HA
        simp only [chandlerylaw22_InfoLays.j1] at H
        by_cases c73 : x79_46 = true
        ·subst c73
         have H1 : (some false) = some r := by rw [if_pos rfl] at H; exact H
         clear H
         have H := H1
         clear H1
         obtain rfl := Option.some.inj H
         go_wp2
         go_ret
         exact ⟨by first | rfl | (simp [errW_none, errW_some] <;> rfl) | (simp [*, errW_none, errW_some] <;> rfl), by repeat (first | (with_reducible first | exact HB.out | apply below_alloc | apply pw_below_drewN | apply below_drew1 | refine below_set ?_ GE145.out | refine below_set ?_ GE147.out) | exact HB.out)⟩
        ·replace c73 := Bool.eq_false_iff.mpr c73
         subst c73
         have H1 : (if t161 = 0 then ((chandlerylaw22_awake.f kj46).bind fun t165 => (if t165 = true then ((chandleryref22_Bytes.f a0 a1_0 a1_1 l1_2).bind fun t166 => (some ((strOfNums t157).toList == (strOfNums t166).toList))) else (some false))) else ((chandlerylaw22_awake.f kj46).bind fun t169 => (if t169 = true then (some ((t157.length : Int) == 0)) else (some false)))) = some r := by rw [if_neg (show ¬ (false = true) by decide)] at H; exact H
         clear H
         have H := H1
         clear H1
         by_cases c74 : t161 = 0
         ·rw [if_pos c74] at H
          have c74b0 : (t161 == 0) = true := beq_iff_eq.mpr c74
          have c74b1 : (t161 != 0) = false := bne_eq_false_iff_eq.mpr c74
          clear c74
          replace H := Option.bind_eq_some_iff.mp H
          obtain ⟨t165, A750, H⟩ := H
          replace H : (if t165 = true then ((chandleryref22_Bytes.f a0 a1_0 a1_1 l1_2).bind fun t166 => (some ((strOfNums t157).toList == (strOfNums t166).toList))) else (some false)) = some r := H
          have A75 := Aside0.mk A750
          clear A750
          by_cases c76 : t165 = true
          ·subst c76
           have H1 : ((chandleryref22_Bytes.f a0 a1_0 a1_1 l1_2).bind fun t166 => (some ((strOfNums t157).toList == (strOfNums t166).toList))) = some r := by rw [if_pos rfl] at H; exact H
           clear H
           have H := H1
           clear H1
           replace H := Option.bind_eq_some_iff.mp H
           obtain ⟨t166, A770, H⟩ := H
           replace H : (some ((strOfNums t157).toList == (strOfNums t166).toList)) = some r := H
           have A77 := Aside0.mk A770
           clear A770
           obtain rfl := Option.some.inj H
           try go_wp2
           have n0_ := Aside0.mk (Kd.V_drew HO_9.out)
           have n1_ := Aside0.mk (Kd.R_drew HO_148002.out)
           have n2_ := Aside0.mk (blk_drew BK145.out)
           have n3_ := Aside0.mk (blk_drew BK147.out)
           have n4_ := Aside0.mk (below_drew1 HB.out)
           clear HO_9
           clear HO_148002
           clear BK145
           clear BK147
           clear HB
           have HO_9 := n0_
           have HO_148002 := n1_
           have BK145 := n2_
           have BK147 := n3_
           have HB := n4_
           clear n0_ n1_ n2_ n3_ n4_
           refine start_ (n := 11) (S := fun w' => w'.cell? ⟨gb145, 0, none⟩ = some (.string a1_0) ∧ w'.cell? ⟨gb145, 1, none⟩ = some (.int .i64 a1_1) ∧ w'.cell? ⟨gb145, 2, none⟩ = some (.slice A1_2 l1_2.length c1_2) ∧ (convert 30 9 v158).run Tryd.prog w' = .ok (.string (strOfNums t157)) w') (ds := []) #[false, false, false, false, false, false, false, false, false, false, false] (by kernel_rfl) rfl rfl ⟨(blk_cell BK145.out 0).trans rfl, (blk_cell BK145.out 1).trans rfl, (blk_cell BK145.out 2).trans rfl, (by first | exact own_string (P := Tryd.prog) Tryd.underlying30 Tryd.underlying5 Tryd.underlying9 (Kd.own_of_R HO_9.out) | exact Go.Proofs.YthnchdbkgenjhaaDoorX.V_string (P := Tryd.prog) Tryd.underlying30 Tryd.underlying5 Tryd.underlying9 HO_9.out)⟩ (fun hHeld => ?_); refine with_tabW chandlerylaw22_InfoLays.tab15 chandlerylaw22_InfoLays.bits15 (fun HT_ HW_ => ?_)
           generalize wc.drew = w78 at HO_9 HO_148002 BK145 BK147 HB hHeld ⊢
           refine one_ (i := 0) (N := some 88) #[true, false, false, false, false, false, false, false, false, false, false] rfl rfl (one_of HT_.out (by kernel_rfl)) (by decide) (fun K hK => ?_)
           refine goes_ Tryd.func15 (by kernel_rfl) rfl #[] (by rfl) rfl rfl (by (try simp only [List.map_toArray, List.map_cons, List.map_nil]); first | done | rfl | (simp only [List.length_drop, List.length_take]; rfl)) ?_
           with_reducible refine (chandlerylaw22_awake.calls kj46  true _ A75.out).mono ?_
           rintro e w79 ⟨rfl, hb⟩
           refine ⟨_, rfl, ?_⟩
           have n0_ := Aside0.mk (Kd.V_below (by (with_reducible repeat (first | apply Kd.V_alloc | apply Kd.V_drewN | apply Kd.V_drew)); exact HO_9.out) hb)
           have n1_ := Aside0.mk (Kd.R_below (by (with_reducible repeat (first | apply Kd.R_alloc | apply Kd.R_drewN | apply Kd.R_drew)); exact HO_148002.out) hb)
           have n2_ := Aside0.mk (blk_below (g := gb145) (o := .cells #[.string a1_0, .int .i64 a1_1, .slice A1_2 l1_2.length c1_2] 24 (0, 0)) (by (with_reducible repeat (first | refine blk_drewN ?_ _ | refine blk_drew ?_ | refine blk_alloc ?_ _)); exact BK145.out) hb)
           have n3_ := Aside0.mk (blk_below (g := gb147) (o := .cells #[.string a1_0, .int .i64 a1_1, .slice Ao22 y151.length co22] 24 (0, 0)) (by (with_reducible repeat (first | refine blk_drewN ?_ _ | refine blk_drew ?_ | refine blk_alloc ?_ _)); exact BK147.out) hb)
           have n4_ := Aside0.mk (below_step (by repeat (first | (with_reducible first | exact HB.out | apply below_alloc | apply pw_below_drewN | apply below_drew1 | refine below_set ?_ GE145.out | refine below_set ?_ GE147.out) | exact HB.out)) hb)
           clear HO_9
           clear HO_148002
           clear BK145
           clear BK147
           clear HB
           have HO_9 := n0_
           have HO_148002 := n1_
           have BK145 := n2_
           have BK147 := n3_
           have HB := n4_
           clear n0_ n1_ n2_ n3_ n4_
           (try clear hb)
           (try clear hb2)
           (try clear hk)
           (try clear hi)
           have hcv80 := (by first | exact own_string (P := Tryd.prog) Tryd.underlying30 Tryd.underlying5 Tryd.underlying9 (Kd.own_of_R HO_9.out) | exact Go.Proofs.YthnchdbkgenjhaaDoorX.V_string (P := Tryd.prog) Tryd.underlying30 Tryd.underlying5 Tryd.underlying9 HO_9.out); have hcv80u := fun nq_ : Nat => (by first | exact own_string (P := Tryd.prog) Tryd.underlying30 Tryd.underlying5 Tryd.underlying9 (Kd.own_of_R (Kd.R_drewN HO_9.out nq_)) | exact Go.Proofs.YthnchdbkgenjhaaDoorX.V_string (P := Tryd.prog) Tryd.underlying30 Tryd.underlying5 Tryd.underlying9 (Kd.V_drewN HO_9.out nq_))
           refine hK.out _ _ ⟨(blk_cell BK145.out 0).trans rfl, (blk_cell BK145.out 1).trans rfl, (blk_cell BK145.out 2).trans rfl, (by first | exact own_string (P := Tryd.prog) Tryd.underlying30 Tryd.underlying5 Tryd.underlying9 (Kd.own_of_R HO_9.out) | exact Go.Proofs.YthnchdbkgenjhaaDoorX.V_string (P := Tryd.prog) Tryd.underlying30 Tryd.underlying5 Tryd.underlying9 HO_9.out)⟩ (fun hHeld => ?_)
           clear hK K
           refine norm_ (a' := ?_) ?_ ?_
           rotate_left
           ·show Act.put _ (some 88) _ = _
            simp only [Act.put, List.setIfInBounds_toArray, List.set_cons_zero, List.set_cons_succ, i64_w, i32_w]
            rfl
           refine pure_ (i := 1) (N := some 89) (v := ?_) (a' := ?_) #[true, true, false, false, false, false, false, false, false, false, false] rfl rfl (any_of HT_.out (by kernel_rfl)) (fun _ _ _ h => h) (Or.inl ⟨by rfl, ?_⟩) ?_ ?_
           rotate_left
           ·intro w'
            go_simp
            with_reducible rfl
           rotate_left
           ·simp only [Act.put, List.setIfInBounds_toArray, List.set_cons_zero, List.set_cons_succ, i64_w, i32_w]
            rfl
           refine pure_ (i := 2) (N := some 90) (v := ?_) (a' := ?_) #[true, true, true, false, false, false, false, false, false, false, false] rfl rfl (any_of HT_.out (by kernel_rfl)) (fun _ _ _ h => h) (Or.inl ⟨by rfl, ?_⟩) ?_ ?_
           rotate_left
           ·intro w'
            go_simp
            with_reducible rfl
           rotate_left
           ·simp only [Act.put, List.setIfInBounds_toArray, List.set_cons_zero, List.set_cons_succ, i64_w, i32_w]
            rfl
           refine take_ (i := 3) (N := some 91) (v := ?_) (a' := ?_) #[true, true, true, true, false, false, false, false, false, false, false] rfl rfl (take_ofW HT_.out HW_.out (by kernel_rfl)) (fun _ _ _ h => h) (Or.inl ⟨by rfl, ?_⟩) hHeld ?_ ?_
           rotate_left
           ·rintro w' ⟨s0, s1, s2, s3⟩
            go_simp
            with_reducible rfl
           rotate_left
           ·simp only [Act.put, List.setIfInBounds_toArray, List.set_cons_zero, List.set_cons_succ, i64_w, i32_w]
            rfl
           refine pure_ (i := 4) (N := some 92) (v := ?_) (a' := ?_) #[true, true, true, true, true, false, false, false, false, false, false] rfl rfl (any_of HT_.out (by kernel_rfl)) (fun _ _ _ h => h) (Or.inl ⟨by rfl, ?_⟩) ?_ ?_
           rotate_left
           ·intro w'
            go_simp
            with_reducible rfl
           rotate_left
           ·simp only [Act.put, List.setIfInBounds_toArray, List.set_cons_zero, List.set_cons_succ, i64_w, i32_w]
            rfl
           refine take_ (i := 5) (N := some 93) (v := ?_) (a' := ?_) #[true, true, true, true, true, true, false, false, false, false, false] rfl rfl (take_ofW HT_.out HW_.out (by kernel_rfl)) (fun _ _ _ h => h) (Or.inl ⟨by rfl, ?_⟩) hHeld ?_ ?_
           rotate_left
           ·rintro w' ⟨s0, s1, s2, s3⟩
            go_simp
            with_reducible rfl
           rotate_left
           ·simp only [Act.put, List.setIfInBounds_toArray, List.set_cons_zero, List.set_cons_succ, i64_w, i32_w]
            rfl
           refine one_ (i := 6) (N := some 94) #[true, true, true, true, true, true, true, false, false, false, false] rfl rfl (one_of HT_.out (by kernel_rfl)) (by decide) (fun K hK => ?_)
           refine goes_ Tryd.func16 (by kernel_rfl) rfl #[.string a0, .agg #[.string a1_0, .int .i64 a1_1, .slice A1_2 l1_2.length c1_2]] (by rfl) rfl rfl (by (try simp only [List.map_toArray, List.map_cons, List.map_nil]); first | done | rfl | (simp only [List.length_drop, List.length_take]; rfl)) ?_
           with_reducible refine (chandleryref22_Bytes.calls a0 a1_0 a1_1 _ _ l1_2 t166 _ ?side1 ?side2 A77.out).mono ?_
           (case side1 => repeat (first | exact (Kd.C_below HR1_2.out HB.out) | (with_reducible refine Kd.C_alloc ?_ _) | (with_reducible refine Kd.C_drewN ?_ _) | (with_reducible refine Kd.C_drew ?_)))
           (case side2 => exact HC1_2.out)
           rintro e w81 ⟨v167, rfl, ho0, hb⟩
           refine ⟨_, rfl, ?_⟩
           have n0_ := Aside0.mk (Kd.V_elder' (by (with_reducible repeat (first | apply Kd.V_alloc | apply Kd.V_drewN | apply Kd.V_drew)); exact HO_9.out) (Kd.R_base ho0) hb)
           have n1_ := Aside0.mk (Kd.R_below (by (with_reducible repeat (first | apply Kd.R_alloc | apply Kd.R_drewN | apply Kd.R_drew)); exact HO_148002.out) hb)
           have n2_ := Aside0.mk (Kd.R_lower ho0 (below_size (by repeat (first | (with_reducible first | exact HB.out | apply below_alloc | apply pw_below_drewN | apply below_drew1 | refine below_set ?_ GE145.out | refine below_set ?_ GE147.out) | exact HB.out))))
           have n3_ := Aside0.mk (blk_below (g := gb145) (o := .cells #[.string a1_0, .int .i64 a1_1, .slice A1_2 l1_2.length c1_2] 24 (0, 0)) (by (with_reducible repeat (first | refine blk_drewN ?_ _ | refine blk_drew ?_ | refine blk_alloc ?_ _)); exact BK145.out) hb)
           have n4_ := Aside0.mk (blk_below (g := gb147) (o := .cells #[.string a1_0, .int .i64 a1_1, .slice Ao22 y151.length co22] 24 (0, 0)) (by (with_reducible repeat (first | refine blk_drewN ?_ _ | refine blk_drew ?_ | refine blk_alloc ?_ _)); exact BK147.out) hb)
           have n5_ := Aside0.mk (below_step (by repeat (first | (with_reducible first | exact HB.out | apply below_alloc | apply pw_below_drewN | apply below_drew1 | refine below_set ?_ GE145.out | refine below_set ?_ GE147.out) | exact HB.out)) hb)
           clear HO_9
           clear HO_148002
           clear BK145
           clear BK147
           clear HB
           have HO_9 := n0_
           have HO_148002 := n1_
           have HO168 := n2_
           have BK145 := n3_
           have BK147 := n4_
           have HB := n5_
           clear n0_ n1_ n2_ n3_ n4_ n5_
           (try clear hb)
           (try clear hb2)
           (try clear hk)
           (try clear hi)
           (try clear ho0)
           refine hK.out _ _ ⟨(blk_cell BK145.out 0).trans rfl, (blk_cell BK145.out 1).trans rfl, (blk_cell BK145.out 2).trans rfl, (by first | exact own_string (P := Tryd.prog) Tryd.underlying30 Tryd.underlying5 Tryd.underlying9 (Kd.own_of_R HO_9.out) | exact Go.Proofs.YthnchdbkgenjhaaDoorX.V_string (P := Tryd.prog) Tryd.underlying30 Tryd.underlying5 Tryd.underlying9 HO_9.out)⟩ (fun hHeld => ?_)
           clear hK K
           refine norm_ (a' := ?_) ?_ ?_
           rotate_left
           ·show Act.put _ (some 94) _ = _
            simp only [Act.put, List.setIfInBounds_toArray, List.set_cons_zero, List.set_cons_succ, i64_w, i32_w]
            rfl
           refine one_ (i := 7) (N := some 95) #[true, true, true, true, true, true, true, true, false, false, false] rfl rfl (one_of HT_.out (by kernel_rfl)) (by decide) (fun K hK => ?_)
           have hcv82 := (by first | exact own_string (P := Tryd.prog) Tryd.underlying30 Tryd.underlying5 Tryd.underlying9 (Kd.own_of_R HO168.out) | exact Go.Proofs.YthnchdbkgenjhaaDoorX.V_string (P := Tryd.prog) Tryd.underlying30 Tryd.underlying5 Tryd.underlying9 HO168.out); have hcv82u := fun nq_ : Nat => (by first | exact own_string (P := Tryd.prog) Tryd.underlying30 Tryd.underlying5 Tryd.underlying9 (Kd.own_of_R (Kd.R_drewN HO168.out nq_)) | exact Go.Proofs.YthnchdbkgenjhaaDoorX.V_string (P := Tryd.prog) Tryd.underlying30 Tryd.underlying5 Tryd.underlying9 (Kd.V_drewN HO168.out nq_))
           refine value_ (w1 := ?_) (v := ?_) (by rfl) rfl ?_ ?_
           rotate_left 2
           ·go_simp
            constructor
            ·rfl
            ·rfl
           clear hcv82
           refine hK.out _ _ ⟨(blk_cell BK145.out 0).trans rfl, (blk_cell BK145.out 1).trans rfl, (blk_cell BK145.out 2).trans rfl, (by first | exact own_string (P := Tryd.prog) Tryd.underlying30 Tryd.underlying5 Tryd.underlying9 (Kd.own_of_R HO_9.out) | exact Go.Proofs.YthnchdbkgenjhaaDoorX.V_string (P := Tryd.prog) Tryd.underlying30 Tryd.underlying5 Tryd.underlying9 HO_9.out)⟩ (fun hHeld => ?_)
           clear hK K
           refine norm_ (a' := ?_) ?_ ?_
           rotate_left
           ·show Act.put _ (some 95) _ = _
            simp only [Act.put, List.setIfInBounds_toArray, List.set_cons_zero, List.set_cons_succ, i64_w, i32_w]
            rfl
           refine pure_ (i := 8) (N := some 96) (v := ?_) (a' := ?_) #[true, true, true, true, true, true, true, true, true, false, false] rfl rfl (any_of HT_.out (by kernel_rfl)) (fun _ _ _ h => h) (Or.inl ⟨by rfl, ?_⟩) ?_ ?_
           rotate_left
           ·intro w'
            go_simp
            with_reducible rfl
           rotate_left
           ·simp only [Act.put, List.setIfInBounds_toArray, List.set_cons_zero, List.set_cons_succ, i64_w, i32_w]
            rfl
           refine pure_ (i := 9) (N := some 97) (v := ?_) (a' := ?_) #[true, true, true, true, true, true, true, true, true, true, false] rfl rfl (any_of HT_.out (by kernel_rfl)) (fun _ _ _ h => h) (Or.inl ⟨by rfl, ?_⟩) ?_ ?_
           rotate_left
           ·intro w'
            go_simp
            with_reducible rfl
           rotate_left
           ·simp only [Act.put, List.setIfInBounds_toArray, List.set_cons_zero, List.set_cons_succ, i64_w, i32_w]
            rfl
           refine pure_ (i := 10) (N := some 4) (v := ?_) (a' := ?_) #[true, true, true, true, true, true, true, true, true, true, true] rfl rfl (any_of HT_.out (by kernel_rfl)) (fun _ _ _ h => h) (Or.inl ⟨by rfl, ?_⟩) ?_ ?_
           rotate_left
           ·intro w'
            go_simp
            with_reducible rfl
           rotate_left
           ·simp only [Act.put, List.setIfInBounds_toArray, List.set_cons_zero, List.set_cons_succ, i64_w, i32_w]
            rfl
           refine done_ (done_of HT_.out (by kernel_rfl)) ?_
           try go_wp2
           go_ret
           exact ⟨by first | rfl | (simp [errW_none, errW_some] <;> rfl) | (simp [*, errW_none, errW_some] <;> rfl), by repeat (first | (with_reducible first | exact HB.out | apply below_alloc | apply pw_below_drewN | apply below_drew1 | refine below_set ?_ GE145.out | refine below_set ?_ GE147.out) | exact HB.out)⟩
          ·replace c76 := Bool.eq_false_iff.mpr c76
           subst c76
           have H1 : (some false) = some r := by rw [if_neg (show ¬ (false = true) by decide)] at H; exact H
           clear H
           have H := H1
           clear H1
           obtain rfl := Option.some.inj H
           try go_wp2
           have n0_ := Aside0.mk (Kd.V_drew HO_9.out)
           have n1_ := Aside0.mk (Kd.R_drew HO_148002.out)
           have n2_ := Aside0.mk (blk_drew BK145.out)
           have n3_ := Aside0.mk (blk_drew BK147.out)
           have n4_ := Aside0.mk (below_drew1 HB.out)
           clear HO_9
           clear HO_148002
           clear BK145
           clear BK147
           clear HB
           have HO_9 := n0_
           have HO_148002 := n1_
           have BK145 := n2_
           have BK147 := n3_
           have HB := n4_
           clear n0_ n1_ n2_ n3_ n4_
           refine start_ (n := 11) (S := fun w' => True) (ds := []) #[false, false, false, false, false, false, false, false, false, false, false] (by kernel_rfl) rfl rfl trivial (fun hHeld => ?_); refine with_tabW chandlerylaw22_InfoLays.tab15 chandlerylaw22_InfoLays.bits15 (fun HT_ HW_ => ?_)
           generalize wc.drew = w84 at HO_9 HO_148002 BK145 BK147 HB hHeld ⊢
           refine one_ (i := 0) (N := some 88) #[true, false, false, false, false, false, false, false, false, false, false] rfl rfl (one_of HT_.out (by kernel_rfl)) (by decide) (fun K hK => ?_)
           refine goes_ Tryd.func15 (by kernel_rfl) rfl #[] (by rfl) rfl rfl (by (try simp only [List.map_toArray, List.map_cons, List.map_nil]); first | done | rfl | (simp only [List.length_drop, List.length_take]; rfl)) ?_
           with_reducible refine (chandlerylaw22_awake.calls kj46  false _ A75.out).mono ?_
           rintro e w85 ⟨rfl, hb⟩
           refine ⟨_, rfl, ?_⟩
           have n0_ := Aside0.mk (Kd.V_below (by (with_reducible repeat (first | apply Kd.V_alloc | apply Kd.V_drewN | apply Kd.V_drew)); exact HO_9.out) hb)
           have n1_ := Aside0.mk (Kd.R_below (by (with_reducible repeat (first | apply Kd.R_alloc | apply Kd.R_drewN | apply Kd.R_drew)); exact HO_148002.out) hb)
           have n2_ := Aside0.mk (blk_below (g := gb145) (o := .cells #[.string a1_0, .int .i64 a1_1, .slice A1_2 l1_2.length c1_2] 24 (0, 0)) (by (with_reducible repeat (first | refine blk_drewN ?_ _ | refine blk_drew ?_ | refine blk_alloc ?_ _)); exact BK145.out) hb)
           have n3_ := Aside0.mk (blk_below (g := gb147) (o := .cells #[.string a1_0, .int .i64 a1_1, .slice Ao22 y151.length co22] 24 (0, 0)) (by (with_reducible repeat (first | refine blk_drewN ?_ _ | refine blk_drew ?_ | refine blk_alloc ?_ _)); exact BK147.out) hb)
           have n4_ := Aside0.mk (below_step (by repeat (first | (with_reducible first | exact HB.out | apply below_alloc | apply pw_below_drewN | apply below_drew1 | refine below_set ?_ GE145.out | refine below_set ?_ GE147.out) | exact HB.out)) hb)
           clear HO_9
           clear HO_148002
           clear BK145
           clear BK147
           clear HB
           have HO_9 := n0_
           have HO_148002 := n1_
           have BK145 := n2_
           have BK147 := n3_
           have HB := n4_
           clear n0_ n1_ n2_ n3_ n4_
           (try clear hb)
           (try clear hb2)
           (try clear hk)
           (try clear hi)
           refine hK.out _ _ trivial (fun hHeld => ?_)
           clear hK K
           refine norm_ (a' := ?_) ?_ ?_
           rotate_left
           ·show Act.put _ (some 88) _ = _
            simp only [Act.put, List.setIfInBounds_toArray, List.set_cons_zero, List.set_cons_succ, i64_w, i32_w]
            rfl
           refine pure_ (i := 1) (N := some 89) (v := ?_) (a' := ?_) #[true, true, false, false, false, false, false, false, false, false, false] rfl rfl (any_of HT_.out (by kernel_rfl)) (fun _ _ _ h => h) (Or.inl ⟨by rfl, ?_⟩) ?_ ?_
           rotate_left
           ·intro w'
            go_simp
            with_reducible rfl
           rotate_left
           ·simp only [Act.put, List.setIfInBounds_toArray, List.set_cons_zero, List.set_cons_succ, i64_w, i32_w]
            rfl
           refine pure_ (i := 2) (N := some 90) (v := undef) (a' := ?_) #[true, true, true, false, false, false, false, false, false, false, false] rfl rfl (any_of HT_.out (by kernel_rfl)) (fun _ _ _ h => h) (Or.inr ⟨by rfl, rfl⟩) ?_ ?_
           rotate_left
           ·simp only [Act.put, List.setIfInBounds_toArray, List.set_cons_zero, List.set_cons_succ, i64_w, i32_w]
            rfl
           refine pure_ (i := 3) (N := some 91) (v := undef) (a' := ?_) #[true, true, true, true, false, false, false, false, false, false, false] rfl rfl (any_of HT_.out (by kernel_rfl)) (fun _ _ _ h => h) (Or.inr ⟨by rfl, rfl⟩) ?_ ?_
           rotate_left
           ·simp only [Act.put, List.setIfInBounds_toArray, List.set_cons_zero, List.set_cons_succ, i64_w, i32_w]
            rfl
           refine pure_ (i := 4) (N := some 92) (v := undef) (a' := ?_) #[true, true, true, true, true, false, false, false, false, false, false] rfl rfl (any_of HT_.out (by kernel_rfl)) (fun _ _ _ h => h) (Or.inr ⟨by rfl, rfl⟩) ?_ ?_
           rotate_left
           ·simp only [Act.put, List.setIfInBounds_toArray, List.set_cons_zero, List.set_cons_succ, i64_w, i32_w]
            rfl
           refine pure_ (i := 5) (N := some 93) (v := undef) (a' := ?_) #[true, true, true, true, true, true, false, false, false, false, false] rfl rfl (any_of HT_.out (by kernel_rfl)) (fun _ _ _ h => h) (Or.inr ⟨by rfl, rfl⟩) ?_ ?_
           rotate_left
           ·simp only [Act.put, List.setIfInBounds_toArray, List.set_cons_zero, List.set_cons_succ, i64_w, i32_w]
            rfl
           refine pure_ (i := 6) (N := some 94) (v := undef) (a' := ?_) #[true, true, true, true, true, true, true, false, false, false, false] rfl rfl (any_of HT_.out (by kernel_rfl)) (fun _ _ _ h => h) (Or.inr ⟨by rfl, rfl⟩) ?_ ?_
           rotate_left
           ·simp only [Act.put, List.setIfInBounds_toArray, List.set_cons_zero, List.set_cons_succ, i64_w, i32_w]
            rfl
           refine pure_ (i := 7) (N := some 95) (v := undef) (a' := ?_) #[true, true, true, true, true, true, true, true, false, false, false] rfl rfl (any_of HT_.out (by kernel_rfl)) (fun _ _ _ h => h) (Or.inr ⟨by rfl, rfl⟩) ?_ ?_
           rotate_left
           ·simp only [Act.put, List.setIfInBounds_toArray, List.set_cons_zero, List.set_cons_succ, i64_w, i32_w]
            rfl
           refine pure_ (i := 8) (N := some 96) (v := undef) (a' := ?_) #[true, true, true, true, true, true, true, true, true, false, false] rfl rfl (any_of HT_.out (by kernel_rfl)) (fun _ _ _ h => h) (Or.inr ⟨by rfl, rfl⟩) ?_ ?_
           rotate_left
           ·simp only [Act.put, List.setIfInBounds_toArray, List.set_cons_zero, List.set_cons_succ, i64_w, i32_w]
            rfl
           refine pure_ (i := 9) (N := some 97) (v := ?_) (a' := ?_) #[true, true, true, true, true, true, true, true, true, true, false] rfl rfl (any_of HT_.out (by kernel_rfl)) (fun _ _ _ h => h) (Or.inl ⟨by rfl, ?_⟩) ?_ ?_
           rotate_left
           ·intro w'
            go_simp
            with_reducible rfl
           rotate_left
           ·simp only [Act.put, List.setIfInBounds_toArray, List.set_cons_zero, List.set_cons_succ, i64_w, i32_w]
            rfl
           refine pure_ (i := 10) (N := some 4) (v := ?_) (a' := ?_) #[true, true, true, true, true, true, true, true, true, true, true] rfl rfl (any_of HT_.out (by kernel_rfl)) (fun _ _ _ h => h) (Or.inl ⟨by rfl, ?_⟩) ?_ ?_
           rotate_left
           ·intro w'
            go_simp
            with_reducible rfl
           rotate_left
           ·simp only [Act.put, List.setIfInBounds_toArray, List.set_cons_zero, List.set_cons_succ, i64_w, i32_w]
            rfl
           refine done_ (done_of HT_.out (by kernel_rfl)) ?_
           try go_wp2
           go_ret
           exact ⟨by first | rfl | (simp [errW_none, errW_some] <;> rfl) | (simp [*, errW_none, errW_some] <;> rfl), by repeat (first | (with_reducible first | exact HB.out | apply below_alloc | apply pw_below_drewN | apply below_drew1 | refine below_set ?_ GE145.out | refine below_set ?_ GE147.out) | exact HB.out)⟩
         ·rw [if_neg c74] at H
          have c74b0 : (t161 == 0) = false := beq_eq_false_iff_ne.mpr c74
          have c74b1 : (t161 != 0) = true := bne_iff_ne.mpr c74
          replace H := Option.bind_eq_some_iff.mp H
          obtain ⟨t169, A860, H⟩ := H
          replace H : (if t169 = true then (some ((t157.length : Int) == 0)) else (some false)) = some r := H
          have A86 := Aside0.mk A860
          clear A860
          by_cases c87 : t169 = true
          ·subst c87
           have H1 : (some ((t157.length : Int) == 0)) = some r := by rw [if_pos rfl] at H; exact H
           clear H
           have H := H1
           clear H1
           obtain rfl := Option.some.inj H
           go_wp2_with (first | ((with_reducible refine gate_callee (f := 15) rfl ?_); refine goesL_ (some 82) rfl rfl Tryd.func15 (by kernel_rfl) rfl #[] rfl (by (try simp only [List.map_toArray, List.map_cons, List.map_nil]); first | done | rfl | (simp only [List.length_drop, List.length_take]; rfl)) ?_; (with_reducible refine (chandlerylaw22_awake.calls kj46  true _ A86.out).mono ?_); rintro e w88 ⟨rfl, hb⟩; refine ⟨_, rfl, ?_⟩; have n0_ := Aside0.mk (Kd.V_below (by (with_reducible repeat (first | apply Kd.V_alloc | apply Kd.V_drewN | apply Kd.V_drew)); exact HO_9.out) hb); have n1_ := Aside0.mk (Kd.R_below (by (with_reducible repeat (first | apply Kd.R_alloc | apply Kd.R_drewN | apply Kd.R_drew)); exact HO_148002.out) hb); have n2_ := Aside0.mk (blk_below (g := gb145) (o := .cells #[.string a1_0, .int .i64 a1_1, .slice A1_2 l1_2.length c1_2] 24 (0, 0)) (by (with_reducible repeat (first | refine blk_drewN ?_ _ | refine blk_drew ?_ | refine blk_alloc ?_ _)); exact BK145.out) hb); have n3_ := Aside0.mk (blk_below (g := gb147) (o := .cells #[.string a1_0, .int .i64 a1_1, .slice Ao22 y151.length co22] 24 (0, 0)) (by (with_reducible repeat (first | refine blk_drewN ?_ _ | refine blk_drew ?_ | refine blk_alloc ?_ _)); exact BK147.out) hb); have n4_ := Aside0.mk (below_step (by repeat (first | (with_reducible first | exact HB.out | apply below_alloc | apply pw_below_drewN | apply below_drew1 | refine below_set ?_ GE145.out | refine below_set ?_ GE147.out) | exact HB.out)) hb); clear HO_9; clear HO_148002; clear BK145; clear BK147; clear HB; have HO_9 := n0_; have HO_148002 := n1_; have BK145 := n2_; have BK147 := n3_; have HB := n4_; clear n0_ n1_ n2_ n3_ n4_; (try clear hb); (try clear hb2); (try clear hk); (try clear hi); obtain ⟨Ao89, co89, eo89⟩ := Kd.V_slice HO_9.out; subst eo89))
           go_ret
           exact ⟨by first | rfl | (simp [errW_none, errW_some] <;> rfl) | (simp [*, errW_none, errW_some] <;> rfl), by repeat (first | (with_reducible first | exact HB.out | apply below_alloc | apply pw_below_drewN | apply below_drew1 | refine below_set ?_ GE145.out | refine below_set ?_ GE147.out) | exact HB.out)⟩
          ·replace c87 := Bool.eq_false_iff.mpr c87
           subst c87
           have H1 : (some false) = some r := by rw [if_neg (show ¬ (false = true) by decide)] at H; exact H
           clear H
           have H := H1
           clear H1
           obtain rfl := Option.some.inj H
           go_wp2_with (first | ((with_reducible refine gate_callee (f := 15) rfl ?_); refine goesL_ (some 82) rfl rfl Tryd.func15 (by kernel_rfl) rfl #[] rfl (by (try simp only [List.map_toArray, List.map_cons, List.map_nil]); first | done | rfl | (simp only [List.length_drop, List.length_take]; rfl)) ?_; (with_reducible refine (chandlerylaw22_awake.calls kj46  false _ A86.out).mono ?_); rintro e w90 ⟨rfl, hb⟩; refine ⟨_, rfl, ?_⟩; have n0_ := Aside0.mk (Kd.V_below (by (with_reducible repeat (first | apply Kd.V_alloc | apply Kd.V_drewN | apply Kd.V_drew)); exact HO_9.out) hb); have n1_ := Aside0.mk (Kd.R_below (by (with_reducible repeat (first | apply Kd.R_alloc | apply Kd.R_drewN | apply Kd.R_drew)); exact HO_148002.out) hb); have n2_ := Aside0.mk (blk_below (g := gb145) (o := .cells #[.string a1_0, .int .i64 a1_1, .slice A1_2 l1_2.length c1_2] 24 (0, 0)) (by (with_reducible repeat (first | refine blk_drewN ?_ _ | refine blk_drew ?_ | refine blk_alloc ?_ _)); exact BK145.out) hb); have n3_ := Aside0.mk (blk_below (g := gb147) (o := .cells #[.string a1_0, .int .i64 a1_1, .slice Ao22 y151.length co22] 24 (0, 0)) (by (with_reducible repeat (first | refine blk_drewN ?_ _ | refine blk_drew ?_ | refine blk_alloc ?_ _)); exact BK147.out) hb); have n4_ := Aside0.mk (below_step (by repeat (first | (with_reducible first | exact HB.out | apply below_alloc | apply pw_below_drewN | apply below_drew1 | refine below_set ?_ GE145.out | refine below_set ?_ GE147.out) | exact HB.out)) hb); clear HO_9; clear HO_148002; clear BK145; clear BK147; clear HB; have HO_9 := n0_; have HO_148002 := n1_; have BK145 := n2_; have BK147 := n3_; have HB := n4_; clear n0_ n1_ n2_ n3_ n4_; (try clear hb); (try clear hb2); (try clear hk); (try clear hi)))
           go_ret
           exact ⟨by first | rfl | (simp [errW_none, errW_some] <;> rfl) | (simp [*, errW_none, errW_some] <;> rfl), by repeat (first | (with_reducible first | exact HB.out | apply below_alloc | apply pw_below_drewN | apply below_drew1 | refine below_set ?_ GE145.out | refine below_set ?_ GE147.out) | exact HB.out)⟩
  ·rw [if_neg c5] at H
   exact absurd H (by simp)
 ·replace c4 := Bool.eq_false_iff.mpr c4
  subst c4
  have H1 : (some true) = some r := by rw [if_neg (show ¬ (false = true) by decide)] at H; exact H
  clear H
  have H := H1
  clear H1
  obtain rfl := Option.some.inj H
  go_enter Tryd.func3, Tryd.ntmps3
  go_wp2_with (first | ((with_reducible refine gate_dst (N := 3) rfl ?_); (try (refine gate_guard (by rfl) ?_; dsimp only)); refine box_event ?hg (N := 3) ?hd (cs := #[.string a1_0, .int .i64 a1_1, .slice A1_2 l1_2.length c1_2]) (t := 24) ?hr ?_; (case hd => rfl); (case hg => rfl); (case hr => first | (go_simp; done) | (go_simp; rfl)); intro gb145 hg w91 hbox hb; have n0_ := Aside0.mk (below_step (by repeat (first | (with_reducible first | exact HB.out | apply below_alloc | apply pw_below_drewN | apply below_drew1) | exact HB.out)) hb); have n1_ := Aside0.mk (hbox); have n2_ := Aside0.mk ((by rw [hg]; exact (below_size (by repeat (first | (with_reducible first | exact HB.out | apply below_alloc | apply pw_below_drewN | apply below_drew1) | exact HB.out))) : w.heap.size ≤ gb145)); have n3_ := Aside0.mk ((by rw [hg]; exact (below_size (by repeat (first | (with_reducible first | exact HB.out | apply below_alloc | apply pw_below_drewN | apply below_drew1) | exact HB.out))) : w.heap.size ≤ gb145)); clear HB; have HB := n0_; have BK145 := n1_; have GW145 := n2_; have GE145 := n3_; clear n0_ n1_ n2_ n3_; clear hb hbox hg; have hcz92_0 : w91.cell? ⟨gb145, 0, none⟩ = some (.string a1_0) := (blk_cell BK145.out 0).trans rfl; have hcz92_1 : w91.cell? ⟨gb145, 1, none⟩ = some (.int .i64 a1_1) := (blk_cell BK145.out 1).trans rfl; have hcz92_2 : w91.cell? ⟨gb145, 2, none⟩ = some (.slice A1_2 l1_2.length c1_2) := (blk_cell BK145.out 2).trans rfl; have hfz92_0 := blk_frozen BK145.out 0; have hfz92_1 := blk_frozen BK145.out 1; have hfz92_2 := blk_frozen BK145.out 2) | ((with_reducible refine gate_callee (f := 7) rfl ?_); refine goesL_ (some 14) rfl rfl Tryd.func7 (by kernel_rfl) rfl #[.string a0, .agg #[.string a1_0, .int .i64 a1_1, .slice A1_2 l1_2.length c1_2]] rfl (by (try simp only [List.map_toArray, List.map_cons, List.map_nil]); first | done | rfl | (simp only [List.length_drop, List.length_take]; rfl)) ?_; (with_reducible refine (chandlerylaw22_few.calls k a0 a1_0 a1_1 _ _ l1_2 false _ ?side1 ?side2 A3.out).mono ?_); (case side1 => repeat (first | exact (Kd.C_below HR1_2.out HB.out) | (with_reducible refine Kd.C_alloc ?_ _) | (with_reducible refine Kd.C_drewN ?_ _) | (with_reducible refine Kd.C_drew ?_))); (case side2 => exact HC1_2.out); rintro e w93 ⟨rfl, hb⟩; refine ⟨_, rfl, ?_⟩; have n0_ := Aside0.mk (blk_below (g := gb145) (o := .cells #[.string a1_0, .int .i64 a1_1, .slice A1_2 l1_2.length c1_2] 24 (0, 0)) (by (with_reducible repeat (first | refine blk_drewN ?_ _ | refine blk_drew ?_ | refine blk_alloc ?_ _)); exact BK145.out) hb); have n1_ := Aside0.mk (below_step (by repeat (first | (with_reducible first | exact HB.out | apply below_alloc | apply pw_below_drewN | apply below_drew1 | refine below_set ?_ GE145.out) | exact HB.out)) hb); clear BK145; clear HB; have BK145 := n0_; have HB := n1_; clear n0_ n1_; (try clear hb); (try clear hb2); (try clear hk); (try clear hi)))
  go_ret
  exact ⟨by first | rfl | (simp [errW_none, errW_some] <;> rfl) | (simp [*, errW_none, errW_some] <;> rfl), by repeat (first | (with_reducible first | exact HB.out | apply below_alloc | apply pw_below_drewN | apply below_drew1 | refine below_set ?_ GE145.out) | exact HB.out)⟩
end Go.Proofs.YthnchdbkgenjhaaDoor.PInfoL
