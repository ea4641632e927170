-- printed with xprint.py over the kit's print
import Derived.Test.YtalbbifgkninmaaDoorQBasex0
import Derived.Test.YtalbbifgkninmaaDoorQBasex2
import Derived.Test.YtalbbifgkninmaaDoorQBasex3
import Derived.Test.YtalbbifgkninmaaDoorQBasex4
namespace Go.Proofs.YtalbbifgkninmaaDoor.PBase
open Go.RowKit Go.Proofs.YtalbbifgkninmaaDoorW.PrintWords Go.Proofs.YtalbbifgkninmaaDoorW.PrintLast Go.Proofs.YtalbbifgkninmaaDoorW.PrintMore
attribute [local go_sem] max2_int min2_int max_two min_two max_three min_three max_four min_four   -- for this text's walks alone
set_option linter.unusedVariables false
set_option linter.unusedSimpArgs false

/-! ### base_Size: function 17 -/
def base_Size.f (a0 : Int) : Option (Int × Int) := if a0 < 0 then (some (0, 1)) else (if a0 > 1000000000 then (some (0, 1)) else ((base_size.f a0).bind fun t234 => (some (t234, 0))))
set_option maxHeartbeats 8000000 in
set_option maxRecDepth 100000 in
theorem base_Size.calls (a0 : Int) (r1 : Int) (r2 : Int) (w : World) (h : base_Size.f a0 = some (r1, r2)) :
    Calls Tryd.prog 17 #[.int .i64 a0] w fun e w' => e = .returned (.tuple #[.int .i64 r1, .int .i64 r2]) ∧ Drawn0 w w' := by
  have H : (if a0 < 0 then (some (0, 1)) else (if a0 > 1000000000 then (some (0, 1)) else ((base_size.f a0).bind fun t234 => (some (t234, 0))))) = some (r1, r2) := h
  clear h
  by_cases c2 : a0 < 0
  · rw [if_pos c2] at H
    have c2b0 : decide (a0 < 0) = true := decide_eq_true c2
    clear c2
    simp only [Option.some.injEq, Prod.mk.injEq] at H
    obtain ⟨rfl, rfl⟩ := H
    go_enter Tryd.func17, Tryd.ntmps17
    go_wp2
    go_ret2
    exact ⟨by first | rfl | (simp; done) | (simp [*]; done), by repeat (first | exact Drawn0.refl _ | apply Drawn0.step)⟩
  · rw [if_neg c2] at H
    have c2b0 : decide (a0 < 0) = false := decide_eq_false c2
    clear c2
    by_cases c3 : a0 > 1000000000
    · rw [if_pos c3] at H
      have c3b0 : decide (1000000000 < a0) = true := decide_eq_true c3
      clear c3
      simp only [Option.some.injEq, Prod.mk.injEq] at H
      obtain ⟨rfl, rfl⟩ := H
      go_enter Tryd.func17, Tryd.ntmps17
      go_wp2
      go_ret2
      exact ⟨by first | rfl | (simp; done) | (simp [*]; done), by repeat (first | exact Drawn0.refl _ | apply Drawn0.step)⟩
    · rw [if_neg c3] at H
      have c3b0 : decide (1000000000 < a0) = false := decide_eq_false c3
      clear c3
      replace H := Option.bind_eq_some_iff.mp H
      obtain ⟨t234, A40, H⟩ := H
      replace H : (some (t234, 0)) = some (r1, r2) := H
      have A4 := Aside0.mk A40
      clear A40
      simp only [Option.some.injEq, Prod.mk.injEq] at H
      obtain ⟨rfl, rfl⟩ := H
      go_enter Tryd.func17, Tryd.ntmps17
      go_wp2_with (first | ((with_reducible refine gate_callee (f := 25) rfl ?_); refine goesL_ (some 11) rfl rfl Tryd.func25 (by kernel_rfl) rfl #[.int .i64 a0] rfl (by (try simp only [List.map_toArray, List.map_cons, List.map_nil]); first | done | rfl | (simp only [List.length_drop, List.length_take]; rfl)) ?_; (with_reducible refine (base_size.calls a0 t234 _ A4.out).mono ?_); rintro e w' ⟨rfl, ⟨nd, rfl⟩⟩; refine ⟨_, rfl, ?_⟩))
      go_ret2
      exact ⟨by first | rfl | (simp; done) | (simp [*]; done), by repeat (first | exact Drawn0.refl _ | apply Drawn0.step)⟩

/-! ### chandlerylaw02_BaseEncodes: function 8 -/
mutual
def chandlerylaw02_BaseEncodes.j0 : Nat → Int → Int → Int → Bool → Option (Bool)
  | 0, _, _, _, _ => none
  | k + 1, x1, x9, x10, x50 => if x50 = true then (some false) else (if x1 < 0 then (chandlerylaw02_BaseEncodes.j1 k x1 x9 x10 true) else (chandlerylaw02_BaseEncodes.j1 k x1 x9 x10 (decide (x1 > 1000000000))))
def chandlerylaw02_BaseEncodes.j1 : Nat → Int → Int → Int → Bool → Option (Bool)
  | 0, _, _, _, _ => none
  | k + 1, x1, x9, x10, x56 => if x56 = true then ((chandlerylaw02_awake.f k).bind fun t247 => (if t247 = true then (if x10 = 1 then (some (x9 == 0)) else (some false)) else (some false))) else ((chandlerylaw02_awake.f k).bind fun t248 => (if t248 = true then (if x10 = 0 then ((chandleryref02_Size.f x1).bind fun t249 => (some (x9 == t249))) else (some false)) else (some false)))
end
def chandlerylaw02_BaseEncodes.f (k : Nat) (l0 : List Int) (a1 : Int) : Option (Bool) := if (l0.length : Int) > 1000 then (some true) else ((some (([] : List Int) : List Int)).bind fun y235 => (if y235.length + l0.length < 140737488355328 then ((some (y235 ++ l0 : List Int)).bind fun y238 => ((base_Encode.f k y238).bind fun t241 => ((base_Size.f (l0.length : Int)).bind fun bt242 => ((base_Size.f a1).bind fun bt244 => (if (strOfNums y238).toList = (strOfNums l0).toList then ((chandleryref02_Encode.f k l0).bind fun t246 => (if t241.toList = t246.toList then (if bt242.1 = (t241.size : Int) then (chandlerylaw02_BaseEncodes.j0 k a1 bt244.1 bt244.2 (bt242.2 != 0)) else (chandlerylaw02_BaseEncodes.j0 k a1 bt244.1 bt244.2 true)) else (chandlerylaw02_BaseEncodes.j0 k a1 bt244.1 bt244.2 true))) else (chandlerylaw02_BaseEncodes.j0 k a1 bt244.1 bt244.2 true)))))) else (none)))
theorem chandlerylaw02_BaseEncodes.mono_l : ∀ k, (∀ y0 y1 y2 y3, LeO (chandlerylaw02_BaseEncodes.j0 k y0 y1 y2 y3) (chandlerylaw02_BaseEncodes.j0 (k + 1) y0 y1 y2 y3)) ∧ (∀ y0 y1 y2 y3, LeO (chandlerylaw02_BaseEncodes.j1 k y0 y1 y2 y3) (chandlerylaw02_BaseEncodes.j1 (k + 1) y0 y1 y2 y3))
  | 0 => ⟨fun _ _ _ _ r h => by simp [chandlerylaw02_BaseEncodes.j0] at h, fun _ _ _ _ r h => by simp [chandlerylaw02_BaseEncodes.j1] at h⟩
  | k + 1 => by
    obtain ⟨ih0, ih1⟩ := chandlerylaw02_BaseEncodes.mono_l k
    refine ⟨?_, ?_⟩
    · intro y0 y1 y2 y3
      unfold chandlerylaw02_BaseEncodes.j0
      repeat' first
      | (with_reducible exact ih0 _ _ _ _)
      | (with_reducible exact ih1 _ _ _ _)
      | (with_reducible exact base_Encode.mono _ _)
      | (with_reducible exact chandlerylaw02_awake.mono _)
      | (with_reducible exact chandleryref02_Encode.mono _ _)
      | (with_reducible exact LeO.refl _)
      | (with_reducible exact LeO.none _)
      | (with_reducible refine LeO.ite ?_ ?_)
      | (with_reducible refine LeO.bind ?_ (fun _ => ?_))
      | exact ih0 _ _ _ _
      | exact ih1 _ _ _ _
      | exact base_Encode.mono _ _
      | exact chandlerylaw02_awake.mono _
      | exact chandleryref02_Encode.mono _ _
      | exact LeO.none _
      | refine LeO.ite ?_ ?_
      | refine LeO.bind ?_ (fun _ => ?_)
    · intro y0 y1 y2 y3
      unfold chandlerylaw02_BaseEncodes.j1
      repeat' first
      | (with_reducible exact ih0 _ _ _ _)
      | (with_reducible exact ih1 _ _ _ _)
      | (with_reducible exact base_Encode.mono _ _)
      | (with_reducible exact chandlerylaw02_awake.mono _)
      | (with_reducible exact chandleryref02_Encode.mono _ _)
      | (with_reducible exact LeO.refl _)
      | (with_reducible exact LeO.none _)
      | (with_reducible refine LeO.ite ?_ ?_)
      | (with_reducible refine LeO.bind ?_ (fun _ => ?_))
      | exact ih0 _ _ _ _
      | exact ih1 _ _ _ _
      | exact base_Encode.mono _ _
      | exact chandlerylaw02_awake.mono _
      | exact chandleryref02_Encode.mono _ _
      | exact LeO.none _
      | refine LeO.ite ?_ ?_
      | refine LeO.bind ?_ (fun _ => ?_)
theorem chandlerylaw02_BaseEncodes.mono : ∀ a0 a1 k, LeO (chandlerylaw02_BaseEncodes.f k a0 a1) (chandlerylaw02_BaseEncodes.f (k + 1) a0 a1) := by
  intro a0 a1 k
  obtain ⟨ih0, ih1⟩ := chandlerylaw02_BaseEncodes.mono_l k
  unfold chandlerylaw02_BaseEncodes.f
  repeat' first
      | (with_reducible exact ih0 _ _ _ _)
      | (with_reducible exact ih1 _ _ _ _)
      | (with_reducible exact base_Encode.mono _ _)
      | (with_reducible exact chandlerylaw02_awake.mono _)
      | (with_reducible exact chandleryref02_Encode.mono _ _)
      | (with_reducible exact LeO.refl _)
      | (with_reducible exact LeO.none _)
      | (with_reducible refine LeO.ite ?_ ?_)
      | (with_reducible refine LeO.bind ?_ (fun _ => ?_))
      | exact ih0 _ _ _ _
      | exact ih1 _ _ _ _
      | exact base_Encode.mono _ _
      | exact chandlerylaw02_awake.mono _
      | exact chandleryref02_Encode.mono _ _
      | exact LeO.none _
      | refine LeO.ite ?_ ?_
      | refine LeO.bind ?_ (fun _ => ?_)
set_option maxHeartbeats 8000000 in
set_option maxRecDepth 100000 in
theorem chandlerylaw02_BaseEncodes.calls (k : Nat) (A0 : Option Addr) (c0 : Nat) (l0 : List Int) (a1 : Int) (r : Bool) (w : World) (hr0 : Kd.C (Kd.int .u8) w A0 l0.length l0) (hc0 : l0.length ≤ c0) (h : chandlerylaw02_BaseEncodes.f k l0 a1 = some r) :
    Calls Tryd.prog 8 #[.slice A0 l0.length c0, .int .i64 a1] w fun e w' => e = .returned (.bool r) ∧ Below w.heap.size w w' := by
  have HR0 := Aside0.mk hr0
  have HC0 := Aside0.mk hc0
  clear hr0 hc0
  have HB := Aside0.mk (Below.refl w.heap.size w)
  have H : (if (l0.length : Int) > 1000 then (some true) else ((some (([] : List Int) : List Int)).bind fun y235 => (if y235.length + l0.length < 140737488355328 then ((some (y235 ++ l0 : List Int)).bind fun y238 => ((base_Encode.f k y238).bind fun t241 => ((base_Size.f (l0.length : Int)).bind fun bt242 => ((base_Size.f a1).bind fun bt244 => (if (strOfNums y238).toList = (strOfNums l0).toList then ((chandleryref02_Encode.f k l0).bind fun t246 => (if t241.toList = t246.toList then (if bt242.1 = (t241.size : Int) then (chandlerylaw02_BaseEncodes.j0 k a1 bt244.1 bt244.2 (bt242.2 != 0)) else (chandlerylaw02_BaseEncodes.j0 k a1 bt244.1 bt244.2 true)) else (chandlerylaw02_BaseEncodes.j0 k a1 bt244.1 bt244.2 true))) else (chandlerylaw02_BaseEncodes.j0 k a1 bt244.1 bt244.2 true)))))) else (none)))) = some r := h
  clear h
  by_cases c3 : (l0.length : Int) > 1000
  · rw [if_pos c3] at H
    have c3b0 : decide (1000 < (l0.length : Int)) = true := decide_eq_true c3
    have c3b1 : decide (1000 < l0.length) = true := decide_eq_true (by omega)
    clear c3
    obtain rfl := Option.some.inj H
    go_enter Tryd.func8, Tryd.ntmps8
    go_wp2
    go_ret
    exact ⟨by first | rfl | (simp [errW_none, errW_some] <;> rfl) | (simp [*, errW_none, errW_some] <;> rfl), by repeat (first | (with_reducible first | exact HB.out | apply below_alloc | apply pw_below_drewN | apply below_drew1) | exact HB.out)⟩
  · rw [if_neg c3] at H
    have c3b0 : decide (1000 < (l0.length : Int)) = false := decide_eq_false c3
    have c3b1 : decide (1000 < l0.length) = false := decide_eq_false (by omega)
    clear c3
    obtain ⟨y235, hy235⟩ : ∃ y_ : List Int, y_ = (([] : List Int)) := ⟨_, rfl⟩
    replace H : (if y235.length + l0.length < 140737488355328 then ((some (y235 ++ l0 : List Int)).bind fun y238 => ((base_Encode.f k y238).bind fun t241 => ((base_Size.f (l0.length : Int)).bind fun bt242 => ((base_Size.f a1).bind fun bt244 => (if (strOfNums y238).toList = (strOfNums l0).toList then ((chandleryref02_Encode.f k l0).bind fun t246 => (if t241.toList = t246.toList then (if bt242.1 = (t241.size : Int) then (chandlerylaw02_BaseEncodes.j0 k a1 bt244.1 bt244.2 (bt242.2 != 0)) else (chandlerylaw02_BaseEncodes.j0 k a1 bt244.1 bt244.2 true)) else (chandlerylaw02_BaseEncodes.j0 k a1 bt244.1 bt244.2 true))) else (chandlerylaw02_BaseEncodes.j0 k a1 bt244.1 bt244.2 true)))))) else (none)) = some r := by first | (rw [hy235]; with_reducible exact H) | (have H2_ := (Option.bind_some _ _).symm.trans H; rw [hy235]; with_reducible exact H2_) | (have H2_ := (Option.bind_some _ _).symm.trans H; with_reducible exact H2_) | with_reducible exact H | (rw [hy235]; exact H) | exact H
    have Ny235 := Aside0.mk hy235
    clear hy235
    by_cases c4 : y235.length + l0.length < 140737488355328
    · rw [if_pos c4] at H
      have LMc4 := Aside0.mk c4
      clear c4
      obtain ⟨y238, hy238⟩ : ∃ y_ : List Int, y_ = (y235 ++ l0) := ⟨_, rfl⟩
      replace H : ((base_Encode.f k y238).bind fun t241 => ((base_Size.f (l0.length : Int)).bind fun bt242 => ((base_Size.f a1).bind fun bt244 => (if (strOfNums y238).toList = (strOfNums l0).toList then ((chandleryref02_Encode.f k l0).bind fun t246 => (if t241.toList = t246.toList then (if bt242.1 = (t241.size : Int) then (chandlerylaw02_BaseEncodes.j0 k a1 bt244.1 bt244.2 (bt242.2 != 0)) else (chandlerylaw02_BaseEncodes.j0 k a1 bt244.1 bt244.2 true)) else (chandlerylaw02_BaseEncodes.j0 k a1 bt244.1 bt244.2 true))) else (chandlerylaw02_BaseEncodes.j0 k a1 bt244.1 bt244.2 true))))) = some r := by first | (rw [hy238]; with_reducible exact H) | (have H2_ := (Option.bind_some _ _).symm.trans H; rw [hy238]; with_reducible exact H2_) | (have H2_ := (Option.bind_some _ _).symm.trans H; with_reducible exact H2_) | with_reducible exact H | (rw [hy238]; exact H) | exact H
      have Ny238 := Aside0.mk hy238
      clear hy238
      replace H := Option.bind_eq_some_iff.mp H
      obtain ⟨t241, A50, H⟩ := H
      replace H : ((base_Size.f (l0.length : Int)).bind fun bt242 => ((base_Size.f a1).bind fun bt244 => (if (strOfNums y238).toList = (strOfNums l0).toList then ((chandleryref02_Encode.f k l0).bind fun t246 => (if t241.toList = t246.toList then (if bt242.1 = (t241.size : Int) then (chandlerylaw02_BaseEncodes.j0 k a1 bt244.1 bt244.2 (bt242.2 != 0)) else (chandlerylaw02_BaseEncodes.j0 k a1 bt244.1 bt244.2 true)) else (chandlerylaw02_BaseEncodes.j0 k a1 bt244.1 bt244.2 true))) else (chandlerylaw02_BaseEncodes.j0 k a1 bt244.1 bt244.2 true)))) = some r := H
      have A5 := Aside0.mk A50
      clear A50
      replace H := Option.bind_eq_some_iff.mp H
      obtain ⟨⟨t242, t243⟩, A60, H⟩ := H
      replace H : ((base_Size.f a1).bind fun bt244 => (if (strOfNums y238).toList = (strOfNums l0).toList then ((chandleryref02_Encode.f k l0).bind fun t246 => (if t241.toList = t246.toList then (if t242 = (t241.size : Int) then (chandlerylaw02_BaseEncodes.j0 k a1 bt244.1 bt244.2 (t243 != 0)) else (chandlerylaw02_BaseEncodes.j0 k a1 bt244.1 bt244.2 true)) else (chandlerylaw02_BaseEncodes.j0 k a1 bt244.1 bt244.2 true))) else (chandlerylaw02_BaseEncodes.j0 k a1 bt244.1 bt244.2 true))) = some r := H
      have A6 := Aside0.mk A60
      clear A60
      replace H := Option.bind_eq_some_iff.mp H
      obtain ⟨⟨t244, t245⟩, A70, H⟩ := H
      replace H : (if (strOfNums y238).toList = (strOfNums l0).toList then ((chandleryref02_Encode.f k l0).bind fun t246 => (if t241.toList = t246.toList then (if t242 = (t241.size : Int) then (chandlerylaw02_BaseEncodes.j0 k a1 t244 t245 (t243 != 0)) else (chandlerylaw02_BaseEncodes.j0 k a1 t244 t245 true)) else (chandlerylaw02_BaseEncodes.j0 k a1 t244 t245 true))) else (chandlerylaw02_BaseEncodes.j0 k a1 t244 t245 true)) = some r := H
      have A7 := Aside0.mk A70
      clear A70
      have HC8 := Aside0.mk H
      clear H
      go_enter Tryd.func8, Tryd.ntmps8
      go_upto_region 7 with (first | ((with_reducible refine gate_dst (N := 14) rfl ?_); (try (refine gate_guard (by rfl) ?_; dsimp only)); refine Kd.R_lit (Kd.int .u8) _ 5 ?hg (N := 14) ?hd (xs := ([] : List Int)) (inner := []) (ok := fun _ => True) (okp := fun _ => True) ?hr ?hp (fun _ hk => hk) trivial (Below.refl _ _) (Nat.le_refl _) (by simp) ?_; (case hd => rfl); (case hg => rfl); (case hr => first | (go_simp; done) | (go_simp; rfl)); (case hp => exact (Reps.none _ _)); intro v236 w9 ho10 hb hg_ hnew_; clear hg_ hnew_; (first | rw [← Ny235.out] at ho10 | (simp only [Int.reduceToNat] at ho10; rw [← Ny235.out] at ho10)); have n0_ := Aside0.mk (Kd.R_lower ho10 (below_size (by repeat (first | (with_reducible first | exact HB.out | apply below_alloc | apply pw_below_drewN | apply below_drew1) | exact HB.out)))); have n1_ := Aside0.mk (below_step (by repeat (first | (with_reducible first | exact HB.out | apply below_alloc | apply pw_below_drewN | apply below_drew1) | exact HB.out)) hb); clear HB; have HO237 := n0_; have HB := n1_; clear n0_ n1_; clear hb ho10) | ((with_reducible refine gate_builtin (b := .append) (xs := #[.tmp 14, .tmp 15]) rfl ?_); (try (refine gate_guard (by rfl) ?_; dsimp only)); at_builtin; refine Kd.R_append_rows (Kd.int .u8) (w0 := w) w.heap.size rfl (.tmp 14) (.tmp 15) 22 5 (.int .u8 0) 1 rfl Tryd.underlying22 info5 rfl (by decide) (by omega) v236 y235 l0 _ _ _ (fun _ => True) (fun _ => False) rfl rfl ?aO ?aR (fun _ _ h => h) (fun _ h => h.elim) ?aF ?aB ?aS ?aL ?_; (case aR => repeat (first | exact (Kd.C_below HR0.out HB.out) | (with_reducible refine Kd.C_alloc ?_ _) | (with_reducible refine Kd.C_drewN ?_ _) | (with_reducible refine Kd.C_drew ?_))); (case aB => exact (by repeat (first | (with_reducible first | exact HB.out | apply below_alloc | apply pw_below_drewN | apply below_drew1) | exact HB.out))); (case aF => exact (fun _ _ => trivial)); (case aO => exact (by (with_reducible repeat (first | apply Kd.R_alloc | apply Kd.R_drewN | apply Kd.R_drew)); exact HO237.out)); (case aS => exact (below_size (by repeat (first | (with_reducible first | exact HB.out | apply below_alloc | apply pw_below_drewN | apply below_drew1) | exact HB.out)))); (case aL => have := LMc4.out; omega); intro v239 w11 ho hb hg hat; rw [← Ny238.out] at ho; have n0_ := Aside0.mk (hb); have n1_ := Aside0.mk (ho); clear HB; clear HO237; have HB := n0_; have HO240 := n1_; clear n0_ n1_; clear ho hb hg hat; obtain ⟨Ao12, co12, eo12⟩ := Kd.R_slice HO240.out; subst eo12) | ((with_reducible refine gate_callee (f := 16) rfl ?_); refine goesL_ (some 18) rfl rfl Tryd.func16 (by kernel_rfl) rfl #[.slice Ao12 y238.length co12] rfl (by (try simp only [List.map_toArray, List.map_cons, List.map_nil]); first | done | rfl | (simp only [List.length_drop, List.length_take]; rfl)) ?_; (with_reducible refine (base_Encode.calls k _ _ y238 t241 _ ?side1 ?side2 A5.out).mono ?_); (case side1 => repeat (first | exact (Kd.R_reads' HO240.out).2.2 | (with_reducible refine Kd.C_alloc ?_ _) | (with_reducible refine Kd.C_drewN ?_ _) | (with_reducible refine Kd.C_drew ?_))); (case side2 => exact (Kd.R_reads' HO240.out).2.1); rintro e w13 ⟨rfl, hb⟩; refine ⟨_, rfl, ?_⟩; have n0_ := Aside0.mk (Kd.R_below (by (with_reducible repeat (first | apply Kd.R_alloc | apply Kd.R_drewN | apply Kd.R_drew)); exact HO240.out) hb); have n1_ := Aside0.mk (below_step (by repeat (first | (with_reducible first | exact HB.out | apply below_alloc | apply pw_below_drewN | apply below_drew1) | exact HB.out)) hb); clear HO240; clear HB; have HO240 := n0_; have HB := n1_; clear n0_ n1_; (try clear hb); (try clear hb2); (try clear hk); (try clear hi)) | ((with_reducible refine gate_callee (f := 17) rfl ?_); refine goesL_ (some 22) rfl rfl Tryd.func17 (by kernel_rfl) rfl #[.int .i64 (l0.length : Int)] rfl (by (try simp only [List.map_toArray, List.map_cons, List.map_nil]); first | done | rfl | (simp only [List.length_drop, List.length_take]; rfl)) ?_; (with_reducible refine (base_Size.calls (l0.length : Int) t242 t243 _ A6.out).mono ?_); rintro e w' ⟨rfl, ⟨nd, rfl⟩⟩; refine ⟨_, rfl, ?_⟩) | ((with_reducible refine gate_callee (f := 17) rfl ?_); refine goesL_ (some 27) rfl rfl Tryd.func17 (by kernel_rfl) rfl #[.int .i64 a1] rfl (by (try simp only [List.map_toArray, List.map_cons, List.map_nil]); first | done | rfl | (simp only [List.length_drop, List.length_take]; rfl)) ?_; (with_reducible refine (base_Size.calls a1 t244 t245 _ A7.out).mono ?_); rintro e w' ⟨rfl, ⟨nd, rfl⟩⟩; refine ⟨_, rfl, ?_⟩))
      (try simp only [Act.put, List.setIfInBounds_toArray, List.set_cons_zero, List.set_cons_succ])
      go_cut [50] (fun v50 wc => ∃ (kq : Nat) (x50_7 : Bool), v50 = .bool x50_7 ∧ Aside0 (chandlerylaw02_BaseEncodes.j0 kq a1 t244 t245 x50_7 = some r) ∧ Aside0 (kq ≤ k) ∧ Aside0 (Below w.heap.size w wc))
      case first =>
        have H := HC8.out
        clear HC8
        by_cases c14 : (strOfNums y238).toList = (strOfNums l0).toList
        · rw [if_pos c14] at H
          have c14b0 : ((strOfNums y238).toList == (strOfNums l0).toList) = true := beq_iff_eq.mpr c14
          have c14b1 : ((strOfNums y238).toList != (strOfNums l0).toList) = false := bne_eq_false_iff_eq.mpr c14
          clear c14
          (first | rw [c14b0] | (simp only [i64_w, i32_w]; rw [c14b0]) | skip)
          replace H := Option.bind_eq_some_iff.mp H
          obtain ⟨t246, A150, H⟩ := H
          replace H : (if t241.toList = t246.toList then (if t242 = (t241.size : Int) then (chandlerylaw02_BaseEncodes.j0 k a1 t244 t245 (t243 != 0)) else (chandlerylaw02_BaseEncodes.j0 k a1 t244 t245 true)) else (chandlerylaw02_BaseEncodes.j0 k a1 t244 t245 true)) = some r := H
          have A15 := Aside0.mk A150
          clear A150
          by_cases c16 : t241.toList = t246.toList
          · rw [if_pos c16] at H
            have c16b0 : (t241.toList == t246.toList) = true := beq_iff_eq.mpr c16
            have c16b1 : (t241.toList != t246.toList) = false := bne_eq_false_iff_eq.mpr c16
            clear c16
            by_cases c17 : t242 = (t241.size : Int)
            · rw [if_pos c17] at H
              have c17b0 : (t242 == (t241.size : Int)) = true := beq_iff_eq.mpr c17
              have c17b1 : (t242 != (t241.size : Int)) = false := bne_eq_false_iff_eq.mpr c17
              clear c17
              have H' := Aside0.mk H
              clear H
              have hcv18 := own_string (P := Tryd.prog) Tryd.underlying22 Tryd.underlying5 Tryd.underlying9 (Kd.own_of_R HO240.out); have hcv18u := fun nq_ : Nat => own_string (P := Tryd.prog) Tryd.underlying22 Tryd.underlying5 Tryd.underlying9 (Kd.own_of_R (Kd.R_drewN HO240.out nq_))
              have hcv19 := Kd.C_string (P := Tryd.prog) (A := A0) (c := c0) Tryd.underlying22 Tryd.underlying5 Tryd.underlying9 (Kd.C_below HR0.out HB.out); have hcv19u := fun nq_ : Nat => Kd.C_string (P := Tryd.prog) (A := A0) (c := c0) Tryd.underlying22 Tryd.underlying5 Tryd.underlying9 (Kd.C_drewN (Kd.C_below HR0.out HB.out) nq_)
              go_wp2_with (first | (go_at_call 18; (with_reducible refine (chandleryref02_Encode.calls k _ _ l0 t246 _ ?side1 ?side2 A15.out).mono ?_); (case side1 => repeat (first | exact (Kd.C_below HR0.out HB.out) | (with_reducible refine Kd.C_alloc ?_ _) | (with_reducible refine Kd.C_drewN ?_ _) | (with_reducible refine Kd.C_drew ?_))); (case side2 => exact HC0.out); rintro e w' ⟨rfl, ⟨nd, rfl⟩⟩))
              go_meet
              case rel => exact ⟨_, ((t243 != 0)), (by first | rfl | (simp; done) | exact congrArg Value.bool (Go.Proofs.YtalbbifgkninmaaDoorX.isEmpty_ne_ _) | exact congrArg Value.bool (Go.Proofs.YtalbbifgkninmaaDoorX.ne_isEmpty_ _) | (simp [*]; done)), H', ⟨by first | omega | exact Nat.le_refl _⟩, ⟨by repeat (first | (with_reducible first | exact HB.out | apply below_alloc | apply pw_below_drewN | apply below_drew1) | exact HB.out)⟩⟩
            · rw [if_neg c17] at H
              have c17b0 : (t242 == (t241.size : Int)) = false := beq_eq_false_iff_ne.mpr c17
              have c17b1 : (t242 != (t241.size : Int)) = true := bne_iff_ne.mpr c17
              have H' := Aside0.mk H
              clear H
              have hcv20 := own_string (P := Tryd.prog) Tryd.underlying22 Tryd.underlying5 Tryd.underlying9 (Kd.own_of_R HO240.out); have hcv20u := fun nq_ : Nat => own_string (P := Tryd.prog) Tryd.underlying22 Tryd.underlying5 Tryd.underlying9 (Kd.own_of_R (Kd.R_drewN HO240.out nq_))
              have hcv21 := Kd.C_string (P := Tryd.prog) (A := A0) (c := c0) Tryd.underlying22 Tryd.underlying5 Tryd.underlying9 (Kd.C_below HR0.out HB.out); have hcv21u := fun nq_ : Nat => Kd.C_string (P := Tryd.prog) (A := A0) (c := c0) Tryd.underlying22 Tryd.underlying5 Tryd.underlying9 (Kd.C_drewN (Kd.C_below HR0.out HB.out) nq_)
              go_wp2_with (first | (go_at_call 18; (with_reducible refine (chandleryref02_Encode.calls k _ _ l0 t246 _ ?side1 ?side2 A15.out).mono ?_); (case side1 => repeat (first | exact (Kd.C_below HR0.out HB.out) | (with_reducible refine Kd.C_alloc ?_ _) | (with_reducible refine Kd.C_drewN ?_ _) | (with_reducible refine Kd.C_drew ?_))); (case side2 => exact HC0.out); rintro e w' ⟨rfl, ⟨nd, rfl⟩⟩))
              go_meet
              case rel => exact ⟨_, (true), (by first | rfl | (simp; done) | exact congrArg Value.bool (Go.Proofs.YtalbbifgkninmaaDoorX.isEmpty_ne_ _) | exact congrArg Value.bool (Go.Proofs.YtalbbifgkninmaaDoorX.ne_isEmpty_ _) | (simp [*]; done)), H', ⟨by first | omega | exact Nat.le_refl _⟩, ⟨by repeat (first | (with_reducible first | exact HB.out | apply below_alloc | apply pw_below_drewN | apply below_drew1) | exact HB.out)⟩⟩
          · rw [if_neg c16] at H
            have c16b0 : (t241.toList == t246.toList) = false := beq_eq_false_iff_ne.mpr c16
            have c16b1 : (t241.toList != t246.toList) = true := bne_iff_ne.mpr c16
            have H' := Aside0.mk H
            clear H
            have hcv22 := own_string (P := Tryd.prog) Tryd.underlying22 Tryd.underlying5 Tryd.underlying9 (Kd.own_of_R HO240.out); have hcv22u := fun nq_ : Nat => own_string (P := Tryd.prog) Tryd.underlying22 Tryd.underlying5 Tryd.underlying9 (Kd.own_of_R (Kd.R_drewN HO240.out nq_))
            have hcv23 := Kd.C_string (P := Tryd.prog) (A := A0) (c := c0) Tryd.underlying22 Tryd.underlying5 Tryd.underlying9 (Kd.C_below HR0.out HB.out); have hcv23u := fun nq_ : Nat => Kd.C_string (P := Tryd.prog) (A := A0) (c := c0) Tryd.underlying22 Tryd.underlying5 Tryd.underlying9 (Kd.C_drewN (Kd.C_below HR0.out HB.out) nq_)
            go_wp2_with (first | (go_at_call 18; (with_reducible refine (chandleryref02_Encode.calls k _ _ l0 t246 _ ?side1 ?side2 A15.out).mono ?_); (case side1 => repeat (first | exact (Kd.C_below HR0.out HB.out) | (with_reducible refine Kd.C_alloc ?_ _) | (with_reducible refine Kd.C_drewN ?_ _) | (with_reducible refine Kd.C_drew ?_))); (case side2 => exact HC0.out); rintro e w' ⟨rfl, ⟨nd, rfl⟩⟩))
            go_meet
            case rel => exact ⟨_, (true), (by first | rfl | (simp; done) | exact congrArg Value.bool (Go.Proofs.YtalbbifgkninmaaDoorX.isEmpty_ne_ _) | exact congrArg Value.bool (Go.Proofs.YtalbbifgkninmaaDoorX.ne_isEmpty_ _) | (simp [*]; done)), H', ⟨by first | omega | exact Nat.le_refl _⟩, ⟨by repeat (first | (with_reducible first | exact HB.out | apply below_alloc | apply pw_below_drewN | apply below_drew1) | exact HB.out)⟩⟩
        · rw [if_neg c14] at H
          have c14b0 : ((strOfNums y238).toList == (strOfNums l0).toList) = false := beq_eq_false_iff_ne.mpr c14
          have c14b1 : ((strOfNums y238).toList != (strOfNums l0).toList) = true := bne_iff_ne.mpr c14
          (first | rw [c14b0] | (simp only [i64_w, i32_w]; rw [c14b0]) | skip)
          have H' := Aside0.mk H
          clear H
          have hcv24 := own_string (P := Tryd.prog) Tryd.underlying22 Tryd.underlying5 Tryd.underlying9 (Kd.own_of_R HO240.out); have hcv24u := fun nq_ : Nat => own_string (P := Tryd.prog) Tryd.underlying22 Tryd.underlying5 Tryd.underlying9 (Kd.own_of_R (Kd.R_drewN HO240.out nq_))
          have hcv25 := Kd.C_string (P := Tryd.prog) (A := A0) (c := c0) Tryd.underlying22 Tryd.underlying5 Tryd.underlying9 (Kd.C_below HR0.out HB.out); have hcv25u := fun nq_ : Nat => Kd.C_string (P := Tryd.prog) (A := A0) (c := c0) Tryd.underlying22 Tryd.underlying5 Tryd.underlying9 (Kd.C_drewN (Kd.C_below HR0.out HB.out) nq_)
          go_wp2
          go_meet
          case rel => exact ⟨_, (true), (by first | rfl | (simp; done) | exact congrArg Value.bool (Go.Proofs.YtalbbifgkninmaaDoorX.isEmpty_ne_ _) | exact congrArg Value.bool (Go.Proofs.YtalbbifgkninmaaDoorX.ne_isEmpty_ _) | (simp [*]; done)), H', ⟨by first | omega | exact Nat.le_refl _⟩, ⟨by repeat (first | (with_reducible first | exact HB.out | apply below_alloc | apply pw_below_drewN | apply below_drew1) | exact HB.out)⟩⟩
      case rest =>
        clear HC8
        try clear c1
        try clear hcv1
        try clear hcv1u
        try clear p2
        try clear hcv2
        try clear hcv2u
        try clear c3
        try clear c3b0
        try clear c3b1
        try clear c4
        try clear c8
        try clear c14
        try clear c14b0
        try clear c14b1
        try clear c16
        try clear c16b0
        try clear c16b1
        try clear c17
        try clear c17b0
        try clear c17b1
        try clear hcv18
        try clear hcv18u
        try clear hcv19
        try clear hcv19u
        try clear hcv20
        try clear hcv20u
        try clear hcv21
        try clear hcv21u
        try clear hcv22
        try clear hcv22u
        try clear hcv23
        try clear hcv23u
        try clear hcv24
        try clear hcv24u
        try clear hcv25
        try clear hcv25u
        obtain ⟨kq, x50_7, rfl, HA, HJ7, HB⟩ := hcut
        cases kq with
        | zero => exact absurd HA.out (by simp [chandlerylaw02_BaseEncodes.j0])
        | succ kj7 =>
          have H := HA.out
          clear HA
          simp only [chandlerylaw02_BaseEncodes.j0] at H
          by_cases c26 : x50_7 = true
          · subst c26
            have H1 : (some false) = some r := by rw [if_pos rfl] at H; exact H
            clear H
            have H := H1
            clear H1
            obtain rfl := Option.some.inj H
            go_wp2
            go_ret
            exact ⟨by first | rfl | (simp [errW_none, errW_some] <;> rfl) | (simp [*, errW_none, errW_some] <;> rfl), by repeat (first | (with_reducible first | exact HB.out | apply below_alloc | apply pw_below_drewN | apply below_drew1) | exact HB.out)⟩
          · replace c26 := Bool.eq_false_iff.mpr c26
            subst c26
            have H1 : (if a1 < 0 then (chandlerylaw02_BaseEncodes.j1 kj7 a1 t244 t245 true) else (chandlerylaw02_BaseEncodes.j1 kj7 a1 t244 t245 (decide (a1 > 1000000000)))) = some r := by rw [if_neg (show ¬ (false = true) by decide)] at H; exact H
            clear H
            have H := H1
            clear H1
            have HC27 := Aside0.mk H
            clear H
            go_upto_region 9 with (fail)
            go_cut [56] (fun v56 wc => ∃ (kq : Nat) (x56_26 : Bool), v56 = .bool x56_26 ∧ Aside0 (chandlerylaw02_BaseEncodes.j1 kq a1 t244 t245 x56_26 = some r) ∧ Aside0 (kq ≤ kj7) ∧ Aside0 (Below w.heap.size w wc))
            case first =>
              have H := HC27.out
              clear HC27
              by_cases c28 : a1 < 0
              · rw [if_pos c28] at H
                have c28b0 : decide (a1 < 0) = true := decide_eq_true c28
                clear c28
                (first | rw [c28b0] | (simp only [i64_w, i32_w]; rw [c28b0]) | skip)
                have H' := Aside0.mk H
                clear H
                go_wp2
                go_meet
                case rel => exact ⟨_, (true), (by first | rfl | (simp; done) | exact congrArg Value.bool (Go.Proofs.YtalbbifgkninmaaDoorX.isEmpty_ne_ _) | exact congrArg Value.bool (Go.Proofs.YtalbbifgkninmaaDoorX.ne_isEmpty_ _) | (simp [*]; done)), H', ⟨by have := HJ7.out; first | omega | exact Nat.le_refl _⟩, ⟨by repeat (first | (with_reducible first | exact HB.out | apply below_alloc | apply pw_below_drewN | apply below_drew1) | exact HB.out)⟩⟩
              · rw [if_neg c28] at H
                have c28b0 : decide (a1 < 0) = false := decide_eq_false c28
                clear c28
                (first | rw [c28b0] | (simp only [i64_w, i32_w]; rw [c28b0]) | skip)
                have H' := Aside0.mk H
                clear H
                go_wp2
                go_meet
                case rel => exact ⟨_, (decide (a1 > 1000000000)), (by first | rfl | (simp; done) | exact congrArg Value.bool (Go.Proofs.YtalbbifgkninmaaDoorX.isEmpty_ne_ _) | exact congrArg Value.bool (Go.Proofs.YtalbbifgkninmaaDoorX.ne_isEmpty_ _) | (simp [*]; done)), H', ⟨by have := HJ7.out; first | omega | exact Nat.le_refl _⟩, ⟨by repeat (first | (with_reducible first | exact HB.out | apply below_alloc | apply pw_below_drewN | apply below_drew1) | exact HB.out)⟩⟩
            case rest =>
              clear HC27
              try clear c1
              try clear hcv1
              try clear hcv1u
              try clear c2
              try clear p2
              try clear hcv2
              try clear hcv2u
              try clear c3
              try clear c3b0
              try clear c3b1
              try clear c4
              try clear c8
              try clear c14
              try clear c14b0
              try clear c14b1
              try clear c16
              try clear c16b0
              try clear c16b1
              try clear c17
              try clear c17b0
              try clear c17b1
              try clear hcv18
              try clear hcv18u
              try clear hcv19
              try clear hcv19u
              try clear hcv20
              try clear hcv20u
              try clear hcv21
              try clear hcv21u
              try clear hcv22
              try clear hcv22u
              try clear hcv23
              try clear hcv23u
              try clear hcv24
              try clear hcv24u
              try clear hcv25
              try clear hcv25u
              try clear c26
              try clear c28
              try clear c28b0
              try clear p2
              obtain ⟨kq, x56_26, rfl, HA, HJ26, HB⟩ := hcut
              cases kq with
              | zero => exact absurd HA.out (by simp [chandlerylaw02_BaseEncodes.j1])
              | succ kj26 =>
                have H := HA.out
                clear HA
                simp only [chandlerylaw02_BaseEncodes.j1] at H
                by_cases c29 : x56_26 = true
                · subst c29
                  have H1 : ((chandlerylaw02_awake.f kj26).bind fun t247 => (if t247 = true then (if t245 = 1 then (some (t244 == 0)) else (some false)) else (some false))) = some r := by rw [if_pos rfl] at H; exact H
                  clear H
                  have H := H1
                  clear H1
                  replace H := Option.bind_eq_some_iff.mp H
                  obtain ⟨t247, A300, H⟩ := H
                  replace H : (if t247 = true then (if t245 = 1 then (some (t244 == 0)) else (some false)) else (some false)) = some r := H
                  have A30 := Aside0.mk A300
                  clear A300
                  by_cases c31 : t247 = true
                  · subst c31
                    have H1 : (if t245 = 1 then (some (t244 == 0)) else (some false)) = some r := by rw [if_pos rfl] at H; exact H
                    clear H
                    have H := H1
                    clear H1
                    by_cases c32 : t245 = 1
                    · rw [if_pos c32] at H
                      have c32b0 : (t245 == 1) = true := beq_iff_eq.mpr c32
                      have c32b1 : (t245 != 1) = false := bne_eq_false_iff_eq.mpr c32
                      clear c32
                      obtain rfl := Option.some.inj H
                      go_wp2_with (first | ((with_reducible refine gate_callee (f := 13) rfl ?_); refine goesL_ (some 57) rfl rfl Tryd.func13 (by kernel_rfl) rfl #[] rfl (by (try simp only [List.map_toArray, List.map_cons, List.map_nil]); first | done | rfl | (simp only [List.length_drop, List.length_take]; rfl)) ?_; (with_reducible refine (chandlerylaw02_awake.calls kj26  true _ A30.out).mono ?_); rintro e w33 ⟨rfl, hb⟩; refine ⟨_, rfl, ?_⟩; have n0_ := Aside0.mk (below_step (by repeat (first | (with_reducible first | exact HB.out | apply below_alloc | apply pw_below_drewN | apply below_drew1) | exact HB.out)) hb); clear HB; have HB := n0_; clear n0_; (try clear hb); (try clear hb2); (try clear hk); (try clear hi)))
                      go_ret
                      exact ⟨by first | rfl | (simp [errW_none, errW_some] <;> rfl) | (simp [*, errW_none, errW_some] <;> rfl), by repeat (first | (with_reducible first | exact HB.out | apply below_alloc | apply pw_below_drewN | apply below_drew1) | exact HB.out)⟩
                    · rw [if_neg c32] at H
                      have c32b0 : (t245 == 1) = false := beq_eq_false_iff_ne.mpr c32
                      have c32b1 : (t245 != 1) = true := bne_iff_ne.mpr c32
                      obtain rfl := Option.some.inj H
                      go_wp2_with (first | ((with_reducible refine gate_callee (f := 13) rfl ?_); refine goesL_ (some 57) rfl rfl Tryd.func13 (by kernel_rfl) rfl #[] rfl (by (try simp only [List.map_toArray, List.map_cons, List.map_nil]); first | done | rfl | (simp only [List.length_drop, List.length_take]; rfl)) ?_; (with_reducible refine (chandlerylaw02_awake.calls kj26  true _ A30.out).mono ?_); rintro e w34 ⟨rfl, hb⟩; refine ⟨_, rfl, ?_⟩; have n0_ := Aside0.mk (below_step (by repeat (first | (with_reducible first | exact HB.out | apply below_alloc | apply pw_below_drewN | apply below_drew1) | exact HB.out)) hb); clear HB; have HB := n0_; clear n0_; (try clear hb); (try clear hb2); (try clear hk); (try clear hi)))
                      go_ret
                      exact ⟨by first | rfl | (simp [errW_none, errW_some] <;> rfl) | (simp [*, errW_none, errW_some] <;> rfl), by repeat (first | (with_reducible first | exact HB.out | apply below_alloc | apply pw_below_drewN | apply below_drew1) | exact HB.out)⟩
                  · replace c31 := Bool.eq_false_iff.mpr c31
                    subst c31
                    have H1 : (some false) = some r := by rw [if_neg (show ¬ (false = true) by decide)] at H; exact H
                    clear H
                    have H := H1
                    clear H1
                    obtain rfl := Option.some.inj H
                    go_wp2_with (first | ((with_reducible refine gate_callee (f := 13) rfl ?_); refine goesL_ (some 57) rfl rfl Tryd.func13 (by kernel_rfl) rfl #[] rfl (by (try simp only [List.map_toArray, List.map_cons, List.map_nil]); first | done | rfl | (simp only [List.length_drop, List.length_take]; rfl)) ?_; (with_reducible refine (chandlerylaw02_awake.calls kj26  false _ A30.out).mono ?_); rintro e w35 ⟨rfl, hb⟩; refine ⟨_, rfl, ?_⟩; have n0_ := Aside0.mk (below_step (by repeat (first | (with_reducible first | exact HB.out | apply below_alloc | apply pw_below_drewN | apply below_drew1) | exact HB.out)) hb); clear HB; have HB := n0_; clear n0_; (try clear hb); (try clear hb2); (try clear hk); (try clear hi)))
                    go_ret
                    exact ⟨by first | rfl | (simp [errW_none, errW_some] <;> rfl) | (simp [*, errW_none, errW_some] <;> rfl), by repeat (first | (with_reducible first | exact HB.out | apply below_alloc | apply pw_below_drewN | apply below_drew1) | exact HB.out)⟩
                · replace c29 := Bool.eq_false_iff.mpr c29
                  subst c29
                  have H1 : ((chandlerylaw02_awake.f kj26).bind fun t248 => (if t248 = true then (if t245 = 0 then ((chandleryref02_Size.f a1).bind fun t249 => (some (t244 == t249))) else (some false)) else (some false))) = some r := by rw [if_neg (show ¬ (false = true) by decide)] at H; exact H
                  clear H
                  have H := H1
                  clear H1
                  replace H := Option.bind_eq_some_iff.mp H
                  obtain ⟨t248, A360, H⟩ := H
                  replace H : (if t248 = true then (if t245 = 0 then ((chandleryref02_Size.f a1).bind fun t249 => (some (t244 == t249))) else (some false)) else (some false)) = some r := H
                  have A36 := Aside0.mk A360
                  clear A360
                  by_cases c37 : t248 = true
                  · subst c37
                    have H1 : (if t245 = 0 then ((chandleryref02_Size.f a1).bind fun t249 => (some (t244 == t249))) else (some false)) = some r := by rw [if_pos rfl] at H; exact H
                    clear H
                    have H := H1
                    clear H1
                    by_cases c38 : t245 = 0
                    · rw [if_pos c38] at H
                      have c38b0 : (t245 == 0) = true := beq_iff_eq.mpr c38
                      have c38b1 : (t245 != 0) = false := bne_eq_false_iff_eq.mpr c38
                      clear c38
                      replace H := Option.bind_eq_some_iff.mp H
                      obtain ⟨t249, A390, H⟩ := H
                      replace H : (some (t244 == t249)) = some r := H
                      have A39 := Aside0.mk A390
                      clear A390
                      obtain rfl := Option.some.inj H
                      go_wp2_with (first | ((with_reducible refine gate_callee (f := 13) rfl ?_); refine goesL_ (some 66) rfl rfl Tryd.func13 (by kernel_rfl) rfl #[] rfl (by (try simp only [List.map_toArray, List.map_cons, List.map_nil]); first | done | rfl | (simp only [List.length_drop, List.length_take]; rfl)) ?_; (with_reducible refine (chandlerylaw02_awake.calls kj26  true _ A36.out).mono ?_); rintro e w40 ⟨rfl, hb⟩; refine ⟨_, rfl, ?_⟩; have n0_ := Aside0.mk (below_step (by repeat (first | (with_reducible first | exact HB.out | apply below_alloc | apply pw_below_drewN | apply below_drew1) | exact HB.out)) hb); clear HB; have HB := n0_; clear n0_; (try clear hb); (try clear hb2); (try clear hk); (try clear hi)) | (go_at_call 19; (with_reducible refine (chandleryref02_Size.calls a1 t249 _ A39.out).mono ?_); rintro e w' ⟨rfl, ⟨nd, rfl⟩⟩))
                      go_ret
                      exact ⟨by first | rfl | (simp [errW_none, errW_some] <;> rfl) | (simp [*, errW_none, errW_some] <;> rfl), by repeat (first | (with_reducible first | exact HB.out | apply below_alloc | apply pw_below_drewN | apply below_drew1) | exact HB.out)⟩
                    · rw [if_neg c38] at H
                      have c38b0 : (t245 == 0) = false := beq_eq_false_iff_ne.mpr c38
                      have c38b1 : (t245 != 0) = true := bne_iff_ne.mpr c38
                      obtain rfl := Option.some.inj H
                      go_wp2_with (first | ((with_reducible refine gate_callee (f := 13) rfl ?_); refine goesL_ (some 66) rfl rfl Tryd.func13 (by kernel_rfl) rfl #[] rfl (by (try simp only [List.map_toArray, List.map_cons, List.map_nil]); first | done | rfl | (simp only [List.length_drop, List.length_take]; rfl)) ?_; (with_reducible refine (chandlerylaw02_awake.calls kj26  true _ A36.out).mono ?_); rintro e w41 ⟨rfl, hb⟩; refine ⟨_, rfl, ?_⟩; have n0_ := Aside0.mk (below_step (by repeat (first | (with_reducible first | exact HB.out | apply below_alloc | apply pw_below_drewN | apply below_drew1) | exact HB.out)) hb); clear HB; have HB := n0_; clear n0_; (try clear hb); (try clear hb2); (try clear hk); (try clear hi)))
                      go_ret
                      exact ⟨by first | rfl | (simp [errW_none, errW_some] <;> rfl) | (simp [*, errW_none, errW_some] <;> rfl), by repeat (first | (with_reducible first | exact HB.out | apply below_alloc | apply pw_below_drewN | apply below_drew1) | exact HB.out)⟩
                  · replace c37 := Bool.eq_false_iff.mpr c37
                    subst c37
                    have H1 : (some false) = some r := by rw [if_neg (show ¬ (false = true) by decide)] at H; exact H
                    clear H
                    have H := H1
                    clear H1
                    obtain rfl := Option.some.inj H
                    go_wp2_with (first | ((with_reducible refine gate_callee (f := 13) rfl ?_); refine goesL_ (some 66) rfl rfl Tryd.func13 (by kernel_rfl) rfl #[] rfl (by (try simp only [List.map_toArray, List.map_cons, List.map_nil]); first | done | rfl | (simp only [List.length_drop, List.length_take]; rfl)) ?_; (with_reducible refine (chandlerylaw02_awake.calls kj26  false _ A36.out).mono ?_); rintro e w42 ⟨rfl, hb⟩; refine ⟨_, rfl, ?_⟩; have n0_ := Aside0.mk (below_step (by repeat (first | (with_reducible first | exact HB.out | apply below_alloc | apply pw_below_drewN | apply below_drew1) | exact HB.out)) hb); clear HB; have HB := n0_; clear n0_; (try clear hb); (try clear hb2); (try clear hk); (try clear hi)))
                    go_ret
                    exact ⟨by first | rfl | (simp [errW_none, errW_some] <;> rfl) | (simp [*, errW_none, errW_some] <;> rfl), by repeat (first | (with_reducible first | exact HB.out | apply below_alloc | apply pw_below_drewN | apply below_drew1) | exact HB.out)⟩
    · rw [if_neg c4] at H
      exact absurd H (by simp)

/-- THE ONE PURE STATEMENT of chandlerylaw02_BaseEncodes: yours. -/
def chandlerylaw02_BaseEncodes.Pure : Prop := ∀ (l0 : List Int) (a1 : Int), l0.length ≤ maxLen → l0.length * 1 ≤ 140737488351232 → (∀ x ∈ l0, (Lit.int .u8 x).wf = true) → (Lit.int .i64 a1).wf = true → ∃ k, chandlerylaw02_BaseEncodes.f k l0 a1 = some true
theorem chandlerylaw02_BaseEncodes.walk (P : chandlerylaw02_BaseEncodes.Pure) (a0 : Option Addr) (len0 cap0 : Nat) (z0 : List Int) (a1 : Int) (w : World) (w0 : (a0 = none ∧ len0 = 0 ∧ cap0 = 0 ∧ z0 = []) ∨ ∃ x, a0 = some x ∧ len0 ≤ cap0 ∧ cap0 ≤ maxLen ∧ z0.length = cap0 ∧ (∀ i, i < z0.length → w.cell? (x.add i) = some (.int .u8 (z0.getD i 0))) ∧ ∀ n ∈ z0, (Lit.int .u8 n).wf = true) (y0 : len0 * 1 ≤ 140737488351232) (w1 : (Lit.int .i64 a1).wf = true) :
    Calls Tryd.prog 8 #[.slice a0 len0 cap0, .int .i64 a1] w fun e w' => e = .returned (.bool true) ∧ Below w.heap.size w w' := by
  obtain ⟨l0, rfl, hr0, hm0, hw0, hc0⟩ := ReadsInt.ofRowC w0
  obtain ⟨k, h⟩ := P l0 a1 hm0 y0 hw0 w1
  refine (chandlerylaw02_BaseEncodes.calls k _ _ l0 a1 true w (Kd.C_of_reads (d := (0 : Int)) (h1 := fun _ => rfl) hr0) hc0 h).mono ?_
  rintro e w' ⟨rfl, hd⟩
  exact ⟨rfl, hd⟩

end Go.Proofs.YtalbbifgkninmaaDoor.PBase
