-- printed with xprint.py over the kit's print
import Derived.Test.YtlcaogiljiieaaaQNarwFx0
import Derived.Test.YtlcaogiljiieaaaQNarwFx1
import Derived.Test.YtlcaogiljiieaaaQNarwFx2
namespace Go.Proofs.Ytlcaogiljiieaaa.PNarwF
open Go.RowKit Go.Proofs.YtlcaogiljiieaaaW.PrintWords Go.Proofs.YtlcaogiljiieaaaW.PrintLast Go.Proofs.YtlcaogiljiieaaaW.PrintMore
attribute [local go_sem] max2_int min2_int max_two min_two max_three min_three max_four min_four   -- for this text's walks alone
set_option linter.unusedVariables false
set_option linter.unusedSimpArgs false

/-! ### chandlerylaw17_NarwFile: function 6 -/
mutual
def chandlerylaw17_NarwFile.j0 : Nat → ByteArray → Bool → Int → Int → Int → Option (Bool)
 | 0, _, _, _, _, _ => none
 | k + 1, x0, x1, x5, x6, x7 => (narw_Bytes.f k (([(⟨(⟨#[]⟩ : ByteArray), 1, x1, x0⟩ : S27)] : List (S27)))).bind fun bt193 => ((narw_Texts.f k (([(⟨(⟨#[]⟩ : ByteArray), 1, x1, x0⟩ : S27)] : List (S27)))).bind fun bt200 => (chandlerylaw17_NarwFile.l0 k x5 x6 x7 bt193.1 bt193.2 bt200.1 bt200.2 0 0))
def chandlerylaw17_NarwFile.l0 : Nat → Int → Int → Int → List Int → Int → List ByteArray → Int → Int → Int → Option (Bool)
 | 0, _, _, _, _, _, _, _, _, _ => none
 | k + 1, x5, x6, x7, x8, x9, x10, x11, x12, x13 => if x13 < (x10.length : Int) then (if 0 ≤ x13 then ((chandleryref01_Text.f k (rdOf ByteArray.empty x10 x13)).bind fun t205 => (chandlerylaw17_NarwFile.l0 k x5 x6 x7 x8 x9 x10 x11 (wrap64 (x12 + (t205.length : Int))) (wrap64 (x13 + 1)))) else (none)) else ((chandlerylaw17_awake.f k).bind fun t208 => (if t208 = true then (if x6 = 0 then (if x9 = x6 then (if x11 = x6 then (if (x8.length : Int) = x5 then (if x5 = x12 then (some (x5 == x7)) else (some false)) else (some false)) else (some false)) else (some false)) else (some false)) else (some false)))
end
def chandlerylaw17_NarwFile.f (k : Nat) (a0 : ByteArray) (a1 : Bool) : Option (Bool) := if (a0.size : Int) > 2000 then (some true) else ((narw_Size.f k (([(⟨(⟨#[]⟩ : ByteArray), 1, a1, a0⟩ : S27)] : List (S27)))).bind fun bt188 => (if a1 = true then (chandlerylaw17_NarwFile.j0 k a0 a1 bt188.1 bt188.2 (wrap64 ((wrap64 (112 + (wrap64 ((wrap64 (Int.tdiv (wrap64 ((a0.size : Int) + 7)) 8)) * 8)))) + 32))) else (chandlerylaw17_NarwFile.j0 k a0 a1 bt188.1 bt188.2 (wrap64 (112 + (wrap64 ((wrap64 (Int.tdiv (wrap64 ((a0.size : Int) + 7)) 8)) * 8)))))))
theorem chandlerylaw17_NarwFile.mono_l : ∀ k, (∀ y0 y1 y2 y3 y4, LeO (chandlerylaw17_NarwFile.j0 k y0 y1 y2 y3 y4) (chandlerylaw17_NarwFile.j0 (k + 1) y0 y1 y2 y3 y4)) ∧ (∀ y0 y1 y2 y3 y4 y5 y6 y7 y8, LeO (chandlerylaw17_NarwFile.l0 k y0 y1 y2 y3 y4 y5 y6 y7 y8) (chandlerylaw17_NarwFile.l0 (k + 1) y0 y1 y2 y3 y4 y5 y6 y7 y8))
 | 0 => ⟨fun _ _ _ _ _ r h => by simp [chandlerylaw17_NarwFile.j0] at h, fun _ _ _ _ _ _ _ _ _ r h => by simp [chandlerylaw17_NarwFile.l0] at h⟩
 | k + 1 => by
  obtain ⟨ih0, ih1⟩ := chandlerylaw17_NarwFile.mono_l k
  refine ⟨?_, ?_⟩
  ·intro y0 y1 y2 y3 y4
   unfold chandlerylaw17_NarwFile.j0
   repeat' first
   | (with_reducible exact ih0 _ _ _ _ _)
   | (with_reducible exact ih1 _ _ _ _ _ _ _ _ _)
   | (with_reducible exact chandlerylaw17_awake.mono _)
   | (with_reducible exact chandleryref01_Text.mono _ _)
   | (with_reducible exact narw_Bytes.mono _ _)
   | (with_reducible exact narw_Size.mono _ _)
   | (with_reducible exact narw_Texts.mono _ _)
   | (with_reducible exact LeO.refl _)
   | (with_reducible exact LeO.none _)
   | (with_reducible refine LeO.ite ?_ ?_)
   | (with_reducible refine LeO.bind ?_ (fun _ => ?_))
   | exact ih0 _ _ _ _ _
   | exact ih1 _ _ _ _ _ _ _ _ _
   | exact chandlerylaw17_awake.mono _
   | exact chandleryref01_Text.mono _ _
   | exact narw_Bytes.mono _ _
   | exact narw_Size.mono _ _
   | exact narw_Texts.mono _ _
   | exact LeO.none _
   | refine LeO.ite ?_ ?_
   | refine LeO.bind ?_ (fun _ => ?_)
  ·intro y0 y1 y2 y3 y4 y5 y6 y7 y8
   unfold chandlerylaw17_NarwFile.l0
   repeat' first
   | (with_reducible exact ih0 _ _ _ _ _)
   | (with_reducible exact ih1 _ _ _ _ _ _ _ _ _)
   | (with_reducible exact chandlerylaw17_awake.mono _)
   | (with_reducible exact chandleryref01_Text.mono _ _)
   | (with_reducible exact narw_Bytes.mono _ _)
   | (with_reducible exact narw_Size.mono _ _)
   | (with_reducible exact narw_Texts.mono _ _)
   | (with_reducible exact LeO.refl _)
   | (with_reducible exact LeO.none _)
   | (with_reducible refine LeO.ite ?_ ?_)
   | (with_reducible refine LeO.bind ?_ (fun _ => ?_))
   | exact ih0 _ _ _ _ _
   | exact ih1 _ _ _ _ _ _ _ _ _
   | exact chandlerylaw17_awake.mono _
   | exact chandleryref01_Text.mono _ _
   | exact narw_Bytes.mono _ _
   | exact narw_Size.mono _ _
   | exact narw_Texts.mono _ _
   | exact LeO.none _
   | refine LeO.ite ?_ ?_
   | refine LeO.bind ?_ (fun _ => ?_)
theorem chandlerylaw17_NarwFile.mono : ∀ a0 a1 k, LeO (chandlerylaw17_NarwFile.f k a0 a1) (chandlerylaw17_NarwFile.f (k + 1) a0 a1) := by
 intro a0 a1 k
 obtain ⟨ih0, ih1⟩ := chandlerylaw17_NarwFile.mono_l k
 unfold chandlerylaw17_NarwFile.f
 repeat' first
   | (with_reducible exact ih0 _ _ _ _ _)
   | (with_reducible exact ih1 _ _ _ _ _ _ _ _ _)
   | (with_reducible exact chandlerylaw17_awake.mono _)
   | (with_reducible exact chandleryref01_Text.mono _ _)
   | (with_reducible exact narw_Bytes.mono _ _)
   | (with_reducible exact narw_Size.mono _ _)
   | (with_reducible exact narw_Texts.mono _ _)
   | (with_reducible exact LeO.refl _)
   | (with_reducible exact LeO.none _)
   | (with_reducible refine LeO.ite ?_ ?_)
   | (with_reducible refine LeO.bind ?_ (fun _ => ?_))
   | exact ih0 _ _ _ _ _
   | exact ih1 _ _ _ _ _ _ _ _ _
   | exact chandlerylaw17_awake.mono _
   | exact chandleryref01_Text.mono _ _
   | exact narw_Bytes.mono _ _
   | exact narw_Size.mono _ _
   | exact narw_Texts.mono _ _
   | exact LeO.none _
   | refine LeO.ite ?_ ?_
   | refine LeO.bind ?_ (fun _ => ?_)
set_option maxHeartbeats 8000000 in
set_option maxRecDepth 100000 in
theorem chandlerylaw17_NarwFile.calls (k : Nat) (a0 : ByteArray) (a1 : Bool) (r : Bool) (w : World) (h : chandlerylaw17_NarwFile.f k a0 a1 = some r) :
  Calls Try.prog 6 #[.string a0, .bool a1] w fun e w' => e = .returned (.bool r) ∧ Below w.heap.size w w' := by
 have hu27 := Try.underlying27
 have HB := Aside0.mk (Below.refl w.heap.size w)
 have H : (if (a0.size : Int) > 2000 then (some true) else ((narw_Size.f k (([(⟨(⟨#[]⟩ : ByteArray), 1, a1, a0⟩ : S27)] : List (S27)))).bind fun bt188 => (if a1 = true then (chandlerylaw17_NarwFile.j0 k a0 a1 bt188.1 bt188.2 (wrap64 ((wrap64 (112 + (wrap64 ((wrap64 (Int.tdiv (wrap64 ((a0.size : Int) + 7)) 8)) * 8)))) + 32))) else (chandlerylaw17_NarwFile.j0 k a0 a1 bt188.1 bt188.2 (wrap64 (112 + (wrap64 ((wrap64 (Int.tdiv (wrap64 ((a0.size : Int) + 7)) 8)) * 8)))))))) = some r := h
 clear h
 by_cases c3 : (a0.size : Int) > 2000
 ·rw [if_pos c3] at H
  have c3b0 : decide (2000 < (a0.size : Int)) = true := decide_eq_true c3
  have c3b1 : decide (2000 < a0.size) = true := decide_eq_true (by omega)
  clear c3
  obtain rfl := Option.some.inj H
  go_enter Try.func6, Try.ntmps6
  go_wp2
  go_ret
  exact ⟨by first | rfl | (simp [errW_none, errW_some] <;> rfl) | (simp [*, errW_none, errW_some] <;> rfl), by repeat (first | (with_reducible first | exact HB.out | apply below_alloc | apply pw_below_drewN | apply below_drew1) | exact HB.out)⟩
 ·rw [if_neg c3] at H
  have c3b0 : decide (2000 < (a0.size : Int)) = false := decide_eq_false c3
  have c3b1 : decide (2000 < a0.size) = false := decide_eq_false (by omega)
  clear c3
  obtain ⟨y185, hy185⟩ : ∃ y_ : List (S27), y_ = (([(⟨(⟨#[]⟩ : ByteArray), 1, a1, a0⟩ : S27)] : List (S27))) := ⟨_, rfl⟩
  replace H : ((narw_Size.f k y185).bind fun bt188 => (if a1 = true then (chandlerylaw17_NarwFile.j0 k a0 a1 bt188.1 bt188.2 (wrap64 ((wrap64 (112 + (wrap64 ((wrap64 (Int.tdiv (wrap64 ((a0.size : Int) + 7)) 8)) * 8)))) + 32))) else (chandlerylaw17_NarwFile.j0 k a0 a1 bt188.1 bt188.2 (wrap64 (112 + (wrap64 ((wrap64 (Int.tdiv (wrap64 ((a0.size : Int) + 7)) 8)) * 8))))))) = some r := by first | (rw [hy185]; with_reducible exact H) | (have H2_ := (Option.bind_some _ _).symm.trans H; rw [hy185]; with_reducible exact H2_) | (have H2_ := (Option.bind_some _ _).symm.trans H; with_reducible exact H2_) | with_reducible exact H | (rw [hy185]; exact H) | exact H
  have Ny185 := Aside0.mk hy185
  clear hy185
  replace H := Option.bind_eq_some_iff.mp H
  obtain ⟨⟨t188, t189⟩, A40, H⟩ := H
  replace H : (if a1 = true then (chandlerylaw17_NarwFile.j0 k a0 a1 t188 t189 (wrap64 ((wrap64 (112 + (wrap64 ((wrap64 (Int.tdiv (wrap64 ((a0.size : Int) + 7)) 8)) * 8)))) + 32))) else (chandlerylaw17_NarwFile.j0 k a0 a1 t188 t189 (wrap64 (112 + (wrap64 ((wrap64 (Int.tdiv (wrap64 ((a0.size : Int) + 7)) 8)) * 8)))))) = some r := H
  have A4 := Aside0.mk A40
  clear A40
  have HC5 := Aside0.mk H
  clear H
  go_enter Try.func6, Try.ntmps6
  go_upto_if 31 with (first | ((with_reducible refine gate_dst (N := 21) rfl ?_); (try (refine gate_guard (by rfl) ?_; dsimp only)); refine Kd.R_lit k27 _ 27 ?hg (N := 21) ?hd (xs := ([(⟨(⟨#[]⟩ : ByteArray), 1, a1, a0⟩ : S27)] : List (S27))) (inner := [.string (⟨#[]⟩ : ByteArray), .int .i64 1, .bool a1, .string a0]) (ok := fun _ => True) (okp := fun _ => True) ?hr ?hp (fun _ hk => hk) trivial (Below.refl _ _) (Nat.le_refl _) (by simp) ?_; (case hd => rfl); (case hg => rfl); (case hr => first | (go_simp; done) | (go_simp; rfl)); (case hp => exact (Reps.c4 (show Kd.M k27 _ _ _ (⟨(⟨#[]⟩ : ByteArray), 1, a1, a0⟩ : S27) [.string (⟨#[]⟩ : ByteArray), .int .i64 1, .bool a1, .string a0] from (k27_mkM _ _ _ (⟨(⟨#[]⟩ : ByteArray), 1, a1, a0⟩ : S27) )) (Reps.none _ _))); intro v186 w6 ho7 hb hg_ hnew_; clear hg_ hnew_; (first | rw [← Ny185.out] at ho7 | (simp only [Int.reduceToNat] at ho7; rw [← Ny185.out] at ho7)); have n0_ := Aside0.mk (Kd.R_lower ho7 (below_size (by repeat (first | (with_reducible first | exact HB.out | apply below_alloc | apply pw_below_drewN | apply below_drew1) | exact HB.out)))); have n1_ := Aside0.mk (below_step (by repeat (first | (with_reducible first | exact HB.out | apply below_alloc | apply pw_below_drewN | apply below_drew1) | exact HB.out)) hb); clear HB; have HO187 := n0_; have HB := n1_; clear n0_ n1_; clear hb ho7; obtain ⟨Ao8, co8, eo8⟩ := Kd.R_slice HO187.out; subst eo8) | ((with_reducible refine gate_callee (f := 20) rfl ?_); refine goesL_ (some 22) rfl rfl Try.func20 (by kernel_rfl) rfl #[.slice Ao8 y185.length co8] rfl (by (try simp only [List.map_toArray, List.map_cons, List.map_nil]); first | done | rfl | (simp only [List.length_drop, List.length_take]; rfl)) ?_; (with_reducible refine (narw_Size.calls k _ _ y185 t188 t189 _ ?side1 ?side2 A4.out).mono ?_); (case side1 => repeat (first | exact (Kd.R_reads' HO187.out).2.2 | (with_reducible refine Kd.C_alloc ?_ _) | (with_reducible refine Kd.C_drewN ?_ _) | (with_reducible refine Kd.C_drew ?_))); (case side2 => exact (Kd.R_reads' HO187.out).2.1); rintro e w9 ⟨rfl, hb⟩; refine ⟨_, rfl, ?_⟩; have n0_ := Aside0.mk (Kd.R_below (by (with_reducible repeat (first | apply Kd.R_alloc | apply Kd.R_drewN | apply Kd.R_drew)); exact HO187.out) hb); have n1_ := Aside0.mk (below_step (by repeat (first | (with_reducible first | exact HB.out | apply below_alloc | apply pw_below_drewN | apply below_drew1) | exact HB.out)) hb); clear HO187; clear HB; have HO187 := n0_; have HB := n1_; clear n0_ n1_; (try clear hb); (try clear hb2); (try clear hk); (try clear hi)))
  (try simp only [Act.put, List.setIfInBounds_toArray, List.set_cons_zero, List.set_cons_succ])
  go_cut [7] (fun v7 wc => ∃ (kq : Nat) (x7_4 : Int), v7 = .int .i64 x7_4 ∧ Aside0 (chandlerylaw17_NarwFile.j0 kq a0 a1 t188 t189 x7_4 = some r) ∧ Aside0 (kq ≤ k) ∧ Aside0 (Below w.heap.size w wc))
  case first =>
   have H := HC5.out
   clear HC5
   by_cases c10 : a1 = true
   ·subst c10
    have H1 : (chandlerylaw17_NarwFile.j0 k a0 true t188 t189 (wrap64 ((wrap64 (112 + (wrap64 ((wrap64 (Int.tdiv (wrap64 ((a0.size : Int) + 7)) 8)) * 8)))) + 32))) = some r := by rw [if_pos rfl] at H; exact H
    clear H
    have H := H1
    clear H1
    have H' := Aside0.mk H
    clear H
    go_wp2
    go_meet
    case rel => exact ⟨_, (wrap64 ((wrap64 (112 + (wrap64 ((wrap64 (Int.tdiv (wrap64 ((a0.size : Int) + 7)) 8)) * 8)))) + 32)), (by first | rfl | (simp; done) | exact congrArg Value.bool (Go.Proofs.YtlcaogiljiieaaaX.isEmpty_ne_ _) | exact congrArg Value.bool (Go.Proofs.YtlcaogiljiieaaaX.ne_isEmpty_ _) | (simp [*]; done)), H', ⟨by first | omega | exact Nat.le_refl _⟩, ⟨by repeat (first | (with_reducible first | exact HB.out | apply below_alloc | apply pw_below_drewN | apply below_drew1) | exact HB.out)⟩⟩
   ·replace c10 := Bool.eq_false_iff.mpr c10
    subst c10
    have H1 : (chandlerylaw17_NarwFile.j0 k a0 false t188 t189 (wrap64 (112 + (wrap64 ((wrap64 (Int.tdiv (wrap64 ((a0.size : Int) + 7)) 8)) * 8))))) = some r := by rw [if_neg (show ¬ (false = true) by decide)] at H; exact H
    clear H
    have H := H1
    clear H1
    have H' := Aside0.mk H
    clear H
    go_wp2
    go_meet
    case rel => exact ⟨_, (wrap64 (112 + (wrap64 ((wrap64 (Int.tdiv (wrap64 ((a0.size : Int) + 7)) 8)) * 8)))), (by first | rfl | (simp; done) | exact congrArg Value.bool (Go.Proofs.YtlcaogiljiieaaaX.isEmpty_ne_ _) | exact congrArg Value.bool (Go.Proofs.YtlcaogiljiieaaaX.ne_isEmpty_ _) | (simp [*]; done)), H', ⟨by first | omega | exact Nat.le_refl _⟩, ⟨by repeat (first | (with_reducible first | exact HB.out | apply below_alloc | apply pw_below_drewN | apply below_drew1) | exact HB.out)⟩⟩
  case rest =>
   clear HC5
   try clear c1
   try clear c2
   try clear p2
   try clear c3
   try clear c3b0
   try clear c3b1
   try clear c4
   try clear c6
   try clear p6
   try clear c10
   obtain ⟨kq, x7_4, rfl, HA, HJ4, HB⟩ := hcut
   cases kq with
   | zero => exact absurd HA.out (by simp [chandlerylaw17_NarwFile.j0])
   | succ kj4 =>
    have H := HA.out
    clear HA
    simp only [chandlerylaw17_NarwFile.j0] at H
    obtain ⟨y190, hy190⟩ : ∃ y_ : List (S27), y_ = (([(⟨(⟨#[]⟩ : ByteArray), 1, a1, a0⟩ : S27)] : List (S27))) := ⟨_, rfl⟩
    replace H : ((narw_Bytes.f kj4 y190).bind fun bt193 => ((narw_Texts.f kj4 (([(⟨(⟨#[]⟩ : ByteArray), 1, a1, a0⟩ : S27)] : List (S27)))).bind fun bt200 => (chandlerylaw17_NarwFile.l0 kj4 t188 t189 x7_4 bt193.1 bt193.2 bt200.1 bt200.2 0 0))) = some r := by first | (rw [hy190]; with_reducible exact H) | (have H2_ := (Option.bind_some _ _).symm.trans H; rw [hy190]; with_reducible exact H2_) | (have H2_ := (Option.bind_some _ _).symm.trans H; with_reducible exact H2_) | with_reducible exact H | (rw [hy190]; exact H) | exact H
    have Ny190 := Aside0.mk hy190
    clear hy190
    replace H := Option.bind_eq_some_iff.mp H
    obtain ⟨⟨t193, t194⟩, A110, H⟩ := H
    replace H : ((narw_Texts.f kj4 (([(⟨(⟨#[]⟩ : ByteArray), 1, a1, a0⟩ : S27)] : List (S27)))).bind fun bt200 => (chandlerylaw17_NarwFile.l0 kj4 t188 t189 x7_4 t193 t194 bt200.1 bt200.2 0 0)) = some r := H
    have A11 := Aside0.mk A110
    clear A110
    obtain ⟨y197, hy197⟩ : ∃ y_ : List (S27), y_ = (([(⟨(⟨#[]⟩ : ByteArray), 1, a1, a0⟩ : S27)] : List (S27))) := ⟨_, rfl⟩
    replace H : ((narw_Texts.f kj4 y197).bind fun bt200 => (chandlerylaw17_NarwFile.l0 kj4 t188 t189 x7_4 t193 t194 bt200.1 bt200.2 0 0)) = some r := by first | (rw [hy197]; with_reducible exact H) | (have H2_ := (Option.bind_some _ _).symm.trans H; rw [hy197]; with_reducible exact H2_) | (have H2_ := (Option.bind_some _ _).symm.trans H; with_reducible exact H2_) | with_reducible exact H | (rw [hy197]; exact H) | exact H
    have Ny197 := Aside0.mk hy197
    clear hy197
    replace H := Option.bind_eq_some_iff.mp H
    obtain ⟨⟨t200, t201⟩, A120, H⟩ := H
    replace H : (chandlerylaw17_NarwFile.l0 kj4 t188 t189 x7_4 t193 t194 t200 t201 0 0) = some r := H
    have A12 := Aside0.mk A120
    clear A120
    have H' := Aside0.mk H
    clear H
    go_wp2_with (first | ((with_reducible refine gate_dst (N := 38) rfl ?_); (try (refine gate_guard (by rfl) ?_; dsimp only)); refine Kd.R_lit k27 _ 27 ?hg (N := 38) ?hd (xs := ([(⟨(⟨#[]⟩ : ByteArray), 1, a1, a0⟩ : S27)] : List (S27))) (inner := [.string (⟨#[]⟩ : ByteArray), .int .i64 1, .bool a1, .string a0]) (ok := fun _ => True) (okp := fun _ => True) ?hr ?hp (fun _ hk => hk) trivial (Below.refl _ _) (Nat.le_refl _) (by simp) ?_; (case hd => rfl); (case hg => rfl); (case hr => first | (go_simp; done) | (go_simp; rfl)); (case hp => exact (Reps.c4 (show Kd.M k27 _ _ _ (⟨(⟨#[]⟩ : ByteArray), 1, a1, a0⟩ : S27) [.string (⟨#[]⟩ : ByteArray), .int .i64 1, .bool a1, .string a0] from (k27_mkM _ _ _ (⟨(⟨#[]⟩ : ByteArray), 1, a1, a0⟩ : S27) )) (Reps.none _ _))); intro v191 w13 ho14 hb hg_ hnew_; clear hg_ hnew_; (first | rw [← Ny190.out] at ho14 | (simp only [Int.reduceToNat] at ho14; rw [← Ny190.out] at ho14)); have n0_ := Aside0.mk (Kd.R_lower ho14 (below_size (by repeat (first | (with_reducible first | exact HB.out | apply below_alloc | apply pw_below_drewN | apply below_drew1) | exact HB.out)))); have n1_ := Aside0.mk (below_step (by repeat (first | (with_reducible first | exact HB.out | apply below_alloc | apply pw_below_drewN | apply below_drew1) | exact HB.out)) hb); clear HB; have HO192 := n0_; have HB := n1_; clear n0_ n1_; clear hb ho14; obtain ⟨Ao15, co15, eo15⟩ := Kd.R_slice HO192.out; subst eo15) | ((with_reducible refine gate_callee (f := 19) rfl ?_); refine goesL_ (some 39) rfl rfl Try.func19 (by kernel_rfl) rfl #[.slice Ao15 y190.length co15] rfl (by (try simp only [List.map_toArray, List.map_cons, List.map_nil]); first | done | rfl | (simp only [List.length_drop, List.length_take]; rfl)) ?_; (with_reducible refine (narw_Bytes.calls kj4 _ _ y190 t193 t194 _ ?side1 ?side2 A11.out).mono ?_); (case side1 => repeat (first | exact (Kd.R_reads' HO192.out).2.2 | (with_reducible refine Kd.C_alloc ?_ _) | (with_reducible refine Kd.C_drewN ?_ _) | (with_reducible refine Kd.C_drew ?_))); (case side2 => exact (Kd.R_reads' HO192.out).2.1); rintro e w16 ⟨v195, rfl, ho0, hb⟩; refine ⟨_, rfl, ?_⟩; have n0_ := Aside0.mk (Kd.R_below (by (with_reducible repeat (first | apply Kd.R_alloc | apply Kd.R_drewN | apply Kd.R_drew)); exact HO192.out) hb); have n1_ := Aside0.mk (Kd.R_lower ho0 (below_size (by repeat (first | (with_reducible first | exact HB.out | apply below_alloc | apply pw_below_drewN | apply below_drew1) | exact HB.out)))); have n2_ := Aside0.mk (below_step (by repeat (first | (with_reducible first | exact HB.out | apply below_alloc | apply pw_below_drewN | apply below_drew1) | exact HB.out)) hb); clear HO192; clear HB; have HO192 := n0_; have HO196 := n1_; have HB := n2_; clear n0_ n1_ n2_; (try clear hb); (try clear hb2); (try clear hk); (try clear hi); (try clear ho0)) | ((with_reducible refine gate_dst (N := 46) rfl ?_); (try (refine gate_guard (by rfl) ?_; dsimp only)); refine Kd.R_lit k27 _ 27 ?hg (N := 46) ?hd (xs := ([(⟨(⟨#[]⟩ : ByteArray), 1, a1, a0⟩ : S27)] : List (S27))) (inner := [.string (⟨#[]⟩ : ByteArray), .int .i64 1, .bool a1, .string a0]) (ok := fun _ => True) (okp := fun _ => True) ?hr ?hp (fun _ hk => hk) trivial (Below.refl _ _) (Nat.le_refl _) (by simp) ?_; (case hd => rfl); (case hg => rfl); (case hr => first | (go_simp; done) | (go_simp; rfl)); (case hp => exact (Reps.c4 (show Kd.M k27 _ _ _ (⟨(⟨#[]⟩ : ByteArray), 1, a1, a0⟩ : S27) [.string (⟨#[]⟩ : ByteArray), .int .i64 1, .bool a1, .string a0] from (k27_mkM _ _ _ (⟨(⟨#[]⟩ : ByteArray), 1, a1, a0⟩ : S27) )) (Reps.none _ _))); intro v198 w17 ho18 hb hg_ hnew_; clear hg_ hnew_; (first | rw [← Ny197.out] at ho18 | (simp only [Int.reduceToNat] at ho18; rw [← Ny197.out] at ho18)); have n0_ := Aside0.mk (Kd.R_elder' (by (with_reducible repeat (first | apply Kd.R_alloc | apply Kd.R_drewN | apply Kd.R_drew)); exact HO192.out) (Kd.R_base ho18) hb); have n1_ := Aside0.mk (Kd.R_below (by (with_reducible repeat (first | apply Kd.R_alloc | apply Kd.R_drewN | apply Kd.R_drew)); exact HO196.out) hb); have n2_ := Aside0.mk (Kd.R_lower (Kd.R_new' ho18 (Kd.R_lt (by (with_reducible repeat (first | apply Kd.R_alloc | apply Kd.R_drewN | apply Kd.R_drew)); exact HO192.out))) (below_size (by repeat (first | (with_reducible first | exact HB.out | apply below_alloc | apply pw_below_drewN | apply below_drew1) | exact HB.out)))); have n3_ := Aside0.mk (below_step (by repeat (first | (with_reducible first | exact HB.out | apply below_alloc | apply pw_below_drewN | apply below_drew1) | exact HB.out)) hb); clear HO192; clear HO196; clear HB; have HO192 := n0_; have HO196 := n1_; have HO199 := n2_; have HB := n3_; clear n0_ n1_ n2_ n3_; clear hb ho18; obtain ⟨Ao19, co19, eo19⟩ := Kd.R_slice HO199.out; subst eo19) | ((with_reducible refine gate_callee (f := 15) rfl ?_); refine goesL_ (some 47) rfl rfl Try.func15 (by kernel_rfl) rfl #[.slice Ao19 y197.length co19] rfl (by (try simp only [List.map_toArray, List.map_cons, List.map_nil]); first | done | rfl | (simp only [List.length_drop, List.length_take]; rfl)) ?_; (with_reducible refine (narw_Texts.calls kj4 _ _ y197 t200 t201 _ ?side1 ?side2 A12.out).mono ?_); (case side1 => repeat (first | exact (Kd.R_reads' HO199.out).2.2 | (with_reducible refine Kd.C_alloc ?_ _) | (with_reducible refine Kd.C_drewN ?_ _) | (with_reducible refine Kd.C_drew ?_))); (case side2 => exact (Kd.R_reads' HO199.out).2.1); rintro e w20 ⟨v202, rfl, ho0, hb⟩; refine ⟨_, rfl, ?_⟩; have n0_ := Aside0.mk (Kd.R_below (by (with_reducible repeat (first | apply Kd.R_alloc | apply Kd.R_drewN | apply Kd.R_drew)); exact HO192.out) hb); have n1_ := Aside0.mk (Kd.R_below (by (with_reducible repeat (first | apply Kd.R_alloc | apply Kd.R_drewN | apply Kd.R_drew)); exact HO196.out) hb); have n2_ := Aside0.mk (Kd.R_below (by (with_reducible repeat (first | apply Kd.R_alloc | apply Kd.R_drewN | apply Kd.R_drew)); exact HO199.out) hb); have n3_ := Aside0.mk (Kd.R_lower ho0 (below_size (by repeat (first | (with_reducible first | exact HB.out | apply below_alloc | apply pw_below_drewN | apply below_drew1) | exact HB.out)))); have n4_ := Aside0.mk (below_step (by repeat (first | (with_reducible first | exact HB.out | apply below_alloc | apply pw_below_drewN | apply below_drew1) | exact HB.out)) hb); clear HO192; clear HO196; clear HO199; clear HB; have HO192 := n0_; have HO196 := n1_; have HO199 := n2_; have HO203 := n3_; have HB := n4_; clear n0_ n1_ n2_ n3_ n4_; (try clear hb); (try clear hb2); (try clear hk); (try clear hi); (try clear ho0)))
    go_loopg [12, 13] kj4 (fun kq v12 v13 w' => ∃ (x12_2 : Int) (x13_2 : Int), v12 = .int .i64 x12_2 ∧ v13 = .int .i64 x13_2 ∧ Aside0 (chandlerylaw17_NarwFile.l0 kq t188 t189 x7_4 t193 t194 t200 t201 x12_2 x13_2 = some r) ∧ Aside0 (kq ≤ kj4) ∧ Aside0 (Kd.R (Kd.int .u8) 5 w' w.heap.size (fun _ => True) v195 t193) ∧ Aside0 (Kd.R Kd.string 9 w' w.heap.size (fun _ => True) v202 t200) ∧ Aside0 (Below w.heap.size w w'))
    case atStart => exact ⟨(0), (0), (by first | rfl | (simp; done) | exact congrArg Value.bool (Go.Proofs.YtlcaogiljiieaaaX.isEmpty_ne_ _) | exact congrArg Value.bool (Go.Proofs.YtlcaogiljiieaaaX.ne_isEmpty_ _) | (simp [*]; done)), (by first | rfl | (simp; done) | exact congrArg Value.bool (Go.Proofs.YtlcaogiljiieaaaX.isEmpty_ne_ _) | exact congrArg Value.bool (Go.Proofs.YtlcaogiljiieaaaX.ne_isEmpty_ _) | (simp [*]; done)), H', ⟨Nat.le_refl _⟩, ⟨by (with_reducible repeat (first | apply Kd.R_alloc | apply Kd.R_drewN | apply Kd.R_drew)); exact HO196.out⟩, ⟨by (with_reducible repeat (first | apply Kd.R_alloc | apply Kd.R_drewN | apply Kd.R_drew)); exact HO203.out⟩, ⟨by repeat (first | (with_reducible first | exact HB.out | apply below_alloc | apply pw_below_drewN | apply below_drew1) | exact HB.out)⟩⟩
    case round =>
     clear H'
     try clear c1
     try clear c2
     try clear p2
     try clear c3
     try clear c3b0
     try clear c3b1
     try clear c4
     try clear c6
     try clear p6
     try clear c10
     try clear c15
     try clear c19
     try clear c20
     try clear p2
     try clear p6
     obtain ⟨x12_2, x13_2, rfl, rfl, HA, HK2, HO_8, HO_10, HB⟩ := hrel
     cases gk with
     | zero => exact absurd HA.out (by simp [chandlerylaw17_NarwFile.l0])
     | succ k2 =>
      have H := HA.out
      clear HA
      simp only [chandlerylaw17_NarwFile.l0] at H
      by_cases c21 : x13_2 < (t200.length : Int)
      ·rw [if_pos c21] at H
       have c21b0 : decide (x13_2 < (t200.length : Int)) = true := decide_eq_true c21
       clear c21
       by_cases c22 : 0 ≤ x13_2
       ·rw [if_pos c22] at H
        have c22b0 : decide (0 ≤ x13_2) = true := decide_eq_true c22
        clear c22
        replace H := Option.bind_eq_some_iff.mp H
        obtain ⟨t205, A230, H⟩ := H
        replace H : (chandlerylaw17_NarwFile.l0 k2 t188 t189 x7_4 t193 t194 t200 t201 (wrap64 (x12_2 + (t205.length : Int))) (wrap64 (x13_2 + 1))) = some r := H
        have A23 := Aside0.mk A230
        clear A230
        have H' := Aside0.mk H
        clear H
        obtain ⟨Ao24, co24, eo24⟩ := Kd.R_slice HO_10.out
        subst eo24
        have p204 : 0 ≤ (x13_2 : Int) := of_decide_eq_true (by first | (with_reducible assumption) | assumption)
        have q204 : x13_2 < (t200.length : Int) := of_decide_eq_true (by first | (with_reducible assumption) | assumption)
        obtain ⟨ad204, e204, hx204_0⟩ := Kd.at_string (Kd.R_reads' HO_10.out).2.2 x13_2 p204 q204
        cases e204
        replace p204 := eq_true p204
        replace q204 := eq_true q204
        go_wp2_with (first | ((with_reducible refine gate_callee (f := 24) rfl ?_); refine goesL_ (some 61) rfl rfl Try.func24 (by kernel_rfl) rfl #[.string (rdOf ByteArray.empty t200 x13_2)] rfl (by (try simp only [List.map_toArray, List.map_cons, List.map_nil]); first | done | rfl | (simp only [List.length_drop, List.length_take]; rfl)) ?_; (with_reducible refine (chandleryref01_Text.calls k2 (rdOf ByteArray.empty t200 x13_2) t205 _ A23.out).mono ?_); rintro e w25 ⟨v206, rfl, ho0, hb⟩; refine ⟨_, rfl, ?_⟩; have n0_ := Aside0.mk (Kd.R_elder' (by (with_reducible repeat (first | apply Kd.R_alloc | apply Kd.R_drewN | apply Kd.R_drew)); exact HO_8.out) (Kd.R_base ho0) hb); have n1_ := Aside0.mk (Kd.R_below (by (with_reducible repeat (first | apply Kd.R_alloc | apply Kd.R_drewN | apply Kd.R_drew)); exact HO_10.out) hb); have n2_ := Aside0.mk (Kd.R_lower (Kd.R_new' ho0 (Kd.R_lt (by (with_reducible repeat (first | apply Kd.R_alloc | apply Kd.R_drewN | apply Kd.R_drew)); exact HO_8.out))) (below_size (by repeat (first | (with_reducible first | exact HB.out | apply below_alloc | apply pw_below_drewN | apply below_drew1) | exact HB.out)))); have n3_ := Aside0.mk (below_step (by repeat (first | (with_reducible first | exact HB.out | apply below_alloc | apply pw_below_drewN | apply below_drew1) | exact HB.out)) hb); clear HO_8; clear HO_10; clear HB; have HO_8 := n0_; have HO_10 := n1_; have HO207 := n2_; have HB := n3_; clear n0_ n1_ n2_ n3_; (try clear hb); (try clear hb2); (try clear hk); (try clear hi); (try clear ho0); obtain ⟨Ao26, co26, eo26⟩ := Kd.R_slice HO207.out; subst eo26))
        go_roundg k2
        case measure => have := HJ4.out; have := HK2.out; omega
        case rel => exact ⟨(wrap64 (x12_2 + (t205.length : Int))), (wrap64 (x13_2 + 1)), (by first | rfl | (simp; done) | exact congrArg Value.bool (Go.Proofs.YtlcaogiljiieaaaX.isEmpty_ne_ _) | exact congrArg Value.bool (Go.Proofs.YtlcaogiljiieaaaX.ne_isEmpty_ _) | (simp [*]; done)), (by first | rfl | (simp; done) | exact congrArg Value.bool (Go.Proofs.YtlcaogiljiieaaaX.isEmpty_ne_ _) | exact congrArg Value.bool (Go.Proofs.YtlcaogiljiieaaaX.ne_isEmpty_ _) | (simp [*]; done)), H', ⟨by have := HJ4.out; have := HK2.out; omega⟩, ⟨by (with_reducible repeat (first | apply Kd.R_alloc | apply Kd.R_drewN | apply Kd.R_drew)); exact Kd.R_mono HO_8.out (fun _ hk => trivial)⟩, ⟨by (with_reducible repeat (first | apply Kd.R_alloc | apply Kd.R_drewN | apply Kd.R_drew)); exact HO_10.out⟩, ⟨by repeat (first | (with_reducible first | exact HB.out | apply below_alloc | apply pw_below_drewN | apply below_drew1) | exact HB.out)⟩⟩
       ·rw [if_neg c22] at H
        exact absurd H (by simp)
      ·rw [if_neg c21] at H
       have c21b0 : decide (x13_2 < (t200.length : Int)) = false := decide_eq_false c21
       clear c21
       replace H := Option.bind_eq_some_iff.mp H
       obtain ⟨t208, A270, H⟩ := H
       replace H : (if t208 = true then (if t189 = 0 then (if t194 = t189 then (if t201 = t189 then (if (t193.length : Int) = t188 then (if t188 = x12_2 then (some (t188 == x7_4)) else (some false)) else (some false)) else (some false)) else (some false)) else (some false)) else (some false)) = some r := H
       have A27 := Aside0.mk A270
       clear A270
       by_cases c28 : t208 = true
       ·subst c28
        have H1 : (if t189 = 0 then (if t194 = t189 then (if t201 = t189 then (if (t193.length : Int) = t188 then (if t188 = x12_2 then (some (t188 == x7_4)) else (some false)) else (some false)) else (some false)) else (some false)) else (some false)) = some r := by rw [if_pos rfl] at H; exact H
        clear H
        have H := H1
        clear H1
        by_cases c29 : t189 = 0
        ·rw [if_pos c29] at H
         have c29b0 : (t189 == 0) = true := beq_iff_eq.mpr c29
         have c29b1 : (t189 != 0) = false := bne_eq_false_iff_eq.mpr c29
         clear c29
         by_cases c30 : t194 = t189
         ·rw [if_pos c30] at H
          have c30b0 : (t194 == t189) = true := beq_iff_eq.mpr c30
          have c30b1 : (t194 != t189) = false := bne_eq_false_iff_eq.mpr c30
          clear c30
          by_cases c31 : t201 = t189
          ·rw [if_pos c31] at H
           have c31b0 : (t201 == t189) = true := beq_iff_eq.mpr c31
           have c31b1 : (t201 != t189) = false := bne_eq_false_iff_eq.mpr c31
           clear c31
           by_cases c32 : (t193.length : Int) = t188
           ·rw [if_pos c32] at H
            have c32b0 : ((t193.length : Int) == t188) = true := beq_iff_eq.mpr c32
            have c32b1 : ((t193.length : Int) != t188) = false := bne_eq_false_iff_eq.mpr c32
            clear c32
            by_cases c33 : t188 = x12_2
            ·rw [if_pos c33] at H
             have c33b0 : (t188 == x12_2) = true := beq_iff_eq.mpr c33
             have c33b1 : (t188 != x12_2) = false := bne_eq_false_iff_eq.mpr c33
             clear c33
             obtain rfl := Option.some.inj H
             obtain ⟨Ao34, co34, eo34⟩ := Kd.R_slice HO_10.out
             subst eo34
             go_wp2_with (first | ((with_reducible refine gate_callee (f := 18) rfl ?_); refine goesL_ (some 64) rfl rfl Try.func18 (by kernel_rfl) rfl #[] rfl (by (try simp only [List.map_toArray, List.map_cons, List.map_nil]); first | done | rfl | (simp only [List.length_drop, List.length_take]; rfl)) ?_; (with_reducible refine (chandlerylaw17_awake.calls k2  true _ A27.out).mono ?_); rintro e w35 ⟨rfl, hb⟩; refine ⟨_, rfl, ?_⟩; have n0_ := Aside0.mk (Kd.R_below (by (with_reducible repeat (first | apply Kd.R_alloc | apply Kd.R_drewN | apply Kd.R_drew)); exact HO_8.out) hb); have n1_ := Aside0.mk (Kd.R_below (by (with_reducible repeat (first | apply Kd.R_alloc | apply Kd.R_drewN | apply Kd.R_drew)); exact HO_10.out) hb); have n2_ := Aside0.mk (below_step (by repeat (first | (with_reducible first | exact HB.out | apply below_alloc | apply pw_below_drewN | apply below_drew1) | exact HB.out)) hb); clear HO_8; clear HO_10; clear HB; have HO_8 := n0_; have HO_10 := n1_; have HB := n2_; clear n0_ n1_ n2_; (try clear hb); (try clear hb2); (try clear hk); (try clear hi); obtain ⟨Ao36, co36, eo36⟩ := Kd.R_slice HO_8.out; subst eo36))
             go_ret
             exact ⟨by first | rfl | (simp [errW_none, errW_some] <;> rfl) | (simp [*, errW_none, errW_some] <;> rfl), by repeat (first | (with_reducible first | exact HB.out | apply below_alloc | apply pw_below_drewN | apply below_drew1) | exact HB.out)⟩
            ·rw [if_neg c33] at H
             have c33b0 : (t188 == x12_2) = false := beq_eq_false_iff_ne.mpr c33
             have c33b1 : (t188 != x12_2) = true := bne_iff_ne.mpr c33
             obtain rfl := Option.some.inj H
             obtain ⟨Ao37, co37, eo37⟩ := Kd.R_slice HO_10.out
             subst eo37
             go_wp2_with (first | ((with_reducible refine gate_callee (f := 18) rfl ?_); refine goesL_ (some 64) rfl rfl Try.func18 (by kernel_rfl) rfl #[] rfl (by (try simp only [List.map_toArray, List.map_cons, List.map_nil]); first | done | rfl | (simp only [List.length_drop, List.length_take]; rfl)) ?_; (with_reducible refine (chandlerylaw17_awake.calls k2  true _ A27.out).mono ?_); rintro e w38 ⟨rfl, hb⟩; refine ⟨_, rfl, ?_⟩; have n0_ := Aside0.mk (Kd.R_below (by (with_reducible repeat (first | apply Kd.R_alloc | apply Kd.R_drewN | apply Kd.R_drew)); exact HO_8.out) hb); have n1_ := Aside0.mk (Kd.R_below (by (with_reducible repeat (first | apply Kd.R_alloc | apply Kd.R_drewN | apply Kd.R_drew)); exact HO_10.out) hb); have n2_ := Aside0.mk (below_step (by repeat (first | (with_reducible first | exact HB.out | apply below_alloc | apply pw_below_drewN | apply below_drew1) | exact HB.out)) hb); clear HO_8; clear HO_10; clear HB; have HO_8 := n0_; have HO_10 := n1_; have HB := n2_; clear n0_ n1_ n2_; (try clear hb); (try clear hb2); (try clear hk); (try clear hi); obtain ⟨Ao39, co39, eo39⟩ := Kd.R_slice HO_8.out; subst eo39))
             go_ret
             exact ⟨by first | rfl | (simp [errW_none, errW_some] <;> rfl) | (simp [*, errW_none, errW_some] <;> rfl), by repeat (first | (with_reducible first | exact HB.out | apply below_alloc | apply pw_below_drewN | apply below_drew1) | exact HB.out)⟩
           ·rw [if_neg c32] at H
            have c32b0 : ((t193.length : Int) == t188) = false := beq_eq_false_iff_ne.mpr c32
            have c32b1 : ((t193.length : Int) != t188) = true := bne_iff_ne.mpr c32
            obtain rfl := Option.some.inj H
            obtain ⟨Ao40, co40, eo40⟩ := Kd.R_slice HO_10.out
            subst eo40
            go_wp2_with (first | ((with_reducible refine gate_callee (f := 18) rfl ?_); refine goesL_ (some 64) rfl rfl Try.func18 (by kernel_rfl) rfl #[] rfl (by (try simp only [List.map_toArray, List.map_cons, List.map_nil]); first | done | rfl | (simp only [List.length_drop, List.length_take]; rfl)) ?_; (with_reducible refine (chandlerylaw17_awake.calls k2  true _ A27.out).mono ?_); rintro e w41 ⟨rfl, hb⟩; refine ⟨_, rfl, ?_⟩; have n0_ := Aside0.mk (Kd.R_below (by (with_reducible repeat (first | apply Kd.R_alloc | apply Kd.R_drewN | apply Kd.R_drew)); exact HO_8.out) hb); have n1_ := Aside0.mk (Kd.R_below (by (with_reducible repeat (first | apply Kd.R_alloc | apply Kd.R_drewN | apply Kd.R_drew)); exact HO_10.out) hb); have n2_ := Aside0.mk (below_step (by repeat (first | (with_reducible first | exact HB.out | apply below_alloc | apply pw_below_drewN | apply below_drew1) | exact HB.out)) hb); clear HO_8; clear HO_10; clear HB; have HO_8 := n0_; have HO_10 := n1_; have HB := n2_; clear n0_ n1_ n2_; (try clear hb); (try clear hb2); (try clear hk); (try clear hi); obtain ⟨Ao42, co42, eo42⟩ := Kd.R_slice HO_8.out; subst eo42))
            go_ret
            exact ⟨by first | rfl | (simp [errW_none, errW_some] <;> rfl) | (simp [*, errW_none, errW_some] <;> rfl), by repeat (first | (with_reducible first | exact HB.out | apply below_alloc | apply pw_below_drewN | apply below_drew1) | exact HB.out)⟩
          ·rw [if_neg c31] at H
           have c31b0 : (t201 == t189) = false := beq_eq_false_iff_ne.mpr c31
           have c31b1 : (t201 != t189) = true := bne_iff_ne.mpr c31
           obtain rfl := Option.some.inj H
           obtain ⟨Ao43, co43, eo43⟩ := Kd.R_slice HO_10.out
           subst eo43
           go_wp2_with (first | ((with_reducible refine gate_callee (f := 18) rfl ?_); refine goesL_ (some 64) rfl rfl Try.func18 (by kernel_rfl) rfl #[] rfl (by (try simp only [List.map_toArray, List.map_cons, List.map_nil]); first | done | rfl | (simp only [List.length_drop, List.length_take]; rfl)) ?_; (with_reducible refine (chandlerylaw17_awake.calls k2  true _ A27.out).mono ?_); rintro e w44 ⟨rfl, hb⟩; refine ⟨_, rfl, ?_⟩; have n0_ := Aside0.mk (Kd.R_below (by (with_reducible repeat (first | apply Kd.R_alloc | apply Kd.R_drewN | apply Kd.R_drew)); exact HO_8.out) hb); have n1_ := Aside0.mk (Kd.R_below (by (with_reducible repeat (first | apply Kd.R_alloc | apply Kd.R_drewN | apply Kd.R_drew)); exact HO_10.out) hb); have n2_ := Aside0.mk (below_step (by repeat (first | (with_reducible first | exact HB.out | apply below_alloc | apply pw_below_drewN | apply below_drew1) | exact HB.out)) hb); clear HO_8; clear HO_10; clear HB; have HO_8 := n0_; have HO_10 := n1_; have HB := n2_; clear n0_ n1_ n2_; (try clear hb); (try clear hb2); (try clear hk); (try clear hi)))
           go_ret
           exact ⟨by first | rfl | (simp [errW_none, errW_some] <;> rfl) | (simp [*, errW_none, errW_some] <;> rfl), by repeat (first | (with_reducible first | exact HB.out | apply below_alloc | apply pw_below_drewN | apply below_drew1) | exact HB.out)⟩
         ·rw [if_neg c30] at H
          have c30b0 : (t194 == t189) = false := beq_eq_false_iff_ne.mpr c30
          have c30b1 : (t194 != t189) = true := bne_iff_ne.mpr c30
          obtain rfl := Option.some.inj H
          obtain ⟨Ao45, co45, eo45⟩ := Kd.R_slice HO_10.out
          subst eo45
          go_wp2_with (first | ((with_reducible refine gate_callee (f := 18) rfl ?_); refine goesL_ (some 64) rfl rfl Try.func18 (by kernel_rfl) rfl #[] rfl (by (try simp only [List.map_toArray, List.map_cons, List.map_nil]); first | done | rfl | (simp only [List.length_drop, List.length_take]; rfl)) ?_; (with_reducible refine (chandlerylaw17_awake.calls k2  true _ A27.out).mono ?_); rintro e w46 ⟨rfl, hb⟩; refine ⟨_, rfl, ?_⟩; have n0_ := Aside0.mk (Kd.R_below (by (with_reducible repeat (first | apply Kd.R_alloc | apply Kd.R_drewN | apply Kd.R_drew)); exact HO_8.out) hb); have n1_ := Aside0.mk (Kd.R_below (by (with_reducible repeat (first | apply Kd.R_alloc | apply Kd.R_drewN | apply Kd.R_drew)); exact HO_10.out) hb); have n2_ := Aside0.mk (below_step (by repeat (first | (with_reducible first | exact HB.out | apply below_alloc | apply pw_below_drewN | apply below_drew1) | exact HB.out)) hb); clear HO_8; clear HO_10; clear HB; have HO_8 := n0_; have HO_10 := n1_; have HB := n2_; clear n0_ n1_ n2_; (try clear hb); (try clear hb2); (try clear hk); (try clear hi)))
          go_ret
          exact ⟨by first | rfl | (simp [errW_none, errW_some] <;> rfl) | (simp [*, errW_none, errW_some] <;> rfl), by repeat (first | (with_reducible first | exact HB.out | apply below_alloc | apply pw_below_drewN | apply below_drew1) | exact HB.out)⟩
        ·rw [if_neg c29] at H
         have c29b0 : (t189 == 0) = false := beq_eq_false_iff_ne.mpr c29
         have c29b1 : (t189 != 0) = true := bne_iff_ne.mpr c29
         obtain rfl := Option.some.inj H
         obtain ⟨Ao47, co47, eo47⟩ := Kd.R_slice HO_10.out
         subst eo47
         go_wp2_with (first | ((with_reducible refine gate_callee (f := 18) rfl ?_); refine goesL_ (some 64) rfl rfl Try.func18 (by kernel_rfl) rfl #[] rfl (by (try simp only [List.map_toArray, List.map_cons, List.map_nil]); first | done | rfl | (simp only [List.length_drop, List.length_take]; rfl)) ?_; (with_reducible refine (chandlerylaw17_awake.calls k2  true _ A27.out).mono ?_); rintro e w48 ⟨rfl, hb⟩; refine ⟨_, rfl, ?_⟩; have n0_ := Aside0.mk (Kd.R_below (by (with_reducible repeat (first | apply Kd.R_alloc | apply Kd.R_drewN | apply Kd.R_drew)); exact HO_8.out) hb); have n1_ := Aside0.mk (Kd.R_below (by (with_reducible repeat (first | apply Kd.R_alloc | apply Kd.R_drewN | apply Kd.R_drew)); exact HO_10.out) hb); have n2_ := Aside0.mk (below_step (by repeat (first | (with_reducible first | exact HB.out | apply below_alloc | apply pw_below_drewN | apply below_drew1) | exact HB.out)) hb); clear HO_8; clear HO_10; clear HB; have HO_8 := n0_; have HO_10 := n1_; have HB := n2_; clear n0_ n1_ n2_; (try clear hb); (try clear hb2); (try clear hk); (try clear hi)))
         go_ret
         exact ⟨by first | rfl | (simp [errW_none, errW_some] <;> rfl) | (simp [*, errW_none, errW_some] <;> rfl), by repeat (first | (with_reducible first | exact HB.out | apply below_alloc | apply pw_below_drewN | apply below_drew1) | exact HB.out)⟩
       ·replace c28 := Bool.eq_false_iff.mpr c28
        subst c28
        have H1 : (some false) = some r := by rw [if_neg (show ¬ (false = true) by decide)] at H; exact H
        clear H
        have H := H1
        clear H1
        obtain rfl := Option.some.inj H
        obtain ⟨Ao49, co49, eo49⟩ := Kd.R_slice HO_10.out
        subst eo49
        go_wp2_with (first | ((with_reducible refine gate_callee (f := 18) rfl ?_); refine goesL_ (some 64) rfl rfl Try.func18 (by kernel_rfl) rfl #[] rfl (by (try simp only [List.map_toArray, List.map_cons, List.map_nil]); first | done | rfl | (simp only [List.length_drop, List.length_take]; rfl)) ?_; (with_reducible refine (chandlerylaw17_awake.calls k2  false _ A27.out).mono ?_); rintro e w50 ⟨rfl, hb⟩; refine ⟨_, rfl, ?_⟩; have n0_ := Aside0.mk (Kd.R_below (by (with_reducible repeat (first | apply Kd.R_alloc | apply Kd.R_drewN | apply Kd.R_drew)); exact HO_8.out) hb); have n1_ := Aside0.mk (Kd.R_below (by (with_reducible repeat (first | apply Kd.R_alloc | apply Kd.R_drewN | apply Kd.R_drew)); exact HO_10.out) hb); have n2_ := Aside0.mk (below_step (by repeat (first | (with_reducible first | exact HB.out | apply below_alloc | apply pw_below_drewN | apply below_drew1) | exact HB.out)) hb); clear HO_8; clear HO_10; clear HB; have HO_8 := n0_; have HO_10 := n1_; have HB := n2_; clear n0_ n1_ n2_; (try clear hb); (try clear hb2); (try clear hk); (try clear hi)))
        go_ret
        exact ⟨by first | rfl | (simp [errW_none, errW_some] <;> rfl) | (simp [*, errW_none, errW_some] <;> rfl), by repeat (first | (with_reducible first | exact HB.out | apply below_alloc | apply pw_below_drewN | apply below_drew1) | exact HB.out)⟩

/-- THE ONE PURE STATEMENT of chandlerylaw17_NarwFile: yours. -/
def chandlerylaw17_NarwFile.Pure : Prop := ∀ (a0 : ByteArray) (a1 : Bool), a0.size ≤ 140737488351232 → ∃ k, chandlerylaw17_NarwFile.f k a0 a1 = some true
theorem chandlerylaw17_NarwFile.walk (P : chandlerylaw17_NarwFile.Pure) (a0 : ByteArray) (a1 : Bool) (w : World) (w0 : a0.size ≤ 140737488351232) :
  Calls Try.prog 6 #[.string a0, .bool a1] w fun e w' => e = .returned (.bool true) ∧ Below w.heap.size w w' := by
 obtain ⟨k, h⟩ := P a0 a1 w0
 refine (chandlerylaw17_NarwFile.calls k a0 a1 true w h).mono ?_
 rintro e w' ⟨rfl, hd⟩
 exact ⟨rfl, hd⟩

end Go.Proofs.Ytlcaogiljiieaaa.PNarwF
