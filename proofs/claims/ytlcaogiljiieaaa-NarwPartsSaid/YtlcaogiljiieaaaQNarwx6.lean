-- printed with xprint.py over the kit's print
import Derived.Test.YtlcaogiljiieaaaQNarwx0
import Derived.Test.YtlcaogiljiieaaaQNarwx1
import Derived.Test.YtlcaogiljiieaaaQNarwx3
import Derived.Test.YtlcaogiljiieaaaQNarwx4
import Derived.Test.YtlcaogiljiieaaaQNarwx5
namespace Go.Proofs.Ytlcaogiljiieaaa.PNarw
open Go.RowKit Go.Proofs.YtlcaogiljiieaaaW.PrintWords Go.Proofs.YtlcaogiljiieaaaW.PrintLast Go.Proofs.YtlcaogiljiieaaaW.PrintMore
attribute [local go_sem] max2_int min2_int max_two min_two max_three min_three max_four min_four   -- for this text's walks alone
set_option linter.unusedVariables false
set_option linter.unusedSimpArgs false
attribute [local go_sem high] eqA27
def wire_PutText.f (k : Nat) (l0 : List Int) (a1 : ByteArray) : Option (List Int) := (wire_Put.f k l0 (a1.size : Int)).bind fun bt216 => (if bt216.1.length + a1.size < 140737488355328 then ((some (bt216.1 ++ bytesOf a1 : List Int)).bind fun y220 => ((wire_pad.f (a1.size : Int)).bind fun t223 => (if 0 ≤ t223 then (if y220.length + (t223 : Int).toNat < 140737488355328 then (some (y220 ++ List.replicate (t223 : Int).toNat 0)) else (none)) else (none)))) else (none))
theorem wire_PutText.mono : ∀ a0 a1 k, LeO (wire_PutText.f k a0 a1) (wire_PutText.f (k + 1) a0 a1) := by
 intro a0 a1 k
 unfold wire_PutText.f
 repeat' first
   | (with_reducible exact wire_Put.mono _ _ _)
   | (with_reducible exact LeO.refl _)
   | (with_reducible exact LeO.none _)
   | (with_reducible refine LeO.ite ?_ ?_)
   | (with_reducible refine LeO.bind ?_ (fun _ => ?_))
   | exact wire_Put.mono _ _ _
   | exact LeO.none _
   | refine LeO.ite ?_ ?_
   | refine LeO.bind ?_ (fun _ => ?_)
set_option maxHeartbeats 8000000 in
set_option maxRecDepth 100000 in
theorem wire_PutText.calls (k : Nat) (A0 : Option Addr) (c0 : Nat) (l0 : List Int) (a1 : ByteArray) (r : List Int) (w : World) (hr0 : Kd.C (Kd.int .u8) w A0 l0.length l0) (hc0 : l0.length ≤ c0) (h : wire_PutText.f k l0 a1 = some r) :
  Calls Try.prog 43 #[.slice A0 l0.length c0, .string a1] w fun e w' => ∃ v0_ : Value, e = .returned (v0_) ∧ Kd.R (Kd.int .u8) 5 w' w.heap.size (fun _ => True) v0_ r ∧ Below w.heap.size w w' := by
 have HR0 := Aside0.mk hr0
 have HC0 := Aside0.mk hc0
 clear hr0 hc0
 have HB := Aside0.mk (Below.refl w.heap.size w)
 have H : ((wire_Put.f k l0 (a1.size : Int)).bind fun bt216 => (if bt216.1.length + a1.size < 140737488355328 then ((some (bt216.1 ++ bytesOf a1 : List Int)).bind fun y220 => ((wire_pad.f (a1.size : Int)).bind fun t223 => (if 0 ≤ t223 then (if y220.length + (t223 : Int).toNat < 140737488355328 then (some (y220 ++ List.replicate (t223 : Int).toNat 0)) else (none)) else (none)))) else (none))) = some r := h
 clear h
 replace H := Option.bind_eq_some_iff.mp H
 obtain ⟨⟨t216, t217⟩, A30, H⟩ := H
 replace H : (if t216.length + a1.size < 140737488355328 then ((some (t216 ++ bytesOf a1 : List Int)).bind fun y220 => ((wire_pad.f (a1.size : Int)).bind fun t223 => (if 0 ≤ t223 then (if y220.length + (t223 : Int).toNat < 140737488355328 then (some (y220 ++ List.replicate (t223 : Int).toNat 0)) else (none)) else (none)))) else (none)) = some r := H
 have A3 := Aside0.mk A30
 clear A30
 by_cases c4 : t216.length + a1.size < 140737488355328
 ·rw [if_pos c4] at H
  have LMc4 := Aside0.mk c4
  clear c4
  obtain ⟨y220, hy220⟩ : ∃ y_ : List Int, y_ = (t216 ++ bytesOf a1) := ⟨_, rfl⟩
  replace H : ((wire_pad.f (a1.size : Int)).bind fun t223 => (if 0 ≤ t223 then (if y220.length + (t223 : Int).toNat < 140737488355328 then (some (y220 ++ List.replicate (t223 : Int).toNat 0)) else (none)) else (none))) = some r := by first | (rw [hy220]; with_reducible exact H) | (have H2_ := (Option.bind_some _ _).symm.trans H; rw [hy220]; with_reducible exact H2_) | (have H2_ := (Option.bind_some _ _).symm.trans H; with_reducible exact H2_) | with_reducible exact H | (rw [hy220]; exact H) | exact H
  have Ny220 := Aside0.mk hy220
  clear hy220
  replace H := Option.bind_eq_some_iff.mp H
  obtain ⟨t223, A50, H⟩ := H
  replace H : (if 0 ≤ t223 then (if y220.length + (t223 : Int).toNat < 140737488355328 then (some (y220 ++ List.replicate (t223 : Int).toNat 0)) else (none)) else (none)) = some r := H
  have A5 := Aside0.mk A50
  clear A50
  by_cases c6 : 0 ≤ t223
  ·rw [if_pos c6] at H
   have c6b0 := eq_true c6
   have c6b1 : decide (0 ≤ t223) = true := decide_eq_true c6
   clear c6
   by_cases c7 : y220.length + (t223 : Int).toNat < 140737488355328
   ·rw [if_pos c7] at H
    have LMc7 := Aside0.mk c7
    clear c7
    obtain ⟨y224, hy224⟩ : ∃ y_ : List Int, y_ = (y220 ++ List.replicate (t223 : Int).toNat 0) := ⟨_, rfl⟩
    replace H : (some y224) = some r := by first | (rw [hy224]; with_reducible exact H) | (have H2_ := (Option.bind_some _ _).symm.trans H; rw [hy224]; with_reducible exact H2_) | (have H2_ := (Option.bind_some _ _).symm.trans H; with_reducible exact H2_) | with_reducible exact H | (rw [hy224]; exact H) | exact H
    have Ny224 := Aside0.mk hy224
    clear hy224
    obtain rfl := Option.some.inj H
    go_enter Try.func43, Try.ntmps43
    go_wp2_with (first | ((with_reducible refine gate_callee (f := 60) rfl ?_); refine goesL_ (some 11) rfl rfl Try.func60 (by kernel_rfl) rfl #[.slice A0 l0.length c0, .int .i64 (a1.size : Int)] rfl (by (try simp only [List.map_toArray, List.map_cons, List.map_nil]); first | done | rfl | (simp only [List.length_drop, List.length_take]; rfl)) ?_; (with_reducible refine (wire_Put.calls k _ _ l0 (a1.size : Int) t216 t217 _ ?side1 ?side2 A3.out).mono ?_); (case side1 => repeat (first | exact HR0.out | (with_reducible refine Kd.C_alloc ?_ _) | (with_reducible refine Kd.C_drewN ?_ _) | (with_reducible refine Kd.C_drew ?_))); (case side2 => exact HC0.out); rintro e w8 ⟨v218, rfl, ho0, hb⟩; refine ⟨_, rfl, ?_⟩; have n0_ := Aside0.mk (Kd.R_lower ho0 (below_size (by repeat (first | (with_reducible first | exact HB.out | apply below_alloc | apply pw_below_drewN | apply below_drew1) | exact HB.out)))); have n1_ := Aside0.mk (below_step (by repeat (first | (with_reducible first | exact HB.out | apply below_alloc | apply pw_below_drewN | apply below_drew1) | exact HB.out)) hb); clear HB; have HO219 := n0_; have HB := n1_; clear n0_ n1_; (try clear hb); (try clear hb2); (try clear hk); (try clear hi); (try clear ho0)) | (at_builtin; refine Go.Proofs.YtlcaogiljiieaaaX.append_strR (w0 := w) w.heap.size rfl (.tmp 14) _ 37 9 5 rfl Try.underlying37 Try.underlying9 info5 v218 t216 a1 (fun _ => True) rfl rfl ?aF ?aO ?aB ?aS ?aL ?_; (case aB => exact (by repeat (first | (with_reducible first | exact HB.out | apply below_alloc | apply pw_below_drewN | apply below_drew1) | exact HB.out))); (case aF => exact (fun _ _ => trivial)); (case aO => exact (by (with_reducible repeat (first | apply Kd.R_alloc | apply Kd.R_drewN | apply Kd.R_drew)); exact HO219.out)); (case aS => exact (below_size (by repeat (first | (with_reducible first | exact HB.out | apply below_alloc | apply pw_below_drewN | apply below_drew1) | exact HB.out)))); (case aL => have := LMc4.out; omega); intro v221 w9 ho hb hg hat; rw [← Ny220.out] at ho; have n0_ := Aside0.mk (hb); have n1_ := Aside0.mk (ho); clear HB; clear HO219; have HB := n0_; have HO222 := n1_; clear n0_ n1_; clear ho hb hg hat) | ((with_reducible refine gate_callee (f := 61) rfl ?_); refine goesL_ (some 20) rfl rfl Try.func61 (by kernel_rfl) rfl #[.int .i64 (a1.size : Int)] rfl (by (try simp only [List.map_toArray, List.map_cons, List.map_nil]); first | done | rfl | (simp only [List.length_drop, List.length_take]; rfl)) ?_; (with_reducible refine (wire_pad.calls (a1.size : Int) t223 _ A5.out).mono ?_); rintro e w' ⟨rfl, ⟨nd, rfl⟩⟩; refine ⟨_, rfl, ?_⟩) | (at_builtin; refine Kd.R_append_zeros (Kd.int .u8) (w0 := w) w.heap.size rfl (.tmp 17) (.tmp 20) 37 3 5 (.int .u8 0) 1 rfl Try.underlying37 Try.underlying3 info5 rfl (by decide) (by omega) v221 y220 0 (t223 : Int) (fun _ => True) rfl rfl rfl ?aF ?aO (of_decide_eq_true (by first | (with_reducible assumption) | assumption)) ?aB ?aS ?aL ?_; (case aB => exact (by repeat (first | (with_reducible first | exact HB.out | apply below_alloc | apply pw_below_drewN | apply below_drew1) | exact HB.out))); (case aF => exact (fun _ _ => trivial)); (case aO => exact (by (with_reducible repeat (first | apply Kd.R_alloc | apply Kd.R_drewN | apply Kd.R_drew)); exact HO222.out)); (case aS => exact (below_size (by repeat (first | (with_reducible first | exact HB.out | apply below_alloc | apply pw_below_drewN | apply below_drew1) | exact HB.out)))); (case aL => have := LMc7.out; omega); intro v225 w10 ho hb hg hat; rw [← Ny224.out] at ho; have n0_ := Aside0.mk (hb); have n1_ := Aside0.mk (ho); clear HB; clear HO222; have HB := n0_; have HO226 := n1_; clear n0_ n1_; clear ho hb hg hat))
    go_ret
    exact ⟨_, by first | rfl | (simp [errW_none, errW_some] <;> rfl) | (simp [*, errW_none, errW_some] <;> rfl), by (with_reducible repeat (first | apply Kd.R_alloc | apply Kd.R_drewN | apply Kd.R_drew)); exact HO226.out, by repeat (first | (with_reducible first | exact HB.out | apply below_alloc | apply pw_below_drewN | apply below_drew1) | exact HB.out)⟩
   ·rw [if_neg c7] at H
    exact absurd H (by simp)
  ·rw [if_neg c6] at H
   exact absurd H (by simp)
 ·rw [if_neg c4] at H
  exact absurd H (by simp)
def narw_Bytes.l0 : Nat → List Int → List ByteArray → Int → Int → Option (List Int × Int)
 | 0, _, _, _, _ => none
 | k + 1, x6, x17, x18, x19 => if x19 < x18 then (if 0 ≤ x19 then (if x19 < (x17.length : Int) then ((wire_PutText.f k ([] : List Int) (rdOf ByteArray.empty x17 x19)).bind fun t232 => (if x6.length + t232.length < 140737488355328 then (narw_Bytes.l0 k (x6 ++ t232) x17 x18 (wrap64 (x19 + 1))) else (none))) else (none)) else (none)) else (some (x6, 0))
def narw_Bytes.f (k : Nat) (l0 : List (S27)) : Option (List Int × Int) := (narw_Texts.f k l0).bind fun bt227 => (if bt227.2 = 0 then (narw_Bytes.l0 k ([] : List Int) bt227.1 (bt227.1.length : Int) 0) else (some (([] : List Int), bt227.2)))
theorem narw_Bytes.mono_l : ∀ k, (∀ y0 y1 y2 y3, LeO (narw_Bytes.l0 k y0 y1 y2 y3) (narw_Bytes.l0 (k + 1) y0 y1 y2 y3))
 | 0 => fun _ _ _ _ r h => by simp [narw_Bytes.l0] at h
 | k + 1 => by
  have ih0 := narw_Bytes.mono_l k
  ·intro y0 y1 y2 y3
   unfold narw_Bytes.l0
   repeat' first
   | (with_reducible exact ih0 _ _ _ _)
   | (with_reducible exact narw_Texts.mono _ _)
   | (with_reducible exact wire_PutText.mono _ _ _)
   | (with_reducible exact LeO.refl _)
   | (with_reducible exact LeO.none _)
   | (with_reducible refine LeO.ite ?_ ?_)
   | (with_reducible refine LeO.bind ?_ (fun _ => ?_))
   | exact ih0 _ _ _ _
   | exact narw_Texts.mono _ _
   | exact wire_PutText.mono _ _ _
   | exact LeO.none _
   | refine LeO.ite ?_ ?_
   | refine LeO.bind ?_ (fun _ => ?_)
theorem narw_Bytes.mono : ∀ a0 k, LeO (narw_Bytes.f k a0) (narw_Bytes.f (k + 1) a0) := by
 intro a0 k
 have ih0 := narw_Bytes.mono_l k
 unfold narw_Bytes.f
 repeat' first
   | (with_reducible exact ih0 _ _ _ _)
   | (with_reducible exact narw_Texts.mono _ _)
   | (with_reducible exact wire_PutText.mono _ _ _)
   | (with_reducible exact LeO.refl _)
   | (with_reducible exact LeO.none _)
   | (with_reducible refine LeO.ite ?_ ?_)
   | (with_reducible refine LeO.bind ?_ (fun _ => ?_))
   | exact ih0 _ _ _ _
   | exact narw_Texts.mono _ _
   | exact wire_PutText.mono _ _ _
   | exact LeO.none _
   | refine LeO.ite ?_ ?_
   | refine LeO.bind ?_ (fun _ => ?_)
set_option maxHeartbeats 8000000 in
set_option maxRecDepth 100000 in
theorem narw_Bytes.calls (k : Nat) (A0 : Option Addr) (c0 : Nat) (l0 : List (S27)) (r1 : List Int) (r2 : Int) (w : World) (hr0 : Kd.C k27 w A0 l0.length l0) (hc0 : l0.length ≤ c0) (h : narw_Bytes.f k l0 = some (r1, r2)) :
  Calls Try.prog 19 #[.slice A0 l0.length c0] w fun e w' => ∃ v0_ : Value, e = .returned (.tuple #[v0_, .int .i64 r2]) ∧ Kd.R (Kd.int .u8) 5 w' w.heap.size (fun _ => True) v0_ r1 ∧ Below w.heap.size w w' := by
 have HR0 := Aside0.mk hr0
 have HC0 := Aside0.mk hc0
 clear hr0 hc0
 have HB := Aside0.mk (Below.refl w.heap.size w)
 have H : ((narw_Texts.f k l0).bind fun bt227 => (if bt227.2 = 0 then (narw_Bytes.l0 k ([] : List Int) bt227.1 (bt227.1.length : Int) 0) else (some (([] : List Int), bt227.2)))) = some (r1, r2) := h
 clear h
 replace H := Option.bind_eq_some_iff.mp H
 obtain ⟨⟨t227, t228⟩, A20, H⟩ := H
 replace H : (if t228 = 0 then (narw_Bytes.l0 k ([] : List Int) t227 (t227.length : Int) 0) else (some (([] : List Int), t228))) = some (r1, r2) := H
 have A2 := Aside0.mk A20
 clear A20
 by_cases c3 : t228 = 0
 ·rw [if_pos c3] at H
  have c3b0 : (t228 == 0) = true := beq_iff_eq.mpr c3
  have c3b1 : (t228 != 0) = false := bne_eq_false_iff_eq.mpr c3
  clear c3
  have H' := Aside0.mk H
  clear H
  go_enter Try.func19, Try.ntmps19
  go_wp2_with (first | ((with_reducible refine gate_callee (f := 15) rfl ?_); refine goesL_ (some 11) rfl rfl Try.func15 (by kernel_rfl) rfl #[.slice A0 l0.length c0] rfl (by (try simp only [List.map_toArray, List.map_cons, List.map_nil]); first | done | rfl | (simp only [List.length_drop, List.length_take]; rfl)) ?_; (with_reducible refine (narw_Texts.calls k _ _ l0 t227 t228 _ ?side1 ?side2 A2.out).mono ?_); (case side1 => repeat (first | exact HR0.out | (with_reducible refine Kd.C_alloc ?_ _) | (with_reducible refine Kd.C_drewN ?_ _) | (with_reducible refine Kd.C_drew ?_))); (case side2 => exact HC0.out); rintro e w4 ⟨v229, rfl, ho0, hb⟩; refine ⟨_, rfl, ?_⟩; have n0_ := Aside0.mk (Kd.R_lower ho0 (below_size (by repeat (first | (with_reducible first | exact HB.out | apply below_alloc | apply pw_below_drewN | apply below_drew1) | exact HB.out)))); have n1_ := Aside0.mk (below_step (by repeat (first | (with_reducible first | exact HB.out | apply below_alloc | apply pw_below_drewN | apply below_drew1) | exact HB.out)) hb); clear HB; have HO230 := n0_; have HB := n1_; clear n0_ n1_; (try clear hb); (try clear hb2); (try clear hk); (try clear hi); (try clear ho0); obtain ⟨Ao5, co5, eo5⟩ := Kd.R_slice HO230.out; subst eo5))
  go_loopg [6, 19] k (fun kq v6 v19 w' => ∃ (x6_1 : List Int) (x19_1 : Int), v19 = .int .i64 x19_1 ∧ Aside0 (narw_Bytes.l0 kq x6_1 t227 (t227.length : Int) x19_1 = some (r1, r2)) ∧ Aside0 (kq ≤ k) ∧ Aside0 (Kd.R (Kd.int .u8) 5 w' w.heap.size (fun _ => True) v6 x6_1) ∧ Aside0 (Kd.R Kd.string 9 w' w.heap.size (fun _ => True) (.slice Ao5 t227.length co5) t227) ∧ Aside0 (Below w.heap.size w w'))
  case atStart => exact ⟨(([] : List Int)), (0), (by first | rfl | (simp; done) | exact congrArg Value.bool (Go.Proofs.YtlcaogiljiieaaaX.isEmpty_ne_ _) | exact congrArg Value.bool (Go.Proofs.YtlcaogiljiieaaaX.ne_isEmpty_ _) | (simp [*]; done)), H', ⟨Nat.le_refl _⟩, ⟨by first | exact Kd.R_nil _ _ _ _ _ | exact Kd.N_nil _ _ _ _ _ | exact Kd.V_nil _ _ _ _ _ | exact Kd.Q_nil _ _ _ _ _ | exact Kd.S_nil _ _ _ _ _⟩, ⟨by (with_reducible repeat (first | apply Kd.R_alloc | apply Kd.R_drewN | apply Kd.R_drew)); exact HO230.out⟩, ⟨by repeat (first | (with_reducible first | exact HB.out | apply below_alloc | apply pw_below_drewN | apply below_drew1) | exact HB.out)⟩⟩
  case round =>
   clear H'
   try clear c1
   try clear p2
   try clear c3
   try clear c3b0
   try clear c3b1
   obtain ⟨x6_1, x19_1, rfl, HA, HK1, HO_6, HO_17, HB⟩ := hrel
   cases gk with
   | zero => exact absurd HA.out (by simp [narw_Bytes.l0])
   | succ k1 =>
    have H := HA.out
    clear HA
    simp only [narw_Bytes.l0] at H
    by_cases c6 : x19_1 < (t227.length : Int)
    ·rw [if_pos c6] at H
     have c6b0 : decide (x19_1 < (t227.length : Int)) = true := decide_eq_true c6
     clear c6
     by_cases c7 : 0 ≤ x19_1
     ·rw [if_pos c7] at H
      have c7b0 : decide (0 ≤ x19_1) = true := decide_eq_true c7
      clear c7
      by_cases c8 : x19_1 < (t227.length : Int)
      ·rw [if_pos c8] at H
       have c8b0 : decide (x19_1 < (t227.length : Int)) = true := decide_eq_true c8
       clear c8
       replace H := Option.bind_eq_some_iff.mp H
       obtain ⟨t232, A90, H⟩ := H
       replace H : (if x6_1.length + t232.length < 140737488355328 then (narw_Bytes.l0 k1 (x6_1 ++ t232) t227 (t227.length : Int) (wrap64 (x19_1 + 1))) else (none)) = some (r1, r2) := H
       have A9 := Aside0.mk A90
       clear A90
       by_cases c10 : x6_1.length + t232.length < 140737488355328
       ·rw [if_pos c10] at H
        have LMc10 := Aside0.mk c10
        clear c10
        obtain ⟨y235, hy235⟩ : ∃ y_ : List Int, y_ = (x6_1 ++ t232) := ⟨_, rfl⟩
        replace H : (narw_Bytes.l0 k1 y235 t227 (t227.length : Int) (wrap64 (x19_1 + 1))) = some (r1, r2) := by first | (rw [hy235]; with_reducible exact H) | (have H2_ := (Option.bind_some _ _).symm.trans H; rw [hy235]; with_reducible exact H2_) | (have H2_ := (Option.bind_some _ _).symm.trans H; with_reducible exact H2_) | with_reducible exact H | (rw [hy235]; exact H) | exact H
        have Ny235 := Aside0.mk hy235
        clear hy235
        have H' := Aside0.mk H
        clear H
        have p231 : 0 ≤ (x19_1 : Int) := of_decide_eq_true (by first | (with_reducible assumption) | assumption)
        have q231 : x19_1 < (t227.length : Int) := of_decide_eq_true (by first | (with_reducible assumption) | assumption)
        obtain ⟨ad231, e231, hx231_0⟩ := Kd.at_string (Kd.R_reads' HO_17.out).2.2 x19_1 p231 q231
        cases e231
        replace p231 := eq_true p231
        replace q231 := eq_true q231
        go_wp2_with (first | ((with_reducible refine gate_callee (f := 43) rfl ?_); refine goesL_ (some 25) rfl rfl Try.func43 (by kernel_rfl) rfl #[.slice none 0 0, .string (rdOf ByteArray.empty t227 x19_1)] rfl (by (try simp only [List.map_toArray, List.map_cons, List.map_nil]); first | done | rfl | (simp only [List.length_drop, List.length_take]; rfl)) ?_; (refine (wire_PutText.calls k1 _ _ ([] : List Int) (rdOf ByteArray.empty t227 x19_1) t232 _ ?side1 ?side2 A9.out).mono ?_); (case side1 => exact Kd.C_nil _ _); (case side2 => exact Nat.le_refl _); rintro e w11 ⟨v233, rfl, ho0, hb⟩; refine ⟨_, rfl, ?_⟩; have n0_ := Aside0.mk (Kd.R_elder' (by (with_reducible repeat (first | apply Kd.R_alloc | apply Kd.R_drewN | apply Kd.R_drew)); exact HO_6.out) (Kd.R_base ho0) hb); have n1_ := Aside0.mk (Kd.R_below (by (with_reducible repeat (first | apply Kd.R_alloc | apply Kd.R_drewN | apply Kd.R_drew)); exact HO_17.out) hb); have n2_ := Aside0.mk (Kd.R_lower (Kd.R_new' ho0 (Kd.R_lt (by (with_reducible repeat (first | apply Kd.R_alloc | apply Kd.R_drewN | apply Kd.R_drew)); exact HO_6.out))) (below_size (by repeat (first | (with_reducible first | exact HB.out | apply below_alloc | apply pw_below_drewN | apply below_drew1) | exact HB.out)))); have n3_ := Aside0.mk (below_step (by repeat (first | (with_reducible first | exact HB.out | apply below_alloc | apply pw_below_drewN | apply below_drew1) | exact HB.out)) hb); clear HO_6; clear HO_17; clear HB; have HO_6 := n0_; have HO_17 := n1_; have HO234 := n2_; have HB := n3_; clear n0_ n1_ n2_ n3_; (try clear hb); (try clear hb2); (try clear hk); (try clear hi); (try clear ho0); obtain ⟨Ao13, co13, eo13⟩ := Kd.R_slice HO234.out; subst eo13) | ((with_reducible refine gate_builtin (b := .append) (xs := #[.tmp 23, .tmp 25]) rfl ?_); at_builtin; refine Kd.R_append_rows (Kd.int .u8) (w0 := w) w.heap.size rfl (.tmp 23) (.tmp 25) 37 5 (.int .u8 0) 1 rfl Try.underlying37 info5 rfl (by decide) (by omega) u6 x6_1 t232 _ _ _ (fun k_ => some k_ ≠ (.slice Ao13 t232.length co13 : Value).ownBlock) (fun _ => False) rfl rfl ?aO ?aR (fun _ _ h => h) (fun _ h => h.elim) ?aF ?aB ?aS ?aL ?_; (case aR => repeat (first | exact (Kd.R_reads' HO234.out).2.2 | (with_reducible refine Kd.C_alloc ?_ _) | (with_reducible refine Kd.C_drewN ?_ _) | (with_reducible refine Kd.C_drew ?_))); (case aB => exact (by repeat (first | (with_reducible first | exact HB.out | apply below_alloc | apply pw_below_drewN | apply below_drew1) | exact HB.out))); (case aF => exact (fun k_ hk => Kd.fresh' (Kd.R_lt (by (with_reducible repeat (first | apply Kd.R_alloc | apply Kd.R_drewN | apply Kd.R_drew)); exact HO234.out)) k_ hk)); (case aO => exact (by (with_reducible repeat (first | apply Kd.R_alloc | apply Kd.R_drewN | apply Kd.R_drew)); exact Kd.R_mono HO_6.out (fun _ hk => hk.2))); (case aS => exact (below_size (by repeat (first | (with_reducible first | exact HB.out | apply below_alloc | apply pw_below_drewN | apply below_drew1) | exact HB.out)))); (case aL => have := LMc10.out; omega); intro v236 w12 ho hb hg hat; rw [← Ny235.out] at ho; have n0_ := Aside0.mk (Kd.R_over' (by (with_reducible repeat (first | apply Kd.R_alloc | apply Kd.R_drewN | apply Kd.R_drew)); exact HO_17.out) (Kd.R_typed (by (with_reducible repeat (first | apply Kd.R_alloc | apply Kd.R_drewN | apply Kd.R_drew)); exact HO_6.out)) (by decide) hg); have n1_ := Aside0.mk (Kd.R_after (ok := (fun _ => True)) (by (with_reducible repeat (first | apply Kd.R_alloc | apply Kd.R_drewN | apply Kd.R_drew)); exact HO234.out) hg hat); have n2_ := Aside0.mk (hb); have n3_ := Aside0.mk (ho); clear HO_17; clear HO234; clear HB; clear HO_6; have HO_17 := n0_; have HO234 := n1_; have HB := n2_; have HO237 := n3_; clear n0_ n1_ n2_ n3_; clear ho hb hg hat))
        go_roundg k1
        case measure => have := HK1.out; omega
        case rel => exact ⟨(y235), (wrap64 (x19_1 + 1)), (by first | rfl | (simp; done) | exact congrArg Value.bool (Go.Proofs.YtlcaogiljiieaaaX.isEmpty_ne_ _) | exact congrArg Value.bool (Go.Proofs.YtlcaogiljiieaaaX.ne_isEmpty_ _) | (simp [*]; done)), H', ⟨by have := HK1.out; omega⟩, ⟨by (with_reducible repeat (first | apply Kd.R_alloc | apply Kd.R_drewN | apply Kd.R_drew)); exact Kd.R_mono HO237.out (fun _ hk => trivial)⟩, ⟨by (with_reducible repeat (first | apply Kd.R_alloc | apply Kd.R_drewN | apply Kd.R_drew)); exact HO_17.out⟩, ⟨by repeat (first | (with_reducible first | exact HB.out | apply below_alloc | apply pw_below_drewN | apply below_drew1) | exact HB.out)⟩⟩
       ·rw [if_neg c10] at H
        exact absurd H (by simp)
      ·rw [if_neg c8] at H
       exact absurd H (by simp)
     ·rw [if_neg c7] at H
      exact absurd H (by simp)
    ·rw [if_neg c6] at H
     have c6b0 : decide (x19_1 < (t227.length : Int)) = false := decide_eq_false c6
     clear c6
     simp only [Option.some.injEq, Prod.mk.injEq] at H
     obtain ⟨rfl, rfl⟩ := H
     go_wp2
     go_ret2
     exact ⟨_, by first | rfl | (simp [errW_none, errW_some] <;> rfl) | (simp [*, errW_none, errW_some] <;> rfl), by (with_reducible repeat (first | apply Kd.R_alloc | apply Kd.R_drewN | apply Kd.R_drew)); exact HO_6.out, by repeat (first | (with_reducible first | exact HB.out | apply below_alloc | apply pw_below_drewN | apply below_drew1) | exact HB.out)⟩
 ·rw [if_neg c3] at H
  have c3b0 : (t228 == 0) = false := beq_eq_false_iff_ne.mpr c3
  have c3b1 : (t228 != 0) = true := bne_iff_ne.mpr c3
  simp only [Option.some.injEq, Prod.mk.injEq] at H
  obtain ⟨rfl, rfl⟩ := H
  go_enter Try.func19, Try.ntmps19
  go_wp2_with (first | ((with_reducible refine gate_callee (f := 15) rfl ?_); refine goesL_ (some 11) rfl rfl Try.func15 (by kernel_rfl) rfl #[.slice A0 l0.length c0] rfl (by (try simp only [List.map_toArray, List.map_cons, List.map_nil]); first | done | rfl | (simp only [List.length_drop, List.length_take]; rfl)) ?_; (with_reducible refine (narw_Texts.calls k _ _ l0 t227 t228 _ ?side1 ?side2 A2.out).mono ?_); (case side1 => repeat (first | exact HR0.out | (with_reducible refine Kd.C_alloc ?_ _) | (with_reducible refine Kd.C_drewN ?_ _) | (with_reducible refine Kd.C_drew ?_))); (case side2 => exact HC0.out); rintro e w14 ⟨v229, rfl, ho0, hb⟩; refine ⟨_, rfl, ?_⟩; have n0_ := Aside0.mk (Kd.R_lower ho0 (below_size (by repeat (first | (with_reducible first | exact HB.out | apply below_alloc | apply pw_below_drewN | apply below_drew1) | exact HB.out)))); have n1_ := Aside0.mk (below_step (by repeat (first | (with_reducible first | exact HB.out | apply below_alloc | apply pw_below_drewN | apply below_drew1) | exact HB.out)) hb); clear HB; have HO230 := n0_; have HB := n1_; clear n0_ n1_; (try clear hb); (try clear hb2); (try clear hk); (try clear hi); (try clear ho0)))
  go_ret2
  exact ⟨_, by first | rfl | (simp [errW_none, errW_some] <;> rfl) | (simp [*, errW_none, errW_some] <;> rfl), by first | exact Kd.R_nil _ _ _ _ _ | exact Kd.N_nil _ _ _ _ _ | exact Kd.V_nil _ _ _ _ _ | exact Kd.Q_nil _ _ _ _ _ | exact Kd.S_nil _ _ _ _ _, by repeat (first | (with_reducible first | exact HB.out | apply below_alloc | apply pw_below_drewN | apply below_drew1) | exact HB.out)⟩
def chandleryref16_Rows.l0 : Nat → List (S27) → List (S27) → Int → Option (Bool)
 | 0, _, _, _ => none
 | k + 1, x0, x1, x5 => if x5 < (x0.length : Int) then (if 0 ≤ x5 then (if x5 < (x1.length : Int) then (if (!((((rd_T27 x0 x5).f0).toList) == (((rd_T27 x1 x5).f0).toList)) || (!(((rd_T27 x0 x5).f1) == ((rd_T27 x1 x5).f1)) || (!(((rd_T27 x0 x5).f2) == ((rd_T27 x1 x5).f2)) || (!((((rd_T27 x0 x5).f3).toList) == (((rd_T27 x1 x5).f3).toList)))))) = true then (some false) else (chandleryref16_Rows.l0 k x0 x1 (wrap64 (x5 + 1)))) else (none)) else (none)) else (some true)
def chandleryref16_Rows.f (k : Nat) (l0 : List (S27)) (l1 : List (S27)) : Option (Bool) := if (l0.length : Int) = (l1.length : Int) then (chandleryref16_Rows.l0 k l0 l1 0) else (some false)
theorem chandleryref16_Rows.mono_l : ∀ k, (∀ y0 y1 y2, LeO (chandleryref16_Rows.l0 k y0 y1 y2) (chandleryref16_Rows.l0 (k + 1) y0 y1 y2))
 | 0 => fun _ _ _ r h => by simp [chandleryref16_Rows.l0] at h
 | k + 1 => by
  have ih0 := chandleryref16_Rows.mono_l k
  ·intro y0 y1 y2
   unfold chandleryref16_Rows.l0
   repeat' first
   | (with_reducible exact ih0 _ _ _)
   | (with_reducible exact LeO.refl _)
   | (with_reducible exact LeO.none _)
   | (with_reducible refine LeO.ite ?_ ?_)
   | (with_reducible refine LeO.bind ?_ (fun _ => ?_))
   | exact ih0 _ _ _
   | exact LeO.none _
   | refine LeO.ite ?_ ?_
   | refine LeO.bind ?_ (fun _ => ?_)
theorem chandleryref16_Rows.mono : ∀ a0 a1 k, LeO (chandleryref16_Rows.f k a0 a1) (chandleryref16_Rows.f (k + 1) a0 a1) := by
 intro a0 a1 k
 have ih0 := chandleryref16_Rows.mono_l k
 unfold chandleryref16_Rows.f
 repeat' first
   | (with_reducible exact ih0 _ _ _)
   | (with_reducible exact LeO.refl _)
   | (with_reducible exact LeO.none _)
   | (with_reducible refine LeO.ite ?_ ?_)
   | (with_reducible refine LeO.bind ?_ (fun _ => ?_))
   | exact ih0 _ _ _
   | exact LeO.none _
   | refine LeO.ite ?_ ?_
   | refine LeO.bind ?_ (fun _ => ?_)
set_option maxHeartbeats 8000000 in
set_option maxRecDepth 100000 in
theorem chandleryref16_Rows.calls (k : Nat) (A0 : Option Addr) (c0 : Nat) (l0 : List (S27)) (A1 : Option Addr) (c1 : Nat) (l1 : List (S27)) (r : Bool) (w : World) (hr0 : Kd.C k27 w A0 l0.length l0) (hc0 : l0.length ≤ c0) (hr1 : Kd.C k27 w A1 l1.length l1) (hc1 : l1.length ≤ c1) (h : chandleryref16_Rows.f k l0 l1 = some r) :
  Calls Try.prog 21 #[.slice A0 l0.length c0, .slice A1 l1.length c1] w fun e w' => e = .returned (.bool r) ∧ Drawn0 w w' := by
 have hu27 := Try.underlying27
 have HR0 := Aside0.mk hr0
 have HC0 := Aside0.mk hc0
 clear hr0 hc0
 have HR1 := Aside0.mk hr1
 have HC1 := Aside0.mk hc1
 clear hr1 hc1
 have H : (if (l0.length : Int) = (l1.length : Int) then (chandleryref16_Rows.l0 k l0 l1 0) else (some false)) = some r := h
 clear h
 by_cases c3 : (l0.length : Int) = (l1.length : Int)
 ·rw [if_pos c3] at H
  have c3b0 : ((l0.length : Int) == (l1.length : Int)) = true := beq_iff_eq.mpr c3
  have c3b1 : ((l0.length : Int) != (l1.length : Int)) = false := bne_eq_false_iff_eq.mpr c3
  have c3b2 : (l0.length == l1.length) = true := by first | simpa using c3 | (simp at c3 ⊢; omega)
  clear c3
  have H' := Aside0.mk H
  clear H
  go_enter Try.func21, Try.ntmps21
  go_wp2
  repeat (go_quiet (fail); try go_wp2)
  go_loopg [5] k (fun kq v5 w' => ∃ (x5_1 : Int), v5 = .int .i64 x5_1 ∧ Aside0 (chandleryref16_Rows.l0 kq l0 l1 x5_1 = some r) ∧ Aside0 (kq ≤ k) ∧ Drawn0 w w')
  case atStart => exact ⟨(0), (by first | rfl | (simp; done) | exact congrArg Value.bool (Go.Proofs.YtlcaogiljiieaaaX.isEmpty_ne_ _) | exact congrArg Value.bool (Go.Proofs.YtlcaogiljiieaaaX.ne_isEmpty_ _) | (simp [*]; done)), H', ⟨Nat.le_refl _⟩, by repeat (first | exact Drawn0.refl _ | apply Drawn0.step)⟩
  case round =>
   clear H'
   try clear c1
   try clear c2
   try clear p2
   try clear c3
   try clear c3b0
   try clear c3b1
   try clear c3b2
   obtain ⟨x5_1, rfl, HA, HK1, ⟨m1, rfl⟩⟩ := hrel
   cases gk with
   | zero => exact absurd HA.out (by simp [chandleryref16_Rows.l0])
   | succ k1 =>
    have H := HA.out
    clear HA
    simp only [chandleryref16_Rows.l0] at H
    by_cases c4 : x5_1 < (l0.length : Int)
    ·rw [if_pos c4] at H
     have c4b0 : decide (x5_1 < (l0.length : Int)) = true := decide_eq_true c4
     clear c4
     by_cases c5 : 0 ≤ x5_1
     ·rw [if_pos c5] at H
      have c5b0 : decide (0 ≤ x5_1) = true := decide_eq_true c5
      clear c5
      by_cases c6 : x5_1 < (l1.length : Int)
      ·rw [if_pos c6] at H
       have c6b0 : decide (x5_1 < (l1.length : Int)) = true := decide_eq_true c6
       clear c6
       by_cases c7 : (!((((rd_T27 l0 x5_1).f0).toList) == (((rd_T27 l1 x5_1).f0).toList)) || (!(((rd_T27 l0 x5_1).f1) == ((rd_T27 l1 x5_1).f1)) || (!(((rd_T27 l0 x5_1).f2) == ((rd_T27 l1 x5_1).f2)) || (!((((rd_T27 l0 x5_1).f3).toList) == (((rd_T27 l1 x5_1).f3).toList)))))) = true
       ·rw [if_pos c7] at H
        have c7b0 : (!((((rd_T27 l0 x5_1).f0).toList) == (((rd_T27 l1 x5_1).f0).toList)) || (!(((rd_T27 l0 x5_1).f1) == ((rd_T27 l1 x5_1).f1)) || (!(((rd_T27 l0 x5_1).f2) == ((rd_T27 l1 x5_1).f2)) || (!((((rd_T27 l0 x5_1).f3).toList) == (((rd_T27 l1 x5_1).f3).toList)))))) = true := c7
        clear c7
        obtain rfl := Option.some.inj H
        have p238 : 0 ≤ (x5_1 : Int) := of_decide_eq_true (by first | (with_reducible assumption) | assumption)
        have q238 : x5_1 < (l0.length : Int) := of_decide_eq_true (by first | (with_reducible assumption) | assumption)
        obtain ⟨ad238, e238, hx238_0, hx238_1, hx238_2, hx238_3⟩ := at_T27 HR0.out x5_1 p238 q238
        cases e238
        replace p238 := eq_true p238
        replace q238 := eq_true q238
        have p239 : 0 ≤ (x5_1 : Int) := of_decide_eq_true (by first | (with_reducible assumption) | assumption)
        have q239 : x5_1 < (l1.length : Int) := of_decide_eq_true (by first | (with_reducible assumption) | assumption)
        obtain ⟨ad239, e239, hx239_0, hx239_1, hx239_2, hx239_3⟩ := at_T27 HR1.out x5_1 p239 q239
        cases e239
        replace p239 := eq_true p239
        replace q239 := eq_true q239
        go_wp2
        repeat (go_quiet (fail); try go_wp2)
        go_ret
        exact ⟨by first | rfl | (simp; done) | (simp [*]; done), by repeat (first | exact Drawn0.refl _ | apply Drawn0.step)⟩
       ·rw [if_neg c7] at H
        have c7b0 : (!((((rd_T27 l0 x5_1).f0).toList) == (((rd_T27 l1 x5_1).f0).toList)) || (!(((rd_T27 l0 x5_1).f1) == ((rd_T27 l1 x5_1).f1)) || (!(((rd_T27 l0 x5_1).f2) == ((rd_T27 l1 x5_1).f2)) || (!((((rd_T27 l0 x5_1).f3).toList) == (((rd_T27 l1 x5_1).f3).toList)))))) = false := by simpa using c7
        clear c7
        have H' := Aside0.mk H
        clear H
        have p238 : 0 ≤ (x5_1 : Int) := of_decide_eq_true (by first | (with_reducible assumption) | assumption)
        have q238 : x5_1 < (l0.length : Int) := of_decide_eq_true (by first | (with_reducible assumption) | assumption)
        obtain ⟨ad238, e238, hx238_0, hx238_1, hx238_2, hx238_3⟩ := at_T27 HR0.out x5_1 p238 q238
        cases e238
        replace p238 := eq_true p238
        replace q238 := eq_true q238
        have p239 : 0 ≤ (x5_1 : Int) := of_decide_eq_true (by first | (with_reducible assumption) | assumption)
        have q239 : x5_1 < (l1.length : Int) := of_decide_eq_true (by first | (with_reducible assumption) | assumption)
        obtain ⟨ad239, e239, hx239_0, hx239_1, hx239_2, hx239_3⟩ := at_T27 HR1.out x5_1 p239 q239
        cases e239
        replace p239 := eq_true p239
        replace q239 := eq_true q239
        go_wp2
        repeat (go_quiet (fail); try go_wp2)
        go_roundg k1
        case measure => have := HK1.out; omega
        case rel => exact ⟨(wrap64 (x5_1 + 1)), (by first | rfl | (simp; done) | exact congrArg Value.bool (Go.Proofs.YtlcaogiljiieaaaX.isEmpty_ne_ _) | exact congrArg Value.bool (Go.Proofs.YtlcaogiljiieaaaX.ne_isEmpty_ _) | (simp [*]; done)), H', ⟨by have := HK1.out; omega⟩, by repeat (first | exact Drawn0.refl _ | apply Drawn0.step)⟩
      ·rw [if_neg c6] at H
       exact absurd H (by simp)
     ·rw [if_neg c5] at H
      exact absurd H (by simp)
    ·rw [if_neg c4] at H
     have c4b0 : decide (x5_1 < (l0.length : Int)) = false := decide_eq_false c4
     clear c4
     obtain rfl := Option.some.inj H
     go_wp2
     repeat (go_quiet (fail); try go_wp2)
     go_ret
     exact ⟨by first | rfl | (simp; done) | (simp [*]; done), by repeat (first | exact Drawn0.refl _ | apply Drawn0.step)⟩
 ·rw [if_neg c3] at H
  have c3b0 : ((l0.length : Int) == (l1.length : Int)) = false := beq_eq_false_iff_ne.mpr c3
  have c3b1 : ((l0.length : Int) != (l1.length : Int)) = true := bne_iff_ne.mpr c3
  have c3b2 : (l0.length == l1.length) = false := by first | simpa using c3 | (simp at c3 ⊢; omega)
  obtain rfl := Option.some.inj H
  go_enter Try.func21, Try.ntmps21
  go_wp2
  repeat (go_quiet (fail); try go_wp2)
  go_ret
  exact ⟨by first | rfl | (simp; done) | (simp [*]; done), by repeat (first | exact Drawn0.refl _ | apply Drawn0.step)⟩
def chandleryref16_Names.l0 : Nat → List (S27) → ByteArray → List ByteArray → Int → Option (List ByteArray)
 | 0, _, _, _, _ => none
 | k + 1, x0, x1, x5, x6 => if x6 < (x0.length : Int) then (if 0 ≤ x6 then ((chandleryref16_below.f ((rd_T27 x0 x6).f0) x1).bind fun bt241 => (if bt241.2 = true then ((chandleryref16_Parent.f k bt241.1).bind fun t243 => (if t243.toList = ([] : List UInt8) then (if x5.length < 8796093022208 then (chandleryref16_Names.l0 k x0 x1 (x5 ++ [bt241.1]) (wrap64 (x6 + 1))) else (none)) else (chandleryref16_Names.l0 k x0 x1 x5 (wrap64 (x6 + 1))))) else (chandleryref16_Names.l0 k x0 x1 x5 (wrap64 (x6 + 1))))) else (none)) else (some x5)
def chandleryref16_Names.f (k : Nat) (l0 : List (S27)) (a1 : ByteArray) : Option (List ByteArray) := chandleryref16_Names.l0 k l0 a1 ([] : List ByteArray) 0
theorem chandleryref16_Names.mono_l : ∀ k, (∀ y0 y1 y2 y3, LeO (chandleryref16_Names.l0 k y0 y1 y2 y3) (chandleryref16_Names.l0 (k + 1) y0 y1 y2 y3))
 | 0 => fun _ _ _ _ r h => by simp [chandleryref16_Names.l0] at h
 | k + 1 => by
  have ih0 := chandleryref16_Names.mono_l k
  ·intro y0 y1 y2 y3
   unfold chandleryref16_Names.l0
   repeat' first
   | (with_reducible exact ih0 _ _ _ _)
   | (with_reducible exact chandleryref16_Parent.mono _ _)
   | (with_reducible exact LeO.refl _)
   | (with_reducible exact LeO.none _)
   | (with_reducible refine LeO.ite ?_ ?_)
   | (with_reducible refine LeO.bind ?_ (fun _ => ?_))
   | exact ih0 _ _ _ _
   | exact chandleryref16_Parent.mono _ _
   | exact LeO.none _
   | refine LeO.ite ?_ ?_
   | refine LeO.bind ?_ (fun _ => ?_)
theorem chandleryref16_Names.mono : ∀ a0 a1 k, LeO (chandleryref16_Names.f k a0 a1) (chandleryref16_Names.f (k + 1) a0 a1) := by
 intro a0 a1 k
 have ih0 := chandleryref16_Names.mono_l k
 unfold chandleryref16_Names.f
 repeat' first
   | (with_reducible exact ih0 _ _ _ _)
   | (with_reducible exact chandleryref16_Parent.mono _ _)
   | (with_reducible exact LeO.refl _)
   | (with_reducible exact LeO.none _)
   | (with_reducible refine LeO.ite ?_ ?_)
   | (with_reducible refine LeO.bind ?_ (fun _ => ?_))
   | exact ih0 _ _ _ _
   | exact chandleryref16_Parent.mono _ _
   | exact LeO.none _
   | refine LeO.ite ?_ ?_
   | refine LeO.bind ?_ (fun _ => ?_)
set_option maxHeartbeats 8000000 in
set_option maxRecDepth 100000 in
theorem chandleryref16_Names.calls (k : Nat) (A0 : Option Addr) (c0 : Nat) (l0 : List (S27)) (a1 : ByteArray) (r : List ByteArray) (w : World) (hr0 : Kd.C k27 w A0 l0.length l0) (hc0 : l0.length ≤ c0) (h : chandleryref16_Names.f k l0 a1 = some r) :
  Calls Try.prog 34 #[.slice A0 l0.length c0, .string a1] w fun e w' => ∃ v0_ : Value, e = .returned (v0_) ∧ Kd.R Kd.string 9 w' w.heap.size (fun _ => True) v0_ r ∧ Below w.heap.size w w' := by
 have HR0 := Aside0.mk hr0
 have HC0 := Aside0.mk hc0
 clear hr0 hc0
 have HB := Aside0.mk (Below.refl w.heap.size w)
 have H : (chandleryref16_Names.l0 k l0 a1 ([] : List ByteArray) 0) = some r := h
 clear h
 have H' := Aside0.mk H
 clear H
 go_enter Try.func34, Try.ntmps34
 go_wp2
 go_loopg [5, 6] k (fun kq v5 v6 w' => ∃ (x5_1 : List ByteArray) (x6_1 : Int), v6 = .int .i64 x6_1 ∧ Aside0 (chandleryref16_Names.l0 kq l0 a1 x5_1 x6_1 = some r) ∧ Aside0 (kq ≤ k) ∧ Aside0 (Kd.R Kd.string 9 w' w.heap.size (fun _ => True) v5 x5_1) ∧ Aside0 (Below w.heap.size w w'))
 case atStart => exact ⟨(([] : List ByteArray)), (0), (by first | rfl | (simp; done) | exact congrArg Value.bool (Go.Proofs.YtlcaogiljiieaaaX.isEmpty_ne_ _) | exact congrArg Value.bool (Go.Proofs.YtlcaogiljiieaaaX.ne_isEmpty_ _) | (simp [*]; done)), H', ⟨Nat.le_refl _⟩, ⟨by first | exact Kd.R_nil _ _ _ _ _ | exact Kd.N_nil _ _ _ _ _ | exact Kd.V_nil _ _ _ _ _ | exact Kd.Q_nil _ _ _ _ _ | exact Kd.S_nil _ _ _ _ _⟩, ⟨by repeat (first | (with_reducible first | exact HB.out | apply below_alloc | apply pw_below_drewN | apply below_drew1) | exact HB.out)⟩⟩
 case round =>
  clear H'
  try clear p2
  obtain ⟨x5_1, x6_1, rfl, HA, HK1, HO_5, HB⟩ := hrel
  cases gk with
  | zero => exact absurd HA.out (by simp [chandleryref16_Names.l0])
  | succ k1 =>
   have H := HA.out
   clear HA
   simp only [chandleryref16_Names.l0] at H
   by_cases c3 : x6_1 < (l0.length : Int)
   ·rw [if_pos c3] at H
    have c3b0 : decide (x6_1 < (l0.length : Int)) = true := decide_eq_true c3
    clear c3
    by_cases c4 : 0 ≤ x6_1
    ·rw [if_pos c4] at H
     have c4b0 : decide (0 ≤ x6_1) = true := decide_eq_true c4
     clear c4
     replace H := Option.bind_eq_some_iff.mp H
     obtain ⟨⟨t241, t242⟩, A50, H⟩ := H
     replace H : (if t242 = true then ((chandleryref16_Parent.f k1 t241).bind fun t243 => (if t243.toList = ([] : List UInt8) then (if x5_1.length < 8796093022208 then (chandleryref16_Names.l0 k1 l0 a1 (x5_1 ++ [t241]) (wrap64 (x6_1 + 1))) else (none)) else (chandleryref16_Names.l0 k1 l0 a1 x5_1 (wrap64 (x6_1 + 1))))) else (chandleryref16_Names.l0 k1 l0 a1 x5_1 (wrap64 (x6_1 + 1)))) = some r := H
     have A5 := Aside0.mk A50
     clear A50
     by_cases c6 : t242 = true
     ·subst c6
      have H1 : ((chandleryref16_Parent.f k1 t241).bind fun t243 => (if t243.toList = ([] : List UInt8) then (if x5_1.length < 8796093022208 then (chandleryref16_Names.l0 k1 l0 a1 (x5_1 ++ [t241]) (wrap64 (x6_1 + 1))) else (none)) else (chandleryref16_Names.l0 k1 l0 a1 x5_1 (wrap64 (x6_1 + 1))))) = some r := by rw [if_pos rfl] at H; exact H
      clear H
      have H := H1
      clear H1
      replace H := Option.bind_eq_some_iff.mp H
      obtain ⟨t243, A70, H⟩ := H
      replace H : (if t243.toList = ([] : List UInt8) then (if x5_1.length < 8796093022208 then (chandleryref16_Names.l0 k1 l0 a1 (x5_1 ++ [t241]) (wrap64 (x6_1 + 1))) else (none)) else (chandleryref16_Names.l0 k1 l0 a1 x5_1 (wrap64 (x6_1 + 1)))) = some r := H
      have A7 := Aside0.mk A70
      clear A70
      by_cases c8 : t243.toList = ([] : List UInt8)
      ·rw [if_pos c8] at H
       have c8b0 : (t243.toList == ([] : List UInt8)) = true := beq_iff_eq.mpr c8
       have c8b1 : (t243.toList != ([] : List UInt8)) = false := bne_eq_false_iff_eq.mpr c8
       clear c8
       by_cases c9 : x5_1.length < 8796093022208
       ·rw [if_pos c9] at H
        have LMc9 := Aside0.mk c9
        clear c9
        obtain ⟨y244, hy244⟩ : ∃ y_ : List ByteArray, y_ = (x5_1 ++ [t241]) := ⟨_, rfl⟩
        replace H : (chandleryref16_Names.l0 k1 l0 a1 y244 (wrap64 (x6_1 + 1))) = some r := by first | (rw [hy244]; with_reducible exact H) | (have H2_ := (Option.bind_some _ _).symm.trans H; rw [hy244]; with_reducible exact H2_) | (have H2_ := (Option.bind_some _ _).symm.trans H; with_reducible exact H2_) | with_reducible exact H | (rw [hy244]; exact H) | exact H
        have Ny244 := Aside0.mk hy244
        clear hy244
        have H' := Aside0.mk H
        clear H
        have p240 : 0 ≤ (x6_1 : Int) := of_decide_eq_true (by first | (with_reducible assumption) | assumption)
        have q240 : x6_1 < (l0.length : Int) := of_decide_eq_true (by first | (with_reducible assumption) | assumption)
        obtain ⟨ad240, e240, hx240_0, hx240_1, hx240_2, hx240_3⟩ := at_T27 HR0.out x6_1 p240 q240
        cases e240
        replace hx240_0 := (HB.out.cell (World.block_lt_of_cell? w _ hx240_0)).trans hx240_0
        replace hx240_1 := (HB.out.cell (World.block_lt_of_cell? w _ hx240_1)).trans hx240_1
        replace hx240_2 := (HB.out.cell (World.block_lt_of_cell? w _ hx240_2)).trans hx240_2
        replace hx240_3 := (HB.out.cell (World.block_lt_of_cell? w _ hx240_3)).trans hx240_3
        replace p240 := eq_true p240
        replace q240 := eq_true q240
        go_wp2_with (first | ((with_reducible refine gate_callee (f := 42) rfl ?_); refine goesL_ (some 22) rfl rfl Try.func42 (by kernel_rfl) rfl #[.string ((rd_T27 l0 x6_1).f0), .string a1] rfl (by (try simp only [List.map_toArray, List.map_cons, List.map_nil]); first | done | rfl | (simp only [List.length_drop, List.length_take]; rfl)) ?_; (with_reducible refine (chandleryref16_below.calls ((rd_T27 l0 x6_1).f0) a1 t241 true _ A5.out).mono ?_); rintro e w' ⟨rfl, ⟨nd, rfl⟩⟩; refine ⟨_, rfl, ?_⟩) | (go_at_call 38; (with_reducible refine (chandleryref16_Parent.calls k1 t241 t243 _ A7.out).mono ?_); rintro e w' ⟨rfl, ⟨nd, rfl⟩⟩) | ((with_reducible refine gate_builtin (b := .append) (xs := #[.tmp 31, .tmp 33]) rfl ?_); at_builtin; refine Kd.R_append Kd.string (w0 := w) w.heap.size rfl (.tmp 31) (.tmp 33) 30 9 (.string ⟨#[]⟩) 16 rfl Try.underlying30 info9 rfl (by decide) (by omega) u5 x5_1 t241 [.string t241] (fun _ => True) (fun _ => False) rfl rfl ?aP (fun _ hk => hk.elim) ?aF ?aO ?aB ?aS ?aL ?_; (case aP => exact rfl); (case aB => exact (by repeat (first | (with_reducible first | exact HB.out | apply below_alloc | apply pw_below_drewN | apply below_drew1) | exact HB.out))); (case aF => exact (fun _ _ => trivial)); (case aO => exact (by (with_reducible repeat (first | apply Kd.R_alloc | apply Kd.R_drewN | apply Kd.R_drew)); exact HO_5.out)); (case aS => exact (below_size (by repeat (first | (with_reducible first | exact HB.out | apply below_alloc | apply pw_below_drewN | apply below_drew1) | exact HB.out)))); (case aL => have := LMc9.out; omega); intro v245 w10 ho hb hg hat; rw [← Ny244.out] at ho; have n0_ := Aside0.mk (hb); have n1_ := Aside0.mk (ho); clear HB; clear HO_5; have HB := n0_; have HO246 := n1_; clear n0_ n1_; clear ho hb hg hat))
        go_roundg k1
        case measure => have := HK1.out; omega
        case rel => exact ⟨(y244), (wrap64 (x6_1 + 1)), (by first | rfl | (simp; done) | exact congrArg Value.bool (Go.Proofs.YtlcaogiljiieaaaX.isEmpty_ne_ _) | exact congrArg Value.bool (Go.Proofs.YtlcaogiljiieaaaX.ne_isEmpty_ _) | (simp [*]; done)), H', ⟨by have := HK1.out; omega⟩, ⟨by (with_reducible repeat (first | apply Kd.R_alloc | apply Kd.R_drewN | apply Kd.R_drew)); exact HO246.out⟩, ⟨by repeat (first | (with_reducible first | exact HB.out | apply below_alloc | apply pw_below_drewN | apply below_drew1) | exact HB.out)⟩⟩
       ·rw [if_neg c9] at H
        exact absurd H (by simp)
      ·rw [if_neg c8] at H
       have c8b0 : (t243.toList == ([] : List UInt8)) = false := beq_eq_false_iff_ne.mpr c8
       have c8b1 : (t243.toList != ([] : List UInt8)) = true := bne_iff_ne.mpr c8
       have H' := Aside0.mk H
       clear H
       have p240 : 0 ≤ (x6_1 : Int) := of_decide_eq_true (by first | (with_reducible assumption) | assumption)
       have q240 : x6_1 < (l0.length : Int) := of_decide_eq_true (by first | (with_reducible assumption) | assumption)
       obtain ⟨ad240, e240, hx240_0, hx240_1, hx240_2, hx240_3⟩ := at_T27 HR0.out x6_1 p240 q240
       cases e240
       replace hx240_0 := (HB.out.cell (World.block_lt_of_cell? w _ hx240_0)).trans hx240_0
       replace hx240_1 := (HB.out.cell (World.block_lt_of_cell? w _ hx240_1)).trans hx240_1
       replace hx240_2 := (HB.out.cell (World.block_lt_of_cell? w _ hx240_2)).trans hx240_2
       replace hx240_3 := (HB.out.cell (World.block_lt_of_cell? w _ hx240_3)).trans hx240_3
       replace p240 := eq_true p240
       replace q240 := eq_true q240
       go_wp2_with (first | ((with_reducible refine gate_callee (f := 42) rfl ?_); refine goesL_ (some 22) rfl rfl Try.func42 (by kernel_rfl) rfl #[.string ((rd_T27 l0 x6_1).f0), .string a1] rfl (by (try simp only [List.map_toArray, List.map_cons, List.map_nil]); first | done | rfl | (simp only [List.length_drop, List.length_take]; rfl)) ?_; (with_reducible refine (chandleryref16_below.calls ((rd_T27 l0 x6_1).f0) a1 t241 true _ A5.out).mono ?_); rintro e w' ⟨rfl, ⟨nd, rfl⟩⟩; refine ⟨_, rfl, ?_⟩) | (go_at_call 38; (with_reducible refine (chandleryref16_Parent.calls k1 t241 t243 _ A7.out).mono ?_); rintro e w' ⟨rfl, ⟨nd, rfl⟩⟩))
       go_roundg k1
       case measure => have := HK1.out; omega
       case rel => exact ⟨(x5_1), (wrap64 (x6_1 + 1)), (by first | rfl | (simp; done) | exact congrArg Value.bool (Go.Proofs.YtlcaogiljiieaaaX.isEmpty_ne_ _) | exact congrArg Value.bool (Go.Proofs.YtlcaogiljiieaaaX.ne_isEmpty_ _) | (simp [*]; done)), H', ⟨by have := HK1.out; omega⟩, ⟨by (with_reducible repeat (first | apply Kd.R_alloc | apply Kd.R_drewN | apply Kd.R_drew)); exact HO_5.out⟩, ⟨by repeat (first | (with_reducible first | exact HB.out | apply below_alloc | apply pw_below_drewN | apply below_drew1) | exact HB.out)⟩⟩
     ·replace c6 := Bool.eq_false_iff.mpr c6
      subst c6
      have H1 : (chandleryref16_Names.l0 k1 l0 a1 x5_1 (wrap64 (x6_1 + 1))) = some r := by rw [if_neg (show ¬ (false = true) by decide)] at H; exact H
      clear H
      have H := H1
      clear H1
      have H' := Aside0.mk H
      clear H
      have p240 : 0 ≤ (x6_1 : Int) := of_decide_eq_true (by first | (with_reducible assumption) | assumption)
      have q240 : x6_1 < (l0.length : Int) := of_decide_eq_true (by first | (with_reducible assumption) | assumption)
      obtain ⟨ad240, e240, hx240_0, hx240_1, hx240_2, hx240_3⟩ := at_T27 HR0.out x6_1 p240 q240
      cases e240
      replace hx240_0 := (HB.out.cell (World.block_lt_of_cell? w _ hx240_0)).trans hx240_0
      replace hx240_1 := (HB.out.cell (World.block_lt_of_cell? w _ hx240_1)).trans hx240_1
      replace hx240_2 := (HB.out.cell (World.block_lt_of_cell? w _ hx240_2)).trans hx240_2
      replace hx240_3 := (HB.out.cell (World.block_lt_of_cell? w _ hx240_3)).trans hx240_3
      replace p240 := eq_true p240
      replace q240 := eq_true q240
      go_wp2_with (first | ((with_reducible refine gate_callee (f := 42) rfl ?_); refine goesL_ (some 22) rfl rfl Try.func42 (by kernel_rfl) rfl #[.string ((rd_T27 l0 x6_1).f0), .string a1] rfl (by (try simp only [List.map_toArray, List.map_cons, List.map_nil]); first | done | rfl | (simp only [List.length_drop, List.length_take]; rfl)) ?_; (with_reducible refine (chandleryref16_below.calls ((rd_T27 l0 x6_1).f0) a1 t241 false _ A5.out).mono ?_); rintro e w' ⟨rfl, ⟨nd, rfl⟩⟩; refine ⟨_, rfl, ?_⟩))
      go_roundg k1
      case measure => have := HK1.out; omega
      case rel => exact ⟨(x5_1), (wrap64 (x6_1 + 1)), (by first | rfl | (simp; done) | exact congrArg Value.bool (Go.Proofs.YtlcaogiljiieaaaX.isEmpty_ne_ _) | exact congrArg Value.bool (Go.Proofs.YtlcaogiljiieaaaX.ne_isEmpty_ _) | (simp [*]; done)), H', ⟨by have := HK1.out; omega⟩, ⟨by (with_reducible repeat (first | apply Kd.R_alloc | apply Kd.R_drewN | apply Kd.R_drew)); exact HO_5.out⟩, ⟨by repeat (first | (with_reducible first | exact HB.out | apply below_alloc | apply pw_below_drewN | apply below_drew1) | exact HB.out)⟩⟩
    ·rw [if_neg c4] at H
     exact absurd H (by simp)
   ·rw [if_neg c3] at H
    have c3b0 : decide (x6_1 < (l0.length : Int)) = false := decide_eq_false c3
    clear c3
    obtain rfl := Option.some.inj H
    go_wp2
    go_ret
    exact ⟨_, by first | rfl | (simp [errW_none, errW_some] <;> rfl) | (simp [*, errW_none, errW_some] <;> rfl), by (with_reducible repeat (first | apply Kd.R_alloc | apply Kd.R_drewN | apply Kd.R_drew)); exact HO_5.out, by repeat (first | (with_reducible first | exact HB.out | apply below_alloc | apply pw_below_drewN | apply below_drew1) | exact HB.out)⟩
end Go.Proofs.Ytlcaogiljiieaaa.PNarw
