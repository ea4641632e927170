-- printed with xprint.py over the kit's print
import Derived.Test.YtjhenmegcgnkgaaNodeParse
import Derived.Test.YtjhenmegcgnkgaaQNodex0
import Derived.Test.YtjhenmegcgnkgaaQNodex2
import Derived.Test.YtjhenmegcgnkgaaQNodex3
import Derived.Test.YtjhenmegcgnkgaaQNodex8
namespace Go.Proofs.Ytjhenmegcgnkgaa.PNode
open Go.RowKit Go.Proofs.YtjhenmegcgnkgaaW.PrintWords Go.Proofs.YtjhenmegcgnkgaaW.PrintLast Go.Proofs.YtjhenmegcgnkgaaW.PrintMore
attribute [local go_sem] max2_int min2_int max_two min_two max_three min_three max_four min_four   -- for this text's walks alone
set_option linter.unusedVariables false
set_option linter.unusedSimpArgs false
-- NOT PRINTED: function 31 (api_Pair_string)
def cmp_isNaN_string.f (a0 : ByteArray) : Option (Bool) := some (a0.toList != a0.toList)
set_option maxHeartbeats 8000000 in
set_option maxRecDepth 100000 in
theorem cmp_isNaN_string.calls (a0 : ByteArray) (r : Bool) (w : World) (h : cmp_isNaN_string.f a0 = some r) :
  Calls Try.prog 43 #[.string a0] w fun e w' => e = .returned (.bool r) ∧ Drawn0 w w' := by
 have H : (some (a0.toList != a0.toList)) = some r := h
 clear h
 obtain rfl := Option.some.inj H
 go_enter Try.func43, Try.ntmps43
 go_wp2
 go_ret
 exact ⟨by first | rfl | (simp; done) | (simp [*]; done), by repeat (first | exact Drawn0.refl _ | apply Drawn0.step)⟩
def cmp_Less_string.f (a0 : ByteArray) (a1 : ByteArray) : Option (Bool) := (cmp_isNaN_string.f a0).bind fun t148 => (if t148 = true then ((cmp_isNaN_string.f a1).bind fun t149 => (if t149 = true then (some (Op.bytesLess a0.toList a1.toList)) else (some true))) else (some (Op.bytesLess a0.toList a1.toList)))
set_option maxHeartbeats 8000000 in
set_option maxRecDepth 100000 in
theorem cmp_Less_string.calls (a0 : ByteArray) (a1 : ByteArray) (r : Bool) (w : World) (h : cmp_Less_string.f a0 a1 = some r) :
  Calls Try.prog 44 #[.string a0, .string a1] w fun e w' => e = .returned (.bool r) ∧ Drawn0 w w' := by
 have hsg_ := Go.Proofs.YtjhenmegcgnkgaaX.str_geq; have hsl_ := Go.Proofs.YtjhenmegcgnkgaaX.str_leq; have hst_ := Go.Proofs.YtjhenmegcgnkgaaX.str_gtr
 have H : ((cmp_isNaN_string.f a0).bind fun t148 => (if t148 = true then ((cmp_isNaN_string.f a1).bind fun t149 => (if t149 = true then (some (Op.bytesLess a0.toList a1.toList)) else (some true))) else (some (Op.bytesLess a0.toList a1.toList)))) = some r := h
 clear h
 replace H := Option.bind_eq_some_iff.mp H
 obtain ⟨t148, A30, H⟩ := H
 replace H : (if t148 = true then ((cmp_isNaN_string.f a1).bind fun t149 => (if t149 = true then (some (Op.bytesLess a0.toList a1.toList)) else (some true))) else (some (Op.bytesLess a0.toList a1.toList))) = some r := H
 have A3 := Aside0.mk A30
 clear A30
 by_cases c4 : t148 = true
 ·subst c4
  have H1 : ((cmp_isNaN_string.f a1).bind fun t149 => (if t149 = true then (some (Op.bytesLess a0.toList a1.toList)) else (some true))) = some r := by rw [if_pos rfl] at H; exact H
  clear H
  have H := H1
  clear H1
  replace H := Option.bind_eq_some_iff.mp H
  obtain ⟨t149, A50, H⟩ := H
  replace H : (if t149 = true then (some (Op.bytesLess a0.toList a1.toList)) else (some true)) = some r := H
  have A5 := Aside0.mk A50
  clear A50
  by_cases c6 : t149 = true
  ·subst c6
   have H1 : (some (Op.bytesLess a0.toList a1.toList)) = some r := by rw [if_pos rfl] at H; exact H
   clear H
   have H := H1
   clear H1
   obtain rfl := Option.some.inj H
   go_enter Try.func44, Try.ntmps44
   go_wp2_with (first | ((with_reducible refine gate_callee (f := 43) rfl ?_); refine goesL_ (some 6) rfl rfl Try.func43 (by kernel_rfl) rfl #[.string a0] rfl (by (try simp only [List.map_toArray, List.map_cons, List.map_nil]); first | done | rfl | (simp only [List.length_drop, List.length_take]; rfl)) ?_; (with_reducible refine (cmp_isNaN_string.calls a0 true _ A3.out).mono ?_); rintro e w' ⟨rfl, ⟨nd, rfl⟩⟩; refine ⟨_, rfl, ?_⟩) | (go_at_call 43; (with_reducible refine (cmp_isNaN_string.calls a1 true _ A5.out).mono ?_); rintro e w' ⟨rfl, ⟨nd, rfl⟩⟩))
   go_ret
   exact ⟨by first | rfl | (simp; done) | (simp [*]; done), by repeat (first | exact Drawn0.refl _ | apply Drawn0.step)⟩
  ·replace c6 := Bool.eq_false_iff.mpr c6
   subst c6
   have H1 : (some true) = some r := by rw [if_neg (show ¬ (false = true) by decide)] at H; exact H
   clear H
   have H := H1
   clear H1
   obtain rfl := Option.some.inj H
   go_enter Try.func44, Try.ntmps44
   go_wp2_with (first | ((with_reducible refine gate_callee (f := 43) rfl ?_); refine goesL_ (some 6) rfl rfl Try.func43 (by kernel_rfl) rfl #[.string a0] rfl (by (try simp only [List.map_toArray, List.map_cons, List.map_nil]); first | done | rfl | (simp only [List.length_drop, List.length_take]; rfl)) ?_; (with_reducible refine (cmp_isNaN_string.calls a0 true _ A3.out).mono ?_); rintro e w' ⟨rfl, ⟨nd, rfl⟩⟩; refine ⟨_, rfl, ?_⟩) | (go_at_call 43; (with_reducible refine (cmp_isNaN_string.calls a1 false _ A5.out).mono ?_); rintro e w' ⟨rfl, ⟨nd, rfl⟩⟩))
   go_ret
   exact ⟨by first | rfl | (simp; done) | (simp [*]; done), by repeat (first | exact Drawn0.refl _ | apply Drawn0.step)⟩
 ·replace c4 := Bool.eq_false_iff.mpr c4
  subst c4
  have H1 : (some (Op.bytesLess a0.toList a1.toList)) = some r := by rw [if_neg (show ¬ (false = true) by decide)] at H; exact H
  clear H
  have H := H1
  clear H1
  obtain rfl := Option.some.inj H
  go_enter Try.func44, Try.ntmps44
  go_wp2_with (first | ((with_reducible refine gate_callee (f := 43) rfl ?_); refine goesL_ (some 6) rfl rfl Try.func43 (by kernel_rfl) rfl #[.string a0] rfl (by (try simp only [List.map_toArray, List.map_cons, List.map_nil]); first | done | rfl | (simp only [List.length_drop, List.length_take]; rfl)) ?_; (with_reducible refine (cmp_isNaN_string.calls a0 false _ A3.out).mono ?_); rintro e w' ⟨rfl, ⟨nd, rfl⟩⟩; refine ⟨_, rfl, ?_⟩))
  go_ret
  exact ⟨by first | rfl | (simp; done) | (simp [*]; done), by repeat (first | exact Drawn0.refl _ | apply Drawn0.step)⟩
def slices_isNaN_string.f (a0 : ByteArray) : Option (Bool) := some (a0.toList != a0.toList)
set_option maxHeartbeats 8000000 in
set_option maxRecDepth 100000 in
theorem slices_isNaN_string.calls (a0 : ByteArray) (r : Bool) (w : World) (h : slices_isNaN_string.f a0 = some r) :
  Calls Try.prog 45 #[.string a0] w fun e w' => e = .returned (.bool r) ∧ Drawn0 w w' := by
 have H : (some (a0.toList != a0.toList)) = some r := h
 clear h
 obtain rfl := Option.some.inj H
 go_enter Try.func45, Try.ntmps45
 go_wp2
 go_ret
 exact ⟨by first | rfl | (simp; done) | (simp [*]; done), by repeat (first | exact Drawn0.refl _ | apply Drawn0.step)⟩
def slices_BinarySearch_string_string.l0 : Nat → List ByteArray → ByteArray → Int → Int → Int → Option (Int × Bool)
 | 0, _, _, _, _, _ => none
 | k + 1, x0, x1, x6, x7, x8 => if x7 < x8 then (if 0 ≤ (wrap64 ((IntKind.u64.wrap (wrap64 (x7 + x8))) / 2)) then (if (wrap64 ((IntKind.u64.wrap (wrap64 (x7 + x8))) / 2)) < (x0.length : Int) then ((cmp_Less_string.f (rdOf ByteArray.empty x0 (wrap64 ((IntKind.u64.wrap (wrap64 (x7 + x8))) / 2))) x1).bind fun t151 => (if t151 = true then (slices_BinarySearch_string_string.l0 k x0 x1 x6 (wrap64 ((wrap64 ((IntKind.u64.wrap (wrap64 (x7 + x8))) / 2)) + 1)) x8) else (slices_BinarySearch_string_string.l0 k x0 x1 x6 x7 (wrap64 ((IntKind.u64.wrap (wrap64 (x7 + x8))) / 2))))) else (none)) else (none)) else (if x7 < x6 then (if 0 ≤ x7 then (if x7 < (x0.length : Int) then (if (rdOf ByteArray.empty x0 x7).toList = x1.toList then (some (x7, true)) else ((slices_isNaN_string.f (rdOf ByteArray.empty x0 x7)).bind fun t154 => (if t154 = true then ((slices_isNaN_string.f x1).bind fun t155 => (some (x7, t155))) else (some (x7, false))))) else (none)) else (none)) else (some (x7, false)))
def slices_BinarySearch_string_string.f (k : Nat) (l0 : List ByteArray) (a1 : ByteArray) : Option (Int × Bool) := slices_BinarySearch_string_string.l0 k l0 a1 (l0.length : Int) 0 (l0.length : Int)
theorem slices_BinarySearch_string_string.mono_l : ∀ k, (∀ y0 y1 y2 y3 y4, LeO (slices_BinarySearch_string_string.l0 k y0 y1 y2 y3 y4) (slices_BinarySearch_string_string.l0 (k + 1) y0 y1 y2 y3 y4))
 | 0 => fun _ _ _ _ _ r h => by simp [slices_BinarySearch_string_string.l0] at h
 | k + 1 => by
  have ih0 := slices_BinarySearch_string_string.mono_l k
  ·intro y0 y1 y2 y3 y4
   unfold slices_BinarySearch_string_string.l0
   repeat' first
   | (with_reducible exact ih0 _ _ _ _ _)
   | (with_reducible exact LeO.refl _)
   | (with_reducible exact LeO.none _)
   | (with_reducible refine LeO.ite ?_ ?_)
   | (with_reducible refine LeO.bind ?_ (fun _ => ?_))
   | exact ih0 _ _ _ _ _
   | exact LeO.none _
   | refine LeO.ite ?_ ?_
   | refine LeO.bind ?_ (fun _ => ?_)
theorem slices_BinarySearch_string_string.mono : ∀ a0 a1 k, LeO (slices_BinarySearch_string_string.f k a0 a1) (slices_BinarySearch_string_string.f (k + 1) a0 a1) := by
 intro a0 a1 k
 have ih0 := slices_BinarySearch_string_string.mono_l k
 unfold slices_BinarySearch_string_string.f
 repeat' first
   | (with_reducible exact ih0 _ _ _ _ _)
   | (with_reducible exact LeO.refl _)
   | (with_reducible exact LeO.none _)
   | (with_reducible refine LeO.ite ?_ ?_)
   | (with_reducible refine LeO.bind ?_ (fun _ => ?_))
   | exact ih0 _ _ _ _ _
   | exact LeO.none _
   | refine LeO.ite ?_ ?_
   | refine LeO.bind ?_ (fun _ => ?_)
set_option maxHeartbeats 8000000 in
set_option maxRecDepth 100000 in
theorem slices_BinarySearch_string_string.calls (k : Nat) (A0 : Option Addr) (c0 : Nat) (l0 : List ByteArray) (a1 : ByteArray) (r1 : Int) (r2 : Bool) (w : World) (hr0 : Kd.C Kd.string w A0 l0.length l0) (hc0 : l0.length ≤ c0) (h : slices_BinarySearch_string_string.f k l0 a1 = some (r1, r2)) :
  Calls Try.prog 34 #[.slice A0 l0.length c0, .string a1] w fun e w' => e = .returned (.tuple #[.int .i64 r1, .bool r2]) ∧ Drawn0 w w' := by
 have hsg_ := Go.Proofs.YtjhenmegcgnkgaaX.str_geq; have hsl_ := Go.Proofs.YtjhenmegcgnkgaaX.str_leq; have hst_ := Go.Proofs.YtjhenmegcgnkgaaX.str_gtr
 have HR0 := Aside0.mk hr0
 have HC0 := Aside0.mk hc0
 clear hr0 hc0
 have H : (slices_BinarySearch_string_string.l0 k l0 a1 (l0.length : Int) 0 (l0.length : Int)) = some (r1, r2) := h
 clear h
 have H' := Aside0.mk H
 clear H
 go_enter Try.func34, Try.ntmps34
 go_wp2
 go_loopg [7, 8] k (fun kq v7 v8 w' => ∃ (x7_1 : Int) (x8_1 : Int), v7 = .int .i64 x7_1 ∧ v8 = .int .i64 x8_1 ∧ Aside0 (slices_BinarySearch_string_string.l0 kq l0 a1 (l0.length : Int) x7_1 x8_1 = some (r1, r2)) ∧ Aside0 (kq ≤ k) ∧ Drawn0 w w')
 case atStart => exact ⟨(0), ((l0.length : Int)), (by first | rfl | (simp; done) | exact congrArg Value.bool (Go.Proofs.YtjhenmegcgnkgaaX.isEmpty_ne_ _) | exact congrArg Value.bool (Go.Proofs.YtjhenmegcgnkgaaX.ne_isEmpty_ _) | (simp [*]; done)), (by first | rfl | (simp; done) | exact congrArg Value.bool (Go.Proofs.YtjhenmegcgnkgaaX.isEmpty_ne_ _) | exact congrArg Value.bool (Go.Proofs.YtjhenmegcgnkgaaX.ne_isEmpty_ _) | (simp [*]; done)), H', ⟨Nat.le_refl _⟩, by repeat (first | exact Drawn0.refl _ | apply Drawn0.step)⟩
 case round =>
  clear H'
  try clear p2
  obtain ⟨x7_1, x8_1, rfl, rfl, HA, HK1, ⟨m1, rfl⟩⟩ := hrel
  cases gk with
  | zero => exact absurd HA.out (by simp [slices_BinarySearch_string_string.l0])
  | succ k1 =>
   have H := HA.out
   clear HA
   simp only [slices_BinarySearch_string_string.l0] at H
   by_cases c3 : x7_1 < x8_1
   ·rw [if_pos c3] at H
    have c3b0 : decide (x7_1 < x8_1) = true := decide_eq_true c3
    clear c3
    obtain ⟨ji4, hji4⟩ : ∃ j_ : Int, (wrap64 ((IntKind.u64.wrap (wrap64 (x7_1 + x8_1))) / 2)) = j_ := ⟨_, rfl⟩
    replace H : (if 0 ≤ (ji4) then (if (ji4) < (l0.length : Int) then ((cmp_Less_string.f (rdOf ByteArray.empty l0 (ji4)) a1).bind fun t151 => (if t151 = true then (slices_BinarySearch_string_string.l0 k1 l0 a1 (l0.length : Int) (wrap64 ((ji4) + 1)) x8_1) else (slices_BinarySearch_string_string.l0 k1 l0 a1 (l0.length : Int) x7_1 ji4))) else (none)) else (none)) = some (r1, r2) := by first | (rw [hji4] at H; exact H) | (simp only [hji4] at H ⊢; exact H)
    have hji4w : (IntKind.i64.wrap ((IntKind.u64.wrap (wrap64 (x7_1 + x8_1))) / 2)) = ji4 := (i64_w _).trans hji4
    by_cases c5 : 0 ≤ (ji4)
    ·rw [if_pos c5] at H
     have c5b0 : decide (0 ≤ (ji4)) = true := decide_eq_true c5
     clear c5
     by_cases c6 : (ji4) < (l0.length : Int)
     ·rw [if_pos c6] at H
      have c6b0 : decide ((ji4) < (l0.length : Int)) = true := decide_eq_true c6
      clear c6
      replace H := Option.bind_eq_some_iff.mp H
      obtain ⟨t151, A70, H⟩ := H
      replace H : (if t151 = true then (slices_BinarySearch_string_string.l0 k1 l0 a1 (l0.length : Int) (wrap64 ((ji4) + 1)) x8_1) else (slices_BinarySearch_string_string.l0 k1 l0 a1 (l0.length : Int) x7_1 ji4)) = some (r1, r2) := H
      have A7 := Aside0.mk A70
      clear A70
      by_cases c8 : t151 = true
      ·subst c8
       have H1 : (slices_BinarySearch_string_string.l0 k1 l0 a1 (l0.length : Int) (wrap64 ((ji4) + 1)) x8_1) = some (r1, r2) := by rw [if_pos rfl] at H; exact H
       clear H
       have H := H1
       clear H1
       have H' := Aside0.mk H
       clear H
       have p150 : 0 ≤ ((ji4) : Int) := of_decide_eq_true (by first | (with_reducible assumption) | assumption)
       have q150 : (ji4) < (l0.length : Int) := of_decide_eq_true (by first | (with_reducible assumption) | assumption)
       obtain ⟨ad150, e150, hx150_0⟩ := Kd.at_string HR0.out (ji4) p150 q150
       cases e150
       replace p150 := eq_true p150
       replace q150 := eq_true q150
       go_wp2_with (first | ((with_reducible refine gate_callee (f := 44) rfl ?_); refine goesL_ (some 27) rfl rfl Try.func44 (by kernel_rfl) rfl #[.string (rdOf ByteArray.empty l0 (ji4)), .string a1] rfl (by (try simp only [List.map_toArray, List.map_cons, List.map_nil]); first | done | (simp only [hji4]; rfl) | rfl | (simp only [List.length_drop, List.length_take]; rfl)) ?_; (with_reducible refine (cmp_Less_string.calls (rdOf ByteArray.empty l0 (ji4)) a1 true _ A7.out).mono ?_); rintro e w' ⟨rfl, ⟨nd, rfl⟩⟩; refine ⟨_, rfl, ?_⟩))
       go_roundg k1
       case measure => have := HK1.out; omega
       case rel => exact ⟨(wrap64 ((ji4) + 1)), (x8_1), (by first | rfl | (simp; done) | (simp only [← hji4] <;> (first | rfl | simp)) | (simp [*]; done)), (by first | rfl | (simp; done) | exact congrArg Value.bool (Go.Proofs.YtjhenmegcgnkgaaX.isEmpty_ne_ _) | exact congrArg Value.bool (Go.Proofs.YtjhenmegcgnkgaaX.ne_isEmpty_ _) | (simp [*]; done)), H', ⟨by have := HK1.out; omega⟩, by repeat (first | exact Drawn0.refl _ | apply Drawn0.step)⟩
      ·replace c8 := Bool.eq_false_iff.mpr c8
       subst c8
       have H1 : (slices_BinarySearch_string_string.l0 k1 l0 a1 (l0.length : Int) x7_1 ji4) = some (r1, r2) := by rw [if_neg (show ¬ (false = true) by decide)] at H; exact H
       clear H
       have H := H1
       clear H1
       have H' := Aside0.mk H
       clear H
       have p150 : 0 ≤ ((ji4) : Int) := of_decide_eq_true (by first | (with_reducible assumption) | assumption)
       have q150 : (ji4) < (l0.length : Int) := of_decide_eq_true (by first | (with_reducible assumption) | assumption)
       obtain ⟨ad150, e150, hx150_0⟩ := Kd.at_string HR0.out (ji4) p150 q150
       cases e150
       replace p150 := eq_true p150
       replace q150 := eq_true q150
       go_wp2_with (first | ((with_reducible refine gate_callee (f := 44) rfl ?_); refine goesL_ (some 27) rfl rfl Try.func44 (by kernel_rfl) rfl #[.string (rdOf ByteArray.empty l0 (ji4)), .string a1] rfl (by (try simp only [List.map_toArray, List.map_cons, List.map_nil]); first | done | (simp only [hji4]; rfl) | rfl | (simp only [List.length_drop, List.length_take]; rfl)) ?_; (with_reducible refine (cmp_Less_string.calls (rdOf ByteArray.empty l0 (ji4)) a1 false _ A7.out).mono ?_); rintro e w' ⟨rfl, ⟨nd, rfl⟩⟩; refine ⟨_, rfl, ?_⟩))
       go_roundg k1
       case measure => have := HK1.out; omega
       case rel => exact ⟨(x7_1), (ji4), (by first | rfl | (simp; done) | exact congrArg Value.bool (Go.Proofs.YtjhenmegcgnkgaaX.isEmpty_ne_ _) | exact congrArg Value.bool (Go.Proofs.YtjhenmegcgnkgaaX.ne_isEmpty_ _) | (simp [*]; done)), (by first | rfl | (simp; done) | (simp only [← hji4] <;> (first | rfl | simp)) | (simp [*]; done)), H', ⟨by have := HK1.out; omega⟩, by repeat (first | exact Drawn0.refl _ | apply Drawn0.step)⟩
     ·rw [if_neg c6] at H
      exact absurd H (by simp)
    ·rw [if_neg c5] at H
     exact absurd H (by simp)
   ·rw [if_neg c3] at H
    have c3b0 : decide (x7_1 < x8_1) = false := decide_eq_false c3
    clear c3
    by_cases c9 : x7_1 < (l0.length : Int)
    ·rw [if_pos c9] at H
     have c9b0 : decide (x7_1 < (l0.length : Int)) = true := decide_eq_true c9
     clear c9
     by_cases c10 : 0 ≤ x7_1
     ·rw [if_pos c10] at H
      have c10b0 : decide (0 ≤ x7_1) = true := decide_eq_true c10
      clear c10
      by_cases c11 : x7_1 < (l0.length : Int)
      ·rw [if_pos c11] at H
       have c11b0 : decide (x7_1 < (l0.length : Int)) = true := decide_eq_true c11
       clear c11
       by_cases c12 : (rdOf ByteArray.empty l0 x7_1).toList = a1.toList
       ·rw [if_pos c12] at H
        have c12b0 : ((rdOf ByteArray.empty l0 x7_1).toList == a1.toList) = true := beq_iff_eq.mpr c12
        have c12b1 : ((rdOf ByteArray.empty l0 x7_1).toList != a1.toList) = false := bne_eq_false_iff_eq.mpr c12
        clear c12
        simp only [Option.some.injEq, Prod.mk.injEq] at H
        obtain ⟨rfl, rfl⟩ := H
        have p152 : 0 ≤ (x7_1 : Int) := of_decide_eq_true (by first | (with_reducible assumption) | assumption)
        have q152 : x7_1 < (l0.length : Int) := of_decide_eq_true (by first | (with_reducible assumption) | assumption)
        obtain ⟨ad152, e152, hx152_0⟩ := Kd.at_string HR0.out x7_1 p152 q152
        cases e152
        replace p152 := eq_true p152
        replace q152 := eq_true q152
        go_wp2
        go_ret2
        exact ⟨by first | rfl | (simp; done) | (simp [*]; done), by repeat (first | exact Drawn0.refl _ | apply Drawn0.step)⟩
       ·rw [if_neg c12] at H
        have c12b0 : ((rdOf ByteArray.empty l0 x7_1).toList == a1.toList) = false := beq_eq_false_iff_ne.mpr c12
        have c12b1 : ((rdOf ByteArray.empty l0 x7_1).toList != a1.toList) = true := bne_iff_ne.mpr c12
        replace H := Option.bind_eq_some_iff.mp H
        obtain ⟨t154, A130, H⟩ := H
        replace H : (if t154 = true then ((slices_isNaN_string.f a1).bind fun t155 => (some (x7_1, t155))) else (some (x7_1, false))) = some (r1, r2) := H
        have A13 := Aside0.mk A130
        clear A130
        by_cases c14 : t154 = true
        ·subst c14
         have H1 : ((slices_isNaN_string.f a1).bind fun t155 => (some (x7_1, t155))) = some (r1, r2) := by rw [if_pos rfl] at H; exact H
         clear H
         have H := H1
         clear H1
         replace H := Option.bind_eq_some_iff.mp H
         obtain ⟨t155, A150, H⟩ := H
         replace H : (some (x7_1, t155)) = some (r1, r2) := H
         have A15 := Aside0.mk A150
         clear A150
         simp only [Option.some.injEq, Prod.mk.injEq] at H
         obtain ⟨rfl, rfl⟩ := H
         have p152 : 0 ≤ (x7_1 : Int) := of_decide_eq_true (by first | (with_reducible assumption) | assumption)
         have q152 : x7_1 < (l0.length : Int) := of_decide_eq_true (by first | (with_reducible assumption) | assumption)
         obtain ⟨ad152, e152, hx152_0⟩ := Kd.at_string HR0.out x7_1 p152 q152
         cases e152
         replace p152 := eq_true p152
         replace q152 := eq_true q152
         have p153 : 0 ≤ (x7_1 : Int) := of_decide_eq_true (by first | (with_reducible assumption) | assumption)
         have q153 : x7_1 < (l0.length : Int) := of_decide_eq_true (by first | (with_reducible assumption) | assumption)
         obtain ⟨ad153, e153, hx153_0⟩ := Kd.at_string HR0.out x7_1 p153 q153
         obtain rfl : ad152 = ad153 := (by injection e153)
         replace p153 := eq_true p153
         replace q153 := eq_true q153
         go_wp2_with (first | (go_at_call 45; (with_reducible refine (slices_isNaN_string.calls (rdOf ByteArray.empty l0 x7_1) true _ A13.out).mono ?_); rintro e w' ⟨rfl, ⟨nd, rfl⟩⟩) | (go_at_call 45; (with_reducible refine (slices_isNaN_string.calls a1 t155 _ A15.out).mono ?_); rintro e w' ⟨rfl, ⟨nd, rfl⟩⟩))
         go_ret2
         exact ⟨by first | rfl | (simp; done) | (simp [*]; done), by repeat (first | exact Drawn0.refl _ | apply Drawn0.step)⟩
        ·replace c14 := Bool.eq_false_iff.mpr c14
         subst c14
         have H1 : (some (x7_1, false)) = some (r1, r2) := by rw [if_neg (show ¬ (false = true) by decide)] at H; exact H
         clear H
         have H := H1
         clear H1
         simp only [Option.some.injEq, Prod.mk.injEq] at H
         obtain ⟨rfl, rfl⟩ := H
         have p152 : 0 ≤ (x7_1 : Int) := of_decide_eq_true (by first | (with_reducible assumption) | assumption)
         have q152 : x7_1 < (l0.length : Int) := of_decide_eq_true (by first | (with_reducible assumption) | assumption)
         obtain ⟨ad152, e152, hx152_0⟩ := Kd.at_string HR0.out x7_1 p152 q152
         cases e152
         replace p152 := eq_true p152
         replace q152 := eq_true q152
         have p153 : 0 ≤ (x7_1 : Int) := of_decide_eq_true (by first | (with_reducible assumption) | assumption)
         have q153 : x7_1 < (l0.length : Int) := of_decide_eq_true (by first | (with_reducible assumption) | assumption)
         obtain ⟨ad153, e153, hx153_0⟩ := Kd.at_string HR0.out x7_1 p153 q153
         obtain rfl : ad152 = ad153 := (by injection e153)
         replace p153 := eq_true p153
         replace q153 := eq_true q153
         go_wp2_with (first | (go_at_call 45; (with_reducible refine (slices_isNaN_string.calls (rdOf ByteArray.empty l0 x7_1) false _ A13.out).mono ?_); rintro e w' ⟨rfl, ⟨nd, rfl⟩⟩))
         go_ret2
         exact ⟨by first | rfl | (simp; done) | (simp [*]; done), by repeat (first | exact Drawn0.refl _ | apply Drawn0.step)⟩
      ·rw [if_neg c11] at H
       exact absurd H (by simp)
     ·rw [if_neg c10] at H
      exact absurd H (by simp)
    ·rw [if_neg c9] at H
     have c9b0 : decide (x7_1 < (l0.length : Int)) = false := decide_eq_false c9
     clear c9
     simp only [Option.some.injEq, Prod.mk.injEq] at H
     obtain ⟨rfl, rfl⟩ := H
     go_wp2
     go_ret2
     exact ⟨by first | rfl | (simp; done) | (simp [*]; done), by repeat (first | exact Drawn0.refl _ | apply Drawn0.step)⟩
def placeAt (l : List S42) (key : ByteArray) : Nat := ((l.map S42.f0).takeWhile fun x => YtjhenmegcgnkgaaX.lessB x key).length
def placeIs (l : List S42) (key : ByteArray) : Bool := YtjhenmegcgnkgaaX.headIs (fun x => YtjhenmegcgnkgaaX.cmpS x key == 0) ((l.map S42.f0).dropWhile fun x => YtjhenmegcgnkgaaX.lessB x key)
def placeOk (l : List S42) (key : ByteArray) : Bool := ((l.map S42.f0).dropWhile fun x => YtjhenmegcgnkgaaX.lessB x key).all fun x => !YtjhenmegcgnkgaaX.lessB x key
def node_Place.f (k : Nat) (a0_0 : Bool) (l0_1 : List (S42)) (l0_2 : List ByteArray) (l0_3 : List Int) (a1 : ByteArray) : Option (Int × Bool) :=
 if a0_0 = true then (if l0_1.length ≤ 1000000 ∧ placeOk l0_1 a1 = true then some ((placeAt l0_1 a1 : Int), placeIs l0_1 a1) else none) else (slices_BinarySearch_string_string.f k l0_2 a1).bind fun t => some (if t.2 = true then wrap64 (t.1 + 1) else t.1, t.2)
theorem node_Place.mono : ∀ a0_0 l0_1 l0_2 l0_3 a1 k, LeO (node_Place.f k a0_0 l0_1 l0_2 l0_3 a1) (node_Place.f (k + 1) a0_0 l0_1 l0_2 l0_3 a1) := by
 intro a0_0 l0_1 l0_2 l0_3 a1 k
 unfold node_Place.f
 exact LeO.ite (LeO.refl _) (LeO.bind (slices_BinarySearch_string_string.mono _ _ _) fun t => LeO.refl _)
theorem node_Place.calls (k : Nat) (a0_0 : Bool) (A0_1 : Option Addr) (c0_1 : Nat) (l0_1 : List (S42)) (A0_2 : Option Addr) (c0_2 : Nat) (l0_2 : List ByteArray) (A0_3 : Option Addr) (c0_3 : Nat) (l0_3 : List Int) (a1 : ByteArray) (r1 : Int) (r2 : Bool) (w : World) (hr0_1 : Kd.C k42 w A0_1 l0_1.length l0_1) (hc0_1 : l0_1.length ≤ c0_1) (hr0_2 : Kd.C Kd.string w A0_2 l0_2.length l0_2) (hc0_2 : l0_2.length ≤ c0_2) (hr0_3 : Kd.C (Kd.int .i64) w A0_3 l0_3.length l0_3) (hc0_3 : l0_3.length ≤ c0_3) (h : node_Place.f k a0_0 l0_1 l0_2 l0_3 a1 = some (r1, r2)) :
  Calls Try.prog 19 #[.agg #[.bool a0_0, .slice A0_1 l0_1.length c0_1, .slice A0_2 l0_2.length c0_2, .slice A0_3 l0_3.length c0_3], .string a1] w fun e w' => e = .returned (.tuple #[.int .i64 r1, .bool r2]) ∧ Below w.heap.size w w' := by
 have hsg_ := Go.Proofs.YtjhenmegcgnkgaaX.str_geq; have hsl_ := Go.Proofs.YtjhenmegcgnkgaaX.str_leq; have hst_ := Go.Proofs.YtjhenmegcgnkgaaX.str_gtr
 unfold node_Place.f at h
 cases a0_0
 ·rw [if_neg (by decide)] at h
  obtain ⟨⟨i, is⟩, hb, h⟩ := Option.bind_eq_some_iff.mp h
  dsimp only at h
  injection h with h
  injection h with e1 e2
  subst e1
  subst e2
  exact YtjhenmegcgnkgaaX.place_inner A0_1 l0_1.length c0_1 A0_2 l0_2.length c0_2 A0_3 l0_3.length c0_3 a1 w i is (fun W hW => (slices_BinarySearch_string_string.calls k A0_2 c0_2 l0_2 a1 i is W (Kd.C_below hr0_2 hW) hc0_2 hb).mono (fun x w' hx => ⟨hx.1, hx.2.below⟩))
 ·rw [if_pos rfl] at h
  by_cases hc : l0_1.length ≤ 1000000 ∧ placeOk l0_1 a1 = true
  ·rw [if_pos hc] at h
   injection h with h
   injection h with e1 e2
   subst e1
   subst e2
   have hlen : (l0_1.map prOf).length = l0_1.length := List.length_map ..
   have hlen2 : (l0_1.map S42.f0).length = l0_1.length := List.length_map ..
   have hat : placeAt l0_1 a1 ≤ l0_1.length := by
    have h1 := YtjhenmegcgnkgaaX.takeWhile_le (fun x => YtjhenmegcgnkgaaX.lessB x a1) (l0_1.map S42.f0)
    rw [hlen2] at h1
    exact h1
   have hk : ∀ (m : Nat) (h : m < (l0_1.map prOf).length) (h' : m < (l0_1.map S42.f0).length), (l0_1.map prOf)[m].1 = (l0_1.map S42.f0)[m] := by
    intro m h h'
    simp [prOf]
   refine YtjhenmegcgnkgaaX.place_leaf A0_1 l0_1.length c0_1 A0_2 l0_2.length c0_2 A0_3 l0_3.length c0_3 a1 w (placeAt l0_1 a1) (placeIs l0_1 a1) (fun W hW => ?_)
   have hx := YtjhenmegcgnkgaaX.bsearch_calls A0_1 c0_1 (l0_1.map prOf) a1 W (pairs_of (Kd.C_below hr0_1 hW)) (by rw [hlen]; exact hc0_1) (by rw [hlen]; exact hc.1) (placeAt l0_1 a1) (by rw [hlen]; exact hat)
    (fun m hm => by rw [hk m hm (by rw [hlen2, ← hlen]; exact hm)]; exact YtjhenmegcgnkgaaX.place_parts (fun x => YtjhenmegcgnkgaaX.lessB x a1) _ hc.2 m _) (placeIs l0_1 a1)
    (fun hm => by rw [hk _ hm (by rw [hlen2, ← hlen]; exact hm)]; exact (YtjhenmegcgnkgaaX.place_found (fun x => YtjhenmegcgnkgaaX.lessB x a1) (fun x => YtjhenmegcgnkgaaX.cmpS x a1 == 0) (l0_1.map S42.f0)).1 _ _ rfl)
    (fun hm => (YtjhenmegcgnkgaaX.place_found (fun x => YtjhenmegcgnkgaaX.lessB x a1) (fun x => YtjhenmegcgnkgaaX.cmpS x a1 == 0) (l0_1.map S42.f0)).2 (by rw [hlen2, ← hlen]; exact hm))
   rw [hlen] at hx
   exact hx
  ·rw [if_neg hc] at h
   cases h
def chandlerylaw08_awake.f (k : Nat)  : Option (Bool) := (node_Most.f 128).bind fun bt156 => ((node_Bytes.f k true (([(⟨(⟨#[97]⟩ : ByteArray), (⟨#[120]⟩ : ByteArray)⟩ : S42)] : List (S42))) ([] : List ByteArray) ([] : List Int) 64).bind fun bt161 => ((node_Place.f k false ([] : List (S42)) (([(⟨#[98]⟩ : ByteArray), (⟨#[100]⟩ : ByteArray)] : List ByteArray)) (([1, 2, 3] : List Int)) (⟨#[98]⟩ : ByteArray)).bind fun bt171 => (if bt156.1 = 24 then (if bt156.2 = 0 then (if (bt161.1.length : Int) = 64 then (if 7 ≤ (bt161.1.length : Int) then (if (strOfNums (bt161.1.take 7)).toList = ([1, 0, 1, 1, 97, 1, 120] : List UInt8) then (if bt161.2 = 0 then (if bt171.1 = 1 then (some bt171.2) else (some false)) else (some false)) else (some false)) else (none)) else (some false)) else (some false)) else (some false))))
theorem chandlerylaw08_awake.mono : ∀ k, LeO (chandlerylaw08_awake.f k ) (chandlerylaw08_awake.f (k + 1) ) := by
 intro  k
 unfold chandlerylaw08_awake.f
 repeat' first
   | (with_reducible exact node_Bytes.mono _ _ _ _ _ _)
   | (with_reducible exact node_Place.mono _ _ _ _ _ _)
   | (with_reducible exact LeO.refl _)
   | (with_reducible exact LeO.none _)
   | (with_reducible refine LeO.ite ?_ ?_)
   | (with_reducible refine LeO.bind ?_ (fun _ => ?_))
   | exact node_Bytes.mono _ _ _ _ _ _
   | exact node_Place.mono _ _ _ _ _ _
   | exact LeO.none _
   | refine LeO.ite ?_ ?_
   | refine LeO.bind ?_ (fun _ => ?_)
set_option maxHeartbeats 8000000 in
set_option maxRecDepth 100000 in
theorem chandlerylaw08_awake.calls (k : Nat)  (r : Bool) (w : World) (h : chandlerylaw08_awake.f k  = some r) :
  Calls Try.prog 16 #[] w fun e w' => e = .returned (.bool r) ∧ Below w.heap.size w w' := by
 have hu42 := Try.underlying42
 have hu26 := Try.underlying26
 have HB := Aside0.mk (Below.refl w.heap.size w)
 have H : ((node_Most.f 128).bind fun bt156 => ((node_Bytes.f k true (([(⟨(⟨#[97]⟩ : ByteArray), (⟨#[120]⟩ : ByteArray)⟩ : S42)] : List (S42))) ([] : List ByteArray) ([] : List Int) 64).bind fun bt161 => ((node_Place.f k false ([] : List (S42)) (([(⟨#[98]⟩ : ByteArray), (⟨#[100]⟩ : ByteArray)] : List ByteArray)) (([1, 2, 3] : List Int)) (⟨#[98]⟩ : ByteArray)).bind fun bt171 => (if bt156.1 = 24 then (if bt156.2 = 0 then (if (bt161.1.length : Int) = 64 then (if 7 ≤ (bt161.1.length : Int) then (if (strOfNums (bt161.1.take 7)).toList = ([1, 0, 1, 1, 97, 1, 120] : List UInt8) then (if bt161.2 = 0 then (if bt171.1 = 1 then (some bt171.2) else (some false)) else (some false)) else (some false)) else (none)) else (some false)) else (some false)) else (some false))))) = some r := h
 clear h
 replace H := Option.bind_eq_some_iff.mp H
 obtain ⟨⟨t156, t157⟩, A10, H⟩ := H
 replace H : ((node_Bytes.f k true (([(⟨(⟨#[97]⟩ : ByteArray), (⟨#[120]⟩ : ByteArray)⟩ : S42)] : List (S42))) ([] : List ByteArray) ([] : List Int) 64).bind fun bt161 => ((node_Place.f k false ([] : List (S42)) (([(⟨#[98]⟩ : ByteArray), (⟨#[100]⟩ : ByteArray)] : List ByteArray)) (([1, 2, 3] : List Int)) (⟨#[98]⟩ : ByteArray)).bind fun bt171 => (if t156 = 24 then (if t157 = 0 then (if (bt161.1.length : Int) = 64 then (if 7 ≤ (bt161.1.length : Int) then (if (strOfNums (bt161.1.take 7)).toList = ([1, 0, 1, 1, 97, 1, 120] : List UInt8) then (if bt161.2 = 0 then (if bt171.1 = 1 then (some bt171.2) else (some false)) else (some false)) else (some false)) else (none)) else (some false)) else (some false)) else (some false)))) = some r := H
 have A1 := Aside0.mk A10
 clear A10
 obtain ⟨y158, hy158⟩ : ∃ y_ : List (S42), y_ = (([(⟨(⟨#[97]⟩ : ByteArray), (⟨#[120]⟩ : ByteArray)⟩ : S42)] : List (S42))) := ⟨_, rfl⟩
 replace H : ((node_Bytes.f k true y158 ([] : List ByteArray) ([] : List Int) 64).bind fun bt161 => ((node_Place.f k false ([] : List (S42)) (([(⟨#[98]⟩ : ByteArray), (⟨#[100]⟩ : ByteArray)] : List ByteArray)) (([1, 2, 3] : List Int)) (⟨#[98]⟩ : ByteArray)).bind fun bt171 => (if t156 = 24 then (if t157 = 0 then (if (bt161.1.length : Int) = 64 then (if 7 ≤ (bt161.1.length : Int) then (if (strOfNums (bt161.1.take 7)).toList = ([1, 0, 1, 1, 97, 1, 120] : List UInt8) then (if bt161.2 = 0 then (if bt171.1 = 1 then (some bt171.2) else (some false)) else (some false)) else (some false)) else (none)) else (some false)) else (some false)) else (some false)))) = some r := by first | (rw [hy158]; with_reducible exact H) | (have H2_ := (Option.bind_some _ _).symm.trans H; rw [hy158]; with_reducible exact H2_) | (have H2_ := (Option.bind_some _ _).symm.trans H; with_reducible exact H2_) | with_reducible exact H | (rw [hy158]; exact H) | exact H
 have Ny158 := Aside0.mk hy158
 clear hy158
 replace H := Option.bind_eq_some_iff.mp H
 obtain ⟨⟨t161, t164⟩, A20, H⟩ := H
 replace H : ((node_Place.f k false ([] : List (S42)) (([(⟨#[98]⟩ : ByteArray), (⟨#[100]⟩ : ByteArray)] : List ByteArray)) (([1, 2, 3] : List Int)) (⟨#[98]⟩ : ByteArray)).bind fun bt171 => (if t156 = 24 then (if t157 = 0 then (if (t161.length : Int) = 64 then (if 7 ≤ (t161.length : Int) then (if (strOfNums (t161.take 7)).toList = ([1, 0, 1, 1, 97, 1, 120] : List UInt8) then (if t164 = 0 then (if bt171.1 = 1 then (some bt171.2) else (some false)) else (some false)) else (some false)) else (none)) else (some false)) else (some false)) else (some false))) = some r := H
 have A2 := Aside0.mk A20
 clear A20
 obtain ⟨y165, hy165⟩ : ∃ y_ : List ByteArray, y_ = (([(⟨#[98]⟩ : ByteArray), (⟨#[100]⟩ : ByteArray)] : List ByteArray)) := ⟨_, rfl⟩
 replace H : ((node_Place.f k false ([] : List (S42)) y165 (([1, 2, 3] : List Int)) (⟨#[98]⟩ : ByteArray)).bind fun bt171 => (if t156 = 24 then (if t157 = 0 then (if (t161.length : Int) = 64 then (if 7 ≤ (t161.length : Int) then (if (strOfNums (t161.take 7)).toList = ([1, 0, 1, 1, 97, 1, 120] : List UInt8) then (if t164 = 0 then (if bt171.1 = 1 then (some bt171.2) else (some false)) else (some false)) else (some false)) else (none)) else (some false)) else (some false)) else (some false))) = some r := by first | (rw [hy165]; with_reducible exact H) | (have H2_ := (Option.bind_some _ _).symm.trans H; rw [hy165]; with_reducible exact H2_) | (have H2_ := (Option.bind_some _ _).symm.trans H; with_reducible exact H2_) | with_reducible exact H | (rw [hy165]; exact H) | exact H
 have Ny165 := Aside0.mk hy165
 clear hy165
 obtain ⟨y168, hy168⟩ : ∃ y_ : List Int, y_ = (([1, 2, 3] : List Int)) := ⟨_, rfl⟩
 replace H : ((node_Place.f k false ([] : List (S42)) y165 y168 (⟨#[98]⟩ : ByteArray)).bind fun bt171 => (if t156 = 24 then (if t157 = 0 then (if (t161.length : Int) = 64 then (if 7 ≤ (t161.length : Int) then (if (strOfNums (t161.take 7)).toList = ([1, 0, 1, 1, 97, 1, 120] : List UInt8) then (if t164 = 0 then (if bt171.1 = 1 then (some bt171.2) else (some false)) else (some false)) else (some false)) else (none)) else (some false)) else (some false)) else (some false))) = some r := by first | (rw [hy168]; with_reducible exact H) | (have H2_ := (Option.bind_some _ _).symm.trans H; rw [hy168]; with_reducible exact H2_) | (have H2_ := (Option.bind_some _ _).symm.trans H; with_reducible exact H2_) | with_reducible exact H | (rw [hy168]; exact H) | exact H
 have Ny168 := Aside0.mk hy168
 clear hy168
 replace H := Option.bind_eq_some_iff.mp H
 obtain ⟨⟨t171, t172⟩, A30, H⟩ := H
 replace H : (if t156 = 24 then (if t157 = 0 then (if (t161.length : Int) = 64 then (if 7 ≤ (t161.length : Int) then (if (strOfNums (t161.take 7)).toList = ([1, 0, 1, 1, 97, 1, 120] : List UInt8) then (if t164 = 0 then (if t171 = 1 then (some t172) else (some false)) else (some false)) else (some false)) else (none)) else (some false)) else (some false)) else (some false)) = some r := H
 have A3 := Aside0.mk A30
 clear A30
 by_cases c4 : t156 = 24
 ·rw [if_pos c4] at H
  have c4b0 : (t156 == 24) = true := beq_iff_eq.mpr c4
  have c4b1 : (t156 != 24) = false := bne_eq_false_iff_eq.mpr c4
  clear c4
  by_cases c5 : t157 = 0
  ·rw [if_pos c5] at H
   have c5b0 : (t157 == 0) = true := beq_iff_eq.mpr c5
   have c5b1 : (t157 != 0) = false := bne_eq_false_iff_eq.mpr c5
   clear c5
   by_cases c6 : (t161.length : Int) = 64
   ·rw [if_pos c6] at H
    have c6b0 : ((t161.length : Int) == 64) = true := beq_iff_eq.mpr c6
    have c6b1 : ((t161.length : Int) != 64) = false := bne_eq_false_iff_eq.mpr c6
    clear c6
    by_cases c7 : 7 ≤ (t161.length : Int)
    ·rw [if_pos c7] at H
     have c7b0 := eq_true c7
     have c7b1 : decide (7 ≤ (t161.length : Int)) = true := decide_eq_true c7
     clear c7
     obtain ⟨y173, hy173⟩ : ∃ y_ : List Int, y_ = (t161.take 7) := ⟨_, rfl⟩
     replace H : (if (strOfNums y173).toList = ([1, 0, 1, 1, 97, 1, 120] : List UInt8) then (if t164 = 0 then (if t171 = 1 then (some t172) else (some false)) else (some false)) else (some false)) = some r := by first | (rw [hy173]; with_reducible exact H) | (have H2_ := (Option.bind_some _ _).symm.trans H; rw [hy173]; with_reducible exact H2_) | (have H2_ := (Option.bind_some _ _).symm.trans H; with_reducible exact H2_) | with_reducible exact H | (rw [hy173]; exact H) | exact H
     have Ny173 := Aside0.mk hy173
     clear hy173
     by_cases c8 : (strOfNums y173).toList = ([1, 0, 1, 1, 97, 1, 120] : List UInt8)
     ·rw [if_pos c8] at H
      have c8b0 : ((strOfNums y173).toList == ([1, 0, 1, 1, 97, 1, 120] : List UInt8)) = true := beq_iff_eq.mpr c8
      have c8b1 : ((strOfNums y173).toList != ([1, 0, 1, 1, 97, 1, 120] : List UInt8)) = false := bne_eq_false_iff_eq.mpr c8
      clear c8
      by_cases c9 : t164 = 0
      ·rw [if_pos c9] at H
       have c9b0 : (t164 == 0) = true := beq_iff_eq.mpr c9
       have c9b1 : (t164 != 0) = false := bne_eq_false_iff_eq.mpr c9
       clear c9
       by_cases c10 : t171 = 1
       ·rw [if_pos c10] at H
        have c10b0 : (t171 == 1) = true := beq_iff_eq.mpr c10
        have c10b1 : (t171 != 1) = false := bne_eq_false_iff_eq.mpr c10
        clear c10
        obtain rfl := Option.some.inj H
        go_enter Try.func16, Try.ntmps16
        go_wp2_with (first | ((with_reducible refine gate_callee (f := 12) rfl ?_); refine goesL_ (some 8) rfl rfl Try.func12 (by kernel_rfl) rfl #[.int .i64 128] rfl (by (try simp only [List.map_toArray, List.map_cons, List.map_nil]); first | done | rfl | (simp only [List.length_drop, List.length_take]; rfl)) ?_; (with_reducible refine (node_Most.calls 128 t156 t157 _ A1.out).mono ?_); rintro e w' ⟨rfl, ⟨nd, rfl⟩⟩; refine ⟨_, rfl, ?_⟩) | ((with_reducible refine gate_dst (N := 13) rfl ?_); (try (refine gate_guard (by rfl) ?_; dsimp only)); refine Kd.R_lit k42 _ 42 ?hg (N := 13) ?hd (xs := ([(⟨(⟨#[97]⟩ : ByteArray), (⟨#[120]⟩ : ByteArray)⟩ : S42)] : List (S42))) (inner := [.string (⟨#[97]⟩ : ByteArray), .string (⟨#[120]⟩ : ByteArray)]) (ok := fun _ => True) (okp := fun _ => True) ?hr ?hp (fun _ hk => hk) trivial (Below.refl _ _) (Nat.le_refl _) (by simp) ?_; (case hd => rfl); (case hg => rfl); (case hr => first | (go_simp; done) | (go_simp; rfl)); (case hp => exact (Reps.c2 (show Kd.M k42 _ _ _ (⟨(⟨#[97]⟩ : ByteArray), (⟨#[120]⟩ : ByteArray)⟩ : S42) [.string (⟨#[97]⟩ : ByteArray), .string (⟨#[120]⟩ : ByteArray)] from (k42_mkM _ _ _ (⟨(⟨#[97]⟩ : ByteArray), (⟨#[120]⟩ : ByteArray)⟩ : S42) )) (Reps.none _ _))); intro v159 w11 ho12 hb hg_ hnew_; clear hg_ hnew_; (first | rw [← Ny158.out] at ho12 | (simp only [Int.reduceToNat] at ho12; rw [← Ny158.out] at ho12)); have n0_ := Aside0.mk (Kd.R_lower ho12 (below_size (by repeat (first | (with_reducible first | exact HB.out | apply below_alloc | apply pw_below_drewN | apply below_drew1) | exact HB.out)))); have n1_ := Aside0.mk (below_step (by repeat (first | (with_reducible first | exact HB.out | apply below_alloc | apply pw_below_drewN | apply below_drew1) | exact HB.out)) hb); clear HB; have HO160 := n0_; have HB := n1_; clear n0_ n1_; clear hb ho12; obtain ⟨Ao13, co13, eo13⟩ := Kd.R_slice HO160.out; subst eo13) | ((with_reducible refine gate_callee (f := 11) rfl ?_); refine goesL_ (some 15) rfl rfl Try.func11 (by kernel_rfl) rfl #[.agg #[.bool true, .slice Ao13 y158.length co13, .slice none 0 0, .slice none 0 0], .int .i64 64] rfl (by (try simp only [List.map_toArray, List.map_cons, List.map_nil]); first | done | rfl | (simp only [List.length_drop, List.length_take]; rfl)) ?_; (refine (node_Bytes.calls k true _ _ y158 _ _ ([] : List ByteArray) _ _ ([] : List Int) 64 t161 t164 _ ?side1 ?side2 ?side3 ?side4 ?side5 ?side6 A2.out).mono ?_); (case side1 => repeat (first | exact (Kd.R_reads' HO160.out).2.2 | (with_reducible refine Kd.C_alloc ?_ _) | (with_reducible refine Kd.C_drewN ?_ _) | (with_reducible refine Kd.C_drew ?_))); (case side2 => exact (Kd.R_reads' HO160.out).2.1); (case side3 => exact Kd.C_nil _ _); (case side4 => exact Nat.le_refl _); (case side5 => exact Kd.C_nil _ _); (case side6 => exact Nat.le_refl _); rintro e w14 ⟨v162, rfl, ho0, hb⟩; refine ⟨_, rfl, ?_⟩; have n0_ := Aside0.mk (Kd.R_below (by (with_reducible repeat (first | apply Kd.R_alloc | apply Kd.R_drewN | apply Kd.R_drew)); exact HO160.out) hb); have n1_ := Aside0.mk (Kd.R_lower ho0 (below_size (by repeat (first | (with_reducible first | exact HB.out | apply below_alloc | apply pw_below_drewN | apply below_drew1) | exact HB.out)))); have n2_ := Aside0.mk (below_step (by repeat (first | (with_reducible first | exact HB.out | apply below_alloc | apply pw_below_drewN | apply below_drew1) | exact HB.out)) hb); clear HO160; clear HB; have HO160 := n0_; have HO163 := n1_; have HB := n2_; clear n0_ n1_ n2_; (try clear hb); (try clear hb2); (try clear hk); (try clear hi); (try clear ho0)) | ((with_reducible refine gate_dst (N := 19) rfl ?_); (try (refine gate_guard (by rfl) ?_; dsimp only)); refine Kd.R_lit Kd.string _ 9 ?hg (N := 19) ?hd (xs := ([(⟨#[98]⟩ : ByteArray), (⟨#[100]⟩ : ByteArray)] : List ByteArray)) (inner := [.string (⟨#[98]⟩ : ByteArray), .string (⟨#[100]⟩ : ByteArray)]) (ok := fun _ => True) (okp := fun _ => True) ?hr ?hp (fun _ hk => hk) trivial (Below.refl _ _) (Nat.le_refl _) (by simp) ?_; (case hd => rfl); (case hg => rfl); (case hr => first | (go_simp; done) | (go_simp; rfl)); (case hp => exact (Reps.one (show Kd.M Kd.string _ _ _ (⟨#[98]⟩ : ByteArray) [.string (⟨#[98]⟩ : ByteArray)] from rfl) (Reps.one (show Kd.M Kd.string _ _ _ (⟨#[100]⟩ : ByteArray) [.string (⟨#[100]⟩ : ByteArray)] from rfl) (Reps.none _ _)))); intro v166 w15 ho16 hb hg_ hnew_; clear hg_ hnew_; (first | rw [← Ny165.out] at ho16 | (simp only [Int.reduceToNat] at ho16; rw [← Ny165.out] at ho16)); have n0_ := Aside0.mk (Kd.R_below (by (with_reducible repeat (first | apply Kd.R_alloc | apply Kd.R_drewN | apply Kd.R_drew)); exact HO160.out) hb); have n1_ := Aside0.mk (Kd.R_below (by (with_reducible repeat (first | apply Kd.R_alloc | apply Kd.R_drewN | apply Kd.R_drew)); exact HO163.out) hb); have n2_ := Aside0.mk (Kd.R_lower ho16 (below_size (by repeat (first | (with_reducible first | exact HB.out | apply below_alloc | apply pw_below_drewN | apply below_drew1) | exact HB.out)))); have n3_ := Aside0.mk (below_step (by repeat (first | (with_reducible first | exact HB.out | apply below_alloc | apply pw_below_drewN | apply below_drew1) | exact HB.out)) hb); clear HO160; clear HO163; clear HB; have HO160 := n0_; have HO163 := n1_; have HO167 := n2_; have HB := n3_; clear n0_ n1_ n2_ n3_; clear hb ho16) | ((with_reducible refine gate_dst (N := 20) rfl ?_); (try (refine gate_guard (by rfl) ?_; dsimp only)); refine Kd.R_lit (Kd.int .i64) _ 3 ?hg (N := 20) ?hd (xs := ([1, 2, 3] : List Int)) (inner := [.int .i64 1, .int .i64 2, .int .i64 3]) (ok := fun _ => True) (okp := fun _ => True) ?hr ?hp (fun _ hk => hk) trivial (Below.refl _ _) (Nat.le_refl _) (by simp) ?_; (case hd => rfl); (case hg => rfl); (case hr => first | (go_simp; done) | (go_simp; rfl)); (case hp => exact (Reps.one (show Kd.M (Kd.int .i64) _ _ _ 1 [.int .i64 1] from rfl) (Reps.one (show Kd.M (Kd.int .i64) _ _ _ 2 [.int .i64 2] from rfl) (Reps.one (show Kd.M (Kd.int .i64) _ _ _ 3 [.int .i64 3] from rfl) (Reps.none _ _))))); intro v169 w17 ho18 hb hg_ hnew_; clear hg_ hnew_; (first | rw [← Ny168.out] at ho18 | (simp only [Int.reduceToNat] at ho18; rw [← Ny168.out] at ho18)); have n0_ := Aside0.mk (Kd.R_below (by (with_reducible repeat (first | apply Kd.R_alloc | apply Kd.R_drewN | apply Kd.R_drew)); exact HO160.out) hb); have n1_ := Aside0.mk (Kd.R_below (by (with_reducible repeat (first | apply Kd.R_alloc | apply Kd.R_drewN | apply Kd.R_drew)); exact HO163.out) hb); have n2_ := Aside0.mk (Kd.R_below (by (with_reducible repeat (first | apply Kd.R_alloc | apply Kd.R_drewN | apply Kd.R_drew)); exact HO167.out) hb); have n3_ := Aside0.mk (Kd.R_lower ho18 (below_size (by repeat (first | (with_reducible first | exact HB.out | apply below_alloc | apply pw_below_drewN | apply below_drew1) | exact HB.out)))); have n4_ := Aside0.mk (below_step (by repeat (first | (with_reducible first | exact HB.out | apply below_alloc | apply pw_below_drewN | apply below_drew1) | exact HB.out)) hb); clear HO160; clear HO163; clear HO167; clear HB; have HO160 := n0_; have HO163 := n1_; have HO167 := n2_; have HO170 := n3_; have HB := n4_; clear n0_ n1_ n2_ n3_ n4_; clear hb ho18; obtain ⟨Ao19, co19, eo19⟩ := Kd.R_slice HO170.out; subst eo19; obtain ⟨Ao20, co20, eo20⟩ := Kd.R_slice HO167.out; subst eo20) | ((with_reducible refine gate_callee (f := 19) rfl ?_); refine goesL_ (some 22) rfl rfl Try.func19 (by kernel_rfl) rfl #[.agg #[.bool false, .slice none 0 0, .slice Ao20 y165.length co20, .slice Ao19 y168.length co19], .string (⟨#[98]⟩ : ByteArray)] rfl (by (try simp only [List.map_toArray, List.map_cons, List.map_nil]); first | done | rfl | (simp only [List.length_drop, List.length_take]; rfl)) ?_; (refine (node_Place.calls k false _ _ ([] : List (S42)) _ _ y165 _ _ y168 (⟨#[98]⟩ : ByteArray) t171 t172 _ ?side1 ?side2 ?side3 ?side4 ?side5 ?side6 A3.out).mono ?_); (case side1 => exact Kd.C_nil _ _); (case side2 => exact Nat.le_refl _); (case side3 => repeat (first | exact (Kd.R_reads' HO167.out).2.2 | (with_reducible refine Kd.C_alloc ?_ _) | (with_reducible refine Kd.C_drewN ?_ _) | (with_reducible refine Kd.C_drew ?_))); (case side4 => exact (Kd.R_reads' HO167.out).2.1); (case side5 => repeat (first | exact (Kd.R_reads' HO170.out).2.2 | (with_reducible refine Kd.C_alloc ?_ _) | (with_reducible refine Kd.C_drewN ?_ _) | (with_reducible refine Kd.C_drew ?_))); (case side6 => exact (Kd.R_reads' HO170.out).2.1); rintro e w21 ⟨rfl, hb⟩; refine ⟨_, rfl, ?_⟩; have n0_ := Aside0.mk (Kd.R_below (by (with_reducible repeat (first | apply Kd.R_alloc | apply Kd.R_drewN | apply Kd.R_drew)); exact HO160.out) hb); have n1_ := Aside0.mk (Kd.R_below (by (with_reducible repeat (first | apply Kd.R_alloc | apply Kd.R_drewN | apply Kd.R_drew)); exact HO163.out) hb); have n2_ := Aside0.mk (Kd.R_below (by (with_reducible repeat (first | apply Kd.R_alloc | apply Kd.R_drewN | apply Kd.R_drew)); exact HO167.out) hb); have n3_ := Aside0.mk (Kd.R_below (by (with_reducible repeat (first | apply Kd.R_alloc | apply Kd.R_drewN | apply Kd.R_drew)); exact HO170.out) hb); have n4_ := Aside0.mk (below_step (by repeat (first | (with_reducible first | exact HB.out | apply below_alloc | apply pw_below_drewN | apply below_drew1) | exact HB.out)) hb); clear HO160; clear HO163; clear HO167; clear HO170; clear HB; have HO160 := n0_; have HO163 := n1_; have HO167 := n2_; have HO170 := n3_; have HB := n4_; clear n0_ n1_ n2_ n3_ n4_; (try clear hb); (try clear hb2); (try clear hk); (try clear hi); obtain ⟨Ao22, co22, eo22⟩ := Kd.R_slice HO163.out; subst eo22; have q23 : (7 : Int) ≤ ((t161.length : Int) : Int) := of_decide_eq_true (by first | (with_reducible assumption) | assumption); obtain ⟨i023, hi023, _, hsz23, _⟩ := info_parts info5; have hroom23 : t161.length ≤ co22 := (Kd.R_reads' HO163.out).2.1; have hC23 : Kd.C (Kd.int .u8) _ Ao22 t161.length t161 := (Kd.R_reads' HO163.out).2.2; have hcut23 := cut_to (P := Try.prog) 30 5 .i64 Try.underlying30 hi023 Ao22 t161.length co22 7 (by omega) q23 hroom23; have hr23 := Kd.C_take (m := 7) hC23 (by omega); have hy23 : y173.length = (7 : Int).toNat := (by rw [Ny173.out, List.length_take]; omega); rw [← Ny173.out] at hr23; rw [← hy23] at hcut23; have HR176 := Aside0.mk hr23; have HC176 := Aside0.mk (show y173.length ≤ co22 from by omega); clear hr23 hC23 hroom23 hi023 hsz23; have KY23 := Aside0.mk hy23; clear hy23; have KL23 := Aside0.mk (show 7 ≤ t161.length from by omega); replace q23 := eq_true q23; have hcv24 := Kd.C_string (P := Try.prog) (A := Ao22) (c := co22) Try.underlying30 Try.underlying5 Try.underlying9 (by repeat (first | (with_reducible exact HR176.out) | (with_reducible refine Kd.C_alloc ?_ _) | (with_reducible refine Kd.C_drewN ?_ _) | (with_reducible refine Kd.C_drew ?_) | exact HR176.out))))
        go_ret
        exact ⟨by first | rfl | (simp [errW_none, errW_some] <;> rfl) | (simp [*, errW_none, errW_some] <;> rfl), by repeat (first | (with_reducible first | exact HB.out | apply below_alloc | apply pw_below_drewN | apply below_drew1) | exact HB.out)⟩
       ·rw [if_neg c10] at H
        have c10b0 : (t171 == 1) = false := beq_eq_false_iff_ne.mpr c10
        have c10b1 : (t171 != 1) = true := bne_iff_ne.mpr c10
        obtain rfl := Option.some.inj H
        go_enter Try.func16, Try.ntmps16
        go_wp2_with (first | ((with_reducible refine gate_callee (f := 12) rfl ?_); refine goesL_ (some 8) rfl rfl Try.func12 (by kernel_rfl) rfl #[.int .i64 128] rfl (by (try simp only [List.map_toArray, List.map_cons, List.map_nil]); first | done | rfl | (simp only [List.length_drop, List.length_take]; rfl)) ?_; (with_reducible refine (node_Most.calls 128 t156 t157 _ A1.out).mono ?_); rintro e w' ⟨rfl, ⟨nd, rfl⟩⟩; refine ⟨_, rfl, ?_⟩) | ((with_reducible refine gate_dst (N := 13) rfl ?_); (try (refine gate_guard (by rfl) ?_; dsimp only)); refine Kd.R_lit k42 _ 42 ?hg (N := 13) ?hd (xs := ([(⟨(⟨#[97]⟩ : ByteArray), (⟨#[120]⟩ : ByteArray)⟩ : S42)] : List (S42))) (inner := [.string (⟨#[97]⟩ : ByteArray), .string (⟨#[120]⟩ : ByteArray)]) (ok := fun _ => True) (okp := fun _ => True) ?hr ?hp (fun _ hk => hk) trivial (Below.refl _ _) (Nat.le_refl _) (by simp) ?_; (case hd => rfl); (case hg => rfl); (case hr => first | (go_simp; done) | (go_simp; rfl)); (case hp => exact (Reps.c2 (show Kd.M k42 _ _ _ (⟨(⟨#[97]⟩ : ByteArray), (⟨#[120]⟩ : ByteArray)⟩ : S42) [.string (⟨#[97]⟩ : ByteArray), .string (⟨#[120]⟩ : ByteArray)] from (k42_mkM _ _ _ (⟨(⟨#[97]⟩ : ByteArray), (⟨#[120]⟩ : ByteArray)⟩ : S42) )) (Reps.none _ _))); intro v159 w25 ho26 hb hg_ hnew_; clear hg_ hnew_; (first | rw [← Ny158.out] at ho26 | (simp only [Int.reduceToNat] at ho26; rw [← Ny158.out] at ho26)); have n0_ := Aside0.mk (Kd.R_lower ho26 (below_size (by repeat (first | (with_reducible first | exact HB.out | apply below_alloc | apply pw_below_drewN | apply below_drew1) | exact HB.out)))); have n1_ := Aside0.mk (below_step (by repeat (first | (with_reducible first | exact HB.out | apply below_alloc | apply pw_below_drewN | apply below_drew1) | exact HB.out)) hb); clear HB; have HO160 := n0_; have HB := n1_; clear n0_ n1_; clear hb ho26; obtain ⟨Ao27, co27, eo27⟩ := Kd.R_slice HO160.out; subst eo27) | ((with_reducible refine gate_callee (f := 11) rfl ?_); refine goesL_ (some 15) rfl rfl Try.func11 (by kernel_rfl) rfl #[.agg #[.bool true, .slice Ao27 y158.length co27, .slice none 0 0, .slice none 0 0], .int .i64 64] rfl (by (try simp only [List.map_toArray, List.map_cons, List.map_nil]); first | done | rfl | (simp only [List.length_drop, List.length_take]; rfl)) ?_; (refine (node_Bytes.calls k true _ _ y158 _ _ ([] : List ByteArray) _ _ ([] : List Int) 64 t161 t164 _ ?side1 ?side2 ?side3 ?side4 ?side5 ?side6 A2.out).mono ?_); (case side1 => repeat (first | exact (Kd.R_reads' HO160.out).2.2 | (with_reducible refine Kd.C_alloc ?_ _) | (with_reducible refine Kd.C_drewN ?_ _) | (with_reducible refine Kd.C_drew ?_))); (case side2 => exact (Kd.R_reads' HO160.out).2.1); (case side3 => exact Kd.C_nil _ _); (case side4 => exact Nat.le_refl _); (case side5 => exact Kd.C_nil _ _); (case side6 => exact Nat.le_refl _); rintro e w28 ⟨v162, rfl, ho0, hb⟩; refine ⟨_, rfl, ?_⟩; have n0_ := Aside0.mk (Kd.R_below (by (with_reducible repeat (first | apply Kd.R_alloc | apply Kd.R_drewN | apply Kd.R_drew)); exact HO160.out) hb); have n1_ := Aside0.mk (Kd.R_lower ho0 (below_size (by repeat (first | (with_reducible first | exact HB.out | apply below_alloc | apply pw_below_drewN | apply below_drew1) | exact HB.out)))); have n2_ := Aside0.mk (below_step (by repeat (first | (with_reducible first | exact HB.out | apply below_alloc | apply pw_below_drewN | apply below_drew1) | exact HB.out)) hb); clear HO160; clear HB; have HO160 := n0_; have HO163 := n1_; have HB := n2_; clear n0_ n1_ n2_; (try clear hb); (try clear hb2); (try clear hk); (try clear hi); (try clear ho0)) | ((with_reducible refine gate_dst (N := 19) rfl ?_); (try (refine gate_guard (by rfl) ?_; dsimp only)); refine Kd.R_lit Kd.string _ 9 ?hg (N := 19) ?hd (xs := ([(⟨#[98]⟩ : ByteArray), (⟨#[100]⟩ : ByteArray)] : List ByteArray)) (inner := [.string (⟨#[98]⟩ : ByteArray), .string (⟨#[100]⟩ : ByteArray)]) (ok := fun _ => True) (okp := fun _ => True) ?hr ?hp (fun _ hk => hk) trivial (Below.refl _ _) (Nat.le_refl _) (by simp) ?_; (case hd => rfl); (case hg => rfl); (case hr => first | (go_simp; done) | (go_simp; rfl)); (case hp => exact (Reps.one (show Kd.M Kd.string _ _ _ (⟨#[98]⟩ : ByteArray) [.string (⟨#[98]⟩ : ByteArray)] from rfl) (Reps.one (show Kd.M Kd.string _ _ _ (⟨#[100]⟩ : ByteArray) [.string (⟨#[100]⟩ : ByteArray)] from rfl) (Reps.none _ _)))); intro v166 w29 ho30 hb hg_ hnew_; clear hg_ hnew_; (first | rw [← Ny165.out] at ho30 | (simp only [Int.reduceToNat] at ho30; rw [← Ny165.out] at ho30)); have n0_ := Aside0.mk (Kd.R_below (by (with_reducible repeat (first | apply Kd.R_alloc | apply Kd.R_drewN | apply Kd.R_drew)); exact HO160.out) hb); have n1_ := Aside0.mk (Kd.R_below (by (with_reducible repeat (first | apply Kd.R_alloc | apply Kd.R_drewN | apply Kd.R_drew)); exact HO163.out) hb); have n2_ := Aside0.mk (Kd.R_lower ho30 (below_size (by repeat (first | (with_reducible first | exact HB.out | apply below_alloc | apply pw_below_drewN | apply below_drew1) | exact HB.out)))); have n3_ := Aside0.mk (below_step (by repeat (first | (with_reducible first | exact HB.out | apply below_alloc | apply pw_below_drewN | apply below_drew1) | exact HB.out)) hb); clear HO160; clear HO163; clear HB; have HO160 := n0_; have HO163 := n1_; have HO167 := n2_; have HB := n3_; clear n0_ n1_ n2_ n3_; clear hb ho30) | ((with_reducible refine gate_dst (N := 20) rfl ?_); (try (refine gate_guard (by rfl) ?_; dsimp only)); refine Kd.R_lit (Kd.int .i64) _ 3 ?hg (N := 20) ?hd (xs := ([1, 2, 3] : List Int)) (inner := [.int .i64 1, .int .i64 2, .int .i64 3]) (ok := fun _ => True) (okp := fun _ => True) ?hr ?hp (fun _ hk => hk) trivial (Below.refl _ _) (Nat.le_refl _) (by simp) ?_; (case hd => rfl); (case hg => rfl); (case hr => first | (go_simp; done) | (go_simp; rfl)); (case hp => exact (Reps.one (show Kd.M (Kd.int .i64) _ _ _ 1 [.int .i64 1] from rfl) (Reps.one (show Kd.M (Kd.int .i64) _ _ _ 2 [.int .i64 2] from rfl) (Reps.one (show Kd.M (Kd.int .i64) _ _ _ 3 [.int .i64 3] from rfl) (Reps.none _ _))))); intro v169 w31 ho32 hb hg_ hnew_; clear hg_ hnew_; (first | rw [← Ny168.out] at ho32 | (simp only [Int.reduceToNat] at ho32; rw [← Ny168.out] at ho32)); have n0_ := Aside0.mk (Kd.R_below (by (with_reducible repeat (first | apply Kd.R_alloc | apply Kd.R_drewN | apply Kd.R_drew)); exact HO160.out) hb); have n1_ := Aside0.mk (Kd.R_below (by (with_reducible repeat (first | apply Kd.R_alloc | apply Kd.R_drewN | apply Kd.R_drew)); exact HO163.out) hb); have n2_ := Aside0.mk (Kd.R_below (by (with_reducible repeat (first | apply Kd.R_alloc | apply Kd.R_drewN | apply Kd.R_drew)); exact HO167.out) hb); have n3_ := Aside0.mk (Kd.R_lower ho32 (below_size (by repeat (first | (with_reducible first | exact HB.out | apply below_alloc | apply pw_below_drewN | apply below_drew1) | exact HB.out)))); have n4_ := Aside0.mk (below_step (by repeat (first | (with_reducible first | exact HB.out | apply below_alloc | apply pw_below_drewN | apply below_drew1) | exact HB.out)) hb); clear HO160; clear HO163; clear HO167; clear HB; have HO160 := n0_; have HO163 := n1_; have HO167 := n2_; have HO170 := n3_; have HB := n4_; clear n0_ n1_ n2_ n3_ n4_; clear hb ho32; obtain ⟨Ao33, co33, eo33⟩ := Kd.R_slice HO170.out; subst eo33; obtain ⟨Ao34, co34, eo34⟩ := Kd.R_slice HO167.out; subst eo34) | ((with_reducible refine gate_callee (f := 19) rfl ?_); refine goesL_ (some 22) rfl rfl Try.func19 (by kernel_rfl) rfl #[.agg #[.bool false, .slice none 0 0, .slice Ao34 y165.length co34, .slice Ao33 y168.length co33], .string (⟨#[98]⟩ : ByteArray)] rfl (by (try simp only [List.map_toArray, List.map_cons, List.map_nil]); first | done | rfl | (simp only [List.length_drop, List.length_take]; rfl)) ?_; (refine (node_Place.calls k false _ _ ([] : List (S42)) _ _ y165 _ _ y168 (⟨#[98]⟩ : ByteArray) t171 t172 _ ?side1 ?side2 ?side3 ?side4 ?side5 ?side6 A3.out).mono ?_); (case side1 => exact Kd.C_nil _ _); (case side2 => exact Nat.le_refl _); (case side3 => repeat (first | exact (Kd.R_reads' HO167.out).2.2 | (with_reducible refine Kd.C_alloc ?_ _) | (with_reducible refine Kd.C_drewN ?_ _) | (with_reducible refine Kd.C_drew ?_))); (case side4 => exact (Kd.R_reads' HO167.out).2.1); (case side5 => repeat (first | exact (Kd.R_reads' HO170.out).2.2 | (with_reducible refine Kd.C_alloc ?_ _) | (with_reducible refine Kd.C_drewN ?_ _) | (with_reducible refine Kd.C_drew ?_))); (case side6 => exact (Kd.R_reads' HO170.out).2.1); rintro e w35 ⟨rfl, hb⟩; refine ⟨_, rfl, ?_⟩; have n0_ := Aside0.mk (Kd.R_below (by (with_reducible repeat (first | apply Kd.R_alloc | apply Kd.R_drewN | apply Kd.R_drew)); exact HO160.out) hb); have n1_ := Aside0.mk (Kd.R_below (by (with_reducible repeat (first | apply Kd.R_alloc | apply Kd.R_drewN | apply Kd.R_drew)); exact HO163.out) hb); have n2_ := Aside0.mk (Kd.R_below (by (with_reducible repeat (first | apply Kd.R_alloc | apply Kd.R_drewN | apply Kd.R_drew)); exact HO167.out) hb); have n3_ := Aside0.mk (Kd.R_below (by (with_reducible repeat (first | apply Kd.R_alloc | apply Kd.R_drewN | apply Kd.R_drew)); exact HO170.out) hb); have n4_ := Aside0.mk (below_step (by repeat (first | (with_reducible first | exact HB.out | apply below_alloc | apply pw_below_drewN | apply below_drew1) | exact HB.out)) hb); clear HO160; clear HO163; clear HO167; clear HO170; clear HB; have HO160 := n0_; have HO163 := n1_; have HO167 := n2_; have HO170 := n3_; have HB := n4_; clear n0_ n1_ n2_ n3_ n4_; (try clear hb); (try clear hb2); (try clear hk); (try clear hi); obtain ⟨Ao36, co36, eo36⟩ := Kd.R_slice HO163.out; subst eo36; have q37 : (7 : Int) ≤ ((t161.length : Int) : Int) := of_decide_eq_true (by first | (with_reducible assumption) | assumption); obtain ⟨i037, hi037, _, hsz37, _⟩ := info_parts info5; have hroom37 : t161.length ≤ co36 := (Kd.R_reads' HO163.out).2.1; have hC37 : Kd.C (Kd.int .u8) _ Ao36 t161.length t161 := (Kd.R_reads' HO163.out).2.2; have hcut37 := cut_to (P := Try.prog) 30 5 .i64 Try.underlying30 hi037 Ao36 t161.length co36 7 (by omega) q37 hroom37; have hr37 := Kd.C_take (m := 7) hC37 (by omega); have hy37 : y173.length = (7 : Int).toNat := (by rw [Ny173.out, List.length_take]; omega); rw [← Ny173.out] at hr37; rw [← hy37] at hcut37; have HR176 := Aside0.mk hr37; have HC176 := Aside0.mk (show y173.length ≤ co36 from by omega); clear hr37 hC37 hroom37 hi037 hsz37; have KY37 := Aside0.mk hy37; clear hy37; have KL37 := Aside0.mk (show 7 ≤ t161.length from by omega); replace q37 := eq_true q37; have hcv38 := Kd.C_string (P := Try.prog) (A := Ao36) (c := co36) Try.underlying30 Try.underlying5 Try.underlying9 (by repeat (first | (with_reducible exact HR176.out) | (with_reducible refine Kd.C_alloc ?_ _) | (with_reducible refine Kd.C_drewN ?_ _) | (with_reducible refine Kd.C_drew ?_) | exact HR176.out))))
        go_ret
        exact ⟨by first | rfl | (simp [errW_none, errW_some] <;> rfl) | (simp [*, errW_none, errW_some] <;> rfl), by repeat (first | (with_reducible first | exact HB.out | apply below_alloc | apply pw_below_drewN | apply below_drew1) | exact HB.out)⟩
      ·rw [if_neg c9] at H
       have c9b0 : (t164 == 0) = false := beq_eq_false_iff_ne.mpr c9
       have c9b1 : (t164 != 0) = true := bne_iff_ne.mpr c9
       obtain rfl := Option.some.inj H
       go_enter Try.func16, Try.ntmps16
       go_wp2_with (first | ((with_reducible refine gate_callee (f := 12) rfl ?_); refine goesL_ (some 8) rfl rfl Try.func12 (by kernel_rfl) rfl #[.int .i64 128] rfl (by (try simp only [List.map_toArray, List.map_cons, List.map_nil]); first | done | rfl | (simp only [List.length_drop, List.length_take]; rfl)) ?_; (with_reducible refine (node_Most.calls 128 t156 t157 _ A1.out).mono ?_); rintro e w' ⟨rfl, ⟨nd, rfl⟩⟩; refine ⟨_, rfl, ?_⟩) | ((with_reducible refine gate_dst (N := 13) rfl ?_); (try (refine gate_guard (by rfl) ?_; dsimp only)); refine Kd.R_lit k42 _ 42 ?hg (N := 13) ?hd (xs := ([(⟨(⟨#[97]⟩ : ByteArray), (⟨#[120]⟩ : ByteArray)⟩ : S42)] : List (S42))) (inner := [.string (⟨#[97]⟩ : ByteArray), .string (⟨#[120]⟩ : ByteArray)]) (ok := fun _ => True) (okp := fun _ => True) ?hr ?hp (fun _ hk => hk) trivial (Below.refl _ _) (Nat.le_refl _) (by simp) ?_; (case hd => rfl); (case hg => rfl); (case hr => first | (go_simp; done) | (go_simp; rfl)); (case hp => exact (Reps.c2 (show Kd.M k42 _ _ _ (⟨(⟨#[97]⟩ : ByteArray), (⟨#[120]⟩ : ByteArray)⟩ : S42) [.string (⟨#[97]⟩ : ByteArray), .string (⟨#[120]⟩ : ByteArray)] from (k42_mkM _ _ _ (⟨(⟨#[97]⟩ : ByteArray), (⟨#[120]⟩ : ByteArray)⟩ : S42) )) (Reps.none _ _))); intro v159 w39 ho40 hb hg_ hnew_; clear hg_ hnew_; (first | rw [← Ny158.out] at ho40 | (simp only [Int.reduceToNat] at ho40; rw [← Ny158.out] at ho40)); have n0_ := Aside0.mk (Kd.R_lower ho40 (below_size (by repeat (first | (with_reducible first | exact HB.out | apply below_alloc | apply pw_below_drewN | apply below_drew1) | exact HB.out)))); have n1_ := Aside0.mk (below_step (by repeat (first | (with_reducible first | exact HB.out | apply below_alloc | apply pw_below_drewN | apply below_drew1) | exact HB.out)) hb); clear HB; have HO160 := n0_; have HB := n1_; clear n0_ n1_; clear hb ho40; obtain ⟨Ao41, co41, eo41⟩ := Kd.R_slice HO160.out; subst eo41) | ((with_reducible refine gate_callee (f := 11) rfl ?_); refine goesL_ (some 15) rfl rfl Try.func11 (by kernel_rfl) rfl #[.agg #[.bool true, .slice Ao41 y158.length co41, .slice none 0 0, .slice none 0 0], .int .i64 64] rfl (by (try simp only [List.map_toArray, List.map_cons, List.map_nil]); first | done | rfl | (simp only [List.length_drop, List.length_take]; rfl)) ?_; (refine (node_Bytes.calls k true _ _ y158 _ _ ([] : List ByteArray) _ _ ([] : List Int) 64 t161 t164 _ ?side1 ?side2 ?side3 ?side4 ?side5 ?side6 A2.out).mono ?_); (case side1 => repeat (first | exact (Kd.R_reads' HO160.out).2.2 | (with_reducible refine Kd.C_alloc ?_ _) | (with_reducible refine Kd.C_drewN ?_ _) | (with_reducible refine Kd.C_drew ?_))); (case side2 => exact (Kd.R_reads' HO160.out).2.1); (case side3 => exact Kd.C_nil _ _); (case side4 => exact Nat.le_refl _); (case side5 => exact Kd.C_nil _ _); (case side6 => exact Nat.le_refl _); rintro e w42 ⟨v162, rfl, ho0, hb⟩; refine ⟨_, rfl, ?_⟩; have n0_ := Aside0.mk (Kd.R_below (by (with_reducible repeat (first | apply Kd.R_alloc | apply Kd.R_drewN | apply Kd.R_drew)); exact HO160.out) hb); have n1_ := Aside0.mk (Kd.R_lower ho0 (below_size (by repeat (first | (with_reducible first | exact HB.out | apply below_alloc | apply pw_below_drewN | apply below_drew1) | exact HB.out)))); have n2_ := Aside0.mk (below_step (by repeat (first | (with_reducible first | exact HB.out | apply below_alloc | apply pw_below_drewN | apply below_drew1) | exact HB.out)) hb); clear HO160; clear HB; have HO160 := n0_; have HO163 := n1_; have HB := n2_; clear n0_ n1_ n2_; (try clear hb); (try clear hb2); (try clear hk); (try clear hi); (try clear ho0)) | ((with_reducible refine gate_dst (N := 19) rfl ?_); (try (refine gate_guard (by rfl) ?_; dsimp only)); refine Kd.R_lit Kd.string _ 9 ?hg (N := 19) ?hd (xs := ([(⟨#[98]⟩ : ByteArray), (⟨#[100]⟩ : ByteArray)] : List ByteArray)) (inner := [.string (⟨#[98]⟩ : ByteArray), .string (⟨#[100]⟩ : ByteArray)]) (ok := fun _ => True) (okp := fun _ => True) ?hr ?hp (fun _ hk => hk) trivial (Below.refl _ _) (Nat.le_refl _) (by simp) ?_; (case hd => rfl); (case hg => rfl); (case hr => first | (go_simp; done) | (go_simp; rfl)); (case hp => exact (Reps.one (show Kd.M Kd.string _ _ _ (⟨#[98]⟩ : ByteArray) [.string (⟨#[98]⟩ : ByteArray)] from rfl) (Reps.one (show Kd.M Kd.string _ _ _ (⟨#[100]⟩ : ByteArray) [.string (⟨#[100]⟩ : ByteArray)] from rfl) (Reps.none _ _)))); intro v166 w43 ho44 hb hg_ hnew_; clear hg_ hnew_; (first | rw [← Ny165.out] at ho44 | (simp only [Int.reduceToNat] at ho44; rw [← Ny165.out] at ho44)); have n0_ := Aside0.mk (Kd.R_below (by (with_reducible repeat (first | apply Kd.R_alloc | apply Kd.R_drewN | apply Kd.R_drew)); exact HO160.out) hb); have n1_ := Aside0.mk (Kd.R_below (by (with_reducible repeat (first | apply Kd.R_alloc | apply Kd.R_drewN | apply Kd.R_drew)); exact HO163.out) hb); have n2_ := Aside0.mk (Kd.R_lower ho44 (below_size (by repeat (first | (with_reducible first | exact HB.out | apply below_alloc | apply pw_below_drewN | apply below_drew1) | exact HB.out)))); have n3_ := Aside0.mk (below_step (by repeat (first | (with_reducible first | exact HB.out | apply below_alloc | apply pw_below_drewN | apply below_drew1) | exact HB.out)) hb); clear HO160; clear HO163; clear HB; have HO160 := n0_; have HO163 := n1_; have HO167 := n2_; have HB := n3_; clear n0_ n1_ n2_ n3_; clear hb ho44) | ((with_reducible refine gate_dst (N := 20) rfl ?_); (try (refine gate_guard (by rfl) ?_; dsimp only)); refine Kd.R_lit (Kd.int .i64) _ 3 ?hg (N := 20) ?hd (xs := ([1, 2, 3] : List Int)) (inner := [.int .i64 1, .int .i64 2, .int .i64 3]) (ok := fun _ => True) (okp := fun _ => True) ?hr ?hp (fun _ hk => hk) trivial (Below.refl _ _) (Nat.le_refl _) (by simp) ?_; (case hd => rfl); (case hg => rfl); (case hr => first | (go_simp; done) | (go_simp; rfl)); (case hp => exact (Reps.one (show Kd.M (Kd.int .i64) _ _ _ 1 [.int .i64 1] from rfl) (Reps.one (show Kd.M (Kd.int .i64) _ _ _ 2 [.int .i64 2] from rfl) (Reps.one (show Kd.M (Kd.int .i64) _ _ _ 3 [.int .i64 3] from rfl) (Reps.none _ _))))); intro v169 w45 ho46 hb hg_ hnew_; clear hg_ hnew_; (first | rw [← Ny168.out] at ho46 | (simp only [Int.reduceToNat] at ho46; rw [← Ny168.out] at ho46)); have n0_ := Aside0.mk (Kd.R_below (by (with_reducible repeat (first | apply Kd.R_alloc | apply Kd.R_drewN | apply Kd.R_drew)); exact HO160.out) hb); have n1_ := Aside0.mk (Kd.R_below (by (with_reducible repeat (first | apply Kd.R_alloc | apply Kd.R_drewN | apply Kd.R_drew)); exact HO163.out) hb); have n2_ := Aside0.mk (Kd.R_below (by (with_reducible repeat (first | apply Kd.R_alloc | apply Kd.R_drewN | apply Kd.R_drew)); exact HO167.out) hb); have n3_ := Aside0.mk (Kd.R_lower ho46 (below_size (by repeat (first | (with_reducible first | exact HB.out | apply below_alloc | apply pw_below_drewN | apply below_drew1) | exact HB.out)))); have n4_ := Aside0.mk (below_step (by repeat (first | (with_reducible first | exact HB.out | apply below_alloc | apply pw_below_drewN | apply below_drew1) | exact HB.out)) hb); clear HO160; clear HO163; clear HO167; clear HB; have HO160 := n0_; have HO163 := n1_; have HO167 := n2_; have HO170 := n3_; have HB := n4_; clear n0_ n1_ n2_ n3_ n4_; clear hb ho46; obtain ⟨Ao47, co47, eo47⟩ := Kd.R_slice HO170.out; subst eo47; obtain ⟨Ao48, co48, eo48⟩ := Kd.R_slice HO167.out; subst eo48) | ((with_reducible refine gate_callee (f := 19) rfl ?_); refine goesL_ (some 22) rfl rfl Try.func19 (by kernel_rfl) rfl #[.agg #[.bool false, .slice none 0 0, .slice Ao48 y165.length co48, .slice Ao47 y168.length co47], .string (⟨#[98]⟩ : ByteArray)] rfl (by (try simp only [List.map_toArray, List.map_cons, List.map_nil]); first | done | rfl | (simp only [List.length_drop, List.length_take]; rfl)) ?_; (refine (node_Place.calls k false _ _ ([] : List (S42)) _ _ y165 _ _ y168 (⟨#[98]⟩ : ByteArray) t171 t172 _ ?side1 ?side2 ?side3 ?side4 ?side5 ?side6 A3.out).mono ?_); (case side1 => exact Kd.C_nil _ _); (case side2 => exact Nat.le_refl _); (case side3 => repeat (first | exact (Kd.R_reads' HO167.out).2.2 | (with_reducible refine Kd.C_alloc ?_ _) | (with_reducible refine Kd.C_drewN ?_ _) | (with_reducible refine Kd.C_drew ?_))); (case side4 => exact (Kd.R_reads' HO167.out).2.1); (case side5 => repeat (first | exact (Kd.R_reads' HO170.out).2.2 | (with_reducible refine Kd.C_alloc ?_ _) | (with_reducible refine Kd.C_drewN ?_ _) | (with_reducible refine Kd.C_drew ?_))); (case side6 => exact (Kd.R_reads' HO170.out).2.1); rintro e w49 ⟨rfl, hb⟩; refine ⟨_, rfl, ?_⟩; have n0_ := Aside0.mk (Kd.R_below (by (with_reducible repeat (first | apply Kd.R_alloc | apply Kd.R_drewN | apply Kd.R_drew)); exact HO160.out) hb); have n1_ := Aside0.mk (Kd.R_below (by (with_reducible repeat (first | apply Kd.R_alloc | apply Kd.R_drewN | apply Kd.R_drew)); exact HO163.out) hb); have n2_ := Aside0.mk (Kd.R_below (by (with_reducible repeat (first | apply Kd.R_alloc | apply Kd.R_drewN | apply Kd.R_drew)); exact HO167.out) hb); have n3_ := Aside0.mk (Kd.R_below (by (with_reducible repeat (first | apply Kd.R_alloc | apply Kd.R_drewN | apply Kd.R_drew)); exact HO170.out) hb); have n4_ := Aside0.mk (below_step (by repeat (first | (with_reducible first | exact HB.out | apply below_alloc | apply pw_below_drewN | apply below_drew1) | exact HB.out)) hb); clear HO160; clear HO163; clear HO167; clear HO170; clear HB; have HO160 := n0_; have HO163 := n1_; have HO167 := n2_; have HO170 := n3_; have HB := n4_; clear n0_ n1_ n2_ n3_ n4_; (try clear hb); (try clear hb2); (try clear hk); (try clear hi); obtain ⟨Ao50, co50, eo50⟩ := Kd.R_slice HO163.out; subst eo50; have q51 : (7 : Int) ≤ ((t161.length : Int) : Int) := of_decide_eq_true (by first | (with_reducible assumption) | assumption); obtain ⟨i051, hi051, _, hsz51, _⟩ := info_parts info5; have hroom51 : t161.length ≤ co50 := (Kd.R_reads' HO163.out).2.1; have hC51 : Kd.C (Kd.int .u8) _ Ao50 t161.length t161 := (Kd.R_reads' HO163.out).2.2; have hcut51 := cut_to (P := Try.prog) 30 5 .i64 Try.underlying30 hi051 Ao50 t161.length co50 7 (by omega) q51 hroom51; have hr51 := Kd.C_take (m := 7) hC51 (by omega); have hy51 : y173.length = (7 : Int).toNat := (by rw [Ny173.out, List.length_take]; omega); rw [← Ny173.out] at hr51; rw [← hy51] at hcut51; have HR176 := Aside0.mk hr51; have HC176 := Aside0.mk (show y173.length ≤ co50 from by omega); clear hr51 hC51 hroom51 hi051 hsz51; have KY51 := Aside0.mk hy51; clear hy51; have KL51 := Aside0.mk (show 7 ≤ t161.length from by omega); replace q51 := eq_true q51; have hcv52 := Kd.C_string (P := Try.prog) (A := Ao50) (c := co50) Try.underlying30 Try.underlying5 Try.underlying9 (by repeat (first | (with_reducible exact HR176.out) | (with_reducible refine Kd.C_alloc ?_ _) | (with_reducible refine Kd.C_drewN ?_ _) | (with_reducible refine Kd.C_drew ?_) | exact HR176.out))))
       go_ret
       exact ⟨by first | rfl | (simp [errW_none, errW_some] <;> rfl) | (simp [*, errW_none, errW_some] <;> rfl), by repeat (first | (with_reducible first | exact HB.out | apply below_alloc | apply pw_below_drewN | apply below_drew1) | exact HB.out)⟩
     ·rw [if_neg c8] at H
      have c8b0 : ((strOfNums y173).toList == ([1, 0, 1, 1, 97, 1, 120] : List UInt8)) = false := beq_eq_false_iff_ne.mpr c8
      have c8b1 : ((strOfNums y173).toList != ([1, 0, 1, 1, 97, 1, 120] : List UInt8)) = true := bne_iff_ne.mpr c8
      obtain rfl := Option.some.inj H
      go_enter Try.func16, Try.ntmps16
      go_wp2_with (first | ((with_reducible refine gate_callee (f := 12) rfl ?_); refine goesL_ (some 8) rfl rfl Try.func12 (by kernel_rfl) rfl #[.int .i64 128] rfl (by (try simp only [List.map_toArray, List.map_cons, List.map_nil]); first | done | rfl | (simp only [List.length_drop, List.length_take]; rfl)) ?_; (with_reducible refine (node_Most.calls 128 t156 t157 _ A1.out).mono ?_); rintro e w' ⟨rfl, ⟨nd, rfl⟩⟩; refine ⟨_, rfl, ?_⟩) | ((with_reducible refine gate_dst (N := 13) rfl ?_); (try (refine gate_guard (by rfl) ?_; dsimp only)); refine Kd.R_lit k42 _ 42 ?hg (N := 13) ?hd (xs := ([(⟨(⟨#[97]⟩ : ByteArray), (⟨#[120]⟩ : ByteArray)⟩ : S42)] : List (S42))) (inner := [.string (⟨#[97]⟩ : ByteArray), .string (⟨#[120]⟩ : ByteArray)]) (ok := fun _ => True) (okp := fun _ => True) ?hr ?hp (fun _ hk => hk) trivial (Below.refl _ _) (Nat.le_refl _) (by simp) ?_; (case hd => rfl); (case hg => rfl); (case hr => first | (go_simp; done) | (go_simp; rfl)); (case hp => exact (Reps.c2 (show Kd.M k42 _ _ _ (⟨(⟨#[97]⟩ : ByteArray), (⟨#[120]⟩ : ByteArray)⟩ : S42) [.string (⟨#[97]⟩ : ByteArray), .string (⟨#[120]⟩ : ByteArray)] from (k42_mkM _ _ _ (⟨(⟨#[97]⟩ : ByteArray), (⟨#[120]⟩ : ByteArray)⟩ : S42) )) (Reps.none _ _))); intro v159 w53 ho54 hb hg_ hnew_; clear hg_ hnew_; (first | rw [← Ny158.out] at ho54 | (simp only [Int.reduceToNat] at ho54; rw [← Ny158.out] at ho54)); have n0_ := Aside0.mk (Kd.R_lower ho54 (below_size (by repeat (first | (with_reducible first | exact HB.out | apply below_alloc | apply pw_below_drewN | apply below_drew1) | exact HB.out)))); have n1_ := Aside0.mk (below_step (by repeat (first | (with_reducible first | exact HB.out | apply below_alloc | apply pw_below_drewN | apply below_drew1) | exact HB.out)) hb); clear HB; have HO160 := n0_; have HB := n1_; clear n0_ n1_; clear hb ho54; obtain ⟨Ao55, co55, eo55⟩ := Kd.R_slice HO160.out; subst eo55) | ((with_reducible refine gate_callee (f := 11) rfl ?_); refine goesL_ (some 15) rfl rfl Try.func11 (by kernel_rfl) rfl #[.agg #[.bool true, .slice Ao55 y158.length co55, .slice none 0 0, .slice none 0 0], .int .i64 64] rfl (by (try simp only [List.map_toArray, List.map_cons, List.map_nil]); first | done | rfl | (simp only [List.length_drop, List.length_take]; rfl)) ?_; (refine (node_Bytes.calls k true _ _ y158 _ _ ([] : List ByteArray) _ _ ([] : List Int) 64 t161 t164 _ ?side1 ?side2 ?side3 ?side4 ?side5 ?side6 A2.out).mono ?_); (case side1 => repeat (first | exact (Kd.R_reads' HO160.out).2.2 | (with_reducible refine Kd.C_alloc ?_ _) | (with_reducible refine Kd.C_drewN ?_ _) | (with_reducible refine Kd.C_drew ?_))); (case side2 => exact (Kd.R_reads' HO160.out).2.1); (case side3 => exact Kd.C_nil _ _); (case side4 => exact Nat.le_refl _); (case side5 => exact Kd.C_nil _ _); (case side6 => exact Nat.le_refl _); rintro e w56 ⟨v162, rfl, ho0, hb⟩; refine ⟨_, rfl, ?_⟩; have n0_ := Aside0.mk (Kd.R_below (by (with_reducible repeat (first | apply Kd.R_alloc | apply Kd.R_drewN | apply Kd.R_drew)); exact HO160.out) hb); have n1_ := Aside0.mk (Kd.R_lower ho0 (below_size (by repeat (first | (with_reducible first | exact HB.out | apply below_alloc | apply pw_below_drewN | apply below_drew1) | exact HB.out)))); have n2_ := Aside0.mk (below_step (by repeat (first | (with_reducible first | exact HB.out | apply below_alloc | apply pw_below_drewN | apply below_drew1) | exact HB.out)) hb); clear HO160; clear HB; have HO160 := n0_; have HO163 := n1_; have HB := n2_; clear n0_ n1_ n2_; (try clear hb); (try clear hb2); (try clear hk); (try clear hi); (try clear ho0)) | ((with_reducible refine gate_dst (N := 19) rfl ?_); (try (refine gate_guard (by rfl) ?_; dsimp only)); refine Kd.R_lit Kd.string _ 9 ?hg (N := 19) ?hd (xs := ([(⟨#[98]⟩ : ByteArray), (⟨#[100]⟩ : ByteArray)] : List ByteArray)) (inner := [.string (⟨#[98]⟩ : ByteArray), .string (⟨#[100]⟩ : ByteArray)]) (ok := fun _ => True) (okp := fun _ => True) ?hr ?hp (fun _ hk => hk) trivial (Below.refl _ _) (Nat.le_refl _) (by simp) ?_; (case hd => rfl); (case hg => rfl); (case hr => first | (go_simp; done) | (go_simp; rfl)); (case hp => exact (Reps.one (show Kd.M Kd.string _ _ _ (⟨#[98]⟩ : ByteArray) [.string (⟨#[98]⟩ : ByteArray)] from rfl) (Reps.one (show Kd.M Kd.string _ _ _ (⟨#[100]⟩ : ByteArray) [.string (⟨#[100]⟩ : ByteArray)] from rfl) (Reps.none _ _)))); intro v166 w57 ho58 hb hg_ hnew_; clear hg_ hnew_; (first | rw [← Ny165.out] at ho58 | (simp only [Int.reduceToNat] at ho58; rw [← Ny165.out] at ho58)); have n0_ := Aside0.mk (Kd.R_below (by (with_reducible repeat (first | apply Kd.R_alloc | apply Kd.R_drewN | apply Kd.R_drew)); exact HO160.out) hb); have n1_ := Aside0.mk (Kd.R_below (by (with_reducible repeat (first | apply Kd.R_alloc | apply Kd.R_drewN | apply Kd.R_drew)); exact HO163.out) hb); have n2_ := Aside0.mk (Kd.R_lower ho58 (below_size (by repeat (first | (with_reducible first | exact HB.out | apply below_alloc | apply pw_below_drewN | apply below_drew1) | exact HB.out)))); have n3_ := Aside0.mk (below_step (by repeat (first | (with_reducible first | exact HB.out | apply below_alloc | apply pw_below_drewN | apply below_drew1) | exact HB.out)) hb); clear HO160; clear HO163; clear HB; have HO160 := n0_; have HO163 := n1_; have HO167 := n2_; have HB := n3_; clear n0_ n1_ n2_ n3_; clear hb ho58) | ((with_reducible refine gate_dst (N := 20) rfl ?_); (try (refine gate_guard (by rfl) ?_; dsimp only)); refine Kd.R_lit (Kd.int .i64) _ 3 ?hg (N := 20) ?hd (xs := ([1, 2, 3] : List Int)) (inner := [.int .i64 1, .int .i64 2, .int .i64 3]) (ok := fun _ => True) (okp := fun _ => True) ?hr ?hp (fun _ hk => hk) trivial (Below.refl _ _) (Nat.le_refl _) (by simp) ?_; (case hd => rfl); (case hg => rfl); (case hr => first | (go_simp; done) | (go_simp; rfl)); (case hp => exact (Reps.one (show Kd.M (Kd.int .i64) _ _ _ 1 [.int .i64 1] from rfl) (Reps.one (show Kd.M (Kd.int .i64) _ _ _ 2 [.int .i64 2] from rfl) (Reps.one (show Kd.M (Kd.int .i64) _ _ _ 3 [.int .i64 3] from rfl) (Reps.none _ _))))); intro v169 w59 ho60 hb hg_ hnew_; clear hg_ hnew_; (first | rw [← Ny168.out] at ho60 | (simp only [Int.reduceToNat] at ho60; rw [← Ny168.out] at ho60)); have n0_ := Aside0.mk (Kd.R_below (by (with_reducible repeat (first | apply Kd.R_alloc | apply Kd.R_drewN | apply Kd.R_drew)); exact HO160.out) hb); have n1_ := Aside0.mk (Kd.R_below (by (with_reducible repeat (first | apply Kd.R_alloc | apply Kd.R_drewN | apply Kd.R_drew)); exact HO163.out) hb); have n2_ := Aside0.mk (Kd.R_below (by (with_reducible repeat (first | apply Kd.R_alloc | apply Kd.R_drewN | apply Kd.R_drew)); exact HO167.out) hb); have n3_ := Aside0.mk (Kd.R_lower ho60 (below_size (by repeat (first | (with_reducible first | exact HB.out | apply below_alloc | apply pw_below_drewN | apply below_drew1) | exact HB.out)))); have n4_ := Aside0.mk (below_step (by repeat (first | (with_reducible first | exact HB.out | apply below_alloc | apply pw_below_drewN | apply below_drew1) | exact HB.out)) hb); clear HO160; clear HO163; clear HO167; clear HB; have HO160 := n0_; have HO163 := n1_; have HO167 := n2_; have HO170 := n3_; have HB := n4_; clear n0_ n1_ n2_ n3_ n4_; clear hb ho60; obtain ⟨Ao61, co61, eo61⟩ := Kd.R_slice HO170.out; subst eo61; obtain ⟨Ao62, co62, eo62⟩ := Kd.R_slice HO167.out; subst eo62) | ((with_reducible refine gate_callee (f := 19) rfl ?_); refine goesL_ (some 22) rfl rfl Try.func19 (by kernel_rfl) rfl #[.agg #[.bool false, .slice none 0 0, .slice Ao62 y165.length co62, .slice Ao61 y168.length co61], .string (⟨#[98]⟩ : ByteArray)] rfl (by (try simp only [List.map_toArray, List.map_cons, List.map_nil]); first | done | rfl | (simp only [List.length_drop, List.length_take]; rfl)) ?_; (refine (node_Place.calls k false _ _ ([] : List (S42)) _ _ y165 _ _ y168 (⟨#[98]⟩ : ByteArray) t171 t172 _ ?side1 ?side2 ?side3 ?side4 ?side5 ?side6 A3.out).mono ?_); (case side1 => exact Kd.C_nil _ _); (case side2 => exact Nat.le_refl _); (case side3 => repeat (first | exact (Kd.R_reads' HO167.out).2.2 | (with_reducible refine Kd.C_alloc ?_ _) | (with_reducible refine Kd.C_drewN ?_ _) | (with_reducible refine Kd.C_drew ?_))); (case side4 => exact (Kd.R_reads' HO167.out).2.1); (case side5 => repeat (first | exact (Kd.R_reads' HO170.out).2.2 | (with_reducible refine Kd.C_alloc ?_ _) | (with_reducible refine Kd.C_drewN ?_ _) | (with_reducible refine Kd.C_drew ?_))); (case side6 => exact (Kd.R_reads' HO170.out).2.1); rintro e w63 ⟨rfl, hb⟩; refine ⟨_, rfl, ?_⟩; have n0_ := Aside0.mk (Kd.R_below (by (with_reducible repeat (first | apply Kd.R_alloc | apply Kd.R_drewN | apply Kd.R_drew)); exact HO160.out) hb); have n1_ := Aside0.mk (Kd.R_below (by (with_reducible repeat (first | apply Kd.R_alloc | apply Kd.R_drewN | apply Kd.R_drew)); exact HO163.out) hb); have n2_ := Aside0.mk (Kd.R_below (by (with_reducible repeat (first | apply Kd.R_alloc | apply Kd.R_drewN | apply Kd.R_drew)); exact HO167.out) hb); have n3_ := Aside0.mk (Kd.R_below (by (with_reducible repeat (first | apply Kd.R_alloc | apply Kd.R_drewN | apply Kd.R_drew)); exact HO170.out) hb); have n4_ := Aside0.mk (below_step (by repeat (first | (with_reducible first | exact HB.out | apply below_alloc | apply pw_below_drewN | apply below_drew1) | exact HB.out)) hb); clear HO160; clear HO163; clear HO167; clear HO170; clear HB; have HO160 := n0_; have HO163 := n1_; have HO167 := n2_; have HO170 := n3_; have HB := n4_; clear n0_ n1_ n2_ n3_ n4_; (try clear hb); (try clear hb2); (try clear hk); (try clear hi); obtain ⟨Ao64, co64, eo64⟩ := Kd.R_slice HO163.out; subst eo64; have q65 : (7 : Int) ≤ ((t161.length : Int) : Int) := of_decide_eq_true (by first | (with_reducible assumption) | assumption); obtain ⟨i065, hi065, _, hsz65, _⟩ := info_parts info5; have hroom65 : t161.length ≤ co64 := (Kd.R_reads' HO163.out).2.1; have hC65 : Kd.C (Kd.int .u8) _ Ao64 t161.length t161 := (Kd.R_reads' HO163.out).2.2; have hcut65 := cut_to (P := Try.prog) 30 5 .i64 Try.underlying30 hi065 Ao64 t161.length co64 7 (by omega) q65 hroom65; have hr65 := Kd.C_take (m := 7) hC65 (by omega); have hy65 : y173.length = (7 : Int).toNat := (by rw [Ny173.out, List.length_take]; omega); rw [← Ny173.out] at hr65; rw [← hy65] at hcut65; have HR176 := Aside0.mk hr65; have HC176 := Aside0.mk (show y173.length ≤ co64 from by omega); clear hr65 hC65 hroom65 hi065 hsz65; have KY65 := Aside0.mk hy65; clear hy65; have KL65 := Aside0.mk (show 7 ≤ t161.length from by omega); replace q65 := eq_true q65; have hcv66 := Kd.C_string (P := Try.prog) (A := Ao64) (c := co64) Try.underlying30 Try.underlying5 Try.underlying9 (by repeat (first | (with_reducible exact HR176.out) | (with_reducible refine Kd.C_alloc ?_ _) | (with_reducible refine Kd.C_drewN ?_ _) | (with_reducible refine Kd.C_drew ?_) | exact HR176.out))))
      go_ret
      exact ⟨by first | rfl | (simp [errW_none, errW_some] <;> rfl) | (simp [*, errW_none, errW_some] <;> rfl), by repeat (first | (with_reducible first | exact HB.out | apply below_alloc | apply pw_below_drewN | apply below_drew1) | exact HB.out)⟩
    ·rw [if_neg c7] at H
     exact absurd H (by simp)
   ·rw [if_neg c6] at H
    have c6b0 : ((t161.length : Int) == 64) = false := beq_eq_false_iff_ne.mpr c6
    have c6b1 : ((t161.length : Int) != 64) = true := bne_iff_ne.mpr c6
    obtain rfl := Option.some.inj H
    go_enter Try.func16, Try.ntmps16
    go_wp2_with (first | ((with_reducible refine gate_callee (f := 12) rfl ?_); refine goesL_ (some 8) rfl rfl Try.func12 (by kernel_rfl) rfl #[.int .i64 128] rfl (by (try simp only [List.map_toArray, List.map_cons, List.map_nil]); first | done | rfl | (simp only [List.length_drop, List.length_take]; rfl)) ?_; (with_reducible refine (node_Most.calls 128 t156 t157 _ A1.out).mono ?_); rintro e w' ⟨rfl, ⟨nd, rfl⟩⟩; refine ⟨_, rfl, ?_⟩) | ((with_reducible refine gate_dst (N := 13) rfl ?_); (try (refine gate_guard (by rfl) ?_; dsimp only)); refine Kd.R_lit k42 _ 42 ?hg (N := 13) ?hd (xs := ([(⟨(⟨#[97]⟩ : ByteArray), (⟨#[120]⟩ : ByteArray)⟩ : S42)] : List (S42))) (inner := [.string (⟨#[97]⟩ : ByteArray), .string (⟨#[120]⟩ : ByteArray)]) (ok := fun _ => True) (okp := fun _ => True) ?hr ?hp (fun _ hk => hk) trivial (Below.refl _ _) (Nat.le_refl _) (by simp) ?_; (case hd => rfl); (case hg => rfl); (case hr => first | (go_simp; done) | (go_simp; rfl)); (case hp => exact (Reps.c2 (show Kd.M k42 _ _ _ (⟨(⟨#[97]⟩ : ByteArray), (⟨#[120]⟩ : ByteArray)⟩ : S42) [.string (⟨#[97]⟩ : ByteArray), .string (⟨#[120]⟩ : ByteArray)] from (k42_mkM _ _ _ (⟨(⟨#[97]⟩ : ByteArray), (⟨#[120]⟩ : ByteArray)⟩ : S42) )) (Reps.none _ _))); intro v159 w67 ho68 hb hg_ hnew_; clear hg_ hnew_; (first | rw [← Ny158.out] at ho68 | (simp only [Int.reduceToNat] at ho68; rw [← Ny158.out] at ho68)); have n0_ := Aside0.mk (Kd.R_lower ho68 (below_size (by repeat (first | (with_reducible first | exact HB.out | apply below_alloc | apply pw_below_drewN | apply below_drew1) | exact HB.out)))); have n1_ := Aside0.mk (below_step (by repeat (first | (with_reducible first | exact HB.out | apply below_alloc | apply pw_below_drewN | apply below_drew1) | exact HB.out)) hb); clear HB; have HO160 := n0_; have HB := n1_; clear n0_ n1_; clear hb ho68; obtain ⟨Ao69, co69, eo69⟩ := Kd.R_slice HO160.out; subst eo69) | ((with_reducible refine gate_callee (f := 11) rfl ?_); refine goesL_ (some 15) rfl rfl Try.func11 (by kernel_rfl) rfl #[.agg #[.bool true, .slice Ao69 y158.length co69, .slice none 0 0, .slice none 0 0], .int .i64 64] rfl (by (try simp only [List.map_toArray, List.map_cons, List.map_nil]); first | done | rfl | (simp only [List.length_drop, List.length_take]; rfl)) ?_; (refine (node_Bytes.calls k true _ _ y158 _ _ ([] : List ByteArray) _ _ ([] : List Int) 64 t161 t164 _ ?side1 ?side2 ?side3 ?side4 ?side5 ?side6 A2.out).mono ?_); (case side1 => repeat (first | exact (Kd.R_reads' HO160.out).2.2 | (with_reducible refine Kd.C_alloc ?_ _) | (with_reducible refine Kd.C_drewN ?_ _) | (with_reducible refine Kd.C_drew ?_))); (case side2 => exact (Kd.R_reads' HO160.out).2.1); (case side3 => exact Kd.C_nil _ _); (case side4 => exact Nat.le_refl _); (case side5 => exact Kd.C_nil _ _); (case side6 => exact Nat.le_refl _); rintro e w70 ⟨v162, rfl, ho0, hb⟩; refine ⟨_, rfl, ?_⟩; have n0_ := Aside0.mk (Kd.R_below (by (with_reducible repeat (first | apply Kd.R_alloc | apply Kd.R_drewN | apply Kd.R_drew)); exact HO160.out) hb); have n1_ := Aside0.mk (Kd.R_lower ho0 (below_size (by repeat (first | (with_reducible first | exact HB.out | apply below_alloc | apply pw_below_drewN | apply below_drew1) | exact HB.out)))); have n2_ := Aside0.mk (below_step (by repeat (first | (with_reducible first | exact HB.out | apply below_alloc | apply pw_below_drewN | apply below_drew1) | exact HB.out)) hb); clear HO160; clear HB; have HO160 := n0_; have HO163 := n1_; have HB := n2_; clear n0_ n1_ n2_; (try clear hb); (try clear hb2); (try clear hk); (try clear hi); (try clear ho0)) | ((with_reducible refine gate_dst (N := 19) rfl ?_); (try (refine gate_guard (by rfl) ?_; dsimp only)); refine Kd.R_lit Kd.string _ 9 ?hg (N := 19) ?hd (xs := ([(⟨#[98]⟩ : ByteArray), (⟨#[100]⟩ : ByteArray)] : List ByteArray)) (inner := [.string (⟨#[98]⟩ : ByteArray), .string (⟨#[100]⟩ : ByteArray)]) (ok := fun _ => True) (okp := fun _ => True) ?hr ?hp (fun _ hk => hk) trivial (Below.refl _ _) (Nat.le_refl _) (by simp) ?_; (case hd => rfl); (case hg => rfl); (case hr => first | (go_simp; done) | (go_simp; rfl)); (case hp => exact (Reps.one (show Kd.M Kd.string _ _ _ (⟨#[98]⟩ : ByteArray) [.string (⟨#[98]⟩ : ByteArray)] from rfl) (Reps.one (show Kd.M Kd.string _ _ _ (⟨#[100]⟩ : ByteArray) [.string (⟨#[100]⟩ : ByteArray)] from rfl) (Reps.none _ _)))); intro v166 w71 ho72 hb hg_ hnew_; clear hg_ hnew_; (first | rw [← Ny165.out] at ho72 | (simp only [Int.reduceToNat] at ho72; rw [← Ny165.out] at ho72)); have n0_ := Aside0.mk (Kd.R_below (by (with_reducible repeat (first | apply Kd.R_alloc | apply Kd.R_drewN | apply Kd.R_drew)); exact HO160.out) hb); have n1_ := Aside0.mk (Kd.R_below (by (with_reducible repeat (first | apply Kd.R_alloc | apply Kd.R_drewN | apply Kd.R_drew)); exact HO163.out) hb); have n2_ := Aside0.mk (Kd.R_lower ho72 (below_size (by repeat (first | (with_reducible first | exact HB.out | apply below_alloc | apply pw_below_drewN | apply below_drew1) | exact HB.out)))); have n3_ := Aside0.mk (below_step (by repeat (first | (with_reducible first | exact HB.out | apply below_alloc | apply pw_below_drewN | apply below_drew1) | exact HB.out)) hb); clear HO160; clear HO163; clear HB; have HO160 := n0_; have HO163 := n1_; have HO167 := n2_; have HB := n3_; clear n0_ n1_ n2_ n3_; clear hb ho72) | ((with_reducible refine gate_dst (N := 20) rfl ?_); (try (refine gate_guard (by rfl) ?_; dsimp only)); refine Kd.R_lit (Kd.int .i64) _ 3 ?hg (N := 20) ?hd (xs := ([1, 2, 3] : List Int)) (inner := [.int .i64 1, .int .i64 2, .int .i64 3]) (ok := fun _ => True) (okp := fun _ => True) ?hr ?hp (fun _ hk => hk) trivial (Below.refl _ _) (Nat.le_refl _) (by simp) ?_; (case hd => rfl); (case hg => rfl); (case hr => first | (go_simp; done) | (go_simp; rfl)); (case hp => exact (Reps.one (show Kd.M (Kd.int .i64) _ _ _ 1 [.int .i64 1] from rfl) (Reps.one (show Kd.M (Kd.int .i64) _ _ _ 2 [.int .i64 2] from rfl) (Reps.one (show Kd.M (Kd.int .i64) _ _ _ 3 [.int .i64 3] from rfl) (Reps.none _ _))))); intro v169 w73 ho74 hb hg_ hnew_; clear hg_ hnew_; (first | rw [← Ny168.out] at ho74 | (simp only [Int.reduceToNat] at ho74; rw [← Ny168.out] at ho74)); have n0_ := Aside0.mk (Kd.R_below (by (with_reducible repeat (first | apply Kd.R_alloc | apply Kd.R_drewN | apply Kd.R_drew)); exact HO160.out) hb); have n1_ := Aside0.mk (Kd.R_below (by (with_reducible repeat (first | apply Kd.R_alloc | apply Kd.R_drewN | apply Kd.R_drew)); exact HO163.out) hb); have n2_ := Aside0.mk (Kd.R_below (by (with_reducible repeat (first | apply Kd.R_alloc | apply Kd.R_drewN | apply Kd.R_drew)); exact HO167.out) hb); have n3_ := Aside0.mk (Kd.R_lower ho74 (below_size (by repeat (first | (with_reducible first | exact HB.out | apply below_alloc | apply pw_below_drewN | apply below_drew1) | exact HB.out)))); have n4_ := Aside0.mk (below_step (by repeat (first | (with_reducible first | exact HB.out | apply below_alloc | apply pw_below_drewN | apply below_drew1) | exact HB.out)) hb); clear HO160; clear HO163; clear HO167; clear HB; have HO160 := n0_; have HO163 := n1_; have HO167 := n2_; have HO170 := n3_; have HB := n4_; clear n0_ n1_ n2_ n3_ n4_; clear hb ho74; obtain ⟨Ao75, co75, eo75⟩ := Kd.R_slice HO170.out; subst eo75; obtain ⟨Ao76, co76, eo76⟩ := Kd.R_slice HO167.out; subst eo76) | ((with_reducible refine gate_callee (f := 19) rfl ?_); refine goesL_ (some 22) rfl rfl Try.func19 (by kernel_rfl) rfl #[.agg #[.bool false, .slice none 0 0, .slice Ao76 y165.length co76, .slice Ao75 y168.length co75], .string (⟨#[98]⟩ : ByteArray)] rfl (by (try simp only [List.map_toArray, List.map_cons, List.map_nil]); first | done | rfl | (simp only [List.length_drop, List.length_take]; rfl)) ?_; (refine (node_Place.calls k false _ _ ([] : List (S42)) _ _ y165 _ _ y168 (⟨#[98]⟩ : ByteArray) t171 t172 _ ?side1 ?side2 ?side3 ?side4 ?side5 ?side6 A3.out).mono ?_); (case side1 => exact Kd.C_nil _ _); (case side2 => exact Nat.le_refl _); (case side3 => repeat (first | exact (Kd.R_reads' HO167.out).2.2 | (with_reducible refine Kd.C_alloc ?_ _) | (with_reducible refine Kd.C_drewN ?_ _) | (with_reducible refine Kd.C_drew ?_))); (case side4 => exact (Kd.R_reads' HO167.out).2.1); (case side5 => repeat (first | exact (Kd.R_reads' HO170.out).2.2 | (with_reducible refine Kd.C_alloc ?_ _) | (with_reducible refine Kd.C_drewN ?_ _) | (with_reducible refine Kd.C_drew ?_))); (case side6 => exact (Kd.R_reads' HO170.out).2.1); rintro e w77 ⟨rfl, hb⟩; refine ⟨_, rfl, ?_⟩; have n0_ := Aside0.mk (Kd.R_below (by (with_reducible repeat (first | apply Kd.R_alloc | apply Kd.R_drewN | apply Kd.R_drew)); exact HO160.out) hb); have n1_ := Aside0.mk (Kd.R_below (by (with_reducible repeat (first | apply Kd.R_alloc | apply Kd.R_drewN | apply Kd.R_drew)); exact HO163.out) hb); have n2_ := Aside0.mk (Kd.R_below (by (with_reducible repeat (first | apply Kd.R_alloc | apply Kd.R_drewN | apply Kd.R_drew)); exact HO167.out) hb); have n3_ := Aside0.mk (Kd.R_below (by (with_reducible repeat (first | apply Kd.R_alloc | apply Kd.R_drewN | apply Kd.R_drew)); exact HO170.out) hb); have n4_ := Aside0.mk (below_step (by repeat (first | (with_reducible first | exact HB.out | apply below_alloc | apply pw_below_drewN | apply below_drew1) | exact HB.out)) hb); clear HO160; clear HO163; clear HO167; clear HO170; clear HB; have HO160 := n0_; have HO163 := n1_; have HO167 := n2_; have HO170 := n3_; have HB := n4_; clear n0_ n1_ n2_ n3_ n4_; (try clear hb); (try clear hb2); (try clear hk); (try clear hi); obtain ⟨Ao78, co78, eo78⟩ := Kd.R_slice HO163.out; subst eo78))
    go_ret
    exact ⟨by first | rfl | (simp [errW_none, errW_some] <;> rfl) | (simp [*, errW_none, errW_some] <;> rfl), by repeat (first | (with_reducible first | exact HB.out | apply below_alloc | apply pw_below_drewN | apply below_drew1) | exact HB.out)⟩
  ·rw [if_neg c5] at H
   have c5b0 : (t157 == 0) = false := beq_eq_false_iff_ne.mpr c5
   have c5b1 : (t157 != 0) = true := bne_iff_ne.mpr c5
   obtain rfl := Option.some.inj H
   go_enter Try.func16, Try.ntmps16
   go_wp2_with (first | ((with_reducible refine gate_callee (f := 12) rfl ?_); refine goesL_ (some 8) rfl rfl Try.func12 (by kernel_rfl) rfl #[.int .i64 128] rfl (by (try simp only [List.map_toArray, List.map_cons, List.map_nil]); first | done | rfl | (simp only [List.length_drop, List.length_take]; rfl)) ?_; (with_reducible refine (node_Most.calls 128 t156 t157 _ A1.out).mono ?_); rintro e w' ⟨rfl, ⟨nd, rfl⟩⟩; refine ⟨_, rfl, ?_⟩) | ((with_reducible refine gate_dst (N := 13) rfl ?_); (try (refine gate_guard (by rfl) ?_; dsimp only)); refine Kd.R_lit k42 _ 42 ?hg (N := 13) ?hd (xs := ([(⟨(⟨#[97]⟩ : ByteArray), (⟨#[120]⟩ : ByteArray)⟩ : S42)] : List (S42))) (inner := [.string (⟨#[97]⟩ : ByteArray), .string (⟨#[120]⟩ : ByteArray)]) (ok := fun _ => True) (okp := fun _ => True) ?hr ?hp (fun _ hk => hk) trivial (Below.refl _ _) (Nat.le_refl _) (by simp) ?_; (case hd => rfl); (case hg => rfl); (case hr => first | (go_simp; done) | (go_simp; rfl)); (case hp => exact (Reps.c2 (show Kd.M k42 _ _ _ (⟨(⟨#[97]⟩ : ByteArray), (⟨#[120]⟩ : ByteArray)⟩ : S42) [.string (⟨#[97]⟩ : ByteArray), .string (⟨#[120]⟩ : ByteArray)] from (k42_mkM _ _ _ (⟨(⟨#[97]⟩ : ByteArray), (⟨#[120]⟩ : ByteArray)⟩ : S42) )) (Reps.none _ _))); intro v159 w79 ho80 hb hg_ hnew_; clear hg_ hnew_; (first | rw [← Ny158.out] at ho80 | (simp only [Int.reduceToNat] at ho80; rw [← Ny158.out] at ho80)); have n0_ := Aside0.mk (Kd.R_lower ho80 (below_size (by repeat (first | (with_reducible first | exact HB.out | apply below_alloc | apply pw_below_drewN | apply below_drew1) | exact HB.out)))); have n1_ := Aside0.mk (below_step (by repeat (first | (with_reducible first | exact HB.out | apply below_alloc | apply pw_below_drewN | apply below_drew1) | exact HB.out)) hb); clear HB; have HO160 := n0_; have HB := n1_; clear n0_ n1_; clear hb ho80; obtain ⟨Ao81, co81, eo81⟩ := Kd.R_slice HO160.out; subst eo81) | ((with_reducible refine gate_callee (f := 11) rfl ?_); refine goesL_ (some 15) rfl rfl Try.func11 (by kernel_rfl) rfl #[.agg #[.bool true, .slice Ao81 y158.length co81, .slice none 0 0, .slice none 0 0], .int .i64 64] rfl (by (try simp only [List.map_toArray, List.map_cons, List.map_nil]); first | done | rfl | (simp only [List.length_drop, List.length_take]; rfl)) ?_; (refine (node_Bytes.calls k true _ _ y158 _ _ ([] : List ByteArray) _ _ ([] : List Int) 64 t161 t164 _ ?side1 ?side2 ?side3 ?side4 ?side5 ?side6 A2.out).mono ?_); (case side1 => repeat (first | exact (Kd.R_reads' HO160.out).2.2 | (with_reducible refine Kd.C_alloc ?_ _) | (with_reducible refine Kd.C_drewN ?_ _) | (with_reducible refine Kd.C_drew ?_))); (case side2 => exact (Kd.R_reads' HO160.out).2.1); (case side3 => exact Kd.C_nil _ _); (case side4 => exact Nat.le_refl _); (case side5 => exact Kd.C_nil _ _); (case side6 => exact Nat.le_refl _); rintro e w82 ⟨v162, rfl, ho0, hb⟩; refine ⟨_, rfl, ?_⟩; have n0_ := Aside0.mk (Kd.R_below (by (with_reducible repeat (first | apply Kd.R_alloc | apply Kd.R_drewN | apply Kd.R_drew)); exact HO160.out) hb); have n1_ := Aside0.mk (Kd.R_lower ho0 (below_size (by repeat (first | (with_reducible first | exact HB.out | apply below_alloc | apply pw_below_drewN | apply below_drew1) | exact HB.out)))); have n2_ := Aside0.mk (below_step (by repeat (first | (with_reducible first | exact HB.out | apply below_alloc | apply pw_below_drewN | apply below_drew1) | exact HB.out)) hb); clear HO160; clear HB; have HO160 := n0_; have HO163 := n1_; have HB := n2_; clear n0_ n1_ n2_; (try clear hb); (try clear hb2); (try clear hk); (try clear hi); (try clear ho0)) | ((with_reducible refine gate_dst (N := 19) rfl ?_); (try (refine gate_guard (by rfl) ?_; dsimp only)); refine Kd.R_lit Kd.string _ 9 ?hg (N := 19) ?hd (xs := ([(⟨#[98]⟩ : ByteArray), (⟨#[100]⟩ : ByteArray)] : List ByteArray)) (inner := [.string (⟨#[98]⟩ : ByteArray), .string (⟨#[100]⟩ : ByteArray)]) (ok := fun _ => True) (okp := fun _ => True) ?hr ?hp (fun _ hk => hk) trivial (Below.refl _ _) (Nat.le_refl _) (by simp) ?_; (case hd => rfl); (case hg => rfl); (case hr => first | (go_simp; done) | (go_simp; rfl)); (case hp => exact (Reps.one (show Kd.M Kd.string _ _ _ (⟨#[98]⟩ : ByteArray) [.string (⟨#[98]⟩ : ByteArray)] from rfl) (Reps.one (show Kd.M Kd.string _ _ _ (⟨#[100]⟩ : ByteArray) [.string (⟨#[100]⟩ : ByteArray)] from rfl) (Reps.none _ _)))); intro v166 w83 ho84 hb hg_ hnew_; clear hg_ hnew_; (first | rw [← Ny165.out] at ho84 | (simp only [Int.reduceToNat] at ho84; rw [← Ny165.out] at ho84)); have n0_ := Aside0.mk (Kd.R_below (by (with_reducible repeat (first | apply Kd.R_alloc | apply Kd.R_drewN | apply Kd.R_drew)); exact HO160.out) hb); have n1_ := Aside0.mk (Kd.R_below (by (with_reducible repeat (first | apply Kd.R_alloc | apply Kd.R_drewN | apply Kd.R_drew)); exact HO163.out) hb); have n2_ := Aside0.mk (Kd.R_lower ho84 (below_size (by repeat (first | (with_reducible first | exact HB.out | apply below_alloc | apply pw_below_drewN | apply below_drew1) | exact HB.out)))); have n3_ := Aside0.mk (below_step (by repeat (first | (with_reducible first | exact HB.out | apply below_alloc | apply pw_below_drewN | apply below_drew1) | exact HB.out)) hb); clear HO160; clear HO163; clear HB; have HO160 := n0_; have HO163 := n1_; have HO167 := n2_; have HB := n3_; clear n0_ n1_ n2_ n3_; clear hb ho84) | ((with_reducible refine gate_dst (N := 20) rfl ?_); (try (refine gate_guard (by rfl) ?_; dsimp only)); refine Kd.R_lit (Kd.int .i64) _ 3 ?hg (N := 20) ?hd (xs := ([1, 2, 3] : List Int)) (inner := [.int .i64 1, .int .i64 2, .int .i64 3]) (ok := fun _ => True) (okp := fun _ => True) ?hr ?hp (fun _ hk => hk) trivial (Below.refl _ _) (Nat.le_refl _) (by simp) ?_; (case hd => rfl); (case hg => rfl); (case hr => first | (go_simp; done) | (go_simp; rfl)); (case hp => exact (Reps.one (show Kd.M (Kd.int .i64) _ _ _ 1 [.int .i64 1] from rfl) (Reps.one (show Kd.M (Kd.int .i64) _ _ _ 2 [.int .i64 2] from rfl) (Reps.one (show Kd.M (Kd.int .i64) _ _ _ 3 [.int .i64 3] from rfl) (Reps.none _ _))))); intro v169 w85 ho86 hb hg_ hnew_; clear hg_ hnew_; (first | rw [← Ny168.out] at ho86 | (simp only [Int.reduceToNat] at ho86; rw [← Ny168.out] at ho86)); have n0_ := Aside0.mk (Kd.R_below (by (with_reducible repeat (first | apply Kd.R_alloc | apply Kd.R_drewN | apply Kd.R_drew)); exact HO160.out) hb); have n1_ := Aside0.mk (Kd.R_below (by (with_reducible repeat (first | apply Kd.R_alloc | apply Kd.R_drewN | apply Kd.R_drew)); exact HO163.out) hb); have n2_ := Aside0.mk (Kd.R_below (by (with_reducible repeat (first | apply Kd.R_alloc | apply Kd.R_drewN | apply Kd.R_drew)); exact HO167.out) hb); have n3_ := Aside0.mk (Kd.R_lower ho86 (below_size (by repeat (first | (with_reducible first | exact HB.out | apply below_alloc | apply pw_below_drewN | apply below_drew1) | exact HB.out)))); have n4_ := Aside0.mk (below_step (by repeat (first | (with_reducible first | exact HB.out | apply below_alloc | apply pw_below_drewN | apply below_drew1) | exact HB.out)) hb); clear HO160; clear HO163; clear HO167; clear HB; have HO160 := n0_; have HO163 := n1_; have HO167 := n2_; have HO170 := n3_; have HB := n4_; clear n0_ n1_ n2_ n3_ n4_; clear hb ho86; obtain ⟨Ao87, co87, eo87⟩ := Kd.R_slice HO170.out; subst eo87; obtain ⟨Ao88, co88, eo88⟩ := Kd.R_slice HO167.out; subst eo88) | ((with_reducible refine gate_callee (f := 19) rfl ?_); refine goesL_ (some 22) rfl rfl Try.func19 (by kernel_rfl) rfl #[.agg #[.bool false, .slice none 0 0, .slice Ao88 y165.length co88, .slice Ao87 y168.length co87], .string (⟨#[98]⟩ : ByteArray)] rfl (by (try simp only [List.map_toArray, List.map_cons, List.map_nil]); first | done | rfl | (simp only [List.length_drop, List.length_take]; rfl)) ?_; (refine (node_Place.calls k false _ _ ([] : List (S42)) _ _ y165 _ _ y168 (⟨#[98]⟩ : ByteArray) t171 t172 _ ?side1 ?side2 ?side3 ?side4 ?side5 ?side6 A3.out).mono ?_); (case side1 => exact Kd.C_nil _ _); (case side2 => exact Nat.le_refl _); (case side3 => repeat (first | exact (Kd.R_reads' HO167.out).2.2 | (with_reducible refine Kd.C_alloc ?_ _) | (with_reducible refine Kd.C_drewN ?_ _) | (with_reducible refine Kd.C_drew ?_))); (case side4 => exact (Kd.R_reads' HO167.out).2.1); (case side5 => repeat (first | exact (Kd.R_reads' HO170.out).2.2 | (with_reducible refine Kd.C_alloc ?_ _) | (with_reducible refine Kd.C_drewN ?_ _) | (with_reducible refine Kd.C_drew ?_))); (case side6 => exact (Kd.R_reads' HO170.out).2.1); rintro e w89 ⟨rfl, hb⟩; refine ⟨_, rfl, ?_⟩; have n0_ := Aside0.mk (Kd.R_below (by (with_reducible repeat (first | apply Kd.R_alloc | apply Kd.R_drewN | apply Kd.R_drew)); exact HO160.out) hb); have n1_ := Aside0.mk (Kd.R_below (by (with_reducible repeat (first | apply Kd.R_alloc | apply Kd.R_drewN | apply Kd.R_drew)); exact HO163.out) hb); have n2_ := Aside0.mk (Kd.R_below (by (with_reducible repeat (first | apply Kd.R_alloc | apply Kd.R_drewN | apply Kd.R_drew)); exact HO167.out) hb); have n3_ := Aside0.mk (Kd.R_below (by (with_reducible repeat (first | apply Kd.R_alloc | apply Kd.R_drewN | apply Kd.R_drew)); exact HO170.out) hb); have n4_ := Aside0.mk (below_step (by repeat (first | (with_reducible first | exact HB.out | apply below_alloc | apply pw_below_drewN | apply below_drew1) | exact HB.out)) hb); clear HO160; clear HO163; clear HO167; clear HO170; clear HB; have HO160 := n0_; have HO163 := n1_; have HO167 := n2_; have HO170 := n3_; have HB := n4_; clear n0_ n1_ n2_ n3_ n4_; (try clear hb); (try clear hb2); (try clear hk); (try clear hi)))
   go_ret
   exact ⟨by first | rfl | (simp [errW_none, errW_some] <;> rfl) | (simp [*, errW_none, errW_some] <;> rfl), by repeat (first | (with_reducible first | exact HB.out | apply below_alloc | apply pw_below_drewN | apply below_drew1) | exact HB.out)⟩
 ·rw [if_neg c4] at H
  have c4b0 : (t156 == 24) = false := beq_eq_false_iff_ne.mpr c4
  have c4b1 : (t156 != 24) = true := bne_iff_ne.mpr c4
  obtain rfl := Option.some.inj H
  go_enter Try.func16, Try.ntmps16
  go_wp2_with (first | ((with_reducible refine gate_callee (f := 12) rfl ?_); refine goesL_ (some 8) rfl rfl Try.func12 (by kernel_rfl) rfl #[.int .i64 128] rfl (by (try simp only [List.map_toArray, List.map_cons, List.map_nil]); first | done | rfl | (simp only [List.length_drop, List.length_take]; rfl)) ?_; (with_reducible refine (node_Most.calls 128 t156 t157 _ A1.out).mono ?_); rintro e w' ⟨rfl, ⟨nd, rfl⟩⟩; refine ⟨_, rfl, ?_⟩) | ((with_reducible refine gate_dst (N := 13) rfl ?_); (try (refine gate_guard (by rfl) ?_; dsimp only)); refine Kd.R_lit k42 _ 42 ?hg (N := 13) ?hd (xs := ([(⟨(⟨#[97]⟩ : ByteArray), (⟨#[120]⟩ : ByteArray)⟩ : S42)] : List (S42))) (inner := [.string (⟨#[97]⟩ : ByteArray), .string (⟨#[120]⟩ : ByteArray)]) (ok := fun _ => True) (okp := fun _ => True) ?hr ?hp (fun _ hk => hk) trivial (Below.refl _ _) (Nat.le_refl _) (by simp) ?_; (case hd => rfl); (case hg => rfl); (case hr => first | (go_simp; done) | (go_simp; rfl)); (case hp => exact (Reps.c2 (show Kd.M k42 _ _ _ (⟨(⟨#[97]⟩ : ByteArray), (⟨#[120]⟩ : ByteArray)⟩ : S42) [.string (⟨#[97]⟩ : ByteArray), .string (⟨#[120]⟩ : ByteArray)] from (k42_mkM _ _ _ (⟨(⟨#[97]⟩ : ByteArray), (⟨#[120]⟩ : ByteArray)⟩ : S42) )) (Reps.none _ _))); intro v159 w90 ho91 hb hg_ hnew_; clear hg_ hnew_; (first | rw [← Ny158.out] at ho91 | (simp only [Int.reduceToNat] at ho91; rw [← Ny158.out] at ho91)); have n0_ := Aside0.mk (Kd.R_lower ho91 (below_size (by repeat (first | (with_reducible first | exact HB.out | apply below_alloc | apply pw_below_drewN | apply below_drew1) | exact HB.out)))); have n1_ := Aside0.mk (below_step (by repeat (first | (with_reducible first | exact HB.out | apply below_alloc | apply pw_below_drewN | apply below_drew1) | exact HB.out)) hb); clear HB; have HO160 := n0_; have HB := n1_; clear n0_ n1_; clear hb ho91; obtain ⟨Ao92, co92, eo92⟩ := Kd.R_slice HO160.out; subst eo92) | ((with_reducible refine gate_callee (f := 11) rfl ?_); refine goesL_ (some 15) rfl rfl Try.func11 (by kernel_rfl) rfl #[.agg #[.bool true, .slice Ao92 y158.length co92, .slice none 0 0, .slice none 0 0], .int .i64 64] rfl (by (try simp only [List.map_toArray, List.map_cons, List.map_nil]); first | done | rfl | (simp only [List.length_drop, List.length_take]; rfl)) ?_; (refine (node_Bytes.calls k true _ _ y158 _ _ ([] : List ByteArray) _ _ ([] : List Int) 64 t161 t164 _ ?side1 ?side2 ?side3 ?side4 ?side5 ?side6 A2.out).mono ?_); (case side1 => repeat (first | exact (Kd.R_reads' HO160.out).2.2 | (with_reducible refine Kd.C_alloc ?_ _) | (with_reducible refine Kd.C_drewN ?_ _) | (with_reducible refine Kd.C_drew ?_))); (case side2 => exact (Kd.R_reads' HO160.out).2.1); (case side3 => exact Kd.C_nil _ _); (case side4 => exact Nat.le_refl _); (case side5 => exact Kd.C_nil _ _); (case side6 => exact Nat.le_refl _); rintro e w93 ⟨v162, rfl, ho0, hb⟩; refine ⟨_, rfl, ?_⟩; have n0_ := Aside0.mk (Kd.R_below (by (with_reducible repeat (first | apply Kd.R_alloc | apply Kd.R_drewN | apply Kd.R_drew)); exact HO160.out) hb); have n1_ := Aside0.mk (Kd.R_lower ho0 (below_size (by repeat (first | (with_reducible first | exact HB.out | apply below_alloc | apply pw_below_drewN | apply below_drew1) | exact HB.out)))); have n2_ := Aside0.mk (below_step (by repeat (first | (with_reducible first | exact HB.out | apply below_alloc | apply pw_below_drewN | apply below_drew1) | exact HB.out)) hb); clear HO160; clear HB; have HO160 := n0_; have HO163 := n1_; have HB := n2_; clear n0_ n1_ n2_; (try clear hb); (try clear hb2); (try clear hk); (try clear hi); (try clear ho0)) | ((with_reducible refine gate_dst (N := 19) rfl ?_); (try (refine gate_guard (by rfl) ?_; dsimp only)); refine Kd.R_lit Kd.string _ 9 ?hg (N := 19) ?hd (xs := ([(⟨#[98]⟩ : ByteArray), (⟨#[100]⟩ : ByteArray)] : List ByteArray)) (inner := [.string (⟨#[98]⟩ : ByteArray), .string (⟨#[100]⟩ : ByteArray)]) (ok := fun _ => True) (okp := fun _ => True) ?hr ?hp (fun _ hk => hk) trivial (Below.refl _ _) (Nat.le_refl _) (by simp) ?_; (case hd => rfl); (case hg => rfl); (case hr => first | (go_simp; done) | (go_simp; rfl)); (case hp => exact (Reps.one (show Kd.M Kd.string _ _ _ (⟨#[98]⟩ : ByteArray) [.string (⟨#[98]⟩ : ByteArray)] from rfl) (Reps.one (show Kd.M Kd.string _ _ _ (⟨#[100]⟩ : ByteArray) [.string (⟨#[100]⟩ : ByteArray)] from rfl) (Reps.none _ _)))); intro v166 w94 ho95 hb hg_ hnew_; clear hg_ hnew_; (first | rw [← Ny165.out] at ho95 | (simp only [Int.reduceToNat] at ho95; rw [← Ny165.out] at ho95)); have n0_ := Aside0.mk (Kd.R_below (by (with_reducible repeat (first | apply Kd.R_alloc | apply Kd.R_drewN | apply Kd.R_drew)); exact HO160.out) hb); have n1_ := Aside0.mk (Kd.R_below (by (with_reducible repeat (first | apply Kd.R_alloc | apply Kd.R_drewN | apply Kd.R_drew)); exact HO163.out) hb); have n2_ := Aside0.mk (Kd.R_lower ho95 (below_size (by repeat (first | (with_reducible first | exact HB.out | apply below_alloc | apply pw_below_drewN | apply below_drew1) | exact HB.out)))); have n3_ := Aside0.mk (below_step (by repeat (first | (with_reducible first | exact HB.out | apply below_alloc | apply pw_below_drewN | apply below_drew1) | exact HB.out)) hb); clear HO160; clear HO163; clear HB; have HO160 := n0_; have HO163 := n1_; have HO167 := n2_; have HB := n3_; clear n0_ n1_ n2_ n3_; clear hb ho95) | ((with_reducible refine gate_dst (N := 20) rfl ?_); (try (refine gate_guard (by rfl) ?_; dsimp only)); refine Kd.R_lit (Kd.int .i64) _ 3 ?hg (N := 20) ?hd (xs := ([1, 2, 3] : List Int)) (inner := [.int .i64 1, .int .i64 2, .int .i64 3]) (ok := fun _ => True) (okp := fun _ => True) ?hr ?hp (fun _ hk => hk) trivial (Below.refl _ _) (Nat.le_refl _) (by simp) ?_; (case hd => rfl); (case hg => rfl); (case hr => first | (go_simp; done) | (go_simp; rfl)); (case hp => exact (Reps.one (show Kd.M (Kd.int .i64) _ _ _ 1 [.int .i64 1] from rfl) (Reps.one (show Kd.M (Kd.int .i64) _ _ _ 2 [.int .i64 2] from rfl) (Reps.one (show Kd.M (Kd.int .i64) _ _ _ 3 [.int .i64 3] from rfl) (Reps.none _ _))))); intro v169 w96 ho97 hb hg_ hnew_; clear hg_ hnew_; (first | rw [← Ny168.out] at ho97 | (simp only [Int.reduceToNat] at ho97; rw [← Ny168.out] at ho97)); have n0_ := Aside0.mk (Kd.R_below (by (with_reducible repeat (first | apply Kd.R_alloc | apply Kd.R_drewN | apply Kd.R_drew)); exact HO160.out) hb); have n1_ := Aside0.mk (Kd.R_below (by (with_reducible repeat (first | apply Kd.R_alloc | apply Kd.R_drewN | apply Kd.R_drew)); exact HO163.out) hb); have n2_ := Aside0.mk (Kd.R_below (by (with_reducible repeat (first | apply Kd.R_alloc | apply Kd.R_drewN | apply Kd.R_drew)); exact HO167.out) hb); have n3_ := Aside0.mk (Kd.R_lower ho97 (below_size (by repeat (first | (with_reducible first | exact HB.out | apply below_alloc | apply pw_below_drewN | apply below_drew1) | exact HB.out)))); have n4_ := Aside0.mk (below_step (by repeat (first | (with_reducible first | exact HB.out | apply below_alloc | apply pw_below_drewN | apply below_drew1) | exact HB.out)) hb); clear HO160; clear HO163; clear HO167; clear HB; have HO160 := n0_; have HO163 := n1_; have HO167 := n2_; have HO170 := n3_; have HB := n4_; clear n0_ n1_ n2_ n3_ n4_; clear hb ho97; obtain ⟨Ao98, co98, eo98⟩ := Kd.R_slice HO170.out; subst eo98; obtain ⟨Ao99, co99, eo99⟩ := Kd.R_slice HO167.out; subst eo99) | ((with_reducible refine gate_callee (f := 19) rfl ?_); refine goesL_ (some 22) rfl rfl Try.func19 (by kernel_rfl) rfl #[.agg #[.bool false, .slice none 0 0, .slice Ao99 y165.length co99, .slice Ao98 y168.length co98], .string (⟨#[98]⟩ : ByteArray)] rfl (by (try simp only [List.map_toArray, List.map_cons, List.map_nil]); first | done | rfl | (simp only [List.length_drop, List.length_take]; rfl)) ?_; (refine (node_Place.calls k false _ _ ([] : List (S42)) _ _ y165 _ _ y168 (⟨#[98]⟩ : ByteArray) t171 t172 _ ?side1 ?side2 ?side3 ?side4 ?side5 ?side6 A3.out).mono ?_); (case side1 => exact Kd.C_nil _ _); (case side2 => exact Nat.le_refl _); (case side3 => repeat (first | exact (Kd.R_reads' HO167.out).2.2 | (with_reducible refine Kd.C_alloc ?_ _) | (with_reducible refine Kd.C_drewN ?_ _) | (with_reducible refine Kd.C_drew ?_))); (case side4 => exact (Kd.R_reads' HO167.out).2.1); (case side5 => repeat (first | exact (Kd.R_reads' HO170.out).2.2 | (with_reducible refine Kd.C_alloc ?_ _) | (with_reducible refine Kd.C_drewN ?_ _) | (with_reducible refine Kd.C_drew ?_))); (case side6 => exact (Kd.R_reads' HO170.out).2.1); rintro e w100 ⟨rfl, hb⟩; refine ⟨_, rfl, ?_⟩; have n0_ := Aside0.mk (Kd.R_below (by (with_reducible repeat (first | apply Kd.R_alloc | apply Kd.R_drewN | apply Kd.R_drew)); exact HO160.out) hb); have n1_ := Aside0.mk (Kd.R_below (by (with_reducible repeat (first | apply Kd.R_alloc | apply Kd.R_drewN | apply Kd.R_drew)); exact HO163.out) hb); have n2_ := Aside0.mk (Kd.R_below (by (with_reducible repeat (first | apply Kd.R_alloc | apply Kd.R_drewN | apply Kd.R_drew)); exact HO167.out) hb); have n3_ := Aside0.mk (Kd.R_below (by (with_reducible repeat (first | apply Kd.R_alloc | apply Kd.R_drewN | apply Kd.R_drew)); exact HO170.out) hb); have n4_ := Aside0.mk (below_step (by repeat (first | (with_reducible first | exact HB.out | apply below_alloc | apply pw_below_drewN | apply below_drew1) | exact HB.out)) hb); clear HO160; clear HO163; clear HO167; clear HO170; clear HB; have HO160 := n0_; have HO163 := n1_; have HO167 := n2_; have HO170 := n3_; have HB := n4_; clear n0_ n1_ n2_ n3_ n4_; (try clear hb); (try clear hb2); (try clear hk); (try clear hi)))
  go_ret
  exact ⟨by first | rfl | (simp [errW_none, errW_some] <;> rfl) | (simp [*, errW_none, errW_some] <;> rfl), by repeat (first | (with_reducible first | exact HB.out | apply below_alloc | apply pw_below_drewN | apply below_drew1) | exact HB.out)⟩
-- NOT PRINTED: function 35 (node_kinds)
def bytes_Equal.f (l0 : List Int) (l1 : List Int) : Option (Bool) := some ((strOfNums l0).toList == (strOfNums l1).toList)
set_option maxHeartbeats 8000000 in
set_option maxRecDepth 100000 in
theorem bytes_Equal.calls (A0 : Option Addr) (c0 : Nat) (l0 : List Int) (A1 : Option Addr) (c1 : Nat) (l1 : List Int) (r : Bool) (w : World) (hr0 : Kd.C (Kd.int .u8) w A0 l0.length l0) (hc0 : l0.length ≤ c0) (hr1 : Kd.C (Kd.int .u8) w A1 l1.length l1) (hc1 : l1.length ≤ c1) (h : bytes_Equal.f l0 l1 = some r) :
  Calls Try.prog 36 #[.slice A0 l0.length c0, .slice A1 l1.length c1] w fun e w' => e = .returned (.bool r) ∧ Drawn0 w w' := by
 have HR0 := Aside0.mk hr0
 have HC0 := Aside0.mk hc0
 clear hr0 hc0
 have HR1 := Aside0.mk hr1
 have HC1 := Aside0.mk hc1
 clear hr1 hc1
 have H : (some ((strOfNums l0).toList == (strOfNums l1).toList)) = some r := h
 clear h
 obtain rfl := Option.some.inj H
 have hcv3 := Kd.C_string (P := Try.prog) (A := A0) (c := c0) Try.underlying30 Try.underlying5 Try.underlying9 HR0.out
 have hcv4 := Kd.C_string (P := Try.prog) (A := A1) (c := c1) Try.underlying30 Try.underlying5 Try.underlying9 HR1.out
 go_enter Try.func36, Try.ntmps36
 go_wp2
 go_ret
 exact ⟨by first | rfl | (simp; done) | (simp [*]; done), by repeat (first | exact Drawn0.refl _ | apply Drawn0.step)⟩
def leafOf (l0 : List Int) : List S42 × List Int × Bool := YtjhenmegcgnkgaaX.leafR (rd l0 1 * 256 + rd l0 2).toNat (l0.drop 3) false []
def kidsOf (l0 : List Int) : List Int × List Int × Bool := YtjhenmegcgnkgaaX.kidsR ((rd l0 1 * 256 + rd l0 2).toNat + 1) (l0.drop 3) false []
def keysOf (l0 : List Int) : List ByteArray × List Int × Bool := YtjhenmegcgnkgaaX.keysR (rd l0 1 * 256 + rd l0 2).toNat (kidsOf l0).2.1 (kidsOf l0).2.2 []
def node_Parse.f (k : Nat) (l0 : List Int) : Option (Bool × (List (S42)) × List ByteArray × List Int × Int) :=
 if octB l0 = true then (if 64 ≤ l0.length ∧ l0.length ≤ 4096 then (if rd l0 0 = 1 then (node_Bytes.f k true (leafOf l0).1 [] [] (l0.length : Int)).bind fun b => (bytes_Equal.f b.1 l0).bind fun q => (if (leafOf l0).2.2 = false ∧ b.2 = 0 ∧ q = true then some (true, (leafOf l0).1, [], [], 0) else some (false, [], [], [], 4))
  else if rd l0 0 = 2 then (node_Bytes.f k false [] (keysOf l0).1 (kidsOf l0).1 (l0.length : Int)).bind fun b => (bytes_Equal.f b.1 l0).bind fun q => (if (keysOf l0).2.2 = false ∧ b.2 = 0 ∧ q = true then some (false, [], (keysOf l0).1, (kidsOf l0).1, 0) else some (false, [], [], [], 4))
  else some (false, [], [], [], 4)) else some (false, [], [], [], 4)) else none
theorem node_Parse.mono : ∀ l0 k, LeO (node_Parse.f k l0) (node_Parse.f (k + 1) l0) := by
 intro l0 k
 unfold node_Parse.f
 exact LeO.ite (LeO.ite (LeO.ite (LeO.bind (node_Bytes.mono _ _ _ _ _ _) fun b => LeO.refl _) (LeO.ite (LeO.bind (node_Bytes.mono _ _ _ _ _ _) fun b => LeO.refl _) (LeO.refl _))) (LeO.refl _)) (LeO.refl _)
theorem bytes_is {k : Nat} {leaf : Bool} {ps : List S42} {ks : List ByteArray} {cs : List Int} {n : Int} {want : List Int} {e0 : Int} (h : node_Bytes.f k leaf ps ks cs n = some (want, e0)) : YtjhenmegcgnkgaaX.BytesIs leaf ps ks cs n want e0 :=
 fun W A1 c1 A2 c2 A3 c3 C1 l1 C2 l2 C3 l3 => node_Bytes.calls k leaf A1 c1 ps A2 c2 ks A3 c3 cs n want e0 W C1 l1 C2 l2 C3 l3 h
theorem equal_is {a b : List Int} {r : Bool} (h : bytes_Equal.f a b = some r) : YtjhenmegcgnkgaaX.EqualIs a b r :=
 fun W A1 c1 A2 c2 C1 l1 C2 l2 => bytes_Equal.calls A1 c1 a A2 c2 b r W C1 l1 C2 l2 h
theorem no_all {a c : Bool} {e : Int} (hno : a = true ∨ e ≠ 0 ∨ c = false) : ¬ (a = false ∧ e = 0 ∧ c = true) := by
 rintro ⟨h1, h2, h3⟩
 rcases hno with h | h | h
 ·rw [h1] at h
  cases h
 ·exact h h2
 ·rw [h3] at h
  cases h
theorem node_Parse.calls (k : Nat) (A0 : Option Addr) (c0 : Nat) (l0 : List Int) (r1 : Bool) (r2 : List (S42)) (r3 : List ByteArray) (r4 : List Int) (r5 : Int) (w : World) (hr0 : Kd.C (Kd.int .u8) w A0 l0.length l0) (hc0 : l0.length ≤ c0) (h : node_Parse.f k l0 = some (r1, r2, r3, r4, r5)) :
  Calls Try.prog 21 #[.slice A0 l0.length c0] w fun e w' => ∃ v1_ v2_ v3_ : Value, e = .returned (.tuple #[.agg #[.bool r1, v1_, v2_, v3_], .int .i64 r5]) ∧ Kd.R k42 42 w' w.heap.size (fun _ => True) v1_ r2 ∧ Kd.R Kd.string 9 w' w.heap.size (fun _ => True) v2_ r3 ∧ Kd.R (Kd.int .i64) 3 w' w.heap.size (fun _ => True) v3_ r4 ∧ Below w.heap.size w w' := by
 unfold node_Parse.f at h
 by_cases ho : octB l0 = true
 ·rw [if_pos ho] at h
  have hr : ReadsInt w .u8 A0 l0.length l0 := Kd.reads_of_C (d := (0 : Int)) hr0
  have hoct : YtjhenmegcgnkgaaX.Oct l0 := fun x hx => by
   have := List.all_eq_true.1 ho x hx
   rw [Bool.and_eq_true] at this
   exact ⟨of_decide_eq_true this.1, of_decide_eq_true this.2⟩
  by_cases hn : 64 ≤ l0.length ∧ l0.length ≤ 4096
  ·rw [if_pos hn] at h
   have hin : YtjhenmegcgnkgaaX.inB (l0.length : Int) 64 4096 = true := by
    unfold YtjhenmegcgnkgaaX.inB
    rw [decide_eq_true (by omega), decide_eq_true (by omega)]
    rfl
   by_cases h1 : rd l0 0 = 1
   ·rw [if_pos h1] at h
    obtain ⟨⟨want, e0⟩, hb, h⟩ := Option.bind_eq_some_iff.mp h
    obtain ⟨q, hq, h⟩ := Option.bind_eq_some_iff.mp h
    dsimp only at h hq
    refine YtjhenmegcgnkgaaX.parse_leaf A0 c0 l0 w hr hc0 hoct hin hn.1 h1 (leafOf l0).1 (leafOf l0).2.1 (leafOf l0).2.2 rfl want e0 (bytes_is hb) q (equal_is hq) _ ?_ ?_
    ·intro hbad he hqq e w' ha
     rw [if_pos ⟨hbad, he, hqq⟩] at h
     injection h with h
     injection h with g1 g2
     injection g2 with g2 g3
     injection g3 with g3 g4
     injection g4 with g4 g5
     subst g1 g2 g3 g4 g5
     exact ha
    ·intro hno e w' ha
     rw [if_neg (no_all hno)] at h
     injection h with h
     injection h with g1 g2
     injection g2 with g2 g3
     injection g3 with g3 g4
     injection g4 with g4 g5
     subst g1 g2 g3 g4 g5
     exact ha
   ·rw [if_neg h1] at h
    by_cases h2 : rd l0 0 = 2
    ·rw [if_pos h2] at h
     obtain ⟨⟨want, e0⟩, hb, h⟩ := Option.bind_eq_some_iff.mp h
     obtain ⟨q, hq, h⟩ := Option.bind_eq_some_iff.mp h
     dsimp only at h hq
     refine YtjhenmegcgnkgaaX.parse_inner A0 c0 l0 w hr hc0 hoct hin hn.1 h2 (kidsOf l0).1 (kidsOf l0).2.1 (kidsOf l0).2.2 rfl (keysOf l0).1 (keysOf l0).2.1 (keysOf l0).2.2 rfl want e0 (bytes_is hb) q (equal_is hq) _ ?_ ?_
     ·intro hbad he hqq e w' ha
      rw [if_pos ⟨hbad, he, hqq⟩] at h
      injection h with h
      injection h with g1 g2
      injection g2 with g2 g3
      injection g3 with g3 g4
      injection g4 with g4 g5
      subst g1 g2 g3 g4 g5
      exact ha
     ·intro hno e w' ha
      rw [if_neg (no_all hno)] at h
      injection h with h
      injection h with g1 g2
      injection g2 with g2 g3
      injection g3 with g3 g4
      injection g4 with g4 g5
      subst g1 g2 g3 g4 g5
      exact ha
    ·rw [if_neg h2] at h
     injection h with h
     injection h with g1 g2
     injection g2 with g2 g3
     injection g3 with g3 g4
     injection g4 with g4 g5
     subst g1 g2 g3 g4 g5
     exact YtjhenmegcgnkgaaX.parse_other A0 c0 l0 w hr hc0 hoct hin hn.1 ⟨h1, h2⟩
  ·rw [if_neg hn] at h
   have hin : YtjhenmegcgnkgaaX.inB (l0.length : Int) 64 4096 = false := by
    unfold YtjhenmegcgnkgaaX.inB
    by_cases ha : (64 : Int) ≤ (l0.length : Int)
    ·rw [decide_eq_true ha, decide_eq_false (by omega)]
     rfl
    ·rw [decide_eq_false ha]
     rfl
   injection h with h
   injection h with g1 g2
   injection g2 with g2 g3
   injection g3 with g3 g4
   injection g4 with g4 g5
   subst g1 g2 g3 g4 g5
   exact YtjhenmegcgnkgaaX.parse_short A0 c0 l0 w hin
 ·rw [if_neg ho] at h
  cases h
mutual
def chandleryref08_Size.l0 : Nat → Int → Int → Bool → List (S42) → List ByteArray → List Int → Option (Int)
 | 0, _, _, _, _, _, _ => none
 | k + 1, x3, x4, x178000, x178001, x178002, x178003 => if x4 < (x178001.length : Int) then (if 0 ≤ x4 then (chandleryref08_Size.l0 k (wrap64 ((wrap64 ((wrap64 (x3 + 2)) + (((rd_T42 x178001 x4).f0).size : Int))) + (((rd_T42 x178001 x4).f1).size : Int))) (wrap64 (x4 + 1)) x178000 x178001 x178002 x178003) else (none)) else (chandleryref08_Size.l1 k x3 0 x178000 x178001 x178002 x178003)
def chandleryref08_Size.l1 : Nat → Int → Int → Bool → List (S42) → List ByteArray → List Int → Option (Int)
 | 0, _, _, _, _, _, _ => none
 | k + 1, x3, x5, x178000, x178001, x178002, x178003 => if x5 < (x178002.length : Int) then (if 0 ≤ x5 then (chandleryref08_Size.l1 k (wrap64 ((wrap64 (x3 + 1)) + ((rdOf ByteArray.empty x178002 x5).size : Int))) (wrap64 (x5 + 1)) x178000 x178001 x178002 x178003) else (none)) else (some x3)
end
def chandleryref08_Size.f (k : Nat) (a0_0 : Bool) (l0_1 : List (S42)) (l0_2 : List ByteArray) (l0_3 : List Int) : Option (Int) := chandleryref08_Size.l0 k (wrap64 (3 + (wrap64 (3 * (l0_3.length : Int))))) 0 a0_0 l0_1 l0_2 l0_3
theorem chandleryref08_Size.mono_l : ∀ k, (∀ y0 y1 y2 y3 y4 y5, LeO (chandleryref08_Size.l0 k y0 y1 y2 y3 y4 y5) (chandleryref08_Size.l0 (k + 1) y0 y1 y2 y3 y4 y5)) ∧ (∀ y0 y1 y2 y3 y4 y5, LeO (chandleryref08_Size.l1 k y0 y1 y2 y3 y4 y5) (chandleryref08_Size.l1 (k + 1) y0 y1 y2 y3 y4 y5))
 | 0 => ⟨fun _ _ _ _ _ _ r h => by simp [chandleryref08_Size.l0] at h, fun _ _ _ _ _ _ r h => by simp [chandleryref08_Size.l1] at h⟩
 | k + 1 => by
  obtain ⟨ih0, ih1⟩ := chandleryref08_Size.mono_l k
  refine ⟨?_, ?_⟩
  ·intro y0 y1 y2 y3 y4 y5
   unfold chandleryref08_Size.l0
   repeat' first
   | (with_reducible exact ih0 _ _ _ _ _ _)
   | (with_reducible exact ih1 _ _ _ _ _ _)
   | (with_reducible exact LeO.refl _)
   | (with_reducible exact LeO.none _)
   | (with_reducible refine LeO.ite ?_ ?_)
   | (with_reducible refine LeO.bind ?_ (fun _ => ?_))
   | exact ih0 _ _ _ _ _ _
   | exact ih1 _ _ _ _ _ _
   | exact LeO.none _
   | refine LeO.ite ?_ ?_
   | refine LeO.bind ?_ (fun _ => ?_)
  ·intro y0 y1 y2 y3 y4 y5
   unfold chandleryref08_Size.l1
   repeat' first
   | (with_reducible exact ih0 _ _ _ _ _ _)
   | (with_reducible exact ih1 _ _ _ _ _ _)
   | (with_reducible exact LeO.refl _)
   | (with_reducible exact LeO.none _)
   | (with_reducible refine LeO.ite ?_ ?_)
   | (with_reducible refine LeO.bind ?_ (fun _ => ?_))
   | exact ih0 _ _ _ _ _ _
   | exact ih1 _ _ _ _ _ _
   | exact LeO.none _
   | refine LeO.ite ?_ ?_
   | refine LeO.bind ?_ (fun _ => ?_)
theorem chandleryref08_Size.mono : ∀ a0 a1 a2 a3 k, LeO (chandleryref08_Size.f k a0 a1 a2 a3) (chandleryref08_Size.f (k + 1) a0 a1 a2 a3) := by
 intro a0 a1 a2 a3 k
 obtain ⟨ih0, ih1⟩ := chandleryref08_Size.mono_l k
 unfold chandleryref08_Size.f
 repeat' first
   | (with_reducible exact ih0 _ _ _ _ _ _)
   | (with_reducible exact ih1 _ _ _ _ _ _)
   | (with_reducible exact LeO.refl _)
   | (with_reducible exact LeO.none _)
   | (with_reducible refine LeO.ite ?_ ?_)
   | (with_reducible refine LeO.bind ?_ (fun _ => ?_))
   | exact ih0 _ _ _ _ _ _
   | exact ih1 _ _ _ _ _ _
   | exact LeO.none _
   | refine LeO.ite ?_ ?_
   | refine LeO.bind ?_ (fun _ => ?_)
set_option maxHeartbeats 8000000 in
set_option maxRecDepth 100000 in
theorem chandleryref08_Size.calls (k : Nat) (a0_0 : Bool) (A0_1 : Option Addr) (c0_1 : Nat) (l0_1 : List (S42)) (A0_2 : Option Addr) (c0_2 : Nat) (l0_2 : List ByteArray) (A0_3 : Option Addr) (c0_3 : Nat) (l0_3 : List Int) (r : Int) (w : World) (hr0_1 : Kd.C k42 w A0_1 l0_1.length l0_1) (hc0_1 : l0_1.length ≤ c0_1) (hr0_2 : Kd.C Kd.string w A0_2 l0_2.length l0_2) (hc0_2 : l0_2.length ≤ c0_2) (hr0_3 : Kd.C (Kd.int .i64) w A0_3 l0_3.length l0_3) (hc0_3 : l0_3.length ≤ c0_3) (h : chandleryref08_Size.f k a0_0 l0_1 l0_2 l0_3 = some r) :
  Calls Try.prog 14 #[.agg #[.bool a0_0, .slice A0_1 l0_1.length c0_1, .slice A0_2 l0_2.length c0_2, .slice A0_3 l0_3.length c0_3]] w fun e w' => e = .returned (.int .i64 r) ∧ Below w.heap.size w w' := by
 have hu26 := Try.underlying26
 have HR0_1 := Aside0.mk hr0_1
 have HC0_1 := Aside0.mk hc0_1
 clear hr0_1 hc0_1
 have HR0_2 := Aside0.mk hr0_2
 have HC0_2 := Aside0.mk hc0_2
 clear hr0_2 hc0_2
 have HR0_3 := Aside0.mk hr0_3
 have HC0_3 := Aside0.mk hc0_3
 clear hr0_3 hc0_3
 have HB := Aside0.mk (Below.refl w.heap.size w)
 have H : (chandleryref08_Size.l0 k (wrap64 (3 + (wrap64 (3 * (l0_3.length : Int))))) 0 a0_0 l0_1 l0_2 l0_3) = some r := h
 clear h
 have H' := Aside0.mk H
 clear H
 go_enter Try.func14, Try.ntmps14
 go_wp2_with (first | ((with_reducible refine gate_dst (N := 1) rfl ?_); refine box_event ?hg (N := 1) ?hd (cs := #[.bool a0_0, .slice A0_1 l0_1.length c0_1, .slice A0_2 l0_2.length c0_2, .slice A0_3 l0_3.length c0_3]) (t := 26) ?hr ?_; (case hd => rfl); (case hg => rfl); (case hr => first | (go_simp; done) | (go_simp; rfl)); intro gb177 hg w2 hbox hb; have n0_ := Aside0.mk (below_step (by repeat (first | (with_reducible first | exact HB.out | apply below_alloc | apply pw_below_drewN | apply below_drew1) | exact HB.out)) hb); have n1_ := Aside0.mk (hbox); have n2_ := Aside0.mk ((by rw [hg]; exact (below_size (by repeat (first | (with_reducible first | exact HB.out | apply below_alloc | apply pw_below_drewN | apply below_drew1) | exact HB.out))) : w.heap.size ≤ gb177)); have n3_ := Aside0.mk ((by rw [hg]; exact (below_size (by repeat (first | (with_reducible first | exact HB.out | apply below_alloc | apply pw_below_drewN | apply below_drew1) | exact HB.out))) : w.heap.size ≤ gb177)); clear HB; have HB := n0_; have BK177 := n1_; have GW177 := n2_; have GE177 := n3_; clear n0_ n1_ n2_ n3_; clear hb hbox hg; have hcz3_0 : w2.cell? ⟨gb177, 0, none⟩ = some (.bool a0_0) := (blk_cell BK177.out 0).trans rfl; have hcz3_1 : w2.cell? ⟨gb177, 1, none⟩ = some (.slice A0_1 l0_1.length c0_1) := (blk_cell BK177.out 1).trans rfl; have hcz3_2 : w2.cell? ⟨gb177, 2, none⟩ = some (.slice A0_2 l0_2.length c0_2) := (blk_cell BK177.out 2).trans rfl; have hcz3_3 : w2.cell? ⟨gb177, 3, none⟩ = some (.slice A0_3 l0_3.length c0_3) := (blk_cell BK177.out 3).trans rfl; have hfz3_0 := blk_frozen BK177.out 0; have hfz3_1 := blk_frozen BK177.out 1; have hfz3_2 := blk_frozen BK177.out 2; have hfz3_3 := blk_frozen BK177.out 3))
 repeat (go_quiet (first | ((with_reducible refine gate_dst (N := 1) rfl ?_); refine box_event ?hg (N := 1) ?hd (cs := #[.bool a0_0, .slice A0_1 l0_1.length c0_1, .slice A0_2 l0_2.length c0_2, .slice A0_3 l0_3.length c0_3]) (t := 26) ?hr ?_; (case hd => rfl); (case hg => rfl); (case hr => first | (go_simp; done) | (go_simp; rfl)); intro gb177 hg w2 hbox hb; have n0_ := Aside0.mk (below_step (by repeat (first | (with_reducible first | exact HB.out | apply below_alloc | apply pw_below_drewN | apply below_drew1) | exact HB.out)) hb); have n1_ := Aside0.mk (hbox); have n2_ := Aside0.mk ((by rw [hg]; exact (below_size (by repeat (first | (with_reducible first | exact HB.out | apply below_alloc | apply pw_below_drewN | apply below_drew1) | exact HB.out))) : w.heap.size ≤ gb177)); have n3_ := Aside0.mk ((by rw [hg]; exact (below_size (by repeat (first | (with_reducible first | exact HB.out | apply below_alloc | apply pw_below_drewN | apply below_drew1) | exact HB.out))) : w.heap.size ≤ gb177)); clear HB; have HB := n0_; have BK177 := n1_; have GW177 := n2_; have GE177 := n3_; clear n0_ n1_ n2_ n3_; clear hb hbox hg; have hcz3_0 : w2.cell? ⟨gb177, 0, none⟩ = some (.bool a0_0) := (blk_cell BK177.out 0).trans rfl; have hcz3_1 : w2.cell? ⟨gb177, 1, none⟩ = some (.slice A0_1 l0_1.length c0_1) := (blk_cell BK177.out 1).trans rfl; have hcz3_2 : w2.cell? ⟨gb177, 2, none⟩ = some (.slice A0_2 l0_2.length c0_2) := (blk_cell BK177.out 2).trans rfl; have hcz3_3 : w2.cell? ⟨gb177, 3, none⟩ = some (.slice A0_3 l0_3.length c0_3) := (blk_cell BK177.out 3).trans rfl; have hfz3_0 := blk_frozen BK177.out 0; have hfz3_1 := blk_frozen BK177.out 1; have hfz3_2 := blk_frozen BK177.out 2; have hfz3_3 := blk_frozen BK177.out 3)); try go_wp2_with (first | ((with_reducible refine gate_dst (N := 1) rfl ?_); refine box_event ?hg (N := 1) ?hd (cs := #[.bool a0_0, .slice A0_1 l0_1.length c0_1, .slice A0_2 l0_2.length c0_2, .slice A0_3 l0_3.length c0_3]) (t := 26) ?hr ?_; (case hd => rfl); (case hg => rfl); (case hr => first | (go_simp; done) | (go_simp; rfl)); intro gb177 hg w2 hbox hb; have n0_ := Aside0.mk (below_step (by repeat (first | (with_reducible first | exact HB.out | apply below_alloc | apply pw_below_drewN | apply below_drew1) | exact HB.out)) hb); have n1_ := Aside0.mk (hbox); have n2_ := Aside0.mk ((by rw [hg]; exact (below_size (by repeat (first | (with_reducible first | exact HB.out | apply below_alloc | apply pw_below_drewN | apply below_drew1) | exact HB.out))) : w.heap.size ≤ gb177)); have n3_ := Aside0.mk ((by rw [hg]; exact (below_size (by repeat (first | (with_reducible first | exact HB.out | apply below_alloc | apply pw_below_drewN | apply below_drew1) | exact HB.out))) : w.heap.size ≤ gb177)); clear HB; have HB := n0_; have BK177 := n1_; have GW177 := n2_; have GE177 := n3_; clear n0_ n1_ n2_ n3_; clear hb hbox hg; have hcz3_0 : w2.cell? ⟨gb177, 0, none⟩ = some (.bool a0_0) := (blk_cell BK177.out 0).trans rfl; have hcz3_1 : w2.cell? ⟨gb177, 1, none⟩ = some (.slice A0_1 l0_1.length c0_1) := (blk_cell BK177.out 1).trans rfl; have hcz3_2 : w2.cell? ⟨gb177, 2, none⟩ = some (.slice A0_2 l0_2.length c0_2) := (blk_cell BK177.out 2).trans rfl; have hcz3_3 : w2.cell? ⟨gb177, 3, none⟩ = some (.slice A0_3 l0_3.length c0_3) := (blk_cell BK177.out 3).trans rfl; have hfz3_0 := blk_frozen BK177.out 0; have hfz3_1 := blk_frozen BK177.out 1; have hfz3_2 := blk_frozen BK177.out 2; have hfz3_3 := blk_frozen BK177.out 3)))
 go_loopg [3, 4] k (fun kq v3 v4 w' => ∃ (x3_1 : Int) (x4_1 : Int), v3 = .int .i64 x3_1 ∧ v4 = .int .i64 x4_1 ∧ Aside0 (chandleryref08_Size.l0 kq x3_1 x4_1 a0_0 l0_1 l0_2 l0_3 = some r) ∧ Aside0 (kq ≤ k) ∧ Aside0 (w'.heap[gb177]? = some (.cells #[.bool a0_0, (.slice A0_1 l0_1.length c0_1), (.slice A0_2 l0_2.length c0_2), (.slice A0_3 l0_3.length c0_3)] 26 (0, 0))) ∧ Aside0 (Below w.heap.size w w'))
 case atStart => exact ⟨(wrap64 (3 + (wrap64 (3 * (l0_3.length : Int))))), (0), (by first | rfl | (simp; done) | exact congrArg Value.bool (Go.Proofs.YtjhenmegcgnkgaaX.isEmpty_ne_ _) | exact congrArg Value.bool (Go.Proofs.YtjhenmegcgnkgaaX.ne_isEmpty_ _) | (simp [*]; done)), (by first | rfl | (simp; done) | exact congrArg Value.bool (Go.Proofs.YtjhenmegcgnkgaaX.isEmpty_ne_ _) | exact congrArg Value.bool (Go.Proofs.YtjhenmegcgnkgaaX.ne_isEmpty_ _) | (simp [*]; done)), H', ⟨Nat.le_refl _⟩, ⟨by (with_reducible repeat (first | refine blk_drewN ?_ _ | refine blk_drew ?_ | refine blk_alloc ?_ _)); exact BK177.out⟩, ⟨by repeat (first | (with_reducible first | exact HB.out | apply below_alloc | apply pw_below_drewN | apply below_drew1 | refine below_set ?_ GE177.out) | exact HB.out)⟩⟩
 case round =>
  clear H'
  try clear c1
  try clear p2
  try clear hcz3_0
  try clear hcz3_1
  try clear hcz3_2
  try clear hcz3_3
  try clear hfz3_0
  try clear hfz3_1
  try clear hfz3_2
  try clear hfz3_3
  obtain ⟨x3_1, x4_1, rfl, rfl, HA, HK1, BK177, HB⟩ := hrel
  cases gk with
  | zero => exact absurd HA.out (by simp [chandleryref08_Size.l0])
  | succ k1 =>
   have H := HA.out
   clear HA
   simp only [chandleryref08_Size.l0] at H
   by_cases c4 : x4_1 < (l0_1.length : Int)
   ·rw [if_pos c4] at H
    have c4b0 : decide (x4_1 < (l0_1.length : Int)) = true := decide_eq_true c4
    clear c4
    by_cases c5 : 0 ≤ x4_1
    ·rw [if_pos c5] at H
     have c5b0 : decide (0 ≤ x4_1) = true := decide_eq_true c5
     clear c5
     have H' := Aside0.mk H
     clear H
     have hcz6_0 : wr.cell? ⟨gb177, 0, none⟩ = some (.bool a0_0) := (blk_cell BK177.out 0).trans rfl
     have hcz6_1 : wr.cell? ⟨gb177, 1, none⟩ = some (.slice A0_1 l0_1.length c0_1) := (blk_cell BK177.out 1).trans rfl
     have hcz6_2 : wr.cell? ⟨gb177, 2, none⟩ = some (.slice A0_2 l0_2.length c0_2) := (blk_cell BK177.out 2).trans rfl
     have hcz6_3 : wr.cell? ⟨gb177, 3, none⟩ = some (.slice A0_3 l0_3.length c0_3) := (blk_cell BK177.out 3).trans rfl
     have hfz6_0 := blk_frozen BK177.out 0
     have hfz6_1 := blk_frozen BK177.out 1
     have hfz6_2 := blk_frozen BK177.out 2
     have hfz6_3 := blk_frozen BK177.out 3
     have p178 : 0 ≤ (x4_1 : Int) := of_decide_eq_true (by first | (with_reducible assumption) | assumption)
     have q178 : x4_1 < (l0_1.length : Int) := of_decide_eq_true (by first | (with_reducible assumption) | assumption)
     obtain ⟨ad178, e178, hx178_0, hx178_1⟩ := at_T42 HR0_1.out x4_1 p178 q178
     cases e178
     replace hx178_0 := (HB.out.cell (World.block_lt_of_cell? w _ hx178_0)).trans hx178_0
     replace hx178_1 := (HB.out.cell (World.block_lt_of_cell? w _ hx178_1)).trans hx178_1
     replace p178 := eq_true p178
     replace q178 := eq_true q178
     have p179 : 0 ≤ (x4_1 : Int) := of_decide_eq_true (by first | (with_reducible assumption) | assumption)
     have q179 : x4_1 < (l0_1.length : Int) := of_decide_eq_true (by first | (with_reducible assumption) | assumption)
     obtain ⟨ad179, e179, hx179_0, hx179_1⟩ := at_T42 HR0_1.out x4_1 p179 q179
     obtain rfl : ad178 = ad179 := (by injection e179)
     replace hx179_0 := (HB.out.cell (World.block_lt_of_cell? w _ hx179_0)).trans hx179_0
     replace hx179_1 := (HB.out.cell (World.block_lt_of_cell? w _ hx179_1)).trans hx179_1
     replace p179 := eq_true p179
     replace q179 := eq_true q179
     go_wp2
     repeat (go_quiet (fail); try go_wp2)
     go_roundg k1
     case measure => have := HK1.out; omega
     case rel => exact ⟨(wrap64 ((wrap64 ((wrap64 (x3_1 + 2)) + (((rd_T42 l0_1 x4_1).f0).size : Int))) + (((rd_T42 l0_1 x4_1).f1).size : Int))), (wrap64 (x4_1 + 1)), (by first | rfl | (simp; done) | exact congrArg Value.bool (Go.Proofs.YtjhenmegcgnkgaaX.isEmpty_ne_ _) | exact congrArg Value.bool (Go.Proofs.YtjhenmegcgnkgaaX.ne_isEmpty_ _) | (simp [*]; done)), (by first | rfl | (simp; done) | exact congrArg Value.bool (Go.Proofs.YtjhenmegcgnkgaaX.isEmpty_ne_ _) | exact congrArg Value.bool (Go.Proofs.YtjhenmegcgnkgaaX.ne_isEmpty_ _) | (simp [*]; done)), H', ⟨by have := HK1.out; omega⟩, ⟨by (with_reducible repeat (first | refine blk_drewN ?_ _ | refine blk_drew ?_ | refine blk_alloc ?_ _)); exact BK177.out⟩, ⟨by repeat (first | (with_reducible first | exact HB.out | apply below_alloc | apply pw_below_drewN | apply below_drew1 | refine below_set ?_ GE177.out) | exact HB.out)⟩⟩
    ·rw [if_neg c5] at H
     exact absurd H (by simp)
   ·rw [if_neg c4] at H
    have c4b0 : decide (x4_1 < (l0_1.length : Int)) = false := decide_eq_false c4
    clear c4
    have H' := Aside0.mk H
    clear H
    have hcz7_0 : wr.cell? ⟨gb177, 0, none⟩ = some (.bool a0_0) := (blk_cell BK177.out 0).trans rfl
    have hcz7_1 : wr.cell? ⟨gb177, 1, none⟩ = some (.slice A0_1 l0_1.length c0_1) := (blk_cell BK177.out 1).trans rfl
    have hcz7_2 : wr.cell? ⟨gb177, 2, none⟩ = some (.slice A0_2 l0_2.length c0_2) := (blk_cell BK177.out 2).trans rfl
    have hcz7_3 : wr.cell? ⟨gb177, 3, none⟩ = some (.slice A0_3 l0_3.length c0_3) := (blk_cell BK177.out 3).trans rfl
    have hfz7_0 := blk_frozen BK177.out 0
    have hfz7_1 := blk_frozen BK177.out 1
    have hfz7_2 := blk_frozen BK177.out 2
    have hfz7_3 := blk_frozen BK177.out 3
    go_wp2
    repeat (go_quiet (fail); try go_wp2)
    go_loopg [3, 5] k1 (fun kq v3 v5 w' => ∃ (x3_2 : Int) (x5_2 : Int), v3 = .int .i64 x3_2 ∧ v5 = .int .i64 x5_2 ∧ Aside0 (chandleryref08_Size.l1 kq x3_2 x5_2 a0_0 l0_1 l0_2 l0_3 = some r) ∧ Aside0 (kq ≤ k1) ∧ Aside0 (w'.heap[gb177]? = some (.cells #[.bool a0_0, (.slice A0_1 l0_1.length c0_1), (.slice A0_2 l0_2.length c0_2), (.slice A0_3 l0_3.length c0_3)] 26 (0, 0))) ∧ Aside0 (Below w.heap.size w w'))
    case atStart => exact ⟨(x3_1), (0), (by first | rfl | (simp; done) | exact congrArg Value.bool (Go.Proofs.YtjhenmegcgnkgaaX.isEmpty_ne_ _) | exact congrArg Value.bool (Go.Proofs.YtjhenmegcgnkgaaX.ne_isEmpty_ _) | (simp [*]; done)), (by first | rfl | (simp; done) | exact congrArg Value.bool (Go.Proofs.YtjhenmegcgnkgaaX.isEmpty_ne_ _) | exact congrArg Value.bool (Go.Proofs.YtjhenmegcgnkgaaX.ne_isEmpty_ _) | (simp [*]; done)), H', ⟨Nat.le_refl _⟩, ⟨by (with_reducible repeat (first | refine blk_drewN ?_ _ | refine blk_drew ?_ | refine blk_alloc ?_ _)); exact BK177.out⟩, ⟨by repeat (first | (with_reducible first | exact HB.out | apply below_alloc | apply pw_below_drewN | apply below_drew1 | refine below_set ?_ GE177.out) | exact HB.out)⟩⟩
    case round =>
     clear H'
     try clear c1
     try clear p1
     try clear q1
     try clear hx1
     try clear p2
     try clear c4
     try clear c4b0
     try clear c5
     try clear c5b0
     try clear p6
     try clear hcz3_0
     try clear hcz3_1
     try clear hcz3_2
     try clear hcz3_3
     try clear hcz6_0
     try clear hcz6_1
     try clear hcz6_2
     try clear hcz6_3
     try clear hcz7_0
     try clear hcz7_1
     try clear hcz7_2
     try clear hcz7_3
     try clear hfz3_0
     try clear hfz3_1
     try clear hfz3_2
     try clear hfz3_3
     try clear hfz6_0
     try clear hfz6_1
     try clear hfz6_2
     try clear hfz6_3
     try clear hfz7_0
     try clear hfz7_1
     try clear hfz7_2
     try clear hfz7_3
     try clear hx178_0
     try clear hx178_1
     try clear hx179_0
     try clear hx179_1
     try clear p178
     try clear p179
     try clear p2
     try clear q178
     try clear q179
     obtain ⟨x3_2, x5_2, rfl, rfl, HA, HK2, BK177, HB⟩ := hrel
     cases gk with
     | zero => exact absurd HA.out (by simp [chandleryref08_Size.l1])
     | succ k2 =>
      have H := HA.out
      clear HA
      simp only [chandleryref08_Size.l1] at H
      by_cases c8 : x5_2 < (l0_2.length : Int)
      ·rw [if_pos c8] at H
       have c8b0 : decide (x5_2 < (l0_2.length : Int)) = true := decide_eq_true c8
       clear c8
       by_cases c9 : 0 ≤ x5_2
       ·rw [if_pos c9] at H
        have c9b0 : decide (0 ≤ x5_2) = true := decide_eq_true c9
        clear c9
        have H' := Aside0.mk H
        clear H
        have hcz10_0 : wr.cell? ⟨gb177, 0, none⟩ = some (.bool a0_0) := (blk_cell BK177.out 0).trans rfl
        have hcz10_1 : wr.cell? ⟨gb177, 1, none⟩ = some (.slice A0_1 l0_1.length c0_1) := (blk_cell BK177.out 1).trans rfl
        have hcz10_2 : wr.cell? ⟨gb177, 2, none⟩ = some (.slice A0_2 l0_2.length c0_2) := (blk_cell BK177.out 2).trans rfl
        have hcz10_3 : wr.cell? ⟨gb177, 3, none⟩ = some (.slice A0_3 l0_3.length c0_3) := (blk_cell BK177.out 3).trans rfl
        have hfz10_0 := blk_frozen BK177.out 0
        have hfz10_1 := blk_frozen BK177.out 1
        have hfz10_2 := blk_frozen BK177.out 2
        have hfz10_3 := blk_frozen BK177.out 3
        have p180 : 0 ≤ (x5_2 : Int) := of_decide_eq_true (by first | (with_reducible assumption) | assumption)
        have q180 : x5_2 < (l0_2.length : Int) := of_decide_eq_true (by first | (with_reducible assumption) | assumption)
        obtain ⟨ad180, e180, hx180_0⟩ := Kd.at_string HR0_2.out x5_2 p180 q180
        cases e180
        replace hx180_0 := (HB.out.cell (World.block_lt_of_cell? w _ hx180_0)).trans hx180_0
        replace p180 := eq_true p180
        replace q180 := eq_true q180
        go_wp2
        repeat (go_quiet (fail); try go_wp2)
        go_roundg k2
        case measure => have := HK1.out; have := HK2.out; omega
        case rel => exact ⟨(wrap64 ((wrap64 (x3_2 + 1)) + ((rdOf ByteArray.empty l0_2 x5_2).size : Int))), (wrap64 (x5_2 + 1)), (by first | rfl | (simp; done) | exact congrArg Value.bool (Go.Proofs.YtjhenmegcgnkgaaX.isEmpty_ne_ _) | exact congrArg Value.bool (Go.Proofs.YtjhenmegcgnkgaaX.ne_isEmpty_ _) | (simp [*]; done)), (by first | rfl | (simp; done) | exact congrArg Value.bool (Go.Proofs.YtjhenmegcgnkgaaX.isEmpty_ne_ _) | exact congrArg Value.bool (Go.Proofs.YtjhenmegcgnkgaaX.ne_isEmpty_ _) | (simp [*]; done)), H', ⟨by have := HK1.out; have := HK2.out; omega⟩, ⟨by (with_reducible repeat (first | refine blk_drewN ?_ _ | refine blk_drew ?_ | refine blk_alloc ?_ _)); exact BK177.out⟩, ⟨by repeat (first | (with_reducible first | exact HB.out | apply below_alloc | apply pw_below_drewN | apply below_drew1 | refine below_set ?_ GE177.out) | exact HB.out)⟩⟩
       ·rw [if_neg c9] at H
        exact absurd H (by simp)
      ·rw [if_neg c8] at H
       have c8b0 : decide (x5_2 < (l0_2.length : Int)) = false := decide_eq_false c8
       clear c8
       obtain rfl := Option.some.inj H
       have hcz11_0 : wr.cell? ⟨gb177, 0, none⟩ = some (.bool a0_0) := (blk_cell BK177.out 0).trans rfl
       have hcz11_1 : wr.cell? ⟨gb177, 1, none⟩ = some (.slice A0_1 l0_1.length c0_1) := (blk_cell BK177.out 1).trans rfl
       have hcz11_2 : wr.cell? ⟨gb177, 2, none⟩ = some (.slice A0_2 l0_2.length c0_2) := (blk_cell BK177.out 2).trans rfl
       have hcz11_3 : wr.cell? ⟨gb177, 3, none⟩ = some (.slice A0_3 l0_3.length c0_3) := (blk_cell BK177.out 3).trans rfl
       have hfz11_0 := blk_frozen BK177.out 0
       have hfz11_1 := blk_frozen BK177.out 1
       have hfz11_2 := blk_frozen BK177.out 2
       have hfz11_3 := blk_frozen BK177.out 3
       go_wp2
       repeat (go_quiet (fail); try go_wp2)
       go_ret
       exact ⟨by first | rfl | (simp [errW_none, errW_some] <;> rfl) | (simp [*, errW_none, errW_some] <;> rfl), by repeat (first | (with_reducible first | exact HB.out | apply below_alloc | apply pw_below_drewN | apply below_drew1 | refine below_set ?_ GE177.out) | exact HB.out)⟩
end Go.Proofs.Ytjhenmegcgnkgaa.PNode
