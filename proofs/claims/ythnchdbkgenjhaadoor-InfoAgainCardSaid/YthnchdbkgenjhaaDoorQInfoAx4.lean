-- printed with xprint.py over the kit's print
import Derived.Test.YthnchdbkgenjhaaDoorQInfoAx0
import Derived.Test.YthnchdbkgenjhaaDoorQInfoAx1
import Derived.Test.YthnchdbkgenjhaaDoorQInfoAx3
namespace Go.Proofs.YthnchdbkgenjhaaDoor.PInfoA
open Go.RowKit Go.Proofs.YthnchdbkgenjhaaDoorW.PrintWords Go.Proofs.YthnchdbkgenjhaaDoorW.PrintLast Go.Proofs.YthnchdbkgenjhaaDoorW.PrintMore
attribute [local go_sem] max2_int min2_int max_two min_two max_three min_three max_four min_four   -- for this text's walks alone
set_option linter.unusedVariables false
set_option linter.unusedSimpArgs false
def wire_At.l0 : Nat → List Int → Int → Int → Int → Option (Int × Int × Int)
 | 0, _, _, _, _ => none
 | k + 1, x0, x1, x7, x8 => if x8 ≥ 0 then (if 0 ≤ (wrap64 (x1 + x8)) then (if (wrap64 (x1 + x8)) < (x0.length : Int) then (wire_At.l0 k x0 x1 (Go.bits .or .u64 (IntKind.u64.wrap (x7 * 256)) (IntKind.u64.wrap (rd x0 (wrap64 (x1 + x8))))) (wrap64 (x8 - 1))) else (none)) else (none)) else (if x7 > 2147483647 then (some (0, 0, 2)) else (some (wrap64 (x7), wrap64 (x1 + 8), 0)))
def wire_At.f (k : Nat) (l0 : List Int) (a1 : Int) : Option (Int × Int × Int) := if a1 < 0 then (some (0, 0, 1)) else (if a1 > (wrap64 ((l0.length : Int) - 8)) then (some (0, 0, 7)) else (wire_At.l0 k l0 a1 0 7))
set_option maxHeartbeats 8000000 in
set_option maxRecDepth 100000 in
theorem wire_At.calls (k : Nat) (A0 : Option Addr) (c0 : Nat) (l0 : List Int) (a1 : Int) (r1 : Int) (r2 : Int) (r3 : Int) (w : World) (hr0 : Kd.C (Kd.int .u8) w A0 l0.length l0) (hc0 : l0.length ≤ c0) (h : wire_At.f k l0 a1 = some (r1, r2, r3)) :
  Calls Tryd.prog 36 #[.slice A0 l0.length c0, .int .i64 a1] w fun e w' => e = .returned (.tuple #[.int .i64 r1, .int .i64 r2, .int .i64 r3]) ∧ Drawn0 w w' := by
 have HR0 := Aside0.mk hr0
 have HC0 := Aside0.mk hc0
 clear hr0 hc0
 have H : (if a1 < 0 then (some (0, 0, 1)) else (if a1 > (wrap64 ((l0.length : Int) - 8)) then (some (0, 0, 7)) else (wire_At.l0 k l0 a1 0 7))) = some (r1, r2, r3) := h
 clear h
 by_cases c3 : a1 < 0
 ·rw [if_pos c3] at H
  have c3b0 : decide (a1 < 0) = true := decide_eq_true c3
  clear c3
  simp only [Option.some.injEq, Prod.mk.injEq] at H
  obtain ⟨rfl, rfl, rfl⟩ := H
  go_enter Tryd.func36, Tryd.ntmps36
  go_wp2
  go_ret3
  exact ⟨by first | rfl | (simp; done) | (simp [*]; done), by repeat (first | exact Drawn0.refl _ | apply Drawn0.step)⟩
 ·rw [if_neg c3] at H
  have c3b0 : decide (a1 < 0) = false := decide_eq_false c3
  clear c3
  by_cases c4 : a1 > (wrap64 ((l0.length : Int) - 8))
  ·rw [if_pos c4] at H
   have c4b0 : decide ((wrap64 ((l0.length : Int) - 8)) < a1) = true := decide_eq_true c4
   clear c4
   simp only [Option.some.injEq, Prod.mk.injEq] at H
   obtain ⟨rfl, rfl, rfl⟩ := H
   go_enter Tryd.func36, Tryd.ntmps36
   go_wp2
   go_ret3
   exact ⟨by first | rfl | (simp; done) | (simp [*]; done), by repeat (first | exact Drawn0.refl _ | apply Drawn0.step)⟩
  ·rw [if_neg c4] at H
   have c4b0 : decide ((wrap64 ((l0.length : Int) - 8)) < a1) = false := decide_eq_false c4
   clear c4
   have H' := Aside0.mk H
   clear H
   go_enter Tryd.func36, Tryd.ntmps36
   go_wp2
   go_loopg [7, 8] k (fun kq v7 v8 w' => ∃ (x7_1 : Int) (x8_1 : Int), v7 = .int .u64 x7_1 ∧ v8 = .int .i64 x8_1 ∧ Aside0 (wire_At.l0 kq l0 a1 x7_1 x8_1 = some (r1, r2, r3)) ∧ Aside0 (kq ≤ k) ∧ Drawn0 w w')
   case atStart => exact ⟨(0), (7), (by first | rfl | (simp; done) | exact congrArg Value.bool (Go.Proofs.YthnchdbkgenjhaaDoorX.isEmpty_ne_ _) | exact congrArg Value.bool (Go.Proofs.YthnchdbkgenjhaaDoorX.ne_isEmpty_ _) | (simp [*]; done)), (by first | rfl | (simp; done) | exact congrArg Value.bool (Go.Proofs.YthnchdbkgenjhaaDoorX.isEmpty_ne_ _) | exact congrArg Value.bool (Go.Proofs.YthnchdbkgenjhaaDoorX.ne_isEmpty_ _) | (simp [*]; done)), H', ⟨Nat.le_refl _⟩, by repeat (first | exact Drawn0.refl _ | apply Drawn0.step)⟩
   case round =>
    clear H'
    try clear p2
    try clear c3
    try clear c3b0
    try clear c4
    try clear c4b0
    obtain ⟨x7_1, x8_1, rfl, rfl, HA, HK1, ⟨m1, rfl⟩⟩ := hrel
    cases gk with
    | zero => exact absurd HA.out (by simp [wire_At.l0])
    | succ k1 =>
     have H := HA.out
     clear HA
     simp only [wire_At.l0] at H
     by_cases c5 : x8_1 ≥ 0
     ·rw [if_pos c5] at H
      have c5b0 : decide (0 ≤ x8_1) = true := decide_eq_true c5
      clear c5
      obtain ⟨ji6, hji6⟩ : ∃ j_ : Int, (wrap64 (a1 + x8_1)) = j_ := ⟨_, rfl⟩
      replace H : (if 0 ≤ (ji6) then (if (ji6) < (l0.length : Int) then (wire_At.l0 k1 l0 a1 (Go.bits .or .u64 (IntKind.u64.wrap (x7_1 * 256)) (IntKind.u64.wrap (rd l0 (ji6)))) (wrap64 (x8_1 - 1))) else (none)) else (none)) = some (r1, r2, r3) := by first | (rw [hji6] at H; exact H) | (simp only [hji6] at H ⊢; exact H)
      have hji6w : (IntKind.i64.wrap (a1 + x8_1)) = ji6 := (i64_w _).trans hji6
      by_cases c7 : 0 ≤ (ji6)
      ·rw [if_pos c7] at H
       have c7b0 : decide (0 ≤ (ji6)) = true := decide_eq_true c7
       clear c7
       by_cases c8 : (ji6) < (l0.length : Int)
       ·rw [if_pos c8] at H
        have c8b0 : decide ((ji6) < (l0.length : Int)) = true := decide_eq_true c8
        clear c8
        have H' := Aside0.mk H
        clear H
        have p202 : 0 ≤ ((ji6) : Int) := of_decide_eq_true (by first | (with_reducible assumption) | assumption)
        have q202 : (ji6) < (l0.length : Int) := of_decide_eq_true (by first | (with_reducible assumption) | assumption)
        obtain ⟨ad202, e202, hx202_0⟩ := Kd.at_int HR0.out (ji6) p202 q202
        cases e202
        replace p202 := eq_true p202
        replace q202 := eq_true q202
        go_wp2
        go_roundg k1
        case measure => have := HK1.out; omega
        case rel => exact ⟨(Go.bits .or .u64 (IntKind.u64.wrap (x7_1 * 256)) (IntKind.u64.wrap (rd l0 (ji6)))), (wrap64 (x8_1 - 1)), (by first | rfl | (simp; done) | (simp only [← hji6] <;> (first | rfl | simp)) | (simp [*]; done)), (by first | rfl | (simp; done) | exact congrArg Value.bool (Go.Proofs.YthnchdbkgenjhaaDoorX.isEmpty_ne_ _) | exact congrArg Value.bool (Go.Proofs.YthnchdbkgenjhaaDoorX.ne_isEmpty_ _) | (simp [*]; done)), H', ⟨by have := HK1.out; omega⟩, by repeat (first | exact Drawn0.refl _ | apply Drawn0.step)⟩
       ·rw [if_neg c8] at H
        exact absurd H (by simp)
      ·rw [if_neg c7] at H
       exact absurd H (by simp)
     ·rw [if_neg c5] at H
      have c5b0 : decide (0 ≤ x8_1) = false := decide_eq_false c5
      clear c5
      by_cases c9 : x7_1 > 2147483647
      ·rw [if_pos c9] at H
       have c9b0 : decide (2147483647 < x7_1) = true := decide_eq_true c9
       clear c9
       simp only [Option.some.injEq, Prod.mk.injEq] at H
       obtain ⟨rfl, rfl, rfl⟩ := H
       go_wp2
       go_ret3
       exact ⟨by first | rfl | (simp; done) | (simp [*]; done), by repeat (first | exact Drawn0.refl _ | apply Drawn0.step)⟩
      ·rw [if_neg c9] at H
       have c9b0 : decide (2147483647 < x7_1) = false := decide_eq_false c9
       clear c9
       simp only [Option.some.injEq, Prod.mk.injEq] at H
       obtain ⟨rfl, rfl, rfl⟩ := H
       go_wp2
       go_ret3
       exact ⟨by first | rfl | (simp; done) | (simp [*]; done), by repeat (first | exact Drawn0.refl _ | apply Drawn0.step)⟩
mutual
def wire_TextAt.j0 : Nat → List Int → Int → Int → Int → Bool → Option (ByteArray × Int × Int)
 | 0, _, _, _, _, _ => none
 | k + 1, x0, x7, x8, x10, x40 => if x40 = true then (some ((⟨#[]⟩ : ByteArray), 0, 7)) else ((wire_pad.f x7).bind fun t207 => (if 0 ≤ x10 then (if x10 ≤ (wrap64 (x10 + t207)) then (if (wrap64 (x10 + t207)) ≤ (x0.length : Int) then (wire_TextAt.l0 k x0 x7 x8 x10 ((x0.take ((wrap64 (x10 + t207)) : Int).toNat).drop (x10 : Int).toNat) (((x0.take ((wrap64 (x10 + t207)) : Int).toNat).drop (x10 : Int).toNat).length : Int) 0) else (none)) else (none)) else (none)))
def wire_TextAt.l0 : Nat → List Int → Int → Int → Int → List Int → Int → Int → Option (ByteArray × Int × Int)
 | 0, _, _, _, _, _, _, _ => none
 | k + 1, x0, x7, x8, x10, x47, x48, x49 => if x49 < x48 then (if 0 ≤ x49 then (if x49 < (x47.length : Int) then (if (rd x47 x49) = 0 then (wire_TextAt.l0 k x0 x7 x8 x10 x47 x48 (wrap64 (x49 + 1))) else (some ((⟨#[]⟩ : ByteArray), 0, 4))) else (none)) else (none)) else (if 0 ≤ x8 then (if x8 ≤ x10 then (if x10 ≤ (x0.length : Int) then ((wire_pad.f x7).bind fun t211 => (some (strOfNums ((x0.take (x10 : Int).toNat).drop (x8 : Int).toNat), wrap64 (x10 + t211), 0))) else (none)) else (none)) else (none))
end
def wire_TextAt.f (k : Nat) (l0 : List Int) (a1 : Int) : Option (ByteArray × Int × Int) := (wire_At.f k l0 a1).bind fun bt203 => (if bt203.2.2 = 0 then (if bt203.1 > (wrap64 ((l0.length : Int) - bt203.2.1)) then (wire_TextAt.j0 k l0 bt203.1 bt203.2.1 (wrap64 (bt203.2.1 + bt203.1)) true) else ((wire_pad.f bt203.1).bind fun t206 => (wire_TextAt.j0 k l0 bt203.1 bt203.2.1 (wrap64 (bt203.2.1 + bt203.1)) (decide (t206 > (wrap64 ((l0.length : Int) - (wrap64 (bt203.2.1 + bt203.1))))))))) else (some ((⟨#[]⟩ : ByteArray), 0, bt203.2.2)))
set_option maxHeartbeats 8000000 in
set_option maxRecDepth 100000 in
theorem wire_TextAt.calls (k : Nat) (A0 : Option Addr) (c0 : Nat) (l0 : List Int) (a1 : Int) (r1 : ByteArray) (r2 : Int) (r3 : Int) (w : World) (hr0 : Kd.C (Kd.int .u8) w A0 l0.length l0) (hc0 : l0.length ≤ c0) (h : wire_TextAt.f k l0 a1 = some (r1, r2, r3)) :
  Calls Tryd.prog 34 #[.slice A0 l0.length c0, .int .i64 a1] w fun e w' => e = .returned (.tuple #[.string r1, .int .i64 r2, .int .i64 r3]) ∧ Drawn0 w w' := by
 have HR0 := Aside0.mk hr0
 have HC0 := Aside0.mk hc0
 clear hr0 hc0
 have H : ((wire_At.f k l0 a1).bind fun bt203 => (if bt203.2.2 = 0 then (if bt203.1 > (wrap64 ((l0.length : Int) - bt203.2.1)) then (wire_TextAt.j0 k l0 bt203.1 bt203.2.1 (wrap64 (bt203.2.1 + bt203.1)) true) else ((wire_pad.f bt203.1).bind fun t206 => (wire_TextAt.j0 k l0 bt203.1 bt203.2.1 (wrap64 (bt203.2.1 + bt203.1)) (decide (t206 > (wrap64 ((l0.length : Int) - (wrap64 (bt203.2.1 + bt203.1))))))))) else (some ((⟨#[]⟩ : ByteArray), 0, bt203.2.2)))) = some (r1, r2, r3) := h
 clear h
 replace H := Option.bind_eq_some_iff.mp H
 obtain ⟨⟨t203, t204, t205⟩, A30, H⟩ := H
 replace H : (if t205 = 0 then (if t203 > (wrap64 ((l0.length : Int) - t204)) then (wire_TextAt.j0 k l0 t203 t204 (wrap64 (t204 + t203)) true) else ((wire_pad.f t203).bind fun t206 => (wire_TextAt.j0 k l0 t203 t204 (wrap64 (t204 + t203)) (decide (t206 > (wrap64 ((l0.length : Int) - (wrap64 (t204 + t203))))))))) else (some ((⟨#[]⟩ : ByteArray), 0, t205))) = some (r1, r2, r3) := H
 have A3 := Aside0.mk A30
 clear A30
 by_cases c4 : t205 = 0
 ·rw [if_pos c4] at H
  have c4b0 : (t205 == 0) = true := beq_iff_eq.mpr c4
  have c4b1 : (t205 != 0) = false := bne_eq_false_iff_eq.mpr c4
  clear c4
  have HC5 := Aside0.mk H
  clear H
  go_enter Tryd.func34, Tryd.ntmps34
  go_upto_region 5 with (first | (go_at_call 36; (with_reducible refine (wire_At.calls k _ _ l0 a1 t203 t204 t205 _ ?side1 ?side2 A3.out).mono ?_); (case side1 => repeat (first | exact HR0.out | (with_reducible refine Kd.C_alloc ?_ _) | (with_reducible refine Kd.C_drewN ?_ _) | (with_reducible refine Kd.C_drew ?_))); (case side2 => exact HC0.out); rintro e w' ⟨rfl, ⟨nd, rfl⟩⟩; (try first | exact ⟨rfl, _, World.drewN_drewN _ _ _⟩ | exact ⟨rfl, _, Eq.trans (World.drewN_drewN _ _ _) (congrArg (World.drewN _) (Nat.add_assoc _ _ _))⟩)))
  repeat (go_quiet (first | (go_at_call 36; (with_reducible refine (wire_At.calls k _ _ l0 a1 t203 t204 t205 _ ?side1 ?side2 A3.out).mono ?_); (case side1 => repeat (first | exact HR0.out | (with_reducible refine Kd.C_alloc ?_ _) | (with_reducible refine Kd.C_drewN ?_ _) | (with_reducible refine Kd.C_drew ?_))); (case side2 => exact HC0.out); rintro e w' ⟨rfl, ⟨nd, rfl⟩⟩; (try first | exact ⟨rfl, _, World.drewN_drewN _ _ _⟩ | exact ⟨rfl, _, Eq.trans (World.drewN_drewN _ _ _) (congrArg (World.drewN _) (Nat.add_assoc _ _ _))⟩))); go_upto_region 5 with (first | (go_at_call 36; (with_reducible refine (wire_At.calls k _ _ l0 a1 t203 t204 t205 _ ?side1 ?side2 A3.out).mono ?_); (case side1 => repeat (first | exact HR0.out | (with_reducible refine Kd.C_alloc ?_ _) | (with_reducible refine Kd.C_drewN ?_ _) | (with_reducible refine Kd.C_drew ?_))); (case side2 => exact HC0.out); rintro e w' ⟨rfl, ⟨nd, rfl⟩⟩; (try first | exact ⟨rfl, _, World.drewN_drewN _ _ _⟩ | exact ⟨rfl, _, Eq.trans (World.drewN_drewN _ _ _) (congrArg (World.drewN _) (Nat.add_assoc _ _ _))⟩))))
  (try simp only [Act.put, List.setIfInBounds_toArray, List.set_cons_zero, List.set_cons_succ])
  go_cut [40] (fun v40 wc => ∃ (kq : Nat) (x40_4 : Bool), v40 = .bool x40_4 ∧ Aside0 (wire_TextAt.j0 kq l0 t203 t204 (wrap64 (t204 + t203)) x40_4 = some (r1, r2, r3)) ∧ Aside0 (kq ≤ k) ∧ Drawn0 w wc)
  case first =>
   have H := HC5.out
   clear HC5
   by_cases c6 : t203 > (wrap64 ((l0.length : Int) - t204))
   ·rw [if_pos c6] at H
    have c6b0 : decide ((wrap64 ((l0.length : Int) - t204)) < t203) = true := decide_eq_true c6
    clear c6
    (first | rw [c6b0] | (simp only [i64_w, i32_w]; rw [c6b0]) | skip)
    have H' := Aside0.mk H
    clear H
    go_wp2
    repeat (go_quiet (fail); try go_wp2)
    go_meet
    case rel => exact ⟨_, (true), (by first | rfl | (simp; done) | exact congrArg Value.bool (Go.Proofs.YthnchdbkgenjhaaDoorX.isEmpty_ne_ _) | exact congrArg Value.bool (Go.Proofs.YthnchdbkgenjhaaDoorX.ne_isEmpty_ _) | (simp [*]; done)), H', ⟨by first | omega | exact Nat.le_refl _⟩, by repeat (first | exact Drawn0.refl _ | apply Drawn0.step)⟩
   ·rw [if_neg c6] at H
    have c6b0 : decide ((wrap64 ((l0.length : Int) - t204)) < t203) = false := decide_eq_false c6
    clear c6
    (first | rw [c6b0] | (simp only [i64_w, i32_w]; rw [c6b0]) | skip)
    replace H := Option.bind_eq_some_iff.mp H
    obtain ⟨t206, A70, H⟩ := H
    replace H : (wire_TextAt.j0 k l0 t203 t204 (wrap64 (t204 + t203)) (decide (t206 > (wrap64 ((l0.length : Int) - (wrap64 (t204 + t203))))))) = some (r1, r2, r3) := H
    have A7 := Aside0.mk A70
    clear A70
    have H' := Aside0.mk H
    clear H
    go_wp2_with (first | (go_at_call 49; (with_reducible refine (wire_pad.calls t203 t206 _ A7.out).mono ?_); rintro e w' ⟨rfl, ⟨nd, rfl⟩⟩; (try first | exact ⟨rfl, _, World.drewN_drewN _ _ _⟩ | exact ⟨rfl, _, Eq.trans (World.drewN_drewN _ _ _) (congrArg (World.drewN _) (Nat.add_assoc _ _ _))⟩)))
    repeat (go_quiet (first | (go_at_call 49; (with_reducible refine (wire_pad.calls t203 t206 _ A7.out).mono ?_); rintro e w' ⟨rfl, ⟨nd, rfl⟩⟩; (try first | exact ⟨rfl, _, World.drewN_drewN _ _ _⟩ | exact ⟨rfl, _, Eq.trans (World.drewN_drewN _ _ _) (congrArg (World.drewN _) (Nat.add_assoc _ _ _))⟩))); try go_wp2_with (first | (go_at_call 49; (with_reducible refine (wire_pad.calls t203 t206 _ A7.out).mono ?_); rintro e w' ⟨rfl, ⟨nd, rfl⟩⟩; (try first | exact ⟨rfl, _, World.drewN_drewN _ _ _⟩ | exact ⟨rfl, _, Eq.trans (World.drewN_drewN _ _ _) (congrArg (World.drewN _) (Nat.add_assoc _ _ _))⟩))))
    go_meet
    case rel => exact ⟨_, (decide (t206 > (wrap64 ((l0.length : Int) - (wrap64 (t204 + t203)))))), (by first | rfl | (simp; done) | exact congrArg Value.bool (Go.Proofs.YthnchdbkgenjhaaDoorX.isEmpty_ne_ _) | exact congrArg Value.bool (Go.Proofs.YthnchdbkgenjhaaDoorX.ne_isEmpty_ _) | (simp [*]; done)), H', ⟨by first | omega | exact Nat.le_refl _⟩, by repeat (first | exact Drawn0.refl _ | apply Drawn0.step)⟩
  case rest =>
   clear HC5
   try clear p2
   try clear c3
   try clear c4
   try clear c4b0
   try clear c4b1
   try clear c6
   try clear c6b0
   try clear p6
   obtain ⟨kq, x40_4, rfl, HA, HJ4, ⟨mc4, rfl⟩⟩ := hcut
   cases kq with
   | zero => exact absurd HA.out (by simp [wire_TextAt.j0])
   | succ kj4 =>
    have H := HA.out
    clear HA
    simp only [wire_TextAt.j0] at H
    by_cases c8 : x40_4 = true
    ·subst c8
     have H1 : (some ((⟨#[]⟩ : ByteArray), 0, 7)) = some (r1, r2, r3) := by rw [if_pos rfl] at H; exact H
     clear H
     have H := H1
     clear H1
     simp only [Option.some.injEq, Prod.mk.injEq] at H
     obtain ⟨rfl, rfl, rfl⟩ := H
     go_wp2
     repeat (go_quiet (fail); try go_wp2)
     go_ret3
     exact ⟨by first | rfl | (simp; done) | (simp [*]; done), by repeat (first | exact Drawn0.refl _ | apply Drawn0.step)⟩
    ·replace c8 := Bool.eq_false_iff.mpr c8
     subst c8
     have H1 : ((wire_pad.f t203).bind fun t207 => (if 0 ≤ (wrap64 (t204 + t203)) then (if (wrap64 (t204 + t203)) ≤ (wrap64 ((wrap64 (t204 + t203)) + t207)) then (if (wrap64 ((wrap64 (t204 + t203)) + t207)) ≤ (l0.length : Int) then (wire_TextAt.l0 kj4 l0 t203 t204 (wrap64 (t204 + t203)) ((l0.take ((wrap64 ((wrap64 (t204 + t203)) + t207)) : Int).toNat).drop ((wrap64 (t204 + t203)) : Int).toNat) (((l0.take ((wrap64 ((wrap64 (t204 + t203)) + t207)) : Int).toNat).drop ((wrap64 (t204 + t203)) : Int).toNat).length : Int) 0) else (none)) else (none)) else (none))) = some (r1, r2, r3) := by rw [if_neg (show ¬ (false = true) by decide)] at H; exact H
     clear H
     have H := H1
     clear H1
     replace H := Option.bind_eq_some_iff.mp H
     obtain ⟨t207, A90, H⟩ := H
     replace H : (if 0 ≤ (wrap64 (t204 + t203)) then (if (wrap64 (t204 + t203)) ≤ (wrap64 ((wrap64 (t204 + t203)) + t207)) then (if (wrap64 ((wrap64 (t204 + t203)) + t207)) ≤ (l0.length : Int) then (wire_TextAt.l0 kj4 l0 t203 t204 (wrap64 (t204 + t203)) ((l0.take ((wrap64 ((wrap64 (t204 + t203)) + t207)) : Int).toNat).drop ((wrap64 (t204 + t203)) : Int).toNat) (((l0.take ((wrap64 ((wrap64 (t204 + t203)) + t207)) : Int).toNat).drop ((wrap64 (t204 + t203)) : Int).toNat).length : Int) 0) else (none)) else (none)) else (none)) = some (r1, r2, r3) := H
     have A9 := Aside0.mk A90
     clear A90
     obtain ⟨ji10, hji10⟩ : ∃ j_ : Int, (wrap64 (t204 + t203)) = j_ := ⟨_, rfl⟩
     replace H : (if 0 ≤ (ji10) then (if (ji10) ≤ (wrap64 ((ji10) + t207)) then (if (wrap64 ((ji10) + t207)) ≤ (l0.length : Int) then (wire_TextAt.l0 kj4 l0 t203 t204 (ji10) ((l0.take ((wrap64 ((ji10) + t207)) : Int).toNat).drop ((ji10) : Int).toNat) (((l0.take ((wrap64 ((ji10) + t207)) : Int).toNat).drop ((ji10) : Int).toNat).length : Int) 0) else (none)) else (none)) else (none)) = some (r1, r2, r3) := by first | (rw [hji10] at H; exact H) | (simp only [hji10] at H ⊢; exact H)
     (try rw [hji10] at A9)
     have hji10w : (IntKind.i64.wrap (t204 + t203)) = ji10 := (i64_w _).trans hji10
     by_cases c11 : 0 ≤ (ji10)
     ·rw [if_pos c11] at H
      have c11b0 := eq_true c11
      have c11b1 : decide (0 ≤ (ji10)) = true := decide_eq_true c11
      clear c11
      by_cases c12 : (ji10) ≤ (wrap64 ((ji10) + t207))
      ·rw [if_pos c12] at H
       have c12b0 := eq_true c12
       have c12b1 : decide ((ji10) ≤ (wrap64 ((ji10) + t207))) = true := decide_eq_true c12
       by_cases c13 : (wrap64 ((ji10) + t207)) ≤ (l0.length : Int)
       ·rw [if_pos c13] at H
        obtain ⟨lz_, hlz_⟩ : ∃ y_ : List Int, ((l0.take ((wrap64 ((ji10) + t207)) : Int).toNat).drop ((ji10) : Int).toNat) = y_ := ⟨_, rfl⟩
        simp only [hlz_] at H
        have c13b0 := eq_true c13
        have c13b1 : decide ((wrap64 ((ji10) + t207)) ≤ (l0.length : Int)) = true := decide_eq_true c13
        have H' := Aside0.mk H
        clear H
        go_wp2_with (first | (go_at_call 49; (with_reducible refine (wire_pad.calls t203 t207 _ A9.out).mono ?_); rintro e w' ⟨rfl, ⟨nd, rfl⟩⟩; (try first | exact ⟨rfl, _, World.drewN_drewN _ _ _⟩ | exact ⟨rfl, _, Eq.trans (World.drewN_drewN _ _ _) (congrArg (World.drewN _) (Nat.add_assoc _ _ _))⟩); obtain ⟨i014, hi014, _, hsz14, _⟩ := info_parts info5; obtain ⟨A14, hcut14, hA14, hC14⟩ := print_mid_of (P := Tryd.prog) (Value.int .u8) 0 30 5 .i64 .i64 Tryd.underlying30 hi014 hsz14 A0 c0 l0 (ji10) (wrap64 ((ji10) + t207)) (of_decide_eq_true (by first | (with_reducible assumption) | assumption)) (by first | omega | exact of_decide_eq_true (by first | (with_reducible assumption) | assumption)) (of_decide_eq_true (by first | (with_reducible assumption) | assumption)) HC0.out; (try simp only [hlz_] at hcut14); (try simp only [hlz_] at hA14); (try simp only [hlz_] at hC14); have HR208 := Aside0.mk (Kd.C_of_reads (h1 := fun _ => rfl) (hA14 _ (Kd.reads_of_C HR0.out))); have HC208 := Aside0.mk hC14; clear hA14 hC14 hi014 hsz14))
        repeat (go_quiet (first | (go_at_call 49; (with_reducible refine (wire_pad.calls t203 t207 _ A9.out).mono ?_); rintro e w' ⟨rfl, ⟨nd, rfl⟩⟩; (try first | exact ⟨rfl, _, World.drewN_drewN _ _ _⟩ | exact ⟨rfl, _, Eq.trans (World.drewN_drewN _ _ _) (congrArg (World.drewN _) (Nat.add_assoc _ _ _))⟩); obtain ⟨i014, hi014, _, hsz14, _⟩ := info_parts info5; obtain ⟨A14, hcut14, hA14, hC14⟩ := print_mid_of (P := Tryd.prog) (Value.int .u8) 0 30 5 .i64 .i64 Tryd.underlying30 hi014 hsz14 A0 c0 l0 (ji10) (wrap64 ((ji10) + t207)) (of_decide_eq_true (by first | (with_reducible assumption) | assumption)) (by first | omega | exact of_decide_eq_true (by first | (with_reducible assumption) | assumption)) (of_decide_eq_true (by first | (with_reducible assumption) | assumption)) HC0.out; (try simp only [hlz_] at hcut14); (try simp only [hlz_] at hA14); (try simp only [hlz_] at hC14); have HR208 := Aside0.mk (Kd.C_of_reads (h1 := fun _ => rfl) (hA14 _ (Kd.reads_of_C HR0.out))); have HC208 := Aside0.mk hC14; clear hA14 hC14 hi014 hsz14)); try go_wp2_with (first | (go_at_call 49; (with_reducible refine (wire_pad.calls t203 t207 _ A9.out).mono ?_); rintro e w' ⟨rfl, ⟨nd, rfl⟩⟩; (try first | exact ⟨rfl, _, World.drewN_drewN _ _ _⟩ | exact ⟨rfl, _, Eq.trans (World.drewN_drewN _ _ _) (congrArg (World.drewN _) (Nat.add_assoc _ _ _))⟩); obtain ⟨i014, hi014, _, hsz14, _⟩ := info_parts info5; obtain ⟨A14, hcut14, hA14, hC14⟩ := print_mid_of (P := Tryd.prog) (Value.int .u8) 0 30 5 .i64 .i64 Tryd.underlying30 hi014 hsz14 A0 c0 l0 (ji10) (wrap64 ((ji10) + t207)) (of_decide_eq_true (by first | (with_reducible assumption) | assumption)) (by first | omega | exact of_decide_eq_true (by first | (with_reducible assumption) | assumption)) (of_decide_eq_true (by first | (with_reducible assumption) | assumption)) HC0.out; (try simp only [hlz_] at hcut14); (try simp only [hlz_] at hA14); (try simp only [hlz_] at hC14); have HR208 := Aside0.mk (Kd.C_of_reads (h1 := fun _ => rfl) (hA14 _ (Kd.reads_of_C HR0.out))); have HC208 := Aside0.mk hC14; clear hA14 hC14 hi014 hsz14)))
        go_loopg [49] kj4 (fun kq v49 w' => ∃ (x49_2 : Int), v49 = .int .i64 x49_2 ∧ Aside0 (wire_TextAt.l0 kq l0 t203 t204 (ji10) lz_ (lz_.length : Int) x49_2 = some (r1, r2, r3)) ∧ Aside0 (kq ≤ kj4) ∧ Drawn0 w w')
        case atStart => exact ⟨(0), (by first | rfl | (simp; done) | exact congrArg Value.bool (Go.Proofs.YthnchdbkgenjhaaDoorX.isEmpty_ne_ _) | exact congrArg Value.bool (Go.Proofs.YthnchdbkgenjhaaDoorX.ne_isEmpty_ _) | (simp [*]; done)), H', ⟨Nat.le_refl _⟩, by repeat (first | exact Drawn0.refl _ | apply Drawn0.step)⟩
        case round =>
         clear H'
         try clear c1
         try clear p2
         try clear c3
         try clear c4
         try clear c4b0
         try clear c4b1
         try clear c6
         try clear c6b0
         try clear p6
         try clear c8
         try clear c11
         try clear c11b0
         try clear c11b1
         try clear c12
         try clear c12b0
         try clear c12b1
         try clear c13
         try clear c13b0
         try clear c13b1
         try clear p2
         try clear p6
         obtain ⟨x49_2, rfl, HA, HK2, ⟨m2, rfl⟩⟩ := hrel
         cases gk with
         | zero => exact absurd HA.out (by simp [wire_TextAt.l0])
         | succ k2 =>
          have H := HA.out
          clear HA
          simp only [wire_TextAt.l0] at H
          by_cases c15 : x49_2 < (lz_.length : Int)
          ·rw [if_pos c15] at H
           have c15b0 : decide (x49_2 < (lz_.length : Int)) = true := decide_eq_true c15
           clear c15
           by_cases c16 : 0 ≤ x49_2
           ·rw [if_pos c16] at H
            have c16b0 : decide (0 ≤ x49_2) = true := decide_eq_true c16
            clear c16
            by_cases c17 : x49_2 < (lz_.length : Int)
            ·rw [if_pos c17] at H
             have c17b0 : decide (x49_2 < (lz_.length : Int)) = true := decide_eq_true c17
             clear c17
             by_cases c18 : (rd lz_ x49_2) = 0
             ·rw [if_pos c18] at H
              have c18b0 : ((rd lz_ x49_2) == 0) = true := beq_iff_eq.mpr c18
              have c18b1 : ((rd lz_ x49_2) != 0) = false := bne_eq_false_iff_eq.mpr c18
              clear c18
              have H' := Aside0.mk H
              clear H
              have p209 : 0 ≤ (x49_2 : Int) := of_decide_eq_true (by first | (with_reducible assumption) | assumption)
              have q209 : x49_2 < (lz_.length : Int) := of_decide_eq_true (by first | (with_reducible assumption) | assumption)
              obtain ⟨ad209, e209, hx209_0⟩ := Kd.at_int HR208.out x49_2 p209 q209
              cases e209
              replace p209 := eq_true p209
              replace q209 := eq_true q209
              go_wp2
              repeat (go_quiet (fail); try go_wp2)
              go_roundg k2
              case measure => have := HJ4.out; have := HK2.out; omega
              case rel => exact ⟨(wrap64 (x49_2 + 1)), (by first | rfl | (simp; done) | exact congrArg Value.bool (Go.Proofs.YthnchdbkgenjhaaDoorX.isEmpty_ne_ _) | exact congrArg Value.bool (Go.Proofs.YthnchdbkgenjhaaDoorX.ne_isEmpty_ _) | (simp [*]; done)), H', ⟨by have := HJ4.out; have := HK2.out; omega⟩, by repeat (first | exact Drawn0.refl _ | apply Drawn0.step)⟩
             ·rw [if_neg c18] at H
              have c18b0 : ((rd lz_ x49_2) == 0) = false := beq_eq_false_iff_ne.mpr c18
              have c18b1 : ((rd lz_ x49_2) != 0) = true := bne_iff_ne.mpr c18
              simp only [Option.some.injEq, Prod.mk.injEq] at H
              obtain ⟨rfl, rfl, rfl⟩ := H
              have p209 : 0 ≤ (x49_2 : Int) := of_decide_eq_true (by first | (with_reducible assumption) | assumption)
              have q209 : x49_2 < (lz_.length : Int) := of_decide_eq_true (by first | (with_reducible assumption) | assumption)
              obtain ⟨ad209, e209, hx209_0⟩ := Kd.at_int HR208.out x49_2 p209 q209
              cases e209
              replace p209 := eq_true p209
              replace q209 := eq_true q209
              go_wp2
              repeat (go_quiet (fail); try go_wp2)
              go_ret3
              exact ⟨by first | rfl | (simp; done) | (simp only [← hji10] <;> (first | rfl | simp)) | (simp [*]; done), by repeat (first | exact Drawn0.refl _ | apply Drawn0.step)⟩
            ·rw [if_neg c17] at H
             exact absurd H (by simp)
           ·rw [if_neg c16] at H
            exact absurd H (by simp)
          ·rw [if_neg c15] at H
           have c15b0 : decide (x49_2 < (lz_.length : Int)) = false := decide_eq_false c15
           clear c15
           by_cases c19 : 0 ≤ t204
           ·rw [if_pos c19] at H
            have c19b0 := eq_true c19
            have c19b1 : decide (0 ≤ t204) = true := decide_eq_true c19
            clear c19
            by_cases c20 : t204 ≤ (ji10)
            ·rw [if_pos c20] at H
             have c20b0 := eq_true c20
             have c20b1 : decide (t204 ≤ (ji10)) = true := decide_eq_true c20
             clear c20
             by_cases c21 : (ji10) ≤ (l0.length : Int)
             ·rw [if_pos c21] at H
              have c21b0 := eq_true c21
              have c21b1 : decide ((ji10) ≤ (l0.length : Int)) = true := decide_eq_true c21
              clear c21
              replace H := Option.bind_eq_some_iff.mp H
              obtain ⟨t211, A220, H⟩ := H
              replace H : (some (strOfNums ((l0.take ((ji10) : Int).toNat).drop (t204 : Int).toNat), wrap64 ((ji10) + t211), 0)) = some (r1, r2, r3) := H
              have A22 := Aside0.mk A220
              clear A220
              simp only [Option.some.injEq, Prod.mk.injEq] at H
              obtain ⟨rfl, rfl, rfl⟩ := H
              obtain ⟨i023, hi023, _, hsz23, _⟩ := info_parts info5
              obtain ⟨A23, hcut23, hA23, hC23⟩ := print_mid_of (P := Tryd.prog) (Value.int .u8) 0 30 5 .i64 .i64 Tryd.underlying30 hi023 hsz23 A0 c0 l0 t204 (ji10) (of_decide_eq_true (by first | (with_reducible assumption) | assumption)) (by first | omega | exact of_decide_eq_true (by first | (with_reducible assumption) | assumption)) (of_decide_eq_true (by first | (with_reducible assumption) | assumption)) HC0.out
              have HR210 := Aside0.mk (Kd.C_of_reads (h1 := fun _ => rfl) (hA23 _ (Kd.reads_of_C HR0.out)))
              have HC210 := Aside0.mk hC23
              clear hA23 hC23 hi023 hsz23
              have hcv24 : ∀ n_ L_ : Nat, L_ = ((l0.take ((ji10) : Int).toNat).drop (t204 : Int).toNat).length → (convert 30 9 (.slice A23 L_ (c0 - t204.toNat))).run Tryd.prog (w.drewN n_) = .ok (.string (strOfNums ((l0.take ((ji10) : Int).toNat).drop (t204 : Int).toNat))) (w.drewN n_) := fun n_ L_ hL_ => by rw [hL_]; exact Kd.C_string (P := Tryd.prog) (w := w.drewN n_) (A := A23) (c := (c0 - t204.toNat)) Tryd.underlying30 Tryd.underlying5 Tryd.underlying9 (show Kd.C (Kd.int .u8) (w.drewN n_) _ _ _ from HR210.out)
              go_wp2_with (first | (go_at_call 49; (with_reducible refine (wire_pad.calls t203 t211 _ A22.out).mono ?_); rintro e w' ⟨rfl, ⟨nd, rfl⟩⟩; (try first | exact ⟨rfl, _, World.drewN_drewN _ _ _⟩ | exact ⟨rfl, _, Eq.trans (World.drewN_drewN _ _ _) (congrArg (World.drewN _) (Nat.add_assoc _ _ _))⟩)))
              repeat (go_quiet (first | (go_at_call 49; (with_reducible refine (wire_pad.calls t203 t211 _ A22.out).mono ?_); rintro e w' ⟨rfl, ⟨nd, rfl⟩⟩; (try first | exact ⟨rfl, _, World.drewN_drewN _ _ _⟩ | exact ⟨rfl, _, Eq.trans (World.drewN_drewN _ _ _) (congrArg (World.drewN _) (Nat.add_assoc _ _ _))⟩))); try go_wp2_with (first | (go_at_call 49; (with_reducible refine (wire_pad.calls t203 t211 _ A22.out).mono ?_); rintro e w' ⟨rfl, ⟨nd, rfl⟩⟩; (try first | exact ⟨rfl, _, World.drewN_drewN _ _ _⟩ | exact ⟨rfl, _, Eq.trans (World.drewN_drewN _ _ _) (congrArg (World.drewN _) (Nat.add_assoc _ _ _))⟩))))
              go_ret3
              exact ⟨by first | rfl | (simp; done) | (simp only [← hji10] <;> (first | rfl | simp)) | (simp [*]; done), by repeat (first | exact Drawn0.refl _ | apply Drawn0.step)⟩
             ·rw [if_neg c21] at H
              exact absurd H (by simp)
            ·rw [if_neg c20] at H
             exact absurd H (by simp)
           ·rw [if_neg c19] at H
            exact absurd H (by simp)
       ·rw [if_neg c13] at H
        exact absurd H (by simp)
      ·rw [if_neg c12] at H
       exact absurd H (by simp)
     ·rw [if_neg c11] at H
      exact absurd H (by simp)
 ·rw [if_neg c4] at H
  have c4b0 : (t205 == 0) = false := beq_eq_false_iff_ne.mpr c4
  have c4b1 : (t205 != 0) = true := bne_iff_ne.mpr c4
  simp only [Option.some.injEq, Prod.mk.injEq] at H
  obtain ⟨rfl, rfl, rfl⟩ := H
  go_enter Tryd.func34, Tryd.ntmps34
  go_wp2_with (first | (go_at_call 36; (with_reducible refine (wire_At.calls k _ _ l0 a1 t203 t204 t205 _ ?side1 ?side2 A3.out).mono ?_); (case side1 => repeat (first | exact HR0.out | (with_reducible refine Kd.C_alloc ?_ _) | (with_reducible refine Kd.C_drewN ?_ _) | (with_reducible refine Kd.C_drew ?_))); (case side2 => exact HC0.out); rintro e w' ⟨rfl, ⟨nd, rfl⟩⟩; (try first | exact ⟨rfl, _, World.drewN_drewN _ _ _⟩ | exact ⟨rfl, _, Eq.trans (World.drewN_drewN _ _ _) (congrArg (World.drewN _) (Nat.add_assoc _ _ _))⟩)))
  repeat (go_quiet (first | (go_at_call 36; (with_reducible refine (wire_At.calls k _ _ l0 a1 t203 t204 t205 _ ?side1 ?side2 A3.out).mono ?_); (case side1 => repeat (first | exact HR0.out | (with_reducible refine Kd.C_alloc ?_ _) | (with_reducible refine Kd.C_drewN ?_ _) | (with_reducible refine Kd.C_drew ?_))); (case side2 => exact HC0.out); rintro e w' ⟨rfl, ⟨nd, rfl⟩⟩; (try first | exact ⟨rfl, _, World.drewN_drewN _ _ _⟩ | exact ⟨rfl, _, Eq.trans (World.drewN_drewN _ _ _) (congrArg (World.drewN _) (Nat.add_assoc _ _ _))⟩))); try go_wp2_with (first | (go_at_call 36; (with_reducible refine (wire_At.calls k _ _ l0 a1 t203 t204 t205 _ ?side1 ?side2 A3.out).mono ?_); (case side1 => repeat (first | exact HR0.out | (with_reducible refine Kd.C_alloc ?_ _) | (with_reducible refine Kd.C_drewN ?_ _) | (with_reducible refine Kd.C_drew ?_))); (case side2 => exact HC0.out); rintro e w' ⟨rfl, ⟨nd, rfl⟩⟩; (try first | exact ⟨rfl, _, World.drewN_drewN _ _ _⟩ | exact ⟨rfl, _, Eq.trans (World.drewN_drewN _ _ _) (congrArg (World.drewN _) (Nat.add_assoc _ _ _))⟩))))
  go_ret3
  exact ⟨by first | rfl | (simp; done) | (simp [*]; done), by repeat (first | exact Drawn0.refl _ | apply Drawn0.step)⟩
def strings_Trim.f (a0 : ByteArray) (a1 : ByteArray) : Option (ByteArray) := if a0.size ≤ 9223372036854775807 ∧ a1.size < 4294967281 ∧ a1.data.toList.all (fun b => b.toNat < 128) = true then some ⟨(Lib.trimS a0.data.toList a1.data.toList).toArray⟩ else none
theorem strings_Trim.calls (a0 : ByteArray) (a1 : ByteArray) (r : ByteArray) (w : World) (h : strings_Trim.f a0 a1 = some r) :
  Calls Tryd.prog 50 #[.string a0, .string a1] w fun e w' => e = .returned (.string r) ∧ Below w.heap.size w w' := by
 unfold strings_Trim.f at h
 by_cases c : a0.size ≤ 9223372036854775807 ∧ a1.size < 4294967281 ∧ a1.data.toList.all (fun b => b.toNat < 128) = true
 ·rw [if_pos c] at h
  have e0 := Option.some.inj h
  refine (Tryd.strings_Trim_laid a0 a1 w c.1 c.2.1 ?_).mono ?_
  ·intro j b hj
   have := List.all_eq_true.1 c.2.2 b (List.mem_of_getElem? hj)
   exact of_decide_eq_true this
  ·rintro e w' ⟨he, hw⟩
   rw [e0] at he
   exact ⟨he, hw⟩
 ·rw [if_neg c] at h; cases h
def strings_IndexByte.f (a0 : ByteArray) (a1 : Int) : Option (Int) := some (Lib.indexByte a0.data.toList a1.toNat.toUInt8)
theorem strings_IndexByte.calls (a0 : ByteArray) (a1 : Int) (r : Int) (w : World) (h : strings_IndexByte.f a0 a1 = some r) :
  Calls Tryd.prog 51 #[.string a0, .int .u8 a1] w fun e w' => e = .returned (.int .i64 r) ∧ Drawn0 w w' := by
 have e0 : Lib.indexByte a0.data.toList a1.toNat.toUInt8 = r := Option.some.inj h
 refine (Tryd.strings_IndexByte a0 a1 w).mono ?_
 rintro e w' ⟨he, hw⟩
 rw [e0] at he
 exact ⟨he, hw ▸ Drawn0.refl w⟩
end Go.Proofs.YthnchdbkgenjhaaDoor.PInfoA
