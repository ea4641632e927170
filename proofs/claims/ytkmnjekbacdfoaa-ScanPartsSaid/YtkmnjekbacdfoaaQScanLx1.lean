-- printed with xprint.py over the kit's print
import Derived.Test.YtkmnjekbacdfoaaQScanLx0
namespace Go.Proofs.Ytkmnjekbacdfoaa.PScanL
open Go.RowKit Go.Proofs.YtkmnjekbacdfoaaW.PrintWords Go.Proofs.YtkmnjekbacdfoaaW.PrintLast Go.Proofs.YtkmnjekbacdfoaaW.PrintMore
attribute [local go_sem] max2_int min2_int max_two min_two max_three min_three max_four min_four   -- for this text's walks alone
set_option linter.unusedVariables false
set_option linter.unusedSimpArgs false

/-! ### chandlerylaw20_few: function 8 -/
mutual
def chandlerylaw20_few.j0 : Nat → List ByteArray → Bool → Option (Bool)
 | 0, _, _ => none
 | k + 1, x1, x13 => if x13 = true then (some false) else (chandlerylaw20_few.l0 k x1 0)
def chandlerylaw20_few.l0 : Nat → List ByteArray → Int → Option (Bool)
 | 0, _, _ => none
 | k + 1, x1, x5 => if x5 < (x1.length : Int) then (if 0 ≤ x5 then (if ((rdOf ByteArray.empty x1 x5).size : Int) > 200 then (some false) else (chandlerylaw20_few.l0 k x1 (wrap64 (x5 + 1)))) else (none)) else (some true)
end
def chandlerylaw20_few.f (k : Nat) (l0 : List Int) (l1 : List ByteArray) : Option (Bool) := if (l0.length : Int) > 2000 then (chandlerylaw20_few.j0 k l1 true) else (chandlerylaw20_few.j0 k l1 (decide ((l1.length : Int) > 40)))
theorem chandlerylaw20_few.mono_l : ∀ k, (∀ y0 y1, LeO (chandlerylaw20_few.j0 k y0 y1) (chandlerylaw20_few.j0 (k + 1) y0 y1)) ∧ (∀ y0 y1, LeO (chandlerylaw20_few.l0 k y0 y1) (chandlerylaw20_few.l0 (k + 1) y0 y1))
 | 0 => ⟨fun _ _ r h => by simp [chandlerylaw20_few.j0] at h, fun _ _ r h => by simp [chandlerylaw20_few.l0] at h⟩
 | k + 1 => by
  obtain ⟨ih0, ih1⟩ := chandlerylaw20_few.mono_l k
  refine ⟨?_, ?_⟩
  ·intro y0 y1
   unfold chandlerylaw20_few.j0
   repeat' first
   | (with_reducible exact ih0 _ _)
   | (with_reducible exact ih1 _ _)
   | (with_reducible exact LeO.refl _)
   | (with_reducible exact LeO.none _)
   | (with_reducible refine LeO.ite ?_ ?_)
   | (with_reducible refine LeO.bind ?_ (fun _ => ?_))
   | exact ih0 _ _
   | exact ih1 _ _
   | exact LeO.none _
   | refine LeO.ite ?_ ?_
   | refine LeO.bind ?_ (fun _ => ?_)
  ·intro y0 y1
   unfold chandlerylaw20_few.l0
   repeat' first
   | (with_reducible exact ih0 _ _)
   | (with_reducible exact ih1 _ _)
   | (with_reducible exact LeO.refl _)
   | (with_reducible exact LeO.none _)
   | (with_reducible refine LeO.ite ?_ ?_)
   | (with_reducible refine LeO.bind ?_ (fun _ => ?_))
   | exact ih0 _ _
   | exact ih1 _ _
   | exact LeO.none _
   | refine LeO.ite ?_ ?_
   | refine LeO.bind ?_ (fun _ => ?_)
theorem chandlerylaw20_few.mono : ∀ a0 a1 k, LeO (chandlerylaw20_few.f k a0 a1) (chandlerylaw20_few.f (k + 1) a0 a1) := by
 intro a0 a1 k
 obtain ⟨ih0, ih1⟩ := chandlerylaw20_few.mono_l k
 unfold chandlerylaw20_few.f
 repeat' first
   | (with_reducible exact ih0 _ _)
   | (with_reducible exact ih1 _ _)
   | (with_reducible exact LeO.refl _)
   | (with_reducible exact LeO.none _)
   | (with_reducible refine LeO.ite ?_ ?_)
   | (with_reducible refine LeO.bind ?_ (fun _ => ?_))
   | exact ih0 _ _
   | exact ih1 _ _
   | exact LeO.none _
   | refine LeO.ite ?_ ?_
   | refine LeO.bind ?_ (fun _ => ?_)
set_option maxHeartbeats 8000000 in
set_option maxRecDepth 100000 in
theorem chandlerylaw20_few.calls (k : Nat) (A0 : Option Addr) (c0 : Nat) (l0 : List Int) (A1 : Option Addr) (c1 : Nat) (l1 : List ByteArray) (r : Bool) (w : World) (hr0 : Kd.C (Kd.int .u8) w A0 l0.length l0) (hc0 : l0.length ≤ c0) (hr1 : Kd.C Kd.string w A1 l1.length l1) (hc1 : l1.length ≤ c1) (h : chandlerylaw20_few.f k l0 l1 = some r) :
  Calls Try.prog 8 #[.slice A0 l0.length c0, .slice A1 l1.length c1] w fun e w' => e = .returned (.bool r) ∧ Drawn0 w w' := by
 have HR0 := Aside0.mk hr0
 have HC0 := Aside0.mk hc0
 clear hr0 hc0
 have HR1 := Aside0.mk hr1
 have HC1 := Aside0.mk hc1
 clear hr1 hc1
 have H : (if (l0.length : Int) > 2000 then (chandlerylaw20_few.j0 k l1 true) else (chandlerylaw20_few.j0 k l1 (decide ((l1.length : Int) > 40)))) = some r := h
 clear h
 have HC3 := Aside0.mk H
 clear H
 go_enter Try.func8, Try.ntmps8
 go_upto_region 1 with (fail)
 go_cut [13] (fun v13 wc => ∃ (kq : Nat) (x13_2 : Bool), v13 = .bool x13_2 ∧ Aside0 (chandlerylaw20_few.j0 kq l1 x13_2 = some r) ∧ Aside0 (kq ≤ k) ∧ Drawn0 w wc)
 case first =>
  have H := HC3.out
  clear HC3
  by_cases c4 : (l0.length : Int) > 2000
  ·rw [if_pos c4] at H
   have c4b0 : decide (2000 < (l0.length : Int)) = true := decide_eq_true c4
   have c4b1 : decide (2000 < l0.length) = true := decide_eq_true (by omega)
   clear c4
   (first | rw [c4b0] | (simp only [i64_w, i32_w]; rw [c4b0]) | skip)
   have H' := Aside0.mk H
   clear H
   go_wp2
   go_meet
   case rel => exact ⟨_, (true), (by first | rfl | (simp; done) | exact congrArg Value.bool (Go.Proofs.YtkmnjekbacdfoaaX.isEmpty_ne_ _) | exact congrArg Value.bool (Go.Proofs.YtkmnjekbacdfoaaX.ne_isEmpty_ _) | (simp [*]; done)), H', ⟨by first | omega | exact Nat.le_refl _⟩, by repeat (first | exact Drawn0.refl _ | apply Drawn0.step)⟩
  ·rw [if_neg c4] at H
   have c4b0 : decide (2000 < (l0.length : Int)) = false := decide_eq_false c4
   have c4b1 : decide (2000 < l0.length) = false := decide_eq_false (by omega)
   clear c4
   (first | rw [c4b0] | (simp only [i64_w, i32_w]; rw [c4b0]) | skip)
   have H' := Aside0.mk H
   clear H
   go_wp2
   go_meet
   case rel => exact ⟨_, (decide ((l1.length : Int) > 40)), (by first | rfl | (simp; done) | exact congrArg Value.bool (Go.Proofs.YtkmnjekbacdfoaaX.isEmpty_ne_ _) | exact congrArg Value.bool (Go.Proofs.YtkmnjekbacdfoaaX.ne_isEmpty_ _) | (simp [*]; done)), H', ⟨by first | omega | exact Nat.le_refl _⟩, by repeat (first | exact Drawn0.refl _ | apply Drawn0.step)⟩
 case rest =>
  clear HC3
  try clear c1
  try clear p2
  try clear c4
  try clear c4b0
  try clear c4b1
  obtain ⟨kq, x13_2, rfl, HA, HJ2, ⟨mc2, rfl⟩⟩ := hcut
  cases kq with
  | zero => exact absurd HA.out (by simp [chandlerylaw20_few.j0])
  | succ kj2 =>
   have H := HA.out
   clear HA
   simp only [chandlerylaw20_few.j0] at H
   by_cases c5 : x13_2 = true
   ·subst c5
    have H1 : (some false) = some r := by rw [if_pos rfl] at H; exact H
    clear H
    have H := H1
    clear H1
    obtain rfl := Option.some.inj H
    go_wp2
    go_ret
    exact ⟨by first | rfl | (simp; done) | (simp [*]; done), by repeat (first | exact Drawn0.refl _ | apply Drawn0.step)⟩
   ·replace c5 := Bool.eq_false_iff.mpr c5
    subst c5
    have H1 : (chandlerylaw20_few.l0 kj2 l1 0) = some r := by rw [if_neg (show ¬ (false = true) by decide)] at H; exact H
    clear H
    have H := H1
    clear H1
    have H' := Aside0.mk H
    clear H
    go_wp2
    go_loopg [5] kj2 (fun kq v5 w' => ∃ (x5_2 : Int), v5 = .int .i64 x5_2 ∧ Aside0 (chandlerylaw20_few.l0 kq l1 x5_2 = some r) ∧ Aside0 (kq ≤ kj2) ∧ Drawn0 w w')
    case atStart => exact ⟨(0), (by first | rfl | (simp; done) | exact congrArg Value.bool (Go.Proofs.YtkmnjekbacdfoaaX.isEmpty_ne_ _) | exact congrArg Value.bool (Go.Proofs.YtkmnjekbacdfoaaX.ne_isEmpty_ _) | (simp [*]; done)), H', ⟨Nat.le_refl _⟩, by repeat (first | exact Drawn0.refl _ | apply Drawn0.step)⟩
    case round =>
     clear H'
     try clear c1
     try clear c2
     try clear p2
     try clear c4
     try clear c4b0
     try clear c4b1
     try clear c5
     try clear p2
     obtain ⟨x5_2, rfl, HA, HK2, ⟨m2, rfl⟩⟩ := hrel
     cases gk with
     | zero => exact absurd HA.out (by simp [chandlerylaw20_few.l0])
     | succ k2 =>
      have H := HA.out
      clear HA
      simp only [chandlerylaw20_few.l0] at H
      by_cases c6 : x5_2 < (l1.length : Int)
      ·rw [if_pos c6] at H
       have c6b0 : decide (x5_2 < (l1.length : Int)) = true := decide_eq_true c6
       clear c6
       by_cases c7 : 0 ≤ x5_2
       ·rw [if_pos c7] at H
        have c7b0 : decide (0 ≤ x5_2) = true := decide_eq_true c7
        clear c7
        by_cases c8 : ((rdOf ByteArray.empty l1 x5_2).size : Int) > 200
        ·rw [if_pos c8] at H
         have c8b0 : decide (200 < ((rdOf ByteArray.empty l1 x5_2).size : Int)) = true := decide_eq_true c8
         have c8b1 : decide (200 < (rdOf ByteArray.empty l1 x5_2).size) = true := decide_eq_true (by omega)
         clear c8
         obtain rfl := Option.some.inj H
         have p101 : 0 ≤ (x5_2 : Int) := of_decide_eq_true (by first | (with_reducible assumption) | assumption)
         have q101 : x5_2 < (l1.length : Int) := of_decide_eq_true (by first | (with_reducible assumption) | assumption)
         obtain ⟨ad101, e101, hx101_0⟩ := Kd.at_string HR1.out x5_2 p101 q101
         cases e101
         replace p101 := eq_true p101
         replace q101 := eq_true q101
         go_wp2
         go_ret
         exact ⟨by first | rfl | (simp; done) | (simp [*]; done), by repeat (first | exact Drawn0.refl _ | apply Drawn0.step)⟩
        ·rw [if_neg c8] at H
         have c8b0 : decide (200 < ((rdOf ByteArray.empty l1 x5_2).size : Int)) = false := decide_eq_false c8
         have c8b1 : decide (200 < (rdOf ByteArray.empty l1 x5_2).size) = false := decide_eq_false (by omega)
         clear c8
         have H' := Aside0.mk H
         clear H
         have p101 : 0 ≤ (x5_2 : Int) := of_decide_eq_true (by first | (with_reducible assumption) | assumption)
         have q101 : x5_2 < (l1.length : Int) := of_decide_eq_true (by first | (with_reducible assumption) | assumption)
         obtain ⟨ad101, e101, hx101_0⟩ := Kd.at_string HR1.out x5_2 p101 q101
         cases e101
         replace p101 := eq_true p101
         replace q101 := eq_true q101
         go_wp2
         go_roundg k2
         case measure => have := HJ2.out; have := HK2.out; omega
         case rel => exact ⟨(wrap64 (x5_2 + 1)), (by first | rfl | (simp; done) | exact congrArg Value.bool (Go.Proofs.YtkmnjekbacdfoaaX.isEmpty_ne_ _) | exact congrArg Value.bool (Go.Proofs.YtkmnjekbacdfoaaX.ne_isEmpty_ _) | (simp [*]; done)), H', ⟨by have := HJ2.out; have := HK2.out; omega⟩, by repeat (first | exact Drawn0.refl _ | apply Drawn0.step)⟩
       ·rw [if_neg c7] at H
        exact absurd H (by simp)
      ·rw [if_neg c6] at H
       have c6b0 : decide (x5_2 < (l1.length : Int)) = false := decide_eq_false c6
       clear c6
       obtain rfl := Option.some.inj H
       go_wp2
       go_ret
       exact ⟨by first | rfl | (simp; done) | (simp [*]; done), by repeat (first | exact Drawn0.refl _ | apply Drawn0.step)⟩

/-! ### scan_Find: function 9 -/
def scan_Find.f (l0 : List Int) (l1 : List ByteArray) : Option (List ByteArray × Int) :=
 if l1.length ≤ 1000 ∧ (∀ s ∈ l1, s.size ≤ 1000) ∧ l0.length ≤ 1000000 ∧ (YtkmnjekbacdfoaaX.hits l1 l0 (l0.length - 31)).length ≤ 1000000 then some (if l1.all YtkmnjekbacdfoaaX.nameB = true then (YtkmnjekbacdfoaaX.findB l0 l1, 0) else ([], 190)) else none
theorem scan_Find.calls (A0 : Option Addr) (c0 : Nat) (l0 : List Int) (A1 : Option Addr) (c1 : Nat) (l1 : List ByteArray) (r1 : List ByteArray) (r2 : Int) (w : World) (hr0 : Kd.C (Kd.int .u8) w A0 l0.length l0) (hc0 : l0.length ≤ c0) (hr1 : Kd.C Kd.string w A1 l1.length l1) (hc1 : l1.length ≤ c1) (h : scan_Find.f l0 l1 = some (r1, r2)) :
  Calls Try.prog 9 #[.slice A0 l0.length c0, .slice A1 l1.length c1] w fun e w' => ∃ v0_ : Value, e = .returned (.tuple #[v0_, .int .i64 r2]) ∧ Kd.R Kd.string 9 w' w.heap.size (fun _ => True) v0_ r1 ∧ Below w.heap.size w w' := by
 unfold scan_Find.f at h
 split at h
 ·rename_i hc
  obtain ⟨h1, h2, h3, h4⟩ := hc
  have h := Option.some.inj h
  split at h
  ·rename_i hall
   injection h with h5 h6
   subst h5 h6
   exact YtkmnjekbacdfoaaX.find_yes A0 A1 c0 c1 l0 l1 w h1 h2 hc1 hr1 hr0 hc0 h3 h4 hall
  ·rename_i hall
   injection h with h5 h6
   subst h5 h6
   refine (YtkmnjekbacdfoaaX.find_no A0 A1 c0 c1 l0 l1 w h1 h2 hc1 hr1 (Bool.eq_false_iff.2 hall)).mono fun e w' hh => ?_
   exact ⟨_, hh.1, Kd.R_nil _ _ _ _ _, hh.2⟩
 ·cases h
/-! ### chandleryref19_in: function 32 -/
def chandleryref19_in.l0 : Nat → Int → ByteArray → Int → Option (Bool)
 | 0, _, _, _ => none
 | k + 1, x0, x1, x5 => if x5 < (x1.size : Int) then (if 0 ≤ x5 then (if (bt x1 x5) = x0 then (some true) else (chandleryref19_in.l0 k x0 x1 (wrap64 (x5 + 1)))) else (none)) else (some false)
def chandleryref19_in.f (k : Nat) (a0 : Int) (a1 : ByteArray) : Option (Bool) := chandleryref19_in.l0 k a0 a1 0
theorem chandleryref19_in.mono_l : ∀ k, (∀ y0 y1 y2, LeO (chandleryref19_in.l0 k y0 y1 y2) (chandleryref19_in.l0 (k + 1) y0 y1 y2))
 | 0 => fun _ _ _ r h => by simp [chandleryref19_in.l0] at h
 | k + 1 => by
  have ih0 := chandleryref19_in.mono_l k
  ·intro y0 y1 y2
   unfold chandleryref19_in.l0
   repeat' first
   | (with_reducible exact ih0 _ _ _)
   | (with_reducible exact LeO.refl _)
   | (with_reducible exact LeO.none _)
   | (with_reducible refine LeO.ite ?_ ?_)
   | (with_reducible refine LeO.bind ?_ (fun _ => ?_))
   | exact ih0 _ _ _
   | exact LeO.none _
   | refine LeO.ite ?_ ?_
   | refine LeO.bind ?_ (fun _ => ?_)
theorem chandleryref19_in.mono : ∀ a0 a1 k, LeO (chandleryref19_in.f k a0 a1) (chandleryref19_in.f (k + 1) a0 a1) := by
 intro a0 a1 k
 have ih0 := chandleryref19_in.mono_l k
 unfold chandleryref19_in.f
 repeat' first
   | (with_reducible exact ih0 _ _ _)
   | (with_reducible exact LeO.refl _)
   | (with_reducible exact LeO.none _)
   | (with_reducible refine LeO.ite ?_ ?_)
   | (with_reducible refine LeO.bind ?_ (fun _ => ?_))
   | exact ih0 _ _ _
   | exact LeO.none _
   | refine LeO.ite ?_ ?_
   | refine LeO.bind ?_ (fun _ => ?_)
set_option maxHeartbeats 8000000 in
set_option maxRecDepth 100000 in
theorem chandleryref19_in.calls (k : Nat) (a0 : Int) (a1 : ByteArray) (r : Bool) (w : World) (h : chandleryref19_in.f k a0 a1 = some r) :
  Calls Try.prog 32 #[.int .u8 a0, .string a1] w fun e w' => e = .returned (.bool r) ∧ Drawn0 w w' := by
 have H : (chandleryref19_in.l0 k a0 a1 0) = some r := h
 clear h
 have H' := Aside0.mk H
 clear H
 go_enter Try.func32, Try.ntmps32
 go_wp2
 go_loopg [5] k (fun kq v5 w' => ∃ (x5_1 : Int), v5 = .int .i64 x5_1 ∧ Aside0 (chandleryref19_in.l0 kq a0 a1 x5_1 = some r) ∧ Aside0 (kq ≤ k) ∧ Drawn0 w w')
 case atStart => exact ⟨(0), (by first | rfl | (simp; done) | exact congrArg Value.bool (Go.Proofs.YtkmnjekbacdfoaaX.isEmpty_ne_ _) | exact congrArg Value.bool (Go.Proofs.YtkmnjekbacdfoaaX.ne_isEmpty_ _) | (simp [*]; done)), H', ⟨Nat.le_refl _⟩, by repeat (first | exact Drawn0.refl _ | apply Drawn0.step)⟩
 case round =>
  clear H'
  try clear p2
  obtain ⟨x5_1, rfl, HA, HK1, ⟨m1, rfl⟩⟩ := hrel
  cases gk with
  | zero => exact absurd HA.out (by simp [chandleryref19_in.l0])
  | succ k1 =>
   have H := HA.out
   clear HA
   simp only [chandleryref19_in.l0] at H
   by_cases c3 : x5_1 < (a1.size : Int)
   ·rw [if_pos c3] at H
    have c3b0 : decide (x5_1 < (a1.size : Int)) = true := decide_eq_true c3
    clear c3
    by_cases c4 : 0 ≤ x5_1
    ·rw [if_pos c4] at H
     have c4b0 : decide (0 ≤ x5_1) = true := decide_eq_true c4
     clear c4
     by_cases c6 : (bt a1 x5_1) = a0
     ·rw [if_pos c6] at H
      have c6b0 : ((bt a1 x5_1) == a0) = true := beq_iff_eq.mpr c6
      have c6b1 : ((bt a1 x5_1) != a0) = false := bne_eq_false_iff_eq.mpr c6
      clear c6
      obtain rfl := Option.some.inj H
      have p5 : 0 ≤ (x5_1 : Int) := of_decide_eq_true (by first | (with_reducible assumption) | assumption)
      have q5 : x5_1 < (a1.size : Int) := of_decide_eq_true (by first | (with_reducible assumption) | assumption)
      have hx5 := bt_at a1 x5_1
      replace p5 := eq_true p5
      replace q5 := eq_true q5
      go_wp2
      go_ret
      exact ⟨by first | rfl | (simp; done) | (simp [*]; done), by repeat (first | exact Drawn0.refl _ | apply Drawn0.step)⟩
     ·rw [if_neg c6] at H
      have c6b0 : ((bt a1 x5_1) == a0) = false := beq_eq_false_iff_ne.mpr c6
      have c6b1 : ((bt a1 x5_1) != a0) = true := bne_iff_ne.mpr c6
      have H' := Aside0.mk H
      clear H
      have p5 : 0 ≤ (x5_1 : Int) := of_decide_eq_true (by first | (with_reducible assumption) | assumption)
      have q5 : x5_1 < (a1.size : Int) := of_decide_eq_true (by first | (with_reducible assumption) | assumption)
      have hx5 := bt_at a1 x5_1
      replace p5 := eq_true p5
      replace q5 := eq_true q5
      go_wp2
      go_roundg k1
      case measure => have := HK1.out; omega
      case rel => exact ⟨(wrap64 (x5_1 + 1)), (by first | rfl | (simp; done) | exact congrArg Value.bool (Go.Proofs.YtkmnjekbacdfoaaX.isEmpty_ne_ _) | exact congrArg Value.bool (Go.Proofs.YtkmnjekbacdfoaaX.ne_isEmpty_ _) | (simp [*]; done)), H', ⟨by have := HK1.out; omega⟩, by repeat (first | exact Drawn0.refl _ | apply Drawn0.step)⟩
    ·rw [if_neg c4] at H
     exact absurd H (by simp)
   ·rw [if_neg c3] at H
    have c3b0 : decide (x5_1 < (a1.size : Int)) = false := decide_eq_false c3
    clear c3
    obtain rfl := Option.some.inj H
    go_wp2
    go_ret
    exact ⟨by first | rfl | (simp; done) | (simp [*]; done), by repeat (first | exact Drawn0.refl _ | apply Drawn0.step)⟩

/-! ### chandleryref19_every: function 24 -/
def chandleryref19_every.l0 : Nat → ByteArray → ByteArray → Int → Option (Bool)
 | 0, _, _, _ => none
 | k + 1, x0, x1, x5 => if x5 < (x0.size : Int) then (if 0 ≤ x5 then ((chandleryref19_in.f k (bt x0 x5) x1).bind fun t102 => (if t102 = true then (chandleryref19_every.l0 k x0 x1 (wrap64 (x5 + 1))) else (some false))) else (none)) else (some true)
def chandleryref19_every.f (k : Nat) (a0 : ByteArray) (a1 : ByteArray) : Option (Bool) := chandleryref19_every.l0 k a0 a1 0
theorem chandleryref19_every.mono_l : ∀ k, (∀ y0 y1 y2, LeO (chandleryref19_every.l0 k y0 y1 y2) (chandleryref19_every.l0 (k + 1) y0 y1 y2))
 | 0 => fun _ _ _ r h => by simp [chandleryref19_every.l0] at h
 | k + 1 => by
  have ih0 := chandleryref19_every.mono_l k
  ·intro y0 y1 y2
   unfold chandleryref19_every.l0
   repeat' first
   | (with_reducible exact ih0 _ _ _)
   | (with_reducible exact chandleryref19_in.mono _ _ _)
   | (with_reducible exact LeO.refl _)
   | (with_reducible exact LeO.none _)
   | (with_reducible refine LeO.ite ?_ ?_)
   | (with_reducible refine LeO.bind ?_ (fun _ => ?_))
   | exact ih0 _ _ _
   | exact chandleryref19_in.mono _ _ _
   | exact LeO.none _
   | refine LeO.ite ?_ ?_
   | refine LeO.bind ?_ (fun _ => ?_)
theorem chandleryref19_every.mono : ∀ a0 a1 k, LeO (chandleryref19_every.f k a0 a1) (chandleryref19_every.f (k + 1) a0 a1) := by
 intro a0 a1 k
 have ih0 := chandleryref19_every.mono_l k
 unfold chandleryref19_every.f
 repeat' first
   | (with_reducible exact ih0 _ _ _)
   | (with_reducible exact chandleryref19_in.mono _ _ _)
   | (with_reducible exact LeO.refl _)
   | (with_reducible exact LeO.none _)
   | (with_reducible refine LeO.ite ?_ ?_)
   | (with_reducible refine LeO.bind ?_ (fun _ => ?_))
   | exact ih0 _ _ _
   | exact chandleryref19_in.mono _ _ _
   | exact LeO.none _
   | refine LeO.ite ?_ ?_
   | refine LeO.bind ?_ (fun _ => ?_)
set_option maxHeartbeats 8000000 in
set_option maxRecDepth 100000 in
theorem chandleryref19_every.calls (k : Nat) (a0 : ByteArray) (a1 : ByteArray) (r : Bool) (w : World) (h : chandleryref19_every.f k a0 a1 = some r) :
  Calls Try.prog 24 #[.string a0, .string a1] w fun e w' => e = .returned (.bool r) ∧ Drawn0 w w' := by
 have H : (chandleryref19_every.l0 k a0 a1 0) = some r := h
 clear h
 have H' := Aside0.mk H
 clear H
 go_enter Try.func24, Try.ntmps24
 go_wp2
 go_loopg [5] k (fun kq v5 w' => ∃ (x5_1 : Int), v5 = .int .i64 x5_1 ∧ Aside0 (chandleryref19_every.l0 kq a0 a1 x5_1 = some r) ∧ Aside0 (kq ≤ k) ∧ Drawn0 w w')
 case atStart => exact ⟨(0), (by first | rfl | (simp; done) | exact congrArg Value.bool (Go.Proofs.YtkmnjekbacdfoaaX.isEmpty_ne_ _) | exact congrArg Value.bool (Go.Proofs.YtkmnjekbacdfoaaX.ne_isEmpty_ _) | (simp [*]; done)), H', ⟨Nat.le_refl _⟩, by repeat (first | exact Drawn0.refl _ | apply Drawn0.step)⟩
 case round =>
  clear H'
  try clear c2
  try clear p2
  obtain ⟨x5_1, rfl, HA, HK1, ⟨m1, rfl⟩⟩ := hrel
  cases gk with
  | zero => exact absurd HA.out (by simp [chandleryref19_every.l0])
  | succ k1 =>
   have H := HA.out
   clear HA
   simp only [chandleryref19_every.l0] at H
   by_cases c3 : x5_1 < (a0.size : Int)
   ·rw [if_pos c3] at H
    have c3b0 : decide (x5_1 < (a0.size : Int)) = true := decide_eq_true c3
    clear c3
    by_cases c4 : 0 ≤ x5_1
    ·rw [if_pos c4] at H
     have c4b0 : decide (0 ≤ x5_1) = true := decide_eq_true c4
     clear c4
     replace H := Option.bind_eq_some_iff.mp H
     obtain ⟨t102, A60, H⟩ := H
     replace H : (if t102 = true then (chandleryref19_every.l0 k1 a0 a1 (wrap64 (x5_1 + 1))) else (some false)) = some r := H
     have A6 := Aside0.mk A60
     clear A60
     by_cases c7 : t102 = true
     ·subst c7
      have H1 : (chandleryref19_every.l0 k1 a0 a1 (wrap64 (x5_1 + 1))) = some r := by rw [if_pos rfl] at H; exact H
      clear H
      have H := H1
      clear H1
      have H' := Aside0.mk H
      clear H
      have p5 : 0 ≤ (x5_1 : Int) := of_decide_eq_true (by first | (with_reducible assumption) | assumption)
      have q5 : x5_1 < (a0.size : Int) := of_decide_eq_true (by first | (with_reducible assumption) | assumption)
      have hx5 := bt_at a0 x5_1
      replace p5 := eq_true p5
      replace q5 := eq_true q5
      go_wp2_with (first | ((with_reducible refine gate_callee (f := 32) rfl ?_); refine goesL_ (some 16) rfl rfl Try.func32 (by kernel_rfl) rfl #[.int .u8 (bt a0 x5_1), .string a1] rfl (by (try simp only [List.map_toArray, List.map_cons, List.map_nil]); first | done | rfl | (simp only [List.length_drop, List.length_take]; rfl)) ?_; (with_reducible refine (chandleryref19_in.calls k1 (bt a0 x5_1) a1 true _ A6.out).mono ?_); rintro e w' ⟨rfl, ⟨nd, rfl⟩⟩; refine ⟨_, rfl, ?_⟩))
      go_roundg k1
      case measure => have := HK1.out; omega
      case rel => exact ⟨(wrap64 (x5_1 + 1)), (by first | rfl | (simp; done) | exact congrArg Value.bool (Go.Proofs.YtkmnjekbacdfoaaX.isEmpty_ne_ _) | exact congrArg Value.bool (Go.Proofs.YtkmnjekbacdfoaaX.ne_isEmpty_ _) | (simp [*]; done)), H', ⟨by have := HK1.out; omega⟩, by repeat (first | exact Drawn0.refl _ | apply Drawn0.step)⟩
     ·replace c7 := Bool.eq_false_iff.mpr c7
      subst c7
      have H1 : (some false) = some r := by rw [if_neg (show ¬ (false = true) by decide)] at H; exact H
      clear H
      have H := H1
      clear H1
      obtain rfl := Option.some.inj H
      have p5 : 0 ≤ (x5_1 : Int) := of_decide_eq_true (by first | (with_reducible assumption) | assumption)
      have q5 : x5_1 < (a0.size : Int) := of_decide_eq_true (by first | (with_reducible assumption) | assumption)
      have hx5 := bt_at a0 x5_1
      replace p5 := eq_true p5
      replace q5 := eq_true q5
      go_wp2_with (first | ((with_reducible refine gate_callee (f := 32) rfl ?_); refine goesL_ (some 16) rfl rfl Try.func32 (by kernel_rfl) rfl #[.int .u8 (bt a0 x5_1), .string a1] rfl (by (try simp only [List.map_toArray, List.map_cons, List.map_nil]); first | done | rfl | (simp only [List.length_drop, List.length_take]; rfl)) ?_; (with_reducible refine (chandleryref19_in.calls k1 (bt a0 x5_1) a1 false _ A6.out).mono ?_); rintro e w' ⟨rfl, ⟨nd, rfl⟩⟩; refine ⟨_, rfl, ?_⟩))
      go_ret
      exact ⟨by first | rfl | (simp; done) | (simp [*]; done), by repeat (first | exact Drawn0.refl _ | apply Drawn0.step)⟩
    ·rw [if_neg c4] at H
     exact absurd H (by simp)
   ·rw [if_neg c3] at H
    have c3b0 : decide (x5_1 < (a0.size : Int)) = false := decide_eq_false c3
    clear c3
    obtain rfl := Option.some.inj H
    go_wp2
    go_ret
    exact ⟨by first | rfl | (simp; done) | (simp [*]; done), by repeat (first | exact Drawn0.refl _ | apply Drawn0.step)⟩

/-! ### chandleryref19_Base: function 25 -/
def chandleryref19_Base.f (k : Nat) (a0 : ByteArray) : Option (Bool) := if (a0.size : Int) ≥ 1 then (if (a0.size : Int) ≤ 31 then (if 0 < (a0.size : Int) then (if (bt a0 0) = 46 then (some false) else ((chandleryref19_every.f k a0 (⟨#[97, 98, 99, 100, 101, 102, 103, 104, 105, 106, 107, 108, 109, 110, 111, 112, 113, 114, 115, 116, 117, 118, 119, 120, 121, 122, 65, 66, 67, 68, 69, 70, 71, 72, 73, 74, 75, 76, 77, 78, 79, 80, 81, 82, 83, 84, 85, 86, 87, 88, 89, 90, 48, 49, 50, 51, 52, 53, 54, 55, 56, 57, 43, 45, 46, 95, 63, 61]⟩ : ByteArray)).bind fun t103 => (some t103))) else (none)) else (some false)) else (some false)
theorem chandleryref19_Base.mono : ∀ a0 k, LeO (chandleryref19_Base.f k a0) (chandleryref19_Base.f (k + 1) a0) := by
 intro a0 k
 unfold chandleryref19_Base.f
 repeat' first
   | (with_reducible exact chandleryref19_every.mono _ _ _)
   | (with_reducible exact LeO.refl _)
   | (with_reducible exact LeO.none _)
   | (with_reducible refine LeO.ite ?_ ?_)
   | (with_reducible refine LeO.bind ?_ (fun _ => ?_))
   | exact chandleryref19_every.mono _ _ _
   | exact LeO.none _
   | refine LeO.ite ?_ ?_
   | refine LeO.bind ?_ (fun _ => ?_)
set_option maxHeartbeats 8000000 in
set_option maxRecDepth 100000 in
theorem chandleryref19_Base.calls (k : Nat) (a0 : ByteArray) (r : Bool) (w : World) (h : chandleryref19_Base.f k a0 = some r) :
  Calls Try.prog 25 #[.string a0] w fun e w' => e = .returned (.bool r) ∧ Drawn0 w w' := by
 have H : (if (a0.size : Int) ≥ 1 then (if (a0.size : Int) ≤ 31 then (if 0 < (a0.size : Int) then (if (bt a0 0) = 46 then (some false) else ((chandleryref19_every.f k a0 (⟨#[97, 98, 99, 100, 101, 102, 103, 104, 105, 106, 107, 108, 109, 110, 111, 112, 113, 114, 115, 116, 117, 118, 119, 120, 121, 122, 65, 66, 67, 68, 69, 70, 71, 72, 73, 74, 75, 76, 77, 78, 79, 80, 81, 82, 83, 84, 85, 86, 87, 88, 89, 90, 48, 49, 50, 51, 52, 53, 54, 55, 56, 57, 43, 45, 46, 95, 63, 61]⟩ : ByteArray)).bind fun t103 => (some t103))) else (none)) else (some false)) else (some false)) = some r := h
 clear h
 by_cases c2 : (a0.size : Int) ≥ 1
 ·rw [if_pos c2] at H
  have c2b0 : decide (1 ≤ (a0.size : Int)) = true := decide_eq_true c2
  have c2b1 : decide (1 ≤ a0.size) = true := decide_eq_true (by omega)
  clear c2
  by_cases c3 : (a0.size : Int) ≤ 31
  ·rw [if_pos c3] at H
   have c3b0 : decide ((a0.size : Int) ≤ 31) = true := decide_eq_true c3
   have c3b1 : decide (a0.size ≤ 31) = true := decide_eq_true (by omega)
   clear c3
   by_cases c4 : 0 < (a0.size : Int)
   ·rw [if_pos c4] at H
    have c4b0 : decide (0 < (a0.size : Int)) = true := decide_eq_true c4
    have c4b1 : decide (0 < a0.size) = true := decide_eq_true (by omega)
    clear c4
    by_cases c6 : (bt a0 0) = 46
    ·rw [if_pos c6] at H
     have c6b0 : ((bt a0 0) == 46) = true := beq_iff_eq.mpr c6
     have c6b1 : ((bt a0 0) != 46) = false := bne_eq_false_iff_eq.mpr c6
     clear c6
     obtain rfl := Option.some.inj H
     have p5 : 0 ≤ (0 : Int) := (by omega)
     have q5 : 0 < a0.size := (by have : (0 : Int) < (a0.size : Int) := of_decide_eq_true (by first | (with_reducible assumption) | assumption); omega)
     have hx5 : ∀ h : 0 < a0.size, ((a0[0]'h).toNat : Int) = bt a0 0 := bt_at a0 0
     clear p5
     have qi5 : (0 < (a0.size : Int)) = True := eq_true (of_decide_eq_true (by first | (with_reducible assumption) | assumption))
     replace q5 := eq_true q5
     go_enter Try.func25, Try.ntmps25
     go_wp2
     go_ret
     exact ⟨by first | rfl | (simp; done) | (simp [*]; done), by repeat (first | exact Drawn0.refl _ | apply Drawn0.step)⟩
    ·rw [if_neg c6] at H
     have c6b0 : ((bt a0 0) == 46) = false := beq_eq_false_iff_ne.mpr c6
     have c6b1 : ((bt a0 0) != 46) = true := bne_iff_ne.mpr c6
     replace H := Option.bind_eq_some_iff.mp H
     obtain ⟨t103, A70, H⟩ := H
     replace H : (some t103) = some r := H
     have A7 := Aside0.mk A70
     clear A70
     obtain rfl := Option.some.inj H
     have p5 : 0 ≤ (0 : Int) := (by omega)
     have q5 : 0 < a0.size := (by have : (0 : Int) < (a0.size : Int) := of_decide_eq_true (by first | (with_reducible assumption) | assumption); omega)
     have hx5 : ∀ h : 0 < a0.size, ((a0[0]'h).toNat : Int) = bt a0 0 := bt_at a0 0
     clear p5
     have qi5 : (0 < (a0.size : Int)) = True := eq_true (of_decide_eq_true (by first | (with_reducible assumption) | assumption))
     replace q5 := eq_true q5
     go_enter Try.func25, Try.ntmps25
     go_wp2_with (first | (go_at_call 24; (with_reducible refine (chandleryref19_every.calls k a0 (⟨#[97, 98, 99, 100, 101, 102, 103, 104, 105, 106, 107, 108, 109, 110, 111, 112, 113, 114, 115, 116, 117, 118, 119, 120, 121, 122, 65, 66, 67, 68, 69, 70, 71, 72, 73, 74, 75, 76, 77, 78, 79, 80, 81, 82, 83, 84, 85, 86, 87, 88, 89, 90, 48, 49, 50, 51, 52, 53, 54, 55, 56, 57, 43, 45, 46, 95, 63, 61]⟩ : ByteArray) t103 _ A7.out).mono ?_); rintro e w' ⟨rfl, ⟨nd, rfl⟩⟩))
     go_ret
     exact ⟨by first | rfl | (simp; done) | (simp [*]; done), by repeat (first | exact Drawn0.refl _ | apply Drawn0.step)⟩
   ·rw [if_neg c4] at H
    exact absurd H (by simp)
  ·rw [if_neg c3] at H
   have c3b0 : decide ((a0.size : Int) ≤ 31) = false := decide_eq_false c3
   have c3b1 : decide (a0.size ≤ 31) = false := decide_eq_false (by omega)
   clear c3
   obtain rfl := Option.some.inj H
   go_enter Try.func25, Try.ntmps25
   go_wp2
   go_ret
   exact ⟨by first | rfl | (simp; done) | (simp [*]; done), by repeat (first | exact Drawn0.refl _ | apply Drawn0.step)⟩
 ·rw [if_neg c2] at H
  have c2b0 : decide (1 ≤ (a0.size : Int)) = false := decide_eq_false c2
  have c2b1 : decide (1 ≤ a0.size) = false := decide_eq_false (by omega)
  clear c2
  obtain rfl := Option.some.inj H
  go_enter Try.func25, Try.ntmps25
  go_wp2
  go_ret
  exact ⟨by first | rfl | (simp; done) | (simp [*]; done), by repeat (first | exact Drawn0.refl _ | apply Drawn0.step)⟩

/-! ### chandleryref19_Name: function 16 -/
def chandleryref19_Name.f (k : Nat) (a0 : ByteArray) : Option (Bool) := if (a0.size : Int) > 33 then (if 0 ≤ 32 then (if 32 ≤ (a0.size : Int) then ((chandleryref19_every.f k (a0.extract 0 32) (⟨#[48, 49, 50, 51, 52, 53, 54, 55, 56, 57, 97, 98, 99, 100, 102, 103, 104, 105, 106, 107, 108, 109, 110, 112, 113, 114, 115, 118, 119, 120, 121, 122]⟩ : ByteArray)).bind fun t104 => (if t104 = true then (if 32 < (a0.size : Int) then (if (bt a0 32) = 45 then (if 33 ≤ (a0.size : Int) then ((chandleryref19_Base.f k (a0.extract 33 a0.size)).bind fun t105 => (some t105)) else (none)) else (some false)) else (none)) else (some false))) else (none)) else (none)) else (some false)
theorem chandleryref19_Name.mono : ∀ a0 k, LeO (chandleryref19_Name.f k a0) (chandleryref19_Name.f (k + 1) a0) := by
 intro a0 k
 unfold chandleryref19_Name.f
 repeat' first
   | (with_reducible exact chandleryref19_Base.mono _ _)
   | (with_reducible exact chandleryref19_every.mono _ _ _)
   | (with_reducible exact LeO.refl _)
   | (with_reducible exact LeO.none _)
   | (with_reducible refine LeO.ite ?_ ?_)
   | (with_reducible refine LeO.bind ?_ (fun _ => ?_))
   | exact chandleryref19_Base.mono _ _
   | exact chandleryref19_every.mono _ _ _
   | exact LeO.none _
   | refine LeO.ite ?_ ?_
   | refine LeO.bind ?_ (fun _ => ?_)
set_option maxHeartbeats 8000000 in
set_option maxRecDepth 100000 in
theorem chandleryref19_Name.calls (k : Nat) (a0 : ByteArray) (r : Bool) (w : World) (h : chandleryref19_Name.f k a0 = some r) :
  Calls Try.prog 16 #[.string a0] w fun e w' => e = .returned (.bool r) ∧ Drawn0 w w' := by
 have H : (if (a0.size : Int) > 33 then (if 0 ≤ 32 then (if 32 ≤ (a0.size : Int) then ((chandleryref19_every.f k (a0.extract 0 32) (⟨#[48, 49, 50, 51, 52, 53, 54, 55, 56, 57, 97, 98, 99, 100, 102, 103, 104, 105, 106, 107, 108, 109, 110, 112, 113, 114, 115, 118, 119, 120, 121, 122]⟩ : ByteArray)).bind fun t104 => (if t104 = true then (if 32 < (a0.size : Int) then (if (bt a0 32) = 45 then (if 33 ≤ (a0.size : Int) then ((chandleryref19_Base.f k (a0.extract 33 a0.size)).bind fun t105 => (some t105)) else (none)) else (some false)) else (none)) else (some false))) else (none)) else (none)) else (some false)) = some r := h
 clear h
 by_cases c2 : (a0.size : Int) > 33
 ·rw [if_pos c2] at H
  have c2b0 : decide (33 < (a0.size : Int)) = true := decide_eq_true c2
  have c2b1 : decide (33 < a0.size) = true := decide_eq_true (by omega)
  clear c2
  by_cases c3 : 0 ≤ 32
  ·rw [if_pos c3] at H
   have c3b0 := eq_true c3
   have c3b1 : decide (0 ≤ 32) = true := decide_eq_true c3
   clear c3
   by_cases c4 : 32 ≤ (a0.size : Int)
   ·rw [if_pos c4] at H
    have c4b0 := eq_true c4
    have c4b1 : decide (32 ≤ (a0.size : Int)) = true := decide_eq_true c4
    clear c4
    replace H := Option.bind_eq_some_iff.mp H
    obtain ⟨t104, A50, H⟩ := H
    replace H : (if t104 = true then (if 32 < (a0.size : Int) then (if (bt a0 32) = 45 then (if 33 ≤ (a0.size : Int) then ((chandleryref19_Base.f k (a0.extract 33 a0.size)).bind fun t105 => (some t105)) else (none)) else (some false)) else (none)) else (some false)) = some r := H
    have A5 := Aside0.mk A50
    clear A50
    by_cases c6 : t104 = true
    ·subst c6
     have H1 : (if 32 < (a0.size : Int) then (if (bt a0 32) = 45 then (if 33 ≤ (a0.size : Int) then ((chandleryref19_Base.f k (a0.extract 33 a0.size)).bind fun t105 => (some t105)) else (none)) else (some false)) else (none)) = some r := by rw [if_pos rfl] at H; exact H
     clear H
     have H := H1
     clear H1
     by_cases c7 : 32 < (a0.size : Int)
     ·rw [if_pos c7] at H
      have c7b0 : decide (32 < (a0.size : Int)) = true := decide_eq_true c7
      have c7b1 : decide (32 < a0.size) = true := decide_eq_true (by omega)
      clear c7
      by_cases c9 : (bt a0 32) = 45
      ·rw [if_pos c9] at H
       have c9b0 : ((bt a0 32) == 45) = true := beq_iff_eq.mpr c9
       have c9b1 : ((bt a0 32) != 45) = false := bne_eq_false_iff_eq.mpr c9
       clear c9
       by_cases c10 : 33 ≤ (a0.size : Int)
       ·rw [if_pos c10] at H
        have c10b0 := eq_true c10
        have c10b1 : decide (33 ≤ (a0.size : Int)) = true := decide_eq_true c10
        clear c10
        replace H := Option.bind_eq_some_iff.mp H
        obtain ⟨t105, A110, H⟩ := H
        replace H : (some t105) = some r := H
        have A11 := Aside0.mk A110
        clear A110
        obtain rfl := Option.some.inj H
        go_enter Try.func16, Try.ntmps16
        go_wp2_with (first | (go_at_call 24; (with_reducible refine (chandleryref19_every.calls k (a0.extract 0 32) (⟨#[48, 49, 50, 51, 52, 53, 54, 55, 56, 57, 97, 98, 99, 100, 102, 103, 104, 105, 106, 107, 108, 109, 110, 112, 113, 114, 115, 118, 119, 120, 121, 122]⟩ : ByteArray) true _ A5.out).mono ?_); rintro e w' ⟨rfl, ⟨nd, rfl⟩⟩; have p8 : 0 ≤ (32 : Int) := (by omega); have q8 : 32 < a0.size := (by have : (32 : Int) < (a0.size : Int) := of_decide_eq_true (by first | (with_reducible assumption) | assumption); omega); have hx8 : ∀ h : 32 < a0.size, ((a0[32]'h).toNat : Int) = bt a0 32 := bt_at a0 32; clear p8; have qi8 : (32 < (a0.size : Int)) = True := eq_true (of_decide_eq_true (by first | (with_reducible assumption) | assumption)); replace q8 := eq_true q8) | (go_at_call 25; (with_reducible refine (chandleryref19_Base.calls k (a0.extract 33 a0.size) t105 _ A11.out).mono ?_); rintro e w' ⟨rfl, ⟨nd, rfl⟩⟩))
        go_ret
        exact ⟨by first | rfl | (simp; done) | (simp [*]; done), by repeat (first | exact Drawn0.refl _ | apply Drawn0.step)⟩
       ·rw [if_neg c10] at H
        exact absurd H (by simp)
      ·rw [if_neg c9] at H
       have c9b0 : ((bt a0 32) == 45) = false := beq_eq_false_iff_ne.mpr c9
       have c9b1 : ((bt a0 32) != 45) = true := bne_iff_ne.mpr c9
       obtain rfl := Option.some.inj H
       go_enter Try.func16, Try.ntmps16
       go_wp2_with (first | (go_at_call 24; (with_reducible refine (chandleryref19_every.calls k (a0.extract 0 32) (⟨#[48, 49, 50, 51, 52, 53, 54, 55, 56, 57, 97, 98, 99, 100, 102, 103, 104, 105, 106, 107, 108, 109, 110, 112, 113, 114, 115, 118, 119, 120, 121, 122]⟩ : ByteArray) true _ A5.out).mono ?_); rintro e w' ⟨rfl, ⟨nd, rfl⟩⟩; have p8 : 0 ≤ (32 : Int) := (by omega); have q8 : 32 < a0.size := (by have : (32 : Int) < (a0.size : Int) := of_decide_eq_true (by first | (with_reducible assumption) | assumption); omega); have hx8 : ∀ h : 32 < a0.size, ((a0[32]'h).toNat : Int) = bt a0 32 := bt_at a0 32; clear p8; have qi8 : (32 < (a0.size : Int)) = True := eq_true (of_decide_eq_true (by first | (with_reducible assumption) | assumption)); replace q8 := eq_true q8))
       go_ret
       exact ⟨by first | rfl | (simp; done) | (simp [*]; done), by repeat (first | exact Drawn0.refl _ | apply Drawn0.step)⟩
     ·rw [if_neg c7] at H
      exact absurd H (by simp)
    ·replace c6 := Bool.eq_false_iff.mpr c6
     subst c6
     have H1 : (some false) = some r := by rw [if_neg (show ¬ (false = true) by decide)] at H; exact H
     clear H
     have H := H1
     clear H1
     obtain rfl := Option.some.inj H
     go_enter Try.func16, Try.ntmps16
     go_wp2_with (first | (go_at_call 24; (with_reducible refine (chandleryref19_every.calls k (a0.extract 0 32) (⟨#[48, 49, 50, 51, 52, 53, 54, 55, 56, 57, 97, 98, 99, 100, 102, 103, 104, 105, 106, 107, 108, 109, 110, 112, 113, 114, 115, 118, 119, 120, 121, 122]⟩ : ByteArray) false _ A5.out).mono ?_); rintro e w' ⟨rfl, ⟨nd, rfl⟩⟩))
     go_ret
     exact ⟨by first | rfl | (simp; done) | (simp [*]; done), by repeat (first | exact Drawn0.refl _ | apply Drawn0.step)⟩
   ·rw [if_neg c4] at H
    exact absurd H (by simp)
  ·rw [if_neg c3] at H
   exact absurd H (by simp)
 ·rw [if_neg c2] at H
  have c2b0 : decide (33 < (a0.size : Int)) = false := decide_eq_false c2
  have c2b1 : decide (33 < a0.size) = false := decide_eq_false (by omega)
  clear c2
  obtain rfl := Option.some.inj H
  go_enter Try.func16, Try.ntmps16
  go_wp2
  go_ret
  exact ⟨by first | rfl | (simp; done) | (simp [*]; done), by repeat (first | exact Drawn0.refl _ | apply Drawn0.step)⟩

/-! ### chandleryref20_stands: function 17 -/
def chandleryref20_stands.l0 : Nat → List Int → ByteArray → Int → Option (Bool)
 | 0, _, _, _ => none
 | k + 1, x0, x1, x5 => if (wrap64 (x5 + (x1.size : Int))) ≤ (x0.length : Int) then (if 0 ≤ x5 then (if x5 ≤ (wrap64 (x5 + (x1.size : Int))) then (if (strOfNums ((x0.take ((wrap64 (x5 + (x1.size : Int))) : Int).toNat).drop (x5 : Int).toNat)).toList = x1.toList then (some true) else (chandleryref20_stands.l0 k x0 x1 (wrap64 (x5 + 1)))) else (none)) else (none)) else (some false)
def chandleryref20_stands.f (k : Nat) (l0 : List Int) (a1 : ByteArray) : Option (Bool) := chandleryref20_stands.l0 k l0 a1 0
theorem chandleryref20_stands.mono_l : ∀ k, (∀ y0 y1 y2, LeO (chandleryref20_stands.l0 k y0 y1 y2) (chandleryref20_stands.l0 (k + 1) y0 y1 y2))
 | 0 => fun _ _ _ r h => by simp [chandleryref20_stands.l0] at h
 | k + 1 => by
  have ih0 := chandleryref20_stands.mono_l k
  ·intro y0 y1 y2
   unfold chandleryref20_stands.l0
   repeat' first
   | (with_reducible exact ih0 _ _ _)
   | (with_reducible exact LeO.refl _)
   | (with_reducible exact LeO.none _)
   | (with_reducible refine LeO.ite ?_ ?_)
   | (with_reducible refine LeO.bind ?_ (fun _ => ?_))
   | exact ih0 _ _ _
   | exact LeO.none _
   | refine LeO.ite ?_ ?_
   | refine LeO.bind ?_ (fun _ => ?_)
theorem chandleryref20_stands.mono : ∀ a0 a1 k, LeO (chandleryref20_stands.f k a0 a1) (chandleryref20_stands.f (k + 1) a0 a1) := by
 intro a0 a1 k
 have ih0 := chandleryref20_stands.mono_l k
 unfold chandleryref20_stands.f
 repeat' first
   | (with_reducible exact ih0 _ _ _)
   | (with_reducible exact LeO.refl _)
   | (with_reducible exact LeO.none _)
   | (with_reducible refine LeO.ite ?_ ?_)
   | (with_reducible refine LeO.bind ?_ (fun _ => ?_))
   | exact ih0 _ _ _
   | exact LeO.none _
   | refine LeO.ite ?_ ?_
   | refine LeO.bind ?_ (fun _ => ?_)
set_option maxHeartbeats 8000000 in
set_option maxRecDepth 100000 in
theorem chandleryref20_stands.calls (k : Nat) (A0 : Option Addr) (c0 : Nat) (l0 : List Int) (a1 : ByteArray) (r : Bool) (w : World) (hr0 : Kd.C (Kd.int .u8) w A0 l0.length l0) (hc0 : l0.length ≤ c0) (h : chandleryref20_stands.f k l0 a1 = some r) :
  Calls Try.prog 17 #[.slice A0 l0.length c0, .string a1] w fun e w' => e = .returned (.bool r) ∧ Drawn0 w w' := by
 have HR0 := Aside0.mk hr0
 have HC0 := Aside0.mk hc0
 clear hr0 hc0
 have H : (chandleryref20_stands.l0 k l0 a1 0) = some r := h
 clear h
 have H' := Aside0.mk H
 clear H
 go_enter Try.func17, Try.ntmps17
 go_wp2
 go_loopg [5] k (fun kq v5 w' => ∃ (x5_1 : Int), v5 = .int .i64 x5_1 ∧ Aside0 (chandleryref20_stands.l0 kq l0 a1 x5_1 = some r) ∧ Aside0 (kq ≤ k) ∧ Drawn0 w w')
 case atStart => exact ⟨(0), (by first | rfl | (simp; done) | exact congrArg Value.bool (Go.Proofs.YtkmnjekbacdfoaaX.isEmpty_ne_ _) | exact congrArg Value.bool (Go.Proofs.YtkmnjekbacdfoaaX.ne_isEmpty_ _) | (simp [*]; done)), H', ⟨Nat.le_refl _⟩, by repeat (first | exact Drawn0.refl _ | apply Drawn0.step)⟩
 case round =>
  clear H'
  try clear c1
  try clear p2
  obtain ⟨x5_1, rfl, HA, HK1, ⟨m1, rfl⟩⟩ := hrel
  cases gk with
  | zero => exact absurd HA.out (by simp [chandleryref20_stands.l0])
  | succ k1 =>
   have H := HA.out
   clear HA
   simp only [chandleryref20_stands.l0] at H
   by_cases c3 : (wrap64 (x5_1 + (a1.size : Int))) ≤ (l0.length : Int)
   ·rw [if_pos c3] at H
    have c3b0 : decide ((wrap64 (x5_1 + (a1.size : Int))) ≤ (l0.length : Int)) = true := decide_eq_true c3
    clear c3
    by_cases c4 : 0 ≤ x5_1
    ·rw [if_pos c4] at H
     have c4b0 := eq_true c4
     have c4b1 : decide (0 ≤ x5_1) = true := decide_eq_true c4
     clear c4
     by_cases c5 : x5_1 ≤ (wrap64 (x5_1 + (a1.size : Int)))
     ·rw [if_pos c5] at H
      have c5b0 := eq_true c5
      have c5b1 : decide (x5_1 ≤ (wrap64 (x5_1 + (a1.size : Int)))) = true := decide_eq_true c5
      have c6b0 := eq_true (of_decide_eq_true (by first | (with_reducible assumption) | assumption) : (wrap64 (x5_1 + (a1.size : Int))) ≤ (l0.length : Int))
      by_cases c7 : (strOfNums ((l0.take ((wrap64 (x5_1 + (a1.size : Int))) : Int).toNat).drop (x5_1 : Int).toNat)).toList = a1.toList
      ·rw [if_pos c7] at H
       have c7b0 : ((strOfNums ((l0.take ((wrap64 (x5_1 + (a1.size : Int))) : Int).toNat).drop (x5_1 : Int).toNat)).toList == a1.toList) = true := beq_iff_eq.mpr c7
       have c7b1 : ((strOfNums ((l0.take ((wrap64 (x5_1 + (a1.size : Int))) : Int).toNat).drop (x5_1 : Int).toNat)).toList != a1.toList) = false := bne_eq_false_iff_eq.mpr c7
       clear c7
       obtain rfl := Option.some.inj H
       obtain ⟨i08, hi08, _, hsz8, _⟩ := info_parts info5
       obtain ⟨A8, hcut8, hA8, hC8⟩ := print_mid_of (P := Try.prog) (Value.int .u8) 0 22 5 .i64 .i64 Try.underlying22 hi08 hsz8 A0 c0 l0 x5_1 (wrap64 (x5_1 + (a1.size : Int))) (of_decide_eq_true (by first | (with_reducible assumption) | assumption)) (by first | omega | exact of_decide_eq_true (by first | (with_reducible assumption) | assumption)) (of_decide_eq_true (by first | (with_reducible assumption) | assumption)) HC0.out
       have HR106 := Aside0.mk (Kd.C_of_reads (h1 := fun _ => rfl) (hA8 _ (Kd.reads_of_C HR0.out)))
       have HC106 := Aside0.mk hC8
       clear hA8 hC8 hi08 hsz8
       have hcv9 : ∀ n_ L_ : Nat, L_ = ((l0.take ((wrap64 (x5_1 + (a1.size : Int))) : Int).toNat).drop (x5_1 : Int).toNat).length → (convert 22 9 (.slice A8 L_ (c0 - x5_1.toNat))).run Try.prog (w.drewN n_) = .ok (.string (strOfNums ((l0.take ((wrap64 (x5_1 + (a1.size : Int))) : Int).toNat).drop (x5_1 : Int).toNat))) (w.drewN n_) := fun n_ L_ hL_ => by rw [hL_]; exact Kd.C_string (P := Try.prog) (w := w.drewN n_) (A := A8) (c := (c0 - x5_1.toNat)) Try.underlying22 Try.underlying5 Try.underlying9 (show Kd.C (Kd.int .u8) (w.drewN n_) _ _ _ from HR106.out)
       go_wp2
       go_ret
       exact ⟨by first | rfl | (simp; done) | (simp [*]; done), by repeat (first | exact Drawn0.refl _ | apply Drawn0.step)⟩
      ·rw [if_neg c7] at H
       have c7b0 : ((strOfNums ((l0.take ((wrap64 (x5_1 + (a1.size : Int))) : Int).toNat).drop (x5_1 : Int).toNat)).toList == a1.toList) = false := beq_eq_false_iff_ne.mpr c7
       have c7b1 : ((strOfNums ((l0.take ((wrap64 (x5_1 + (a1.size : Int))) : Int).toNat).drop (x5_1 : Int).toNat)).toList != a1.toList) = true := bne_iff_ne.mpr c7
       have H' := Aside0.mk H
       clear H
       obtain ⟨i010, hi010, _, hsz10, _⟩ := info_parts info5
       obtain ⟨A10, hcut10, hA10, hC10⟩ := print_mid_of (P := Try.prog) (Value.int .u8) 0 22 5 .i64 .i64 Try.underlying22 hi010 hsz10 A0 c0 l0 x5_1 (wrap64 (x5_1 + (a1.size : Int))) (of_decide_eq_true (by first | (with_reducible assumption) | assumption)) (by first | omega | exact of_decide_eq_true (by first | (with_reducible assumption) | assumption)) (of_decide_eq_true (by first | (with_reducible assumption) | assumption)) HC0.out
       have HR106 := Aside0.mk (Kd.C_of_reads (h1 := fun _ => rfl) (hA10 _ (Kd.reads_of_C HR0.out)))
       have HC106 := Aside0.mk hC10
       clear hA10 hC10 hi010 hsz10
       have hcv11 : ∀ n_ L_ : Nat, L_ = ((l0.take ((wrap64 (x5_1 + (a1.size : Int))) : Int).toNat).drop (x5_1 : Int).toNat).length → (convert 22 9 (.slice A10 L_ (c0 - x5_1.toNat))).run Try.prog (w.drewN n_) = .ok (.string (strOfNums ((l0.take ((wrap64 (x5_1 + (a1.size : Int))) : Int).toNat).drop (x5_1 : Int).toNat))) (w.drewN n_) := fun n_ L_ hL_ => by rw [hL_]; exact Kd.C_string (P := Try.prog) (w := w.drewN n_) (A := A10) (c := (c0 - x5_1.toNat)) Try.underlying22 Try.underlying5 Try.underlying9 (show Kd.C (Kd.int .u8) (w.drewN n_) _ _ _ from HR106.out)
       go_wp2
       go_roundg k1
       case measure => have := HK1.out; omega
       case rel => exact ⟨(wrap64 (x5_1 + 1)), (by first | rfl | (simp; done) | exact congrArg Value.bool (Go.Proofs.YtkmnjekbacdfoaaX.isEmpty_ne_ _) | exact congrArg Value.bool (Go.Proofs.YtkmnjekbacdfoaaX.ne_isEmpty_ _) | (simp [*]; done)), H', ⟨by have := HK1.out; omega⟩, by repeat (first | exact Drawn0.refl _ | apply Drawn0.step)⟩
     ·rw [if_neg c5] at H
      exact absurd H (by simp)
    ·rw [if_neg c4] at H
     exact absurd H (by simp)
   ·rw [if_neg c3] at H
    have c3b0 : decide ((wrap64 (x5_1 + (a1.size : Int))) ≤ (l0.length : Int)) = false := decide_eq_false c3
    clear c3
    obtain rfl := Option.some.inj H
    go_wp2
    go_ret
    exact ⟨by first | rfl | (simp; done) | (simp [*]; done), by repeat (first | exact Drawn0.refl _ | apply Drawn0.step)⟩

end Go.Proofs.Ytkmnjekbacdfoaa.PScanL
