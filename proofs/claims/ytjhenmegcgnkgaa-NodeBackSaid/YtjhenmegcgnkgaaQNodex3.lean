-- printed with xprint.py over the kit's print
import Derived.Test.YtjhenmegcgnkgaaQNodex0
import Derived.Test.YtjhenmegcgnkgaaQNodex2
namespace Go.Proofs.Ytjhenmegcgnkgaa.PNode
open Go.RowKit Go.Proofs.YtjhenmegcgnkgaaW.PrintWords Go.Proofs.YtjhenmegcgnkgaaW.PrintLast Go.Proofs.YtjhenmegcgnkgaaW.PrintMore
attribute [local go_sem] max2_int min2_int max_two min_two max_three min_three max_four min_four   -- for this text's walks alone
set_option linter.unusedVariables false
set_option linter.unusedSimpArgs false

/-! ### node_rise: function 24 -/
def node_rise.l0 : Nat → List ByteArray → List ByteArray → Int → Int → Option (Bool)
 | 0, _, _, _, _ => none
 | k + 1, x0, x5, x6, x7 => if x7 < x6 then (if 0 ≤ x7 then (if x7 < (x5.length : Int) then ((node_within.f ((rdOf ByteArray.empty x5 x7).size : Int) 1 255).bind fun t111 => (if t111 = true then (if x7 > 0 then (if 0 ≤ (wrap64 (x7 - 1)) then (if (wrap64 (x7 - 1)) < (x0.length : Int) then (if ((Op.bytesLess ((rdOf ByteArray.empty x0 (wrap64 (x7 - 1))).toList) ((rdOf ByteArray.empty x5 x7).toList)) = true) then (node_rise.l0 k x0 x5 x6 (wrap64 (x7 + 1))) else (some false)) else (none)) else (none)) else (node_rise.l0 k x0 x5 x6 (wrap64 (x7 + 1)))) else (some false))) else (none)) else (none)) else (some true)
def node_rise.f (k : Nat) (l0 : List ByteArray) : Option (Bool) := node_rise.l0 k l0 l0 (l0.length : Int) 0
theorem node_rise.mono_l : ∀ k, (∀ y0 y1 y2 y3, LeO (node_rise.l0 k y0 y1 y2 y3) (node_rise.l0 (k + 1) y0 y1 y2 y3))
 | 0 => fun _ _ _ _ r h => by simp [node_rise.l0] at h
 | k + 1 => by
  have ih0 := node_rise.mono_l k
  ·intro y0 y1 y2 y3
   unfold node_rise.l0
   repeat' first
   | (with_reducible exact ih0 _ _ _ _)
   | (with_reducible exact LeO.refl _)
   | (with_reducible exact LeO.none _)
   | (with_reducible refine LeO.ite ?_ ?_)
   | (with_reducible refine LeO.bind ?_ (fun _ => ?_))
   | exact ih0 _ _ _ _
   | exact LeO.none _
   | refine LeO.ite ?_ ?_
   | refine LeO.bind ?_ (fun _ => ?_)
theorem node_rise.mono : ∀ a0 k, LeO (node_rise.f k a0) (node_rise.f (k + 1) a0) := by
 intro a0 k
 have ih0 := node_rise.mono_l k
 unfold node_rise.f
 repeat' first
   | (with_reducible exact ih0 _ _ _ _)
   | (with_reducible exact LeO.refl _)
   | (with_reducible exact LeO.none _)
   | (with_reducible refine LeO.ite ?_ ?_)
   | (with_reducible refine LeO.bind ?_ (fun _ => ?_))
   | exact ih0 _ _ _ _
   | exact LeO.none _
   | refine LeO.ite ?_ ?_
   | refine LeO.bind ?_ (fun _ => ?_)
set_option maxHeartbeats 8000000 in
set_option maxRecDepth 100000 in
theorem node_rise.calls (k : Nat) (A0 : Option Addr) (c0 : Nat) (l0 : List ByteArray) (r : Bool) (w : World) (hr0 : Kd.C Kd.string w A0 l0.length l0) (hc0 : l0.length ≤ c0) (h : node_rise.f k l0 = some r) :
  Calls Try.prog 24 #[.slice A0 l0.length c0] w fun e w' => e = .returned (.bool r) ∧ Drawn0 w w' := by
 have hsg_ := Go.Proofs.YtjhenmegcgnkgaaX.str_geq; have hsl_ := Go.Proofs.YtjhenmegcgnkgaaX.str_leq; have hst_ := Go.Proofs.YtjhenmegcgnkgaaX.str_gtr
 have HR0 := Aside0.mk hr0
 have HC0 := Aside0.mk hc0
 clear hr0 hc0
 have H : (node_rise.l0 k l0 l0 (l0.length : Int) 0) = some r := h
 clear h
 have H' := Aside0.mk H
 clear H
 go_enter Try.func24, Try.ntmps24
 go_wp2
 go_loopg [7] k (fun kq v7 w' => ∃ (x7_1 : Int), v7 = .int .i64 x7_1 ∧ Aside0 (node_rise.l0 kq l0 l0 (l0.length : Int) x7_1 = some r) ∧ Aside0 (kq ≤ k) ∧ Drawn0 w w')
 case atStart => exact ⟨(0), (by first | rfl | (simp; done) | exact congrArg Value.bool (Go.Proofs.YtjhenmegcgnkgaaX.isEmpty_ne_ _) | exact congrArg Value.bool (Go.Proofs.YtjhenmegcgnkgaaX.ne_isEmpty_ _) | (simp [*]; done)), H', ⟨Nat.le_refl _⟩, by repeat (first | exact Drawn0.refl _ | apply Drawn0.step)⟩
 case round =>
  clear H'
  obtain ⟨x7_1, rfl, HA, HK1, ⟨m1, rfl⟩⟩ := hrel
  cases gk with
  | zero => exact absurd HA.out (by simp [node_rise.l0])
  | succ k1 =>
   have H := HA.out
   clear HA
   simp only [node_rise.l0] at H
   by_cases c2 : x7_1 < (l0.length : Int)
   ·rw [if_pos c2] at H
    have c2b0 : decide (x7_1 < (l0.length : Int)) = true := decide_eq_true c2
    clear c2
    by_cases c3 : 0 ≤ x7_1
    ·rw [if_pos c3] at H
     have c3b0 : decide (0 ≤ x7_1) = true := decide_eq_true c3
     clear c3
     by_cases c4 : x7_1 < (l0.length : Int)
     ·rw [if_pos c4] at H
      have c4b0 : decide (x7_1 < (l0.length : Int)) = true := decide_eq_true c4
      clear c4
      replace H := Option.bind_eq_some_iff.mp H
      obtain ⟨t111, A50, H⟩ := H
      replace H : (if t111 = true then (if x7_1 > 0 then (if 0 ≤ (wrap64 (x7_1 - 1)) then (if (wrap64 (x7_1 - 1)) < (l0.length : Int) then (if ((Op.bytesLess ((rdOf ByteArray.empty l0 (wrap64 (x7_1 - 1))).toList) ((rdOf ByteArray.empty l0 x7_1).toList)) = true) then (node_rise.l0 k1 l0 l0 (l0.length : Int) (wrap64 (x7_1 + 1))) else (some false)) else (none)) else (none)) else (node_rise.l0 k1 l0 l0 (l0.length : Int) (wrap64 (x7_1 + 1)))) else (some false)) = some r := H
      have A5 := Aside0.mk A50
      clear A50
      by_cases c6 : t111 = true
      ·subst c6
       have H1 : (if x7_1 > 0 then (if 0 ≤ (wrap64 (x7_1 - 1)) then (if (wrap64 (x7_1 - 1)) < (l0.length : Int) then (if ((Op.bytesLess ((rdOf ByteArray.empty l0 (wrap64 (x7_1 - 1))).toList) ((rdOf ByteArray.empty l0 x7_1).toList)) = true) then (node_rise.l0 k1 l0 l0 (l0.length : Int) (wrap64 (x7_1 + 1))) else (some false)) else (none)) else (none)) else (node_rise.l0 k1 l0 l0 (l0.length : Int) (wrap64 (x7_1 + 1)))) = some r := by rw [if_pos rfl] at H; exact H
       clear H
       have H := H1
       clear H1
       by_cases c7 : x7_1 > 0
       ·rw [if_pos c7] at H
        have c7b0 : decide (0 < x7_1) = true := decide_eq_true c7
        clear c7
        obtain ⟨ji8, hji8⟩ : ∃ j_ : Int, (wrap64 (x7_1 - 1)) = j_ := ⟨_, rfl⟩
        replace H : (if 0 ≤ (ji8) then (if (ji8) < (l0.length : Int) then (if ((Op.bytesLess ((rdOf ByteArray.empty l0 (ji8)).toList) ((rdOf ByteArray.empty l0 x7_1).toList)) = true) then (node_rise.l0 k1 l0 l0 (l0.length : Int) (wrap64 (x7_1 + 1))) else (some false)) else (none)) else (none)) = some r := by first | (rw [hji8] at H; exact H) | (simp only [hji8] at H ⊢; exact H)
        (try rw [hji8] at A5)
        have hji8w : (IntKind.i64.wrap (x7_1 - 1)) = ji8 := (i64_w _).trans hji8
        by_cases c9 : 0 ≤ (ji8)
        ·rw [if_pos c9] at H
         have c9b0 : decide (0 ≤ (ji8)) = true := decide_eq_true c9
         clear c9
         by_cases c10 : (ji8) < (l0.length : Int)
         ·rw [if_pos c10] at H
          have c10b0 : decide ((ji8) < (l0.length : Int)) = true := decide_eq_true c10
          clear c10
          by_cases c11 : ((Op.bytesLess ((rdOf ByteArray.empty l0 (ji8)).toList) ((rdOf ByteArray.empty l0 x7_1).toList)) = true)
          ·rw [if_pos c11] at H
           have c11b0 : (Op.bytesLess ((rdOf ByteArray.empty l0 (ji8)).toList) ((rdOf ByteArray.empty l0 x7_1).toList)) = true := c11
           clear c11
           have H' := Aside0.mk H
           clear H
           have p110 : 0 ≤ (x7_1 : Int) := of_decide_eq_true (by first | (with_reducible assumption) | assumption)
           have q110 : x7_1 < (l0.length : Int) := of_decide_eq_true (by first | (with_reducible assumption) | assumption)
           obtain ⟨ad110, e110, hx110_0⟩ := Kd.at_string HR0.out x7_1 p110 q110
           cases e110
           replace p110 := eq_true p110
           replace q110 := eq_true q110
           go_wp2_with (first | ((with_reducible refine gate_callee (f := 29) rfl ?_); refine goesL_ (some 14) rfl rfl Try.func29 (by kernel_rfl) rfl #[.int .i64 ((rdOf ByteArray.empty l0 x7_1).size : Int), .int .i64 1, .int .i64 255] rfl (by (try simp only [List.map_toArray, List.map_cons, List.map_nil]); first | done | rfl | (simp only [List.length_drop, List.length_take]; rfl)) ?_; (with_reducible refine (node_within.calls ((rdOf ByteArray.empty l0 x7_1).size : Int) 1 255 true _ A5.out).mono ?_); rintro e w' ⟨rfl, ⟨nd, rfl⟩⟩; refine ⟨_, rfl, ?_⟩; have p112 : 0 ≤ ((ji8) : Int) := of_decide_eq_true (by first | (with_reducible assumption) | assumption); have q112 : (ji8) < (l0.length : Int) := of_decide_eq_true (by first | (with_reducible assumption) | assumption); obtain ⟨ad112, e112, hx112_0⟩ := Kd.at_string HR0.out (ji8) p112 q112; obtain rfl : ad110 = ad112 := (by injection e112); replace p112 := eq_true p112; replace q112 := eq_true q112))
           go_roundg k1
           case measure => have := HK1.out; omega
           case rel => exact ⟨(wrap64 (x7_1 + 1)), (by first | rfl | (simp; done) | exact congrArg Value.bool (Go.Proofs.YtjhenmegcgnkgaaX.isEmpty_ne_ _) | exact congrArg Value.bool (Go.Proofs.YtjhenmegcgnkgaaX.ne_isEmpty_ _) | (simp [*]; done)), H', ⟨by have := HK1.out; omega⟩, by repeat (first | exact Drawn0.refl _ | apply Drawn0.step)⟩
          ·rw [if_neg c11] at H
           have c11b0 : (Op.bytesLess ((rdOf ByteArray.empty l0 (ji8)).toList) ((rdOf ByteArray.empty l0 x7_1).toList)) = false := by simpa using c11
           clear c11
           obtain rfl := Option.some.inj H
           have p110 : 0 ≤ (x7_1 : Int) := of_decide_eq_true (by first | (with_reducible assumption) | assumption)
           have q110 : x7_1 < (l0.length : Int) := of_decide_eq_true (by first | (with_reducible assumption) | assumption)
           obtain ⟨ad110, e110, hx110_0⟩ := Kd.at_string HR0.out x7_1 p110 q110
           cases e110
           replace p110 := eq_true p110
           replace q110 := eq_true q110
           go_wp2_with (first | ((with_reducible refine gate_callee (f := 29) rfl ?_); refine goesL_ (some 14) rfl rfl Try.func29 (by kernel_rfl) rfl #[.int .i64 ((rdOf ByteArray.empty l0 x7_1).size : Int), .int .i64 1, .int .i64 255] rfl (by (try simp only [List.map_toArray, List.map_cons, List.map_nil]); first | done | rfl | (simp only [List.length_drop, List.length_take]; rfl)) ?_; (with_reducible refine (node_within.calls ((rdOf ByteArray.empty l0 x7_1).size : Int) 1 255 true _ A5.out).mono ?_); rintro e w' ⟨rfl, ⟨nd, rfl⟩⟩; refine ⟨_, rfl, ?_⟩; have p112 : 0 ≤ ((ji8) : Int) := of_decide_eq_true (by first | (with_reducible assumption) | assumption); have q112 : (ji8) < (l0.length : Int) := of_decide_eq_true (by first | (with_reducible assumption) | assumption); obtain ⟨ad112, e112, hx112_0⟩ := Kd.at_string HR0.out (ji8) p112 q112; obtain rfl : ad110 = ad112 := (by injection e112); replace p112 := eq_true p112; replace q112 := eq_true q112))
           go_ret
           exact ⟨by first | rfl | (simp; done) | (simp only [← hji8] <;> (first | rfl | simp)) | (simp [*]; done), by repeat (first | exact Drawn0.refl _ | apply Drawn0.step)⟩
         ·rw [if_neg c10] at H
          exact absurd H (by simp)
        ·rw [if_neg c9] at H
         exact absurd H (by simp)
       ·rw [if_neg c7] at H
        have c7b0 : decide (0 < x7_1) = false := decide_eq_false c7
        clear c7
        have H' := Aside0.mk H
        clear H
        have p110 : 0 ≤ (x7_1 : Int) := of_decide_eq_true (by first | (with_reducible assumption) | assumption)
        have q110 : x7_1 < (l0.length : Int) := of_decide_eq_true (by first | (with_reducible assumption) | assumption)
        obtain ⟨ad110, e110, hx110_0⟩ := Kd.at_string HR0.out x7_1 p110 q110
        cases e110
        replace p110 := eq_true p110
        replace q110 := eq_true q110
        go_wp2_with (first | ((with_reducible refine gate_callee (f := 29) rfl ?_); refine goesL_ (some 14) rfl rfl Try.func29 (by kernel_rfl) rfl #[.int .i64 ((rdOf ByteArray.empty l0 x7_1).size : Int), .int .i64 1, .int .i64 255] rfl (by (try simp only [List.map_toArray, List.map_cons, List.map_nil]); first | done | rfl | (simp only [List.length_drop, List.length_take]; rfl)) ?_; (with_reducible refine (node_within.calls ((rdOf ByteArray.empty l0 x7_1).size : Int) 1 255 true _ A5.out).mono ?_); rintro e w' ⟨rfl, ⟨nd, rfl⟩⟩; refine ⟨_, rfl, ?_⟩))
        go_roundg k1
        case measure => have := HK1.out; omega
        case rel => exact ⟨(wrap64 (x7_1 + 1)), (by first | rfl | (simp; done) | exact congrArg Value.bool (Go.Proofs.YtjhenmegcgnkgaaX.isEmpty_ne_ _) | exact congrArg Value.bool (Go.Proofs.YtjhenmegcgnkgaaX.ne_isEmpty_ _) | (simp [*]; done)), H', ⟨by have := HK1.out; omega⟩, by repeat (first | exact Drawn0.refl _ | apply Drawn0.step)⟩
      ·replace c6 := Bool.eq_false_iff.mpr c6
       subst c6
       have H1 : (some false) = some r := by rw [if_neg (show ¬ (false = true) by decide)] at H; exact H
       clear H
       have H := H1
       clear H1
       obtain rfl := Option.some.inj H
       have p110 : 0 ≤ (x7_1 : Int) := of_decide_eq_true (by first | (with_reducible assumption) | assumption)
       have q110 : x7_1 < (l0.length : Int) := of_decide_eq_true (by first | (with_reducible assumption) | assumption)
       obtain ⟨ad110, e110, hx110_0⟩ := Kd.at_string HR0.out x7_1 p110 q110
       cases e110
       replace p110 := eq_true p110
       replace q110 := eq_true q110
       go_wp2_with (first | ((with_reducible refine gate_callee (f := 29) rfl ?_); refine goesL_ (some 14) rfl rfl Try.func29 (by kernel_rfl) rfl #[.int .i64 ((rdOf ByteArray.empty l0 x7_1).size : Int), .int .i64 1, .int .i64 255] rfl (by (try simp only [List.map_toArray, List.map_cons, List.map_nil]); first | done | rfl | (simp only [List.length_drop, List.length_take]; rfl)) ?_; (with_reducible refine (node_within.calls ((rdOf ByteArray.empty l0 x7_1).size : Int) 1 255 false _ A5.out).mono ?_); rintro e w' ⟨rfl, ⟨nd, rfl⟩⟩; refine ⟨_, rfl, ?_⟩))
       go_ret
       exact ⟨by first | rfl | (simp; done) | (simp [*]; done), by repeat (first | exact Drawn0.refl _ | apply Drawn0.step)⟩
     ·rw [if_neg c4] at H
      exact absurd H (by simp)
    ·rw [if_neg c3] at H
     exact absurd H (by simp)
   ·rw [if_neg c2] at H
    have c2b0 : decide (x7_1 < (l0.length : Int)) = false := decide_eq_false c2
    clear c2
    obtain rfl := Option.some.inj H
    go_wp2
    go_ret
    exact ⟨by first | rfl | (simp; done) | (simp [*]; done), by repeat (first | exact Drawn0.refl _ | apply Drawn0.step)⟩

-- NOT PRINTED: function 41 (slices_IndexFunc_string_string)

-- NOT PRINTED: function 25 (slices_ContainsFunc_string_string)

-- NOT PRINTED: function 42 (slices_IndexFunc_int_int)

-- NOT PRINTED: function 27 (slices_ContainsFunc_int_int)

/-! ### node_Check: function 10 -/
def prOf (p : S42) : ByteArray × ByteArray := (p.f0, p.f1)
theorem pairs_of {w : World} {A : Option Addr} {l : List S42} (h : Kd.C k42 w A l.length l) : YtjhenmegcgnkgaaX.PairsAt w A (l.map prOf) := by
 intro i hi
 have hi' : i < l.length := by simpa using hi
 obtain ⟨ad, e, q0, q1⟩ := at_T42 h (i : Int) (by omega) (by omega)
 have hr : rd_T42 l (i : Int) = l[i] := by
  unfold rd_T42
  rw [Int.toNat_natCast, List.getD_eq_getElem?_getD, List.getElem?_eq_getElem hi']
  rfl
 rw [hr, Int.toNat_natCast] at q0 q1
 refine ⟨ad, e, ?_, ?_⟩
 ·rw [List.getElem_map]
  exact q0
 ·rw [List.getElem_map]
  exact (congrArg w.cell? (YtjhenmegcgnkgaaX.addr_next ad (i * 2))).symm.trans q1
def checkL (a1 room : Int) (l0_1 : List S42) (l0_2 : List ByteArray) (l0_3 : List Int) (ri : Bool) (sz : Int) : Int :=
 if l0_3.length + l0_2.length = 0 ∧ ((l0_1.map prOf).all (YtjhenmegcgnkgaaX.pairOk room)) = true ∧ ri = true ∧ ((l0_1.map S42.f0).any fun x => YtjhenmegcgnkgaaX.longB x room) = false then (if sz > a1 then 2 else 0) else 1
def checkI (a1 room : Int) (l0_1 : List S42) (l0_2 : List ByteArray) (l0_3 : List Int) (ri : Bool) (sz : Int) : Int :=
 if (l0_1.length = 0 ∧ l0_3.length = l0_2.length + 1) ∧ ri = true ∧ (l0_2.any fun x => YtjhenmegcgnkgaaX.longB x room) = false ∧ (l0_3.any fun n => !YtjhenmegcgnkgaaX.inB n 1 16777215) = false then (if sz > a1 then 2 else 0) else 1
def node_Check.f (k : Nat) (a0_0 : Bool) (l0_1 : List (S42)) (l0_2 : List ByteArray) (l0_3 : List Int) (a1 : Int) : Option (Int) :=
 (node_Most.f a1).bind fun m => if m.2 = 0 then (if l0_1.length ≤ 1000000 ∧ l0_2.length ≤ 1000000 ∧ l0_3.length ≤ 1000000 then (node_rise.f k (if a0_0 = true then l0_1.map S42.f0 else l0_2)).bind fun ri => (node_Size.f k a0_0 l0_1 l0_2 l0_3).bind fun sz => some (if a0_0 = true then checkL a1 m.1 l0_1 l0_2 l0_3 ri sz else checkI a1 m.1 l0_1 l0_2 l0_3 ri sz) else none) else some m.2
theorem node_Check.mono : ∀ a0_0 l0_1 l0_2 l0_3 a1 k, LeO (node_Check.f k a0_0 l0_1 l0_2 l0_3 a1) (node_Check.f (k + 1) a0_0 l0_1 l0_2 l0_3 a1) := by
 intro a0_0 l0_1 l0_2 l0_3 a1 k
 unfold node_Check.f
 exact LeO.bind (LeO.refl _) fun m => LeO.ite (LeO.ite (LeO.bind (node_rise.mono _ _) fun ri => LeO.bind (node_Size.mono _ _ _ _ _) fun sz => LeO.refl _) (LeO.refl _)) (LeO.refl _)
theorem node_Check.calls (k : Nat) (a0_0 : Bool) (A0_1 : Option Addr) (c0_1 : Nat) (l0_1 : List (S42)) (A0_2 : Option Addr) (c0_2 : Nat) (l0_2 : List ByteArray) (A0_3 : Option Addr) (c0_3 : Nat) (l0_3 : List Int) (a1 : Int) (r : Int) (w : World) (hr0_1 : Kd.C k42 w A0_1 l0_1.length l0_1) (hc0_1 : l0_1.length ≤ c0_1) (hr0_2 : Kd.C Kd.string w A0_2 l0_2.length l0_2) (hc0_2 : l0_2.length ≤ c0_2) (hr0_3 : Kd.C (Kd.int .i64) w A0_3 l0_3.length l0_3) (hc0_3 : l0_3.length ≤ c0_3) (h : node_Check.f k a0_0 l0_1 l0_2 l0_3 a1 = some r) :
  Calls Try.prog 10 #[.agg #[.bool a0_0, .slice A0_1 l0_1.length c0_1, .slice A0_2 l0_2.length c0_2, .slice A0_3 l0_3.length c0_3], .int .i64 a1] w fun e w' => e = .returned (.int .i64 r) ∧ Below w.heap.size w w' := by
 unfold node_Check.f at h
 obtain ⟨⟨room, e⟩, hm, h⟩ := Option.bind_eq_some_iff.mp h
 dsimp only at h
 have hmost : YtjhenmegcgnkgaaX.MostIs a1 room e := fun W => (node_Most.calls a1 room e W hm).mono (fun x w' hx => ⟨hx.1, hx.2.below⟩)
 by_cases he : e = 0
 ·subst he
  rw [if_pos rfl] at h
  by_cases hl : l0_1.length ≤ 1000000 ∧ l0_2.length ≤ 1000000 ∧ l0_3.length ≤ 1000000
  ·rw [if_pos hl] at h
   obtain ⟨hl1, hl2, hl3⟩ := hl
   obtain ⟨ri, hri, h⟩ := Option.bind_eq_some_iff.mp h
   obtain ⟨sz, hsz, h⟩ := Option.bind_eq_some_iff.mp h
   have hrise : YtjhenmegcgnkgaaX.RiseIs (if a0_0 = true then l0_1.map S42.f0 else l0_2) ri := fun W A c hC hc => (node_rise.calls k A c _ ri W hC hc hri).mono (fun x w' hx => ⟨hx.1, hx.2.below⟩)
   have hsize : YtjhenmegcgnkgaaX.SizeIs w (YtjhenmegcgnkgaaX.nodeV a0_0 A0_1 l0_1.length c0_1 A0_2 l0_2.length c0_2 A0_3 l0_3.length c0_3) sz := fun W hW => node_Size.calls k a0_0 A0_1 c0_1 l0_1 A0_2 c0_2 l0_2 A0_3 c0_3 l0_3 sz W (Kd.C_below hr0_1 hW) hc0_1 (Kd.C_below hr0_2 hW) hc0_2 (Kd.C_below hr0_3 hW) hc0_3 hsz
   injection h with h
   cases a0_0
   ·exact YtjhenmegcgnkgaaX.check_inner A0_1 l0_1.length c0_1 A0_2 c0_2 l0_2 A0_3 c0_3 l0_3 a1 w hr0_2 hc0_2 hr0_3 hc0_3 (Nat.le_trans hl2 (by decide)) (Nat.le_trans hl3 (by decide)) room hmost ri hrise sz hsize r (by rw [← h]; rfl)
   ·have hk : (l0_1.map prOf).map (·.1) = l0_1.map S42.f0 := by rw [List.map_map]; rfl
    have hlen : (l0_1.map prOf).length = l0_1.length := List.length_map ..
    have hx := YtjhenmegcgnkgaaX.check_leaf A0_1 c0_1 (l0_1.map prOf) A0_2 c0_2 l0_2 A0_3 c0_3 l0_3 a1 w (pairs_of hr0_1) (by rw [hlen]; exact hc0_1) (by rw [hlen]; exact hl1) hr0_3 hc0_3 hl2 hl3 room hmost ri (by rw [hk]; exact hrise) sz (by rw [hlen]; exact hsize) r (by rw [← h, hk]; rfl)
    rw [hlen] at hx
    exact hx
  ·rw [if_neg hl] at h
   cases h
 ·rw [if_neg he] at h
  injection h with h
  subst h
  exact YtjhenmegcgnkgaaX.check_bad a0_0 A0_1 l0_1.length c0_1 A0_2 l0_2.length c0_2 A0_3 l0_3.length c0_3 a1 w room e hmost (bne_iff_ne.2 he)
/-! ### node_text: function 30 -/
def node_text.f (l0 : List Int) (a1 : ByteArray) : Option (List Int) := if l0.length < 140737488355328 then ((some (l0 ++ [((a1.size : Int)) % 256] : List Int)).bind fun y113 => (if y113.length + a1.size < 140737488355328 then (some (y113 ++ bytesOf a1)) else (none))) else (none)
set_option maxHeartbeats 8000000 in
set_option maxRecDepth 100000 in
theorem node_text.calls (P0_ : Nat → Prop) (u9000_ : Value) (l0 : List Int) (a1 : ByteArray) (r : List Int) (w0 w : World) (hB : Below w0.heap.size w0 w) (ho0 : Kd.R (Kd.int .u8) 5 w w0.heap.size P0_ u9000_ l0) (h : node_text.f l0 a1 = some r) :
  Calls Try.prog 30 #[u9000_, .string a1] w fun e w' => ∃ v0_ : Value, e = .returned (v0_) ∧ Kd.R (Kd.int .u8) 5 w' w0.heap.size (fun k_ => (P0_ k_ ∨ w.heap.size ≤ k_)) v0_ r ∧ Below w0.heap.size w0 w' ∧ Kept w w' (fun k_ => P0_ k_) := by
 have HO0 := Aside0.mk (show Kd.R (Kd.int .u8) 5 w w0.heap.size (fun k_ => (P0_ k_ ∨ w.heap.size ≤ k_)) u9000_ l0 from Kd.R_mono ho0 (fun k_ hk => (.inl hk)))
 have HK := Aside0.mk (Kept.refl w (fun k_ => P0_ k_))
 have HW0 := Aside0.mk hB.size
 have HB := Aside0.mk hB
 clear hB
 have H : (if l0.length < 140737488355328 then ((some (l0 ++ [((a1.size : Int)) % 256] : List Int)).bind fun y113 => (if y113.length + a1.size < 140737488355328 then (some (y113 ++ bytesOf a1)) else (none))) else (none)) = some r := h
 clear h
 by_cases c3 : l0.length < 140737488355328
 ·rw [if_pos c3] at H
  have LMc3 := Aside0.mk c3
  clear c3
  obtain ⟨y113, hy113⟩ : ∃ y_ : List Int, y_ = (l0 ++ [((a1.size : Int)) % 256]) := ⟨_, rfl⟩
  replace H : (if y113.length + a1.size < 140737488355328 then (some (y113 ++ bytesOf a1)) else (none)) = some r := by first | (rw [hy113]; with_reducible exact H) | (have H2_ := (Option.bind_some _ _).symm.trans H; rw [hy113]; with_reducible exact H2_) | (have H2_ := (Option.bind_some _ _).symm.trans H; with_reducible exact H2_) | with_reducible exact H | (rw [hy113]; exact H) | exact H
  have Ny113 := Aside0.mk hy113
  clear hy113
  by_cases c4 : y113.length + a1.size < 140737488355328
  ·rw [if_pos c4] at H
   have LMc4 := Aside0.mk c4
   clear c4
   obtain ⟨y116, hy116⟩ : ∃ y_ : List Int, y_ = (y113 ++ bytesOf a1) := ⟨_, rfl⟩
   replace H : (some y116) = some r := by first | (rw [hy116]; with_reducible exact H) | (have H2_ := (Option.bind_some _ _).symm.trans H; rw [hy116]; with_reducible exact H2_) | (have H2_ := (Option.bind_some _ _).symm.trans H; with_reducible exact H2_) | with_reducible exact H | (rw [hy116]; exact H) | exact H
   have Ny116 := Aside0.mk hy116
   clear hy116
   obtain rfl := Option.some.inj H
   go_enter Try.func30, Try.ntmps30
   go_wp2_with (first | ((with_reducible refine gate_builtin (b := .append) (xs := #[.tmp 5, .tmp 9]) rfl ?_); at_builtin; refine Kd.R_append (Kd.int .u8) (w0 := w0) w0.heap.size rfl (.tmp 5) (.tmp 9) 30 5 (.int .u8 0) 1 rfl Try.underlying30 info5 rfl (by decide) (by omega) u9000_ l0 (((a1.size : Int)) % 256) [.int .u8 (((a1.size : Int)) % 256)] (fun k_ => (P0_ k_ ∨ w.heap.size ≤ k_)) (fun _ => False) rfl rfl ?aP (fun _ hk => hk.elim) ?aF ?aO ?aB ?aS ?aL ?_; (case aP => exact rfl); (case aB => exact (by repeat (first | (with_reducible first | exact HB.out | apply below_alloc | apply pw_below_drewN | apply below_drew1) | exact HB.out))); (case aF => exact (fun k_ hk => (.inr (Nat.le_trans (by first | exact HK.out.1 | exact (show Kept w _ (fun k_ => P0_ k_) from by repeat (first | (with_reducible first | exact HK.out | apply Kept.alloc | apply Kept.drewN | apply Kept.drew) | exact HK.out)).1) hk)))); (case aO => exact (by (with_reducible repeat (first | apply Kd.R_alloc | apply Kd.R_drewN | apply Kd.R_drew)); exact HO0.out)); (case aS => exact (below_size (by repeat (first | (with_reducible first | exact HB.out | apply below_alloc | apply pw_below_drewN | apply below_drew1) | exact HB.out)))); (case aL => have := LMc3.out; omega); intro v114 w5 ho hb hg hat; rw [← Ny113.out] at ho; have n0_ := Aside0.mk (hb); have n1_ := Aside0.mk (Kept.of_grown (S := (fun k_ => P0_ k_)) hg (by repeat (first | (with_reducible first | exact HK.out | apply Kept.alloc | apply Kept.drewN | apply Kept.drew) | exact HK.out)) (fun k_ e_ => (HO0.out.1 k_ e_))); have n2_ := Aside0.mk (ho); clear HB; clear HK; clear HO0; have HB := n0_; have HK := n1_; have HO115 := n2_; clear n0_ n1_ n2_; clear ho hb hg hat) | (at_builtin; refine Go.Proofs.YtjhenmegcgnkgaaX.append_strR (w0 := w0) w0.heap.size rfl (.tmp 10) _ 30 9 5 rfl Try.underlying30 Try.underlying9 info5 v114 y113 a1 (fun k_ => (P0_ k_ ∨ w.heap.size ≤ k_)) rfl rfl ?aF ?aO ?aB ?aS ?aL ?_; (case aB => exact (by repeat (first | (with_reducible first | exact HB.out | apply below_alloc | apply pw_below_drewN | apply below_drew1) | exact HB.out))); (case aF => exact (fun k_ hk => (.inr (Nat.le_trans (by first | exact HK.out.1 | exact (show Kept w _ (fun k_ => P0_ k_) from by repeat (first | (with_reducible first | exact HK.out | apply Kept.alloc | apply Kept.drewN | apply Kept.drew) | exact HK.out)).1) hk)))); (case aO => exact (by (with_reducible repeat (first | apply Kd.R_alloc | apply Kd.R_drewN | apply Kd.R_drew)); exact HO115.out)); (case aS => exact (below_size (by repeat (first | (with_reducible first | exact HB.out | apply below_alloc | apply pw_below_drewN | apply below_drew1) | exact HB.out)))); (case aL => have := LMc4.out; omega); intro v117 w6 ho hb hg hat; rw [← Ny116.out] at ho; have n0_ := Aside0.mk (hb); have n1_ := Aside0.mk (Kept.of_grown (S := (fun k_ => P0_ k_)) hg (by repeat (first | (with_reducible first | exact HK.out | apply Kept.alloc | apply Kept.drewN | apply Kept.drew) | exact HK.out)) (fun k_ e_ => (HO115.out.1 k_ e_))); have n2_ := Aside0.mk (ho); clear HB; clear HK; clear HO115; have HB := n0_; have HK := n1_; have HO118 := n2_; clear n0_ n1_ n2_; clear ho hb hg hat))
   go_ret
   exact ⟨_, by first | rfl | (simp [errW_none, errW_some] <;> rfl) | (simp [*, errW_none, errW_some] <;> rfl), by (with_reducible repeat (first | apply Kd.R_alloc | apply Kd.R_drewN | apply Kd.R_drew)); exact HO118.out, by repeat (first | (with_reducible first | exact HB.out | apply below_alloc | apply pw_below_drewN | apply below_drew1) | exact HB.out), by repeat (first | (with_reducible first | exact HK.out | apply Kept.alloc | apply Kept.drewN | apply Kept.drew) | exact HK.out)⟩
  ·rw [if_neg c4] at H
   exact absurd H (by simp)
 ·rw [if_neg c3] at H
  exact absurd H (by simp)

end Go.Proofs.Ytjhenmegcgnkgaa.PNode
