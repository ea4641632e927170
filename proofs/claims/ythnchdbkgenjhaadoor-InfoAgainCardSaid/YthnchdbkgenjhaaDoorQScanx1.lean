-- printed with xprint.py over the kit's print
import Derived.Test.YthnchdbkgenjhaaDoorQScanx0
namespace Go.Proofs.YthnchdbkgenjhaaDoor.PScan
open Go.RowKit Go.Proofs.YthnchdbkgenjhaaDoorW.PrintWords Go.Proofs.YthnchdbkgenjhaaDoorW.PrintLast Go.Proofs.YthnchdbkgenjhaaDoorW.PrintMore
attribute [local go_sem] max2_int min2_int max_two min_two max_three min_three max_four min_four   -- for this text's walks alone
set_option linter.unusedVariables false
set_option linter.unusedSimpArgs false
def names_Base.f (a0 : ByteArray) : Option (Int) := if a0.size ≤ 1000000 then some (if YthnchdbkgenjhaaDoorX.baseB a0 = true then 0 else 190) else none
theorem names_Base.calls (a0 : ByteArray) (r : Int) (w : World) (h : names_Base.f a0 = some r) :
  Calls Tryd.prog 52 #[.string a0] w fun e w' => e = .returned (.int .i64 r) ∧ Below w.heap.size w w' := by
 unfold names_Base.f at h
 by_cases hl : a0.size ≤ 1000000
 ·rw [if_pos hl] at h
  rw [← Option.some.inj h]
  exact YthnchdbkgenjhaaDoorX.Base_calls a0 w hl
 ·rw [if_neg hl] at h
  cases h
def strings_IndexByte.f (a0 : ByteArray) (a1 : Int) : Option (Int) := some (Lib.indexByte a0.data.toList a1.toNat.toUInt8)
theorem strings_IndexByte.calls (a0 : ByteArray) (a1 : Int) (r : Int) (w : World) (h : strings_IndexByte.f a0 a1 = some r) :
  Calls Tryd.prog 51 #[.string a0, .int .u8 a1] w fun e w' => e = .returned (.int .i64 r) ∧ Drawn0 w w' := by
 have e0 : Lib.indexByte a0.data.toList a1.toNat.toUInt8 = r := Option.some.inj h
 refine (Tryd.strings_IndexByte a0 a1 w).mono ?_
 rintro e w' ⟨he, hw⟩
 rw [e0] at he
 exact ⟨he, hw ▸ Drawn0.refl w⟩
def base_size.f (a0 : Int) : Option (Int) := some (wrap64 (Int.tdiv (wrap64 ((wrap64 ((wrap64 (8 * a0)) + 5)) - 1)) 5))
set_option maxHeartbeats 8000000 in
set_option maxRecDepth 100000 in
theorem base_size.calls (a0 : Int) (r : Int) (w : World) (h : base_size.f a0 = some r) :
  Calls Tryd.prog 68 #[.int .i64 a0] w fun e w' => e = .returned (.int .i64 r) ∧ Drawn0 w w' := by
 have H : (some (wrap64 (Int.tdiv (wrap64 ((wrap64 ((wrap64 (8 * a0)) + 5)) - 1)) 5))) = some r := h
 clear h
 obtain rfl := Option.some.inj H
 go_enter Tryd.func68, Tryd.ntmps68
 go_wp2
 go_ret
 exact ⟨by first | rfl | (simp; done) | (simp [*]; done), by repeat (first | exact Drawn0.refl _ | apply Drawn0.step)⟩
def base_Decode.l0 : Nat → ByteArray → List Int → Int → Int → Option (List Int × Int)
 | 0, _, _, _, _ => none
 | k + 1, x0, x4, x21, x22 => if x22 < x21 then (if 0 ≤ (wrap64 ((wrap64 ((x0.size : Int) - 1)) - x22)) then (if (wrap64 ((wrap64 ((x0.size : Int) - 1)) - x22)) < (x0.size : Int) then ((strings_IndexByte.f (⟨#[48, 49, 50, 51, 52, 53, 54, 55, 56, 57, 97, 98, 99, 100, 102, 103, 104, 105, 106, 107, 108, 109, 110, 112, 113, 114, 115, 118, 119, 120, 121, 122]⟩ : ByteArray) (bt x0 (wrap64 ((wrap64 ((x0.size : Int) - 1)) - x22)))).bind fun t107 => (if t107 < 0 then (some (([] : List Int), 4)) else (if 0 ≤ (Int.tmod (wrap64 (5 * x22)) 8) then (if 0 ≤ (wrap64 (Int.tdiv (wrap64 (5 * x22)) 8)) then (if (wrap64 (Int.tdiv (wrap64 (5 * x22)) 8)) < (x4.length : Int) then ((some (x4.set ((wrap64 (Int.tdiv (wrap64 (5 * x22)) 8)) : Int).toNat (Go.bits .or .u8 (rd x4 (wrap64 (Int.tdiv (wrap64 (5 * x22)) 8))) ((shl .i64 t107 (Int.tmod (wrap64 (5 * x22)) 8)) % 256)) : List Int)).bind fun y109 => (if (wrap64 ((wrap64 (Int.tdiv (wrap64 (5 * x22)) 8)) + 1)) < (x4.length : Int) then (if 0 ≤ (wrap64 ((wrap64 (Int.tdiv (wrap64 (5 * x22)) 8)) + 1)) then (base_Decode.l0 k x0 (y109.set ((wrap64 ((wrap64 (Int.tdiv (wrap64 (5 * x22)) 8)) + 1)) : Int).toNat (Go.bits .or .u8 (rd y109 (wrap64 ((wrap64 (Int.tdiv (wrap64 (5 * x22)) 8)) + 1))) (((shl .i64 t107 (Int.tmod (wrap64 (5 * x22)) 8)) / 256) % 256))) x21 (wrap64 (x22 + 1))) else (none)) else (if ((shl .i64 t107 (Int.tmod (wrap64 (5 * x22)) 8)) / 256) = 0 then (base_Decode.l0 k x0 y109 x21 (wrap64 (x22 + 1))) else (some (([] : List Int), 4))))) else (none)) else (none)) else (none)))) else (none)) else (none)) else (some (x4, 0))
def base_Decode.f (k : Nat) (a0 : ByteArray) : Option (List Int × Int) := if 0 ≤ (wrap64 (Int.tdiv (wrap64 ((a0.size : Int) * 5)) 8)) then (if (wrap64 (Int.tdiv (wrap64 ((a0.size : Int) * 5)) 8) : Int).toNat ≤ 281474976710656 then ((some (List.replicate (wrap64 (Int.tdiv (wrap64 ((a0.size : Int) * 5)) 8) : Int).toNat 0 : List Int)).bind fun y103 => ((base_size.f (y103.length : Int)).bind fun t106 => (if t106 = (a0.size : Int) then (base_Decode.l0 k a0 y103 (a0.size : Int) 0) else (some (([] : List Int), 4))))) else (none)) else (none)
set_option maxHeartbeats 8000000 in
set_option maxRecDepth 100000 in
theorem base_Decode.calls (k : Nat) (a0 : ByteArray) (r1 : List Int) (r2 : Int) (w : World) (h : base_Decode.f k a0 = some (r1, r2)) :
  Calls Tryd.prog 53 #[.string a0] w fun e w' => ∃ v0_ : Value, e = .returned (.tuple #[v0_, .int .i64 r2]) ∧ Kd.R (Kd.int .u8) 5 w' w.heap.size (fun _ => True) v0_ r1 ∧ Below w.heap.size w w' := by
 have HB := Aside0.mk (Below.refl w.heap.size w)
 have H : (if 0 ≤ (wrap64 (Int.tdiv (wrap64 ((a0.size : Int) * 5)) 8)) then (if (wrap64 (Int.tdiv (wrap64 ((a0.size : Int) * 5)) 8) : Int).toNat ≤ 281474976710656 then ((some (List.replicate (wrap64 (Int.tdiv (wrap64 ((a0.size : Int) * 5)) 8) : Int).toNat 0 : List Int)).bind fun y103 => ((base_size.f (y103.length : Int)).bind fun t106 => (if t106 = (a0.size : Int) then (base_Decode.l0 k a0 y103 (a0.size : Int) 0) else (some (([] : List Int), 4))))) else (none)) else (none)) = some (r1, r2) := h
 clear h
 obtain ⟨ji2, hji2⟩ : ∃ j_ : Int, (wrap64 (Int.tdiv (wrap64 ((a0.size : Int) * 5)) 8)) = j_ := ⟨_, rfl⟩
 replace H : (if 0 ≤ (ji2) then (if (ji2 : Int).toNat ≤ 281474976710656 then ((some (List.replicate (ji2 : Int).toNat 0 : List Int)).bind fun y103 => ((base_size.f (y103.length : Int)).bind fun t106 => (if t106 = (a0.size : Int) then (base_Decode.l0 k a0 y103 (a0.size : Int) 0) else (some (([] : List Int), 4))))) else (none)) else (none)) = some (r1, r2) := by first | (rw [hji2] at H; exact H) | (simp only [hji2] at H ⊢; exact H)
 have hji2w : (IntKind.i64.wrap (Int.tdiv (wrap64 ((a0.size : Int) * 5)) 8)) = ji2 := (i64_w _).trans hji2
 by_cases c3 : 0 ≤ (ji2)
 ·rw [if_pos c3] at H
  have c3b0 := eq_true c3
  have c3b1 : decide (0 ≤ (ji2)) = true := decide_eq_true c3
  clear c3
  by_cases c4 : (ji2 : Int).toNat ≤ 281474976710656
  ·rw [if_pos c4] at H
   have c4b0 := eq_true c4
   have c4b1 : decide ((ji2 : Int).toNat ≤ 281474976710656) = true := decide_eq_true c4
   clear c4
   obtain ⟨y103, hy103⟩ : ∃ y_ : List Int, y_ = (List.replicate (ji2 : Int).toNat 0) := ⟨_, rfl⟩
   replace H : ((base_size.f (y103.length : Int)).bind fun t106 => (if t106 = (a0.size : Int) then (base_Decode.l0 k a0 y103 (a0.size : Int) 0) else (some (([] : List Int), 4)))) = some (r1, r2) := by first | (rw [hy103]; with_reducible exact H) | (have H2_ := (Option.bind_some _ _).symm.trans H; rw [hy103]; with_reducible exact H2_) | (have H2_ := (Option.bind_some _ _).symm.trans H; with_reducible exact H2_) | with_reducible exact H | (rw [hy103]; exact H) | exact H
   have Ny103 := Aside0.mk hy103
   clear hy103
   replace H := Option.bind_eq_some_iff.mp H
   obtain ⟨t106, A50, H⟩ := H
   replace H : (if t106 = (a0.size : Int) then (base_Decode.l0 k a0 y103 (a0.size : Int) 0) else (some (([] : List Int), 4))) = some (r1, r2) := H
   have A5 := Aside0.mk A50
   clear A50
   by_cases c6 : t106 = (a0.size : Int)
   ·rw [if_pos c6] at H
    have c6b0 : (t106 == (a0.size : Int)) = true := beq_iff_eq.mpr c6
    have c6b1 : (t106 != (a0.size : Int)) = false := bne_eq_false_iff_eq.mpr c6
    clear c6
    have H' := Aside0.mk H
    clear H
    go_enter Tryd.func53, Tryd.ntmps53
    go_wp2_with (first | ((with_reducible refine gate_dst (N := 13) rfl ?_); refine Kd.R_make (Kd.int .u8) _ 5 rfl (N := 13) rfl 30 _ _ rfl ji2 rfl rfl Tryd.underlying30 (.int .u8 0) 1 info5 rfl (by decide) (by omega) 0 (ok := fun _ => True) (okp := fun _ => True) rfl (fun _ hk => hk) trivial (of_decide_eq_true (by first | (with_reducible assumption) | assumption)) (Nat.le_trans (Nat.mul_le_mul_right _ (of_decide_eq_true (by first | (with_reducible assumption) | assumption) : ji2.toNat ≤ 281474976710656)) (by omega)) (Below.refl _ _) (Nat.le_refl _) ?_; intro v104 w7 ho8 hb hg_ hnew_; clear hg_ hnew_; (first | rw [← Ny103.out] at ho8 | (simp only [Int.reduceToNat] at ho8; rw [← Ny103.out] at ho8)); have n0_ := Aside0.mk (Kd.R_lower ho8 (below_size (by repeat (first | (with_reducible first | exact HB.out | apply below_alloc | apply pw_below_drewN | apply below_drew1) | exact HB.out)))); have n1_ := Aside0.mk (below_step (by repeat (first | (with_reducible first | exact HB.out | apply below_alloc | apply pw_below_drewN | apply below_drew1) | exact HB.out)) hb); clear HB; have HO105 := n0_; have HB := n1_; clear n0_ n1_; clear hb ho8; obtain ⟨Ao9, co9, eo9⟩ := Kd.R_slice HO105.out; subst eo9) | ((with_reducible refine gate_callee (f := 68) rfl ?_); refine goesL_ (some 16) rfl rfl Tryd.func68 (by kernel_rfl) rfl #[.int .i64 (y103.length : Int)] rfl (by (try simp only [List.map_toArray, List.map_cons, List.map_nil]); first | done | rfl | (simp only [List.length_drop, List.length_take]; rfl)) ?_; (with_reducible refine (base_size.calls (y103.length : Int) t106 _ A5.out).mono ?_); rintro e w' ⟨rfl, ⟨nd, rfl⟩⟩; refine ⟨_, rfl, ?_⟩))
    go_loopg [22] k (fun kq v22 w' => ∃ (x4_1 : List Int) (x22_1 : Int), v22 = .int .i64 x22_1 ∧ Aside0 (base_Decode.l0 kq a0 x4_1 (a0.size : Int) x22_1 = some (r1, r2)) ∧ Aside0 (kq ≤ k) ∧ Aside0 (Kd.R (Kd.int .u8) 5 w' w.heap.size (fun _ => True) (.slice Ao9 y103.length co9) x4_1) ∧ Aside0 (Below w.heap.size w w'))
    case atStart => exact ⟨(y103), (0), (by first | rfl | (simp; done) | exact congrArg Value.bool (Go.Proofs.YthnchdbkgenjhaaDoorX.isEmpty_ne_ _) | exact congrArg Value.bool (Go.Proofs.YthnchdbkgenjhaaDoorX.ne_isEmpty_ _) | (simp [*]; done)), H', ⟨Nat.le_refl _⟩, ⟨by (with_reducible repeat (first | apply Kd.R_alloc | apply Kd.R_drewN | apply Kd.R_drew)); exact HO105.out⟩, ⟨by repeat (first | (with_reducible first | exact HB.out | apply below_alloc | apply pw_below_drewN | apply below_drew1) | exact HB.out)⟩⟩
    case round =>
     clear H'
     try clear p2
     try clear c3
     try clear c3b0
     try clear c3b1
     try clear c4
     try clear c4b0
     try clear c4b1
     try clear c5
     try clear c6
     try clear c6b0
     try clear c6b1
     try clear p6
     obtain ⟨x4_1, x22_1, rfl, HA, HK1, HO_4, HB⟩ := hrel
     have hl4_1 := (Kd.R_reads' HO_4.out).1
     rw [hl4_1] at HO_4
     (try simp only [hl4_1])
     cases gk with
     | zero => exact absurd HA.out (by simp [base_Decode.l0])
     | succ k1 =>
      have H := HA.out
      clear HA
      simp only [base_Decode.l0] at H
      by_cases c10 : x22_1 < (a0.size : Int)
      ·rw [if_pos c10] at H
       have c10b0 : decide (x22_1 < (a0.size : Int)) = true := decide_eq_true c10
       clear c10
       obtain ⟨ji11, hji11⟩ : ∃ j_ : Int, (wrap64 ((wrap64 ((a0.size : Int) - 1)) - x22_1)) = j_ := ⟨_, rfl⟩
       replace H : (if 0 ≤ (ji11) then (if (ji11) < (a0.size : Int) then ((strings_IndexByte.f (⟨#[48, 49, 50, 51, 52, 53, 54, 55, 56, 57, 97, 98, 99, 100, 102, 103, 104, 105, 106, 107, 108, 109, 110, 112, 113, 114, 115, 118, 119, 120, 121, 122]⟩ : ByteArray) (bt a0 (ji11))).bind fun t107 => (if t107 < 0 then (some (([] : List Int), 4)) else (if 0 ≤ (Int.tmod (wrap64 (5 * x22_1)) 8) then (if 0 ≤ (wrap64 (Int.tdiv (wrap64 (5 * x22_1)) 8)) then (if (wrap64 (Int.tdiv (wrap64 (5 * x22_1)) 8)) < (x4_1.length : Int) then ((some (x4_1.set ((wrap64 (Int.tdiv (wrap64 (5 * x22_1)) 8)) : Int).toNat (Go.bits .or .u8 (rd x4_1 (wrap64 (Int.tdiv (wrap64 (5 * x22_1)) 8))) ((shl .i64 t107 (Int.tmod (wrap64 (5 * x22_1)) 8)) % 256)) : List Int)).bind fun y109 => (if (wrap64 ((wrap64 (Int.tdiv (wrap64 (5 * x22_1)) 8)) + 1)) < (x4_1.length : Int) then (if 0 ≤ (wrap64 ((wrap64 (Int.tdiv (wrap64 (5 * x22_1)) 8)) + 1)) then (base_Decode.l0 k1 a0 (y109.set ((wrap64 ((wrap64 (Int.tdiv (wrap64 (5 * x22_1)) 8)) + 1)) : Int).toNat (Go.bits .or .u8 (rd y109 (wrap64 ((wrap64 (Int.tdiv (wrap64 (5 * x22_1)) 8)) + 1))) (((shl .i64 t107 (Int.tmod (wrap64 (5 * x22_1)) 8)) / 256) % 256))) (a0.size : Int) (wrap64 (x22_1 + 1))) else (none)) else (if ((shl .i64 t107 (Int.tmod (wrap64 (5 * x22_1)) 8)) / 256) = 0 then (base_Decode.l0 k1 a0 y109 (a0.size : Int) (wrap64 (x22_1 + 1))) else (some (([] : List Int), 4))))) else (none)) else (none)) else (none)))) else (none)) else (none)) = some (r1, r2) := by first | (rw [hji11] at H; exact H) | (simp only [hji11] at H ⊢; exact H)
       have hji11w : (IntKind.i64.wrap ((wrap64 ((a0.size : Int) - 1)) - x22_1)) = ji11 := (i64_w _).trans hji11
       by_cases c12 : 0 ≤ (ji11)
       ·rw [if_pos c12] at H
        have c12b0 : decide (0 ≤ (ji11)) = true := decide_eq_true c12
        clear c12
        by_cases c13 : (ji11) < (a0.size : Int)
        ·rw [if_pos c13] at H
         have c13b0 : decide ((ji11) < (a0.size : Int)) = true := decide_eq_true c13
         clear c13
         replace H := Option.bind_eq_some_iff.mp H
         obtain ⟨t107, A150, H⟩ := H
         replace H : (if t107 < 0 then (some (([] : List Int), 4)) else (if 0 ≤ (Int.tmod (wrap64 (5 * x22_1)) 8) then (if 0 ≤ (wrap64 (Int.tdiv (wrap64 (5 * x22_1)) 8)) then (if (wrap64 (Int.tdiv (wrap64 (5 * x22_1)) 8)) < (x4_1.length : Int) then ((some (x4_1.set ((wrap64 (Int.tdiv (wrap64 (5 * x22_1)) 8)) : Int).toNat (Go.bits .or .u8 (rd x4_1 (wrap64 (Int.tdiv (wrap64 (5 * x22_1)) 8))) ((shl .i64 t107 (Int.tmod (wrap64 (5 * x22_1)) 8)) % 256)) : List Int)).bind fun y109 => (if (wrap64 ((wrap64 (Int.tdiv (wrap64 (5 * x22_1)) 8)) + 1)) < (x4_1.length : Int) then (if 0 ≤ (wrap64 ((wrap64 (Int.tdiv (wrap64 (5 * x22_1)) 8)) + 1)) then (base_Decode.l0 k1 a0 (y109.set ((wrap64 ((wrap64 (Int.tdiv (wrap64 (5 * x22_1)) 8)) + 1)) : Int).toNat (Go.bits .or .u8 (rd y109 (wrap64 ((wrap64 (Int.tdiv (wrap64 (5 * x22_1)) 8)) + 1))) (((shl .i64 t107 (Int.tmod (wrap64 (5 * x22_1)) 8)) / 256) % 256))) (a0.size : Int) (wrap64 (x22_1 + 1))) else (none)) else (if ((shl .i64 t107 (Int.tmod (wrap64 (5 * x22_1)) 8)) / 256) = 0 then (base_Decode.l0 k1 a0 y109 (a0.size : Int) (wrap64 (x22_1 + 1))) else (some (([] : List Int), 4))))) else (none)) else (none)) else (none))) = some (r1, r2) := H
         have A15 := Aside0.mk A150
         clear A150
         by_cases c16 : t107 < 0
         ·rw [if_pos c16] at H
          have c16b0 : decide (t107 < 0) = true := decide_eq_true c16
          clear c16
          simp only [Option.some.injEq, Prod.mk.injEq] at H
          obtain ⟨rfl, rfl⟩ := H
          have p14 : 0 ≤ ((ji11) : Int) := of_decide_eq_true (by first | (with_reducible assumption) | assumption)
          have q14 : (ji11) < (a0.size : Int) := of_decide_eq_true (by first | (with_reducible assumption) | assumption)
          have hx14 := bt_at a0 (ji11)
          replace p14 := eq_true p14
          replace q14 := eq_true q14
          go_wp2_with (first | ((with_reducible refine gate_callee (f := 51) rfl ?_); refine goesL_ (some 32) rfl rfl Tryd.func51 (by kernel_rfl) rfl #[.string (⟨#[48, 49, 50, 51, 52, 53, 54, 55, 56, 57, 97, 98, 99, 100, 102, 103, 104, 105, 106, 107, 108, 109, 110, 112, 113, 114, 115, 118, 119, 120, 121, 122]⟩ : ByteArray), .int .u8 (bt a0 (ji11))] rfl (by (try simp only [List.map_toArray, List.map_cons, List.map_nil]); first | done | (simp only [hji11]; rfl) | rfl | (simp only [List.length_drop, List.length_take]; rfl)) ?_; (with_reducible refine (strings_IndexByte.calls (⟨#[48, 49, 50, 51, 52, 53, 54, 55, 56, 57, 97, 98, 99, 100, 102, 103, 104, 105, 106, 107, 108, 109, 110, 112, 113, 114, 115, 118, 119, 120, 121, 122]⟩ : ByteArray) (bt a0 (ji11)) t107 _ A15.out).mono ?_); rintro e w' ⟨rfl, ⟨nd, rfl⟩⟩; refine ⟨_, rfl, ?_⟩))
          go_ret2
          exact ⟨_, by first | rfl | (simp [errW_none, errW_some] <;> rfl) | (simp only [← hji2, ← hji11]; first | rfl | (simp [errW_none, errW_some] <;> rfl)) | (simp [*, errW_none, errW_some] <;> rfl), by first | exact Kd.R_nil _ _ _ _ _ | exact Kd.N_nil _ _ _ _ _ | exact Kd.V_nil _ _ _ _ _ | exact Kd.Q_nil _ _ _ _ _ | exact Kd.S_nil _ _ _ _ _, by repeat (first | (with_reducible first | exact HB.out | apply below_alloc | apply pw_below_drewN | apply below_drew1) | exact HB.out)⟩
         ·rw [if_neg c16] at H
          have c16b0 : decide (t107 < 0) = false := decide_eq_false c16
          clear c16
          obtain ⟨ji17, hji17⟩ : ∃ j_ : Int, (Int.tmod (wrap64 (5 * x22_1)) 8) = j_ := ⟨_, rfl⟩
          replace H : (if 0 ≤ (ji17) then (if 0 ≤ (wrap64 (Int.tdiv (wrap64 (5 * x22_1)) 8)) then (if (wrap64 (Int.tdiv (wrap64 (5 * x22_1)) 8)) < (x4_1.length : Int) then ((some (x4_1.set ((wrap64 (Int.tdiv (wrap64 (5 * x22_1)) 8)) : Int).toNat (Go.bits .or .u8 (rd x4_1 (wrap64 (Int.tdiv (wrap64 (5 * x22_1)) 8))) ((shl .i64 t107 (ji17)) % 256)) : List Int)).bind fun y109 => (if (wrap64 ((wrap64 (Int.tdiv (wrap64 (5 * x22_1)) 8)) + 1)) < (x4_1.length : Int) then (if 0 ≤ (wrap64 ((wrap64 (Int.tdiv (wrap64 (5 * x22_1)) 8)) + 1)) then (base_Decode.l0 k1 a0 (y109.set ((wrap64 ((wrap64 (Int.tdiv (wrap64 (5 * x22_1)) 8)) + 1)) : Int).toNat (Go.bits .or .u8 (rd y109 (wrap64 ((wrap64 (Int.tdiv (wrap64 (5 * x22_1)) 8)) + 1))) (((shl .i64 t107 (ji17)) / 256) % 256))) (a0.size : Int) (wrap64 (x22_1 + 1))) else (none)) else (if ((shl .i64 t107 (ji17)) / 256) = 0 then (base_Decode.l0 k1 a0 y109 (a0.size : Int) (wrap64 (x22_1 + 1))) else (some (([] : List Int), 4))))) else (none)) else (none)) else (none)) = some (r1, r2) := by first | (rw [hji17] at H; exact H) | (simp only [hji17] at H ⊢; exact H)
          (try rw [hji17] at A15)
          by_cases c18 : 0 ≤ (ji17)
          ·rw [if_pos c18] at H
           have c18b0 := eq_true c18
           have c18b1 : decide (0 ≤ (ji17)) = true := decide_eq_true c18
           clear c18
           obtain ⟨ji19, hji19⟩ : ∃ j_ : Int, (shl .i64 t107 (ji17)) = j_ := ⟨_, rfl⟩
           replace H : (if 0 ≤ (wrap64 (Int.tdiv (wrap64 (5 * x22_1)) 8)) then (if (wrap64 (Int.tdiv (wrap64 (5 * x22_1)) 8)) < (x4_1.length : Int) then ((some (x4_1.set ((wrap64 (Int.tdiv (wrap64 (5 * x22_1)) 8)) : Int).toNat (Go.bits .or .u8 (rd x4_1 (wrap64 (Int.tdiv (wrap64 (5 * x22_1)) 8))) ((ji19) % 256)) : List Int)).bind fun y109 => (if (wrap64 ((wrap64 (Int.tdiv (wrap64 (5 * x22_1)) 8)) + 1)) < (x4_1.length : Int) then (if 0 ≤ (wrap64 ((wrap64 (Int.tdiv (wrap64 (5 * x22_1)) 8)) + 1)) then (base_Decode.l0 k1 a0 (y109.set ((wrap64 ((wrap64 (Int.tdiv (wrap64 (5 * x22_1)) 8)) + 1)) : Int).toNat (Go.bits .or .u8 (rd y109 (wrap64 ((wrap64 (Int.tdiv (wrap64 (5 * x22_1)) 8)) + 1))) (((ji19) / 256) % 256))) (a0.size : Int) (wrap64 (x22_1 + 1))) else (none)) else (if ((ji19) / 256) = 0 then (base_Decode.l0 k1 a0 y109 (a0.size : Int) (wrap64 (x22_1 + 1))) else (some (([] : List Int), 4))))) else (none)) else (none)) = some (r1, r2) := by first | (rw [hji19] at H; exact H) | (simp only [hji19] at H ⊢; exact H)
           (try rw [hji19] at A15)
           have hji19_ : (IntKind.i64.wrap (t107 * 2 ^ min (ji17).toNat 64)) = ji19 := hji19
           have hji19z : (ji17) ≤ 64 → (IntKind.i64.wrap (t107 * 2 ^ (ji17).toNat)) = ji19 := shl_small hji19
           have hji19y : (wrap64 (t107 * 2 ^ min (ji17).toNat 64)) = ji19 := (i64_w _).symm.trans hji19_
           have hji19x : (ji17) ≤ 64 → (wrap64 (t107 * 2 ^ (ji17).toNat)) = ji19 := fun h_ => (i64_w _).symm.trans (hji19z h_)
           obtain ⟨ji20, hji20⟩ : ∃ j_ : Int, (wrap64 (Int.tdiv (wrap64 (5 * x22_1)) 8)) = j_ := ⟨_, rfl⟩
           replace H : (if 0 ≤ (ji20) then (if (ji20) < (x4_1.length : Int) then ((some (x4_1.set ((ji20) : Int).toNat (Go.bits .or .u8 (rd x4_1 (ji20)) ((ji19) % 256)) : List Int)).bind fun y109 => (if (wrap64 ((ji20) + 1)) < (x4_1.length : Int) then (if 0 ≤ (wrap64 ((ji20) + 1)) then (base_Decode.l0 k1 a0 (y109.set ((wrap64 ((ji20) + 1)) : Int).toNat (Go.bits .or .u8 (rd y109 (wrap64 ((ji20) + 1))) (((ji19) / 256) % 256))) (a0.size : Int) (wrap64 (x22_1 + 1))) else (none)) else (if ((ji19) / 256) = 0 then (base_Decode.l0 k1 a0 y109 (a0.size : Int) (wrap64 (x22_1 + 1))) else (some (([] : List Int), 4))))) else (none)) else (none)) = some (r1, r2) := by first | (rw [hji20] at H; exact H) | (simp only [hji20] at H ⊢; exact H)
           (try rw [hji20] at A15)
           have hji20w : (IntKind.i64.wrap (Int.tdiv (wrap64 (5 * x22_1)) 8)) = ji20 := (i64_w _).trans hji20
           by_cases c21 : 0 ≤ (ji20)
           ·rw [if_pos c21] at H
            have c21b0 : decide (0 ≤ (ji20)) = true := decide_eq_true c21
            clear c21
            by_cases c22 : (ji20) < (x4_1.length : Int)
            ·rw [if_pos c22] at H
             have c22b0 : decide ((ji20) < (x4_1.length : Int)) = true := decide_eq_true c22
             clear c22
             (try rw [hl4_1] at c22b0)
             obtain ⟨y109, hy109⟩ : ∃ y_ : List Int, y_ = (x4_1.set ((ji20) : Int).toNat (Go.bits .or .u8 (rd x4_1 (ji20)) ((ji19) % 256))) := ⟨_, rfl⟩
             replace H : (if (wrap64 ((ji20) + 1)) < (x4_1.length : Int) then (if 0 ≤ (wrap64 ((ji20) + 1)) then (base_Decode.l0 k1 a0 (y109.set ((wrap64 ((ji20) + 1)) : Int).toNat (Go.bits .or .u8 (rd y109 (wrap64 ((ji20) + 1))) (((ji19) / 256) % 256))) (a0.size : Int) (wrap64 (x22_1 + 1))) else (none)) else (if ((ji19) / 256) = 0 then (base_Decode.l0 k1 a0 y109 (a0.size : Int) (wrap64 (x22_1 + 1))) else (some (([] : List Int), 4)))) = some (r1, r2) := by first | (rw [hy109]; with_reducible exact H) | (have H2_ := (Option.bind_some _ _).symm.trans H; rw [hy109]; with_reducible exact H2_) | (have H2_ := (Option.bind_some _ _).symm.trans H; with_reducible exact H2_) | with_reducible exact H | (rw [hy109]; exact H) | exact H
             have Ny109 := Aside0.mk hy109
             clear hy109
             by_cases c24 : (wrap64 ((ji20) + 1)) < (x4_1.length : Int)
             ·rw [if_pos c24] at H
              have c24b0 : decide ((wrap64 ((ji20) + 1)) < (x4_1.length : Int)) = true := decide_eq_true c24
              clear c24
              (try rw [hl4_1] at c24b0)
              obtain ⟨ji25, hji25⟩ : ∃ j_ : Int, (wrap64 ((ji20) + 1)) = j_ := ⟨_, rfl⟩
              replace H : (if 0 ≤ (ji25) then (base_Decode.l0 k1 a0 (y109.set ((ji25) : Int).toNat (Go.bits .or .u8 (rd y109 (ji25)) (((ji19) / 256) % 256))) (a0.size : Int) (wrap64 (x22_1 + 1))) else (none)) = some (r1, r2) := by first | (rw [hji25] at H; exact H) | (simp only [hji25] at H ⊢; exact H)
              (try rw [hji25] at c24b0)
              (try rw [hji25] at A15)
              have hji25w : (IntKind.i64.wrap ((ji20) + 1)) = ji25 := (i64_w _).trans hji25
              by_cases c26 : 0 ≤ (ji25)
              ·rw [if_pos c26] at H
               have c26b0 : decide (0 ≤ (ji25)) = true := decide_eq_true c26
               clear c26
               obtain ⟨y111, hy111⟩ : ∃ y_ : List Int, y_ = (y109.set ((ji25) : Int).toNat (Go.bits .or .u8 (rd y109 (ji25)) (((ji19) / 256) % 256))) := ⟨_, rfl⟩
               replace H : (base_Decode.l0 k1 a0 y111 (a0.size : Int) (wrap64 (x22_1 + 1))) = some (r1, r2) := by first | (rw [hy111]; with_reducible exact H) | (have H2_ := (Option.bind_some _ _).symm.trans H; rw [hy111]; with_reducible exact H2_) | (have H2_ := (Option.bind_some _ _).symm.trans H; with_reducible exact H2_) | with_reducible exact H | (rw [hy111]; exact H) | exact H
               have Ny111 := Aside0.mk hy111
               clear hy111
               have H' := Aside0.mk H
               clear H
               have p14 : 0 ≤ ((ji11) : Int) := of_decide_eq_true (by first | (with_reducible assumption) | assumption)
               have q14 : (ji11) < (a0.size : Int) := of_decide_eq_true (by first | (with_reducible assumption) | assumption)
               have hx14 := bt_at a0 (ji11)
               replace p14 := eq_true p14
               replace q14 := eq_true q14
               go_wp2_with (first | ((with_reducible refine gate_callee (f := 51) rfl ?_); refine goesL_ (some 32) rfl rfl Tryd.func51 (by kernel_rfl) rfl #[.string (⟨#[48, 49, 50, 51, 52, 53, 54, 55, 56, 57, 97, 98, 99, 100, 102, 103, 104, 105, 106, 107, 108, 109, 110, 112, 113, 114, 115, 118, 119, 120, 121, 122]⟩ : ByteArray), .int .u8 (bt a0 (ji11))] rfl (by (try simp only [List.map_toArray, List.map_cons, List.map_nil]); first | done | (simp only [hji11]; rfl) | rfl | (simp only [List.length_drop, List.length_take]; rfl)) ?_; (with_reducible refine (strings_IndexByte.calls (⟨#[48, 49, 50, 51, 52, 53, 54, 55, 56, 57, 97, 98, 99, 100, 102, 103, 104, 105, 106, 107, 108, 109, 110, 112, 113, 114, 115, 118, 119, 120, 121, 122]⟩ : ByteArray) (bt a0 (ji11)) t107 _ A15.out).mono ?_); rintro e w' ⟨rfl, ⟨nd, rfl⟩⟩; refine ⟨_, rfl, ?_⟩; (try (rw [drewN_self wr]; generalize hq_ : World.drewN wr _ = wr; have n0_ : Aside0 (Kd.R (Kd.int .u8) 5 wr w.heap.size (fun _ => True) (.slice Ao9 x4_1.length co9) x4_1) := ⟨by rw [← hq_]; exact (by (with_reducible repeat (first | apply Kd.R_alloc | apply Kd.R_drewN | apply Kd.R_drew)); exact HO_4.out)⟩; have n1_ : Aside0 (Below w.heap.size w wr) := ⟨by rw [← hq_]; exact (by repeat (first | (with_reducible first | exact HB.out | apply below_alloc | apply pw_below_drewN | apply below_drew1) | exact HB.out))⟩; clear HO_4 HB hq_; have HO_4 := n0_; have HB := n1_; clear n0_ n1_)); have p108 : 0 ≤ ((ji20) : Int) := of_decide_eq_true (by first | (with_reducible assumption) | assumption); have q108 : (ji20) < (x4_1.length : Int) := of_decide_eq_true (by first | (with_reducible assumption) | assumption); obtain ⟨ad108, e108, hx108_0⟩ := Kd.at_int (Kd.R_reads' HO_4.out).2.2 (ji20) p108 q108; cases e108; replace p108 := eq_true p108; replace q108 := eq_true q108; have p23 : 0 ≤ ((ji20) : Int) := of_decide_eq_true (by first | (with_reducible assumption) | assumption); have q23 : ((ji20) : Int) < ((x4_1.length : Int) : Int) := of_decide_eq_true (by first | (with_reducible assumption) | assumption); obtain ⟨go23, co23, eo23, gb23, gl23, cl23, HG23⟩ := Kd.R_form HO_4.out (by omega); (first | cases eo23 | (injection eo23 with ea_ en_ ec_; (first | subst ea_ | (injection ea_ with ea_; subst ea_)); subst ec_; clear en_)); have GB23 := Aside0.mk gb23; have GG23 := Aside0.mk HG23; clear gb23 gl23 HG23; (first | simp only [add_plain] at hx108_0 | skip); obtain ⟨hx23_0, hf23_0⟩ := Kd.R_celln 0 HO_4.out ((ji20) : Int) p23 q23; replace p23 := eq_true p23; replace q23 := eq_true q23; obtain ⟨hy28_, hz28_⟩ := Kd.R_celln 0 HO_4.out ((ji20) : Int) (of_decide_eq_true (by first | (with_reducible assumption) | assumption)) (of_decide_eq_true (by first | (with_reducible assumption) | assumption)); have HP28 := Kd.R_putg HO_4.out ((ji20) : Int) (Go.bits .or .u8 (rd x4_1 (ji20)) ((ji19) % 256))) | ((with_reducible refine gate_store (t := 5) (p := 49) rfl ?_); refine store_event (t := 5) (p := 49) (v := ?vo_w29) (w1 := (wr.setCell ⟨go23, ((ji20) : Int).toNat, none⟩ (.int .u8 (Go.bits .or .u8 (rd x4_1 (ji20)) ((ji19) % 256))))) ?hg ?ho ?hn ?hr ?_; (case ho => rfl); (case hg => rfl); (case hn => rfl); (case hr => first | (go_simp; done) | (go_simp; rfl)); intro w29 hw; have hg : wr.grownBy w29 (some go23) := (by rw [hw]; exact HP28.2); have hp_ : Kd.R (Kd.int .u8) 5 w29 w.heap.size (fun _ => True) (.slice (some ⟨go23, 0, none⟩) x4_1.length co9) y109 := (by rw [hw, Ny109.out]; exact HP28.1); clear HP28; have n0_ := Aside0.mk (hp_); have n1_ := Aside0.mk ((by rw [hw]; exact below_set (HB.out) GB23.out : Below w.heap.size w w29)); clear HO_4; clear HB; have HO_4 := n0_; have HB := n1_; clear n0_ n1_; clear hg hw hp_; have p110 : 0 ≤ ((ji25) : Int) := of_decide_eq_true (by first | (with_reducible assumption) | assumption); have q110 : (ji25) < (y109.length : Int) := (by have h_ : ((ji25) : Int) < ((x4_1.length : Int) : Int) := of_decide_eq_true (by first | (with_reducible assumption) | assumption); first | (have e_ := (Kd.R_reads' HO_4.out).1; omega) | simpa only [Ny109.out, List.length_set] using h_); have ql110 : (((ji25) : Int) < ((x4_1.length : Int) : Int)) = True := eq_true (of_decide_eq_true (by first | (with_reducible assumption) | assumption)); obtain ⟨ad110, e110, hx110_0⟩ := Kd.at_int (Kd.R_reads' HO_4.out).2.2 (ji25) p110 q110; obtain rfl : (⟨go23, 0, none⟩ : Addr) = ad110 := (by injection e110); (first | simp only [add_plain] at hx110_0 | simp only [add_at] at hx110_0 | simp only [Addr.add, Nat.zero_add] at hx110_0 | skip); replace p110 := eq_true p110; replace q110 := eq_true q110; have p27 : 0 ≤ ((ji25) : Int) := of_decide_eq_true (by first | (with_reducible assumption) | assumption); have q27 : ((ji25) : Int) < ((x4_1.length : Int) : Int) := of_decide_eq_true (by first | (with_reducible assumption) | assumption); obtain ⟨hx27_0, hf27_0⟩ := Kd.R_celln 0 HO_4.out ((ji25) : Int) p27 q27; replace p27 := eq_true p27; replace q27 := eq_true q27; obtain ⟨hy30_, hz30_⟩ := Kd.R_celln 0 HO_4.out ((ji25) : Int) (of_decide_eq_true (by first | (with_reducible assumption) | assumption)) (of_decide_eq_true (by first | (with_reducible assumption) | assumption)); have HP30 := Kd.R_putg HO_4.out ((ji25) : Int) (Go.bits .or .u8 (rd y109 (ji25)) (((ji19) / 256) % 256))) | ((with_reducible refine gate_store (t := 5) (p := 67) rfl ?_); refine store_event (t := 5) (p := 67) (v := ?vo_w31) (w1 := (w29.setCell ⟨go23, ((ji25) : Int).toNat, none⟩ (.int .u8 (Go.bits .or .u8 (rd y109 (ji25)) (((ji19) / 256) % 256))))) ?hg ?ho ?hn ?hr ?_; (case ho => rfl); (case hg => rfl); (case hn => rfl); (case hr => first | (go_simp; done) | (go_simp; rfl)); intro w31 hw; have hg : w29.grownBy w31 (some go23) := (by rw [hw]; exact HP30.2); have hp_ : Kd.R (Kd.int .u8) 5 w31 w.heap.size (fun _ => True) (.slice (some ⟨go23, 0, none⟩) x4_1.length co9) y111 := (by rw [hw, Ny111.out]; exact HP30.1); clear HP30; have n0_ := Aside0.mk (hp_); have n1_ := Aside0.mk ((by rw [hw]; exact below_set (HB.out) GB23.out : Below w.heap.size w w31)); clear HO_4; clear HB; have HO_4 := n0_; have HB := n1_; clear n0_ n1_; clear hg hw hp_))
               (try simp only [← hl4_1])
               go_roundg k1
               case measure => have := HK1.out; omega
               case rel => exact ⟨(y111), (wrap64 (x22_1 + 1)), (by first | rfl | (simp; done) | exact congrArg Value.bool (Go.Proofs.YthnchdbkgenjhaaDoorX.isEmpty_ne_ _) | exact congrArg Value.bool (Go.Proofs.YthnchdbkgenjhaaDoorX.ne_isEmpty_ _) | (simp [*]; done)), H', ⟨by have := HK1.out; omega⟩, ⟨by (try simp only [hl4_1]); (with_reducible repeat (first | apply Kd.R_alloc | apply Kd.R_drewN | apply Kd.R_drew)); exact HO_4.out⟩, ⟨by repeat (first | (with_reducible first | exact HB.out | apply below_alloc | apply pw_below_drewN | apply below_drew1) | exact HB.out)⟩⟩
              ·rw [if_neg c26] at H
               exact absurd H (by simp)
             ·rw [if_neg c24] at H
              have c24b0 : decide ((wrap64 ((ji20) + 1)) < (x4_1.length : Int)) = false := decide_eq_false c24
              clear c24
              (try rw [hl4_1] at c24b0)
              by_cases c32 : ((ji19) / 256) = 0
              ·rw [if_pos c32] at H
               have c32b0 : (((ji19) / 256) == 0) = true := beq_iff_eq.mpr c32
               have c32b1 : (((ji19) / 256) != 0) = false := bne_eq_false_iff_eq.mpr c32
               clear c32
               have H' := Aside0.mk H
               clear H
               have p14 : 0 ≤ ((ji11) : Int) := of_decide_eq_true (by first | (with_reducible assumption) | assumption)
               have q14 : (ji11) < (a0.size : Int) := of_decide_eq_true (by first | (with_reducible assumption) | assumption)
               have hx14 := bt_at a0 (ji11)
               replace p14 := eq_true p14
               replace q14 := eq_true q14
               go_wp2_with (first | ((with_reducible refine gate_callee (f := 51) rfl ?_); refine goesL_ (some 32) rfl rfl Tryd.func51 (by kernel_rfl) rfl #[.string (⟨#[48, 49, 50, 51, 52, 53, 54, 55, 56, 57, 97, 98, 99, 100, 102, 103, 104, 105, 106, 107, 108, 109, 110, 112, 113, 114, 115, 118, 119, 120, 121, 122]⟩ : ByteArray), .int .u8 (bt a0 (ji11))] rfl (by (try simp only [List.map_toArray, List.map_cons, List.map_nil]); first | done | (simp only [hji11]; rfl) | rfl | (simp only [List.length_drop, List.length_take]; rfl)) ?_; (with_reducible refine (strings_IndexByte.calls (⟨#[48, 49, 50, 51, 52, 53, 54, 55, 56, 57, 97, 98, 99, 100, 102, 103, 104, 105, 106, 107, 108, 109, 110, 112, 113, 114, 115, 118, 119, 120, 121, 122]⟩ : ByteArray) (bt a0 (ji11)) t107 _ A15.out).mono ?_); rintro e w' ⟨rfl, ⟨nd, rfl⟩⟩; refine ⟨_, rfl, ?_⟩; (try (rw [drewN_self wr]; generalize hq_ : World.drewN wr _ = wr; have n0_ : Aside0 (Kd.R (Kd.int .u8) 5 wr w.heap.size (fun _ => True) (.slice Ao9 x4_1.length co9) x4_1) := ⟨by rw [← hq_]; exact (by (with_reducible repeat (first | apply Kd.R_alloc | apply Kd.R_drewN | apply Kd.R_drew)); exact HO_4.out)⟩; have n1_ : Aside0 (Below w.heap.size w wr) := ⟨by rw [← hq_]; exact (by repeat (first | (with_reducible first | exact HB.out | apply below_alloc | apply pw_below_drewN | apply below_drew1) | exact HB.out))⟩; clear HO_4 HB hq_; have HO_4 := n0_; have HB := n1_; clear n0_ n1_)); have p108 : 0 ≤ ((ji20) : Int) := of_decide_eq_true (by first | (with_reducible assumption) | assumption); have q108 : (ji20) < (x4_1.length : Int) := of_decide_eq_true (by first | (with_reducible assumption) | assumption); obtain ⟨ad108, e108, hx108_0⟩ := Kd.at_int (Kd.R_reads' HO_4.out).2.2 (ji20) p108 q108; cases e108; replace p108 := eq_true p108; replace q108 := eq_true q108; have p23 : 0 ≤ ((ji20) : Int) := of_decide_eq_true (by first | (with_reducible assumption) | assumption); have q23 : ((ji20) : Int) < ((x4_1.length : Int) : Int) := of_decide_eq_true (by first | (with_reducible assumption) | assumption); obtain ⟨go23, co23, eo23, gb23, gl23, cl23, HG23⟩ := Kd.R_form HO_4.out (by omega); (first | cases eo23 | (injection eo23 with ea_ en_ ec_; (first | subst ea_ | (injection ea_ with ea_; subst ea_)); subst ec_; clear en_)); have GB23 := Aside0.mk gb23; have GG23 := Aside0.mk HG23; clear gb23 gl23 HG23; (first | simp only [add_plain] at hx108_0 | skip); obtain ⟨hx23_0, hf23_0⟩ := Kd.R_celln 0 HO_4.out ((ji20) : Int) p23 q23; replace p23 := eq_true p23; replace q23 := eq_true q23; obtain ⟨hy33_, hz33_⟩ := Kd.R_celln 0 HO_4.out ((ji20) : Int) (of_decide_eq_true (by first | (with_reducible assumption) | assumption)) (of_decide_eq_true (by first | (with_reducible assumption) | assumption)); have HP33 := Kd.R_putg HO_4.out ((ji20) : Int) (Go.bits .or .u8 (rd x4_1 (ji20)) ((ji19) % 256))) | ((with_reducible refine gate_store (t := 5) (p := 49) rfl ?_); refine store_event (t := 5) (p := 49) (v := ?vo_w34) (w1 := (wr.setCell ⟨go23, ((ji20) : Int).toNat, none⟩ (.int .u8 (Go.bits .or .u8 (rd x4_1 (ji20)) ((ji19) % 256))))) ?hg ?ho ?hn ?hr ?_; (case ho => rfl); (case hg => rfl); (case hn => rfl); (case hr => first | (go_simp; done) | (go_simp; rfl)); intro w34 hw; have hg : wr.grownBy w34 (some go23) := (by rw [hw]; exact HP33.2); have hp_ : Kd.R (Kd.int .u8) 5 w34 w.heap.size (fun _ => True) (.slice (some ⟨go23, 0, none⟩) x4_1.length co9) y109 := (by rw [hw, Ny109.out]; exact HP33.1); clear HP33; have n0_ := Aside0.mk (hp_); have n1_ := Aside0.mk ((by rw [hw]; exact below_set (HB.out) GB23.out : Below w.heap.size w w34)); clear HO_4; clear HB; have HO_4 := n0_; have HB := n1_; clear n0_ n1_; clear hg hw hp_))
               (try simp only [← hl4_1])
               go_roundg k1
               case measure => have := HK1.out; omega
               case rel => exact ⟨(y109), (wrap64 (x22_1 + 1)), (by first | rfl | (simp; done) | exact congrArg Value.bool (Go.Proofs.YthnchdbkgenjhaaDoorX.isEmpty_ne_ _) | exact congrArg Value.bool (Go.Proofs.YthnchdbkgenjhaaDoorX.ne_isEmpty_ _) | (simp [*]; done)), H', ⟨by have := HK1.out; omega⟩, ⟨by (try simp only [hl4_1]); (with_reducible repeat (first | apply Kd.R_alloc | apply Kd.R_drewN | apply Kd.R_drew)); exact HO_4.out⟩, ⟨by repeat (first | (with_reducible first | exact HB.out | apply below_alloc | apply pw_below_drewN | apply below_drew1) | exact HB.out)⟩⟩
              ·rw [if_neg c32] at H
               have c32b0 : (((ji19) / 256) == 0) = false := beq_eq_false_iff_ne.mpr c32
               have c32b1 : (((ji19) / 256) != 0) = true := bne_iff_ne.mpr c32
               simp only [Option.some.injEq, Prod.mk.injEq] at H
               obtain ⟨rfl, rfl⟩ := H
               have p14 : 0 ≤ ((ji11) : Int) := of_decide_eq_true (by first | (with_reducible assumption) | assumption)
               have q14 : (ji11) < (a0.size : Int) := of_decide_eq_true (by first | (with_reducible assumption) | assumption)
               have hx14 := bt_at a0 (ji11)
               replace p14 := eq_true p14
               replace q14 := eq_true q14
               go_wp2_with (first | ((with_reducible refine gate_callee (f := 51) rfl ?_); refine goesL_ (some 32) rfl rfl Tryd.func51 (by kernel_rfl) rfl #[.string (⟨#[48, 49, 50, 51, 52, 53, 54, 55, 56, 57, 97, 98, 99, 100, 102, 103, 104, 105, 106, 107, 108, 109, 110, 112, 113, 114, 115, 118, 119, 120, 121, 122]⟩ : ByteArray), .int .u8 (bt a0 (ji11))] rfl (by (try simp only [List.map_toArray, List.map_cons, List.map_nil]); first | done | (simp only [hji11]; rfl) | rfl | (simp only [List.length_drop, List.length_take]; rfl)) ?_; (with_reducible refine (strings_IndexByte.calls (⟨#[48, 49, 50, 51, 52, 53, 54, 55, 56, 57, 97, 98, 99, 100, 102, 103, 104, 105, 106, 107, 108, 109, 110, 112, 113, 114, 115, 118, 119, 120, 121, 122]⟩ : ByteArray) (bt a0 (ji11)) t107 _ A15.out).mono ?_); rintro e w' ⟨rfl, ⟨nd, rfl⟩⟩; refine ⟨_, rfl, ?_⟩; (try (rw [drewN_self wr]; generalize hq_ : World.drewN wr _ = wr; have n0_ : Aside0 (Kd.R (Kd.int .u8) 5 wr w.heap.size (fun _ => True) (.slice Ao9 x4_1.length co9) x4_1) := ⟨by rw [← hq_]; exact (by (with_reducible repeat (first | apply Kd.R_alloc | apply Kd.R_drewN | apply Kd.R_drew)); exact HO_4.out)⟩; have n1_ : Aside0 (Below w.heap.size w wr) := ⟨by rw [← hq_]; exact (by repeat (first | (with_reducible first | exact HB.out | apply below_alloc | apply pw_below_drewN | apply below_drew1) | exact HB.out))⟩; clear HO_4 HB hq_; have HO_4 := n0_; have HB := n1_; clear n0_ n1_)); have p108 : 0 ≤ ((ji20) : Int) := of_decide_eq_true (by first | (with_reducible assumption) | assumption); have q108 : (ji20) < (x4_1.length : Int) := of_decide_eq_true (by first | (with_reducible assumption) | assumption); obtain ⟨ad108, e108, hx108_0⟩ := Kd.at_int (Kd.R_reads' HO_4.out).2.2 (ji20) p108 q108; cases e108; replace p108 := eq_true p108; replace q108 := eq_true q108; have p23 : 0 ≤ ((ji20) : Int) := of_decide_eq_true (by first | (with_reducible assumption) | assumption); have q23 : ((ji20) : Int) < ((x4_1.length : Int) : Int) := of_decide_eq_true (by first | (with_reducible assumption) | assumption); obtain ⟨go23, co23, eo23, gb23, gl23, cl23, HG23⟩ := Kd.R_form HO_4.out (by omega); (first | cases eo23 | (injection eo23 with ea_ en_ ec_; (first | subst ea_ | (injection ea_ with ea_; subst ea_)); subst ec_; clear en_)); have GB23 := Aside0.mk gb23; have GG23 := Aside0.mk HG23; clear gb23 gl23 HG23; (first | simp only [add_plain] at hx108_0 | skip); obtain ⟨hx23_0, hf23_0⟩ := Kd.R_celln 0 HO_4.out ((ji20) : Int) p23 q23; replace p23 := eq_true p23; replace q23 := eq_true q23; obtain ⟨hy35_, hz35_⟩ := Kd.R_celln 0 HO_4.out ((ji20) : Int) (of_decide_eq_true (by first | (with_reducible assumption) | assumption)) (of_decide_eq_true (by first | (with_reducible assumption) | assumption)); have HP35 := Kd.R_putg HO_4.out ((ji20) : Int) (Go.bits .or .u8 (rd x4_1 (ji20)) ((ji19) % 256))) | ((with_reducible refine gate_store (t := 5) (p := 49) rfl ?_); refine store_event (t := 5) (p := 49) (v := ?vo_w36) (w1 := (wr.setCell ⟨go23, ((ji20) : Int).toNat, none⟩ (.int .u8 (Go.bits .or .u8 (rd x4_1 (ji20)) ((ji19) % 256))))) ?hg ?ho ?hn ?hr ?_; (case ho => rfl); (case hg => rfl); (case hn => rfl); (case hr => first | (go_simp; done) | (go_simp; rfl)); intro w36 hw; have hg : wr.grownBy w36 (some go23) := (by rw [hw]; exact HP35.2); have hp_ : Kd.R (Kd.int .u8) 5 w36 w.heap.size (fun _ => True) (.slice (some ⟨go23, 0, none⟩) x4_1.length co9) y109 := (by rw [hw, Ny109.out]; exact HP35.1); clear HP35; have n0_ := Aside0.mk (hp_); have n1_ := Aside0.mk ((by rw [hw]; exact below_set (HB.out) GB23.out : Below w.heap.size w w36)); clear HO_4; clear HB; have HO_4 := n0_; have HB := n1_; clear n0_ n1_; clear hg hw hp_))
               go_ret2
               exact ⟨_, by first | rfl | (simp [errW_none, errW_some] <;> rfl) | (simp only [← hji2, ← hji11, ← hji17, ← hji19, ← hji20]; first | rfl | (simp [errW_none, errW_some] <;> rfl)) | (simp [*, errW_none, errW_some] <;> rfl), by first | exact Kd.R_nil _ _ _ _ _ | exact Kd.N_nil _ _ _ _ _ | exact Kd.V_nil _ _ _ _ _ | exact Kd.Q_nil _ _ _ _ _ | exact Kd.S_nil _ _ _ _ _, by repeat (first | (with_reducible first | exact HB.out | apply below_alloc | apply pw_below_drewN | apply below_drew1) | exact HB.out)⟩
            ·rw [if_neg c22] at H
             exact absurd H (by simp)
           ·rw [if_neg c21] at H
            exact absurd H (by simp)
          ·rw [if_neg c18] at H
           exact absurd H (by simp)
        ·rw [if_neg c13] at H
         exact absurd H (by simp)
       ·rw [if_neg c12] at H
        exact absurd H (by simp)
      ·rw [if_neg c10] at H
       have c10b0 : decide (x22_1 < (a0.size : Int)) = false := decide_eq_false c10
       clear c10
       simp only [Option.some.injEq, Prod.mk.injEq] at H
       obtain ⟨rfl, rfl⟩ := H
       go_wp2
       go_ret2
       exact ⟨_, by first | rfl | (simp [errW_none, errW_some] <;> rfl) | (simp only [← hji2]; first | rfl | (simp [errW_none, errW_some] <;> rfl)) | (simp [*, errW_none, errW_some] <;> rfl), by (with_reducible repeat (first | apply Kd.R_alloc | apply Kd.R_drewN | apply Kd.R_drew)); exact HO_4.out, by repeat (first | (with_reducible first | exact HB.out | apply below_alloc | apply pw_below_drewN | apply below_drew1) | exact HB.out)⟩
   ·rw [if_neg c6] at H
    have c6b0 : (t106 == (a0.size : Int)) = false := beq_eq_false_iff_ne.mpr c6
    have c6b1 : (t106 != (a0.size : Int)) = true := bne_iff_ne.mpr c6
    simp only [Option.some.injEq, Prod.mk.injEq] at H
    obtain ⟨rfl, rfl⟩ := H
    go_enter Tryd.func53, Tryd.ntmps53
    go_wp2_with (first | ((with_reducible refine gate_dst (N := 13) rfl ?_); refine Kd.R_make (Kd.int .u8) _ 5 rfl (N := 13) rfl 30 _ _ rfl ji2 rfl rfl Tryd.underlying30 (.int .u8 0) 1 info5 rfl (by decide) (by omega) 0 (ok := fun _ => True) (okp := fun _ => True) rfl (fun _ hk => hk) trivial (of_decide_eq_true (by first | (with_reducible assumption) | assumption)) (Nat.le_trans (Nat.mul_le_mul_right _ (of_decide_eq_true (by first | (with_reducible assumption) | assumption) : ji2.toNat ≤ 281474976710656)) (by omega)) (Below.refl _ _) (Nat.le_refl _) ?_; intro v104 w37 ho38 hb hg_ hnew_; clear hg_ hnew_; (first | rw [← Ny103.out] at ho38 | (simp only [Int.reduceToNat] at ho38; rw [← Ny103.out] at ho38)); have n0_ := Aside0.mk (Kd.R_lower ho38 (below_size (by repeat (first | (with_reducible first | exact HB.out | apply below_alloc | apply pw_below_drewN | apply below_drew1) | exact HB.out)))); have n1_ := Aside0.mk (below_step (by repeat (first | (with_reducible first | exact HB.out | apply below_alloc | apply pw_below_drewN | apply below_drew1) | exact HB.out)) hb); clear HB; have HO105 := n0_; have HB := n1_; clear n0_ n1_; clear hb ho38; obtain ⟨Ao39, co39, eo39⟩ := Kd.R_slice HO105.out; subst eo39) | ((with_reducible refine gate_callee (f := 68) rfl ?_); refine goesL_ (some 16) rfl rfl Tryd.func68 (by kernel_rfl) rfl #[.int .i64 (y103.length : Int)] rfl (by (try simp only [List.map_toArray, List.map_cons, List.map_nil]); first | done | rfl | (simp only [List.length_drop, List.length_take]; rfl)) ?_; (with_reducible refine (base_size.calls (y103.length : Int) t106 _ A5.out).mono ?_); rintro e w' ⟨rfl, ⟨nd, rfl⟩⟩; refine ⟨_, rfl, ?_⟩))
    go_ret2
    exact ⟨_, by first | rfl | (simp [errW_none, errW_some] <;> rfl) | (simp only [← hji2]; first | rfl | (simp [errW_none, errW_some] <;> rfl)) | (simp [*, errW_none, errW_some] <;> rfl), by first | exact Kd.R_nil _ _ _ _ _ | exact Kd.N_nil _ _ _ _ _ | exact Kd.V_nil _ _ _ _ _ | exact Kd.Q_nil _ _ _ _ _ | exact Kd.S_nil _ _ _ _ _, by repeat (first | (with_reducible first | exact HB.out | apply below_alloc | apply pw_below_drewN | apply below_drew1) | exact HB.out)⟩
  ·rw [if_neg c4] at H
   exact absurd H (by simp)
 ·rw [if_neg c3] at H
  exact absurd H (by simp)
def names_Parts.j0 : Nat → ByteArray → Bool → Option (ByteArray × ByteArray × Int)
 | 0, _, _ => none
 | k + 1, x0, x20 => if x20 = true then (some ((⟨#[]⟩ : ByteArray), (⟨#[]⟩ : ByteArray), 190)) else (if 0 ≤ 32 then (if 32 ≤ (x0.size : Int) then ((base_Decode.f k (x0.extract 0 32)).bind fun bt113 => (if bt113.2 = 0 then (if 33 ≤ (x0.size : Int) then (some (x0.extract 0 32, x0.extract 33 x0.size, 0)) else (none)) else (some ((⟨#[]⟩ : ByteArray), (⟨#[]⟩ : ByteArray), 190)))) else (none)) else (none))
def names_Parts.f (k : Nat) (a0 : ByteArray) : Option (ByteArray × ByteArray × Int) := if (a0.size : Int) ≤ 33 then (names_Parts.j0 k a0 true) else (if 32 < (a0.size : Int) then (if (bt a0 32) = 45 then (if 33 ≤ (a0.size : Int) then ((names_Base.f (a0.extract 33 a0.size)).bind fun t112 => (names_Parts.j0 k a0 (t112 != 0))) else (none)) else (names_Parts.j0 k a0 true)) else (none))
set_option maxHeartbeats 8000000 in
set_option maxRecDepth 100000 in
theorem names_Parts.calls (k : Nat) (a0 : ByteArray) (r1 : ByteArray) (r2 : ByteArray) (r3 : Int) (w : World) (h : names_Parts.f k a0 = some (r1, r2, r3)) :
  Calls Tryd.prog 39 #[.string a0] w fun e w' => e = .returned (.tuple #[.string r1, .string r2, .int .i64 r3]) ∧ Below w.heap.size w w' := by
 have HB := Aside0.mk (Below.refl w.heap.size w)
 have H : (if (a0.size : Int) ≤ 33 then (names_Parts.j0 k a0 true) else (if 32 < (a0.size : Int) then (if (bt a0 32) = 45 then (if 33 ≤ (a0.size : Int) then ((names_Base.f (a0.extract 33 a0.size)).bind fun t112 => (names_Parts.j0 k a0 (t112 != 0))) else (none)) else (names_Parts.j0 k a0 true)) else (none))) = some (r1, r2, r3) := h
 clear h
 have HC2 := Aside0.mk H
 clear H
 go_enter Tryd.func39, Tryd.ntmps39
 go_upto_region 1 with (fail)
 repeat (go_quiet (fail); go_upto_region 1 with (fail))
 go_cut [20] (fun v20 wc => ∃ (kq : Nat) (x20_1 : Bool), v20 = .bool x20_1 ∧ Aside0 (names_Parts.j0 kq a0 x20_1 = some (r1, r2, r3)) ∧ Aside0 (kq ≤ k) ∧ Aside0 (Below w.heap.size w wc))
 case first =>
  have H := HC2.out
  clear HC2
  by_cases c3 : (a0.size : Int) ≤ 33
  ·rw [if_pos c3] at H
   have c3b0 : decide ((a0.size : Int) ≤ 33) = true := decide_eq_true c3
   have c3b1 : decide (a0.size ≤ 33) = true := decide_eq_true (by omega)
   clear c3
   (first | rw [c3b0] | (simp only [i64_w, i32_w]; rw [c3b0]) | skip)
   have H' := Aside0.mk H
   clear H
   go_wp2
   repeat (go_quiet (fail); try go_wp2)
   go_meet
   case rel => exact ⟨_, (true), (by first | rfl | (simp; done) | exact congrArg Value.bool (Go.Proofs.YthnchdbkgenjhaaDoorX.isEmpty_ne_ _) | exact congrArg Value.bool (Go.Proofs.YthnchdbkgenjhaaDoorX.ne_isEmpty_ _) | (simp [*]; done)), H', ⟨by first | omega | exact Nat.le_refl _⟩, ⟨by repeat (first | (with_reducible first | exact HB.out | apply below_alloc | apply pw_below_drewN | apply below_drew1) | exact HB.out)⟩⟩
  ·rw [if_neg c3] at H
   have c3b0 : decide ((a0.size : Int) ≤ 33) = false := decide_eq_false c3
   have c3b1 : decide (a0.size ≤ 33) = false := decide_eq_false (by omega)
   clear c3
   (first | rw [c3b0] | (simp only [i64_w, i32_w]; rw [c3b0]) | skip)
   by_cases c4 : 32 < (a0.size : Int)
   ·rw [if_pos c4] at H
    have c4b0 : decide (32 < (a0.size : Int)) = true := decide_eq_true c4
    have c4b1 : decide (32 < a0.size) = true := decide_eq_true (by omega)
    clear c4
    by_cases c6 : (bt a0 32) = 45
    ·rw [if_pos c6] at H
     have c6b0 : ((bt a0 32) == 45) = true := beq_iff_eq.mpr c6
     have c6b1 : ((bt a0 32) != 45) = false := bne_eq_false_iff_eq.mpr c6
     clear c6
     by_cases c7 : 33 ≤ (a0.size : Int)
     ·rw [if_pos c7] at H
      have c7b0 := eq_true c7
      have c7b1 : decide (33 ≤ (a0.size : Int)) = true := decide_eq_true c7
      clear c7
      replace H := Option.bind_eq_some_iff.mp H
      obtain ⟨t112, A80, H⟩ := H
      replace H : (names_Parts.j0 k a0 (t112 != 0)) = some (r1, r2, r3) := H
      have A8 := Aside0.mk A80
      clear A80
      have H' := Aside0.mk H
      clear H
      have p5 : 0 ≤ (32 : Int) := (by omega)
      have q5 : 32 < a0.size := (by have : (32 : Int) < (a0.size : Int) := of_decide_eq_true (by first | (with_reducible assumption) | assumption); omega)
      have hx5 : ∀ h : 32 < a0.size, ((a0[32]'h).toNat : Int) = bt a0 32 := bt_at a0 32
      clear p5
      have qi5 : (32 < (a0.size : Int)) = True := eq_true (of_decide_eq_true (by first | (with_reducible assumption) | assumption))
      replace q5 := eq_true q5
      go_wp2_with (first | (go_at_call 52; (with_reducible refine (names_Base.calls (a0.extract 33 a0.size) t112 _ A8.out).mono ?_); rintro e w9 ⟨rfl, hb⟩; have n0_ := Aside0.mk (below_step (by repeat (first | (with_reducible first | exact HB.out | apply below_alloc | apply pw_below_drewN | apply below_drew1) | exact HB.out)) hb); clear HB; have HB := n0_; clear n0_; (try clear hb); (try clear hb2); (try clear hk); (try clear hi)))
      repeat (go_quiet (first | (go_at_call 52; (with_reducible refine (names_Base.calls (a0.extract 33 a0.size) t112 _ A8.out).mono ?_); rintro e w9 ⟨rfl, hb⟩; have n0_ := Aside0.mk (below_step (by repeat (first | (with_reducible first | exact HB.out | apply below_alloc | apply pw_below_drewN | apply below_drew1) | exact HB.out)) hb); clear HB; have HB := n0_; clear n0_; (try clear hb); (try clear hb2); (try clear hk); (try clear hi))); try go_wp2_with (first | (go_at_call 52; (with_reducible refine (names_Base.calls (a0.extract 33 a0.size) t112 _ A8.out).mono ?_); rintro e w9 ⟨rfl, hb⟩; have n0_ := Aside0.mk (below_step (by repeat (first | (with_reducible first | exact HB.out | apply below_alloc | apply pw_below_drewN | apply below_drew1) | exact HB.out)) hb); clear HB; have HB := n0_; clear n0_; (try clear hb); (try clear hb2); (try clear hk); (try clear hi))))
      go_meet
      case rel => exact ⟨_, ((t112 != 0)), (by first | rfl | (simp; done) | exact congrArg Value.bool (Go.Proofs.YthnchdbkgenjhaaDoorX.isEmpty_ne_ _) | exact congrArg Value.bool (Go.Proofs.YthnchdbkgenjhaaDoorX.ne_isEmpty_ _) | (simp [*]; done)), H', ⟨by first | omega | exact Nat.le_refl _⟩, ⟨by repeat (first | (with_reducible first | exact HB.out | apply below_alloc | apply pw_below_drewN | apply below_drew1) | exact HB.out)⟩⟩
     ·rw [if_neg c7] at H
      exact absurd H (by simp)
    ·rw [if_neg c6] at H
     have c6b0 : ((bt a0 32) == 45) = false := beq_eq_false_iff_ne.mpr c6
     have c6b1 : ((bt a0 32) != 45) = true := bne_iff_ne.mpr c6
     have H' := Aside0.mk H
     clear H
     have p5 : 0 ≤ (32 : Int) := (by omega)
     have q5 : 32 < a0.size := (by have : (32 : Int) < (a0.size : Int) := of_decide_eq_true (by first | (with_reducible assumption) | assumption); omega)
     have hx5 : ∀ h : 32 < a0.size, ((a0[32]'h).toNat : Int) = bt a0 32 := bt_at a0 32
     clear p5
     have qi5 : (32 < (a0.size : Int)) = True := eq_true (of_decide_eq_true (by first | (with_reducible assumption) | assumption))
     replace q5 := eq_true q5
     go_wp2
     repeat (go_quiet (fail); try go_wp2)
     go_meet
     case rel => exact ⟨_, (true), (by first | rfl | (simp; done) | exact congrArg Value.bool (Go.Proofs.YthnchdbkgenjhaaDoorX.isEmpty_ne_ _) | exact congrArg Value.bool (Go.Proofs.YthnchdbkgenjhaaDoorX.ne_isEmpty_ _) | (simp [*]; done)), H', ⟨by first | omega | exact Nat.le_refl _⟩, ⟨by repeat (first | (with_reducible first | exact HB.out | apply below_alloc | apply pw_below_drewN | apply below_drew1) | exact HB.out)⟩⟩
   ·rw [if_neg c4] at H
    exact absurd H (by simp)
 case rest =>
  clear HC2
  try clear p2
  try clear c3
  try clear c3b0
  try clear c3b1
  try clear c4
  try clear c4b0
  try clear c4b1
  try clear p5
  try clear q5
  try clear hx5
  try clear qi5
  try clear c6
  try clear c6b0
  try clear c6b1
  try clear c7
  try clear c7b0
  try clear c7b1
  try clear p5
  try clear q5
  obtain ⟨kq, x20_1, rfl, HA, HJ1, HB⟩ := hcut
  cases kq with
  | zero => exact absurd HA.out (by simp [names_Parts.j0])
  | succ kj1 =>
   have H := HA.out
   clear HA
   simp only [names_Parts.j0] at H
   by_cases c10 : x20_1 = true
   ·subst c10
    have H1 : (some ((⟨#[]⟩ : ByteArray), (⟨#[]⟩ : ByteArray), 190)) = some (r1, r2, r3) := by rw [if_pos rfl] at H; exact H
    clear H
    have H := H1
    clear H1
    simp only [Option.some.injEq, Prod.mk.injEq] at H
    obtain ⟨rfl, rfl, rfl⟩ := H
    go_wp2
    repeat (go_quiet (fail); try go_wp2)
    go_ret3
    exact ⟨by first | rfl | (simp [errW_none, errW_some] <;> rfl) | (simp [*, errW_none, errW_some] <;> rfl), by repeat (first | (with_reducible first | exact HB.out | apply below_alloc | apply pw_below_drewN | apply below_drew1) | exact HB.out)⟩
   ·replace c10 := Bool.eq_false_iff.mpr c10
    subst c10
    have H1 : (if 0 ≤ 32 then (if 32 ≤ (a0.size : Int) then ((base_Decode.f kj1 (a0.extract 0 32)).bind fun bt113 => (if bt113.2 = 0 then (if 33 ≤ (a0.size : Int) then (some (a0.extract 0 32, a0.extract 33 a0.size, 0)) else (none)) else (some ((⟨#[]⟩ : ByteArray), (⟨#[]⟩ : ByteArray), 190)))) else (none)) else (none)) = some (r1, r2, r3) := by rw [if_neg (show ¬ (false = true) by decide)] at H; exact H
    clear H
    have H := H1
    clear H1
    by_cases c11 : 0 ≤ 32
    ·rw [if_pos c11] at H
     have c11b0 := eq_true c11
     have c11b1 : decide (0 ≤ 32) = true := decide_eq_true c11
     clear c11
     by_cases c12 : 32 ≤ (a0.size : Int)
     ·rw [if_pos c12] at H
      have c12b0 := eq_true c12
      have c12b1 : decide (32 ≤ (a0.size : Int)) = true := decide_eq_true c12
      clear c12
      replace H := Option.bind_eq_some_iff.mp H
      obtain ⟨⟨t113, t114⟩, A130, H⟩ := H
      replace H : (if t114 = 0 then (if 33 ≤ (a0.size : Int) then (some (a0.extract 0 32, a0.extract 33 a0.size, 0)) else (none)) else (some ((⟨#[]⟩ : ByteArray), (⟨#[]⟩ : ByteArray), 190))) = some (r1, r2, r3) := H
      have A13 := Aside0.mk A130
      clear A130
      by_cases c14 : t114 = 0
      ·rw [if_pos c14] at H
       have c14b0 : (t114 == 0) = true := beq_iff_eq.mpr c14
       have c14b1 : (t114 != 0) = false := bne_eq_false_iff_eq.mpr c14
       clear c14
       have c15b0 := eq_true (of_decide_eq_true (by first | (with_reducible assumption) | assumption) : 0 ≤ 32)
       have c16b0 := eq_true (of_decide_eq_true (by first | (with_reducible assumption) | assumption) : 32 ≤ (a0.size : Int))
       by_cases c17 : 33 ≤ (a0.size : Int)
       ·rw [if_pos c17] at H
        have c17b0 := eq_true c17
        have c17b1 : decide (33 ≤ (a0.size : Int)) = true := decide_eq_true c17
        clear c17
        simp only [Option.some.injEq, Prod.mk.injEq] at H
        obtain ⟨rfl, rfl, rfl⟩ := H
        go_wp2_with (first | (go_at_call 53; (with_reducible refine (base_Decode.calls kj1 (a0.extract 0 32) t113 t114 _ A13.out).mono ?_); rintro e w18 ⟨v115, rfl, ho0, hb⟩; have n0_ := Aside0.mk (Kd.R_lower ho0 (below_size (by repeat (first | (with_reducible first | exact HB.out | apply below_alloc | apply pw_below_drewN | apply below_drew1) | exact HB.out)))); have n1_ := Aside0.mk (below_step (by repeat (first | (with_reducible first | exact HB.out | apply below_alloc | apply pw_below_drewN | apply below_drew1) | exact HB.out)) hb); clear HB; have HO116 := n0_; have HB := n1_; clear n0_ n1_; (try clear hb); (try clear hb2); (try clear hk); (try clear hi); (try clear ho0)))
        repeat (go_quiet (first | (go_at_call 53; (with_reducible refine (base_Decode.calls kj1 (a0.extract 0 32) t113 t114 _ A13.out).mono ?_); rintro e w18 ⟨v115, rfl, ho0, hb⟩; have n0_ := Aside0.mk (Kd.R_lower ho0 (below_size (by repeat (first | (with_reducible first | exact HB.out | apply below_alloc | apply pw_below_drewN | apply below_drew1) | exact HB.out)))); have n1_ := Aside0.mk (below_step (by repeat (first | (with_reducible first | exact HB.out | apply below_alloc | apply pw_below_drewN | apply below_drew1) | exact HB.out)) hb); clear HB; have HO116 := n0_; have HB := n1_; clear n0_ n1_; (try clear hb); (try clear hb2); (try clear hk); (try clear hi); (try clear ho0))); try go_wp2_with (first | (go_at_call 53; (with_reducible refine (base_Decode.calls kj1 (a0.extract 0 32) t113 t114 _ A13.out).mono ?_); rintro e w18 ⟨v115, rfl, ho0, hb⟩; have n0_ := Aside0.mk (Kd.R_lower ho0 (below_size (by repeat (first | (with_reducible first | exact HB.out | apply below_alloc | apply pw_below_drewN | apply below_drew1) | exact HB.out)))); have n1_ := Aside0.mk (below_step (by repeat (first | (with_reducible first | exact HB.out | apply below_alloc | apply pw_below_drewN | apply below_drew1) | exact HB.out)) hb); clear HB; have HO116 := n0_; have HB := n1_; clear n0_ n1_; (try clear hb); (try clear hb2); (try clear hk); (try clear hi); (try clear ho0))))
        go_ret3
        exact ⟨by first | rfl | (simp [errW_none, errW_some] <;> rfl) | (simp [*, errW_none, errW_some] <;> rfl), by repeat (first | (with_reducible first | exact HB.out | apply below_alloc | apply pw_below_drewN | apply below_drew1) | exact HB.out)⟩
       ·rw [if_neg c17] at H
        exact absurd H (by simp)
      ·rw [if_neg c14] at H
       have c14b0 : (t114 == 0) = false := beq_eq_false_iff_ne.mpr c14
       have c14b1 : (t114 != 0) = true := bne_iff_ne.mpr c14
       simp only [Option.some.injEq, Prod.mk.injEq] at H
       obtain ⟨rfl, rfl, rfl⟩ := H
       go_wp2_with (first | (go_at_call 53; (with_reducible refine (base_Decode.calls kj1 (a0.extract 0 32) t113 t114 _ A13.out).mono ?_); rintro e w19 ⟨v115, rfl, ho0, hb⟩; have n0_ := Aside0.mk (Kd.R_lower ho0 (below_size (by repeat (first | (with_reducible first | exact HB.out | apply below_alloc | apply pw_below_drewN | apply below_drew1) | exact HB.out)))); have n1_ := Aside0.mk (below_step (by repeat (first | (with_reducible first | exact HB.out | apply below_alloc | apply pw_below_drewN | apply below_drew1) | exact HB.out)) hb); clear HB; have HO116 := n0_; have HB := n1_; clear n0_ n1_; (try clear hb); (try clear hb2); (try clear hk); (try clear hi); (try clear ho0)))
       repeat (go_quiet (first | (go_at_call 53; (with_reducible refine (base_Decode.calls kj1 (a0.extract 0 32) t113 t114 _ A13.out).mono ?_); rintro e w19 ⟨v115, rfl, ho0, hb⟩; have n0_ := Aside0.mk (Kd.R_lower ho0 (below_size (by repeat (first | (with_reducible first | exact HB.out | apply below_alloc | apply pw_below_drewN | apply below_drew1) | exact HB.out)))); have n1_ := Aside0.mk (below_step (by repeat (first | (with_reducible first | exact HB.out | apply below_alloc | apply pw_below_drewN | apply below_drew1) | exact HB.out)) hb); clear HB; have HO116 := n0_; have HB := n1_; clear n0_ n1_; (try clear hb); (try clear hb2); (try clear hk); (try clear hi); (try clear ho0))); try go_wp2_with (first | (go_at_call 53; (with_reducible refine (base_Decode.calls kj1 (a0.extract 0 32) t113 t114 _ A13.out).mono ?_); rintro e w19 ⟨v115, rfl, ho0, hb⟩; have n0_ := Aside0.mk (Kd.R_lower ho0 (below_size (by repeat (first | (with_reducible first | exact HB.out | apply below_alloc | apply pw_below_drewN | apply below_drew1) | exact HB.out)))); have n1_ := Aside0.mk (below_step (by repeat (first | (with_reducible first | exact HB.out | apply below_alloc | apply pw_below_drewN | apply below_drew1) | exact HB.out)) hb); clear HB; have HO116 := n0_; have HB := n1_; clear n0_ n1_; (try clear hb); (try clear hb2); (try clear hk); (try clear hi); (try clear ho0))))
       go_ret3
       exact ⟨by first | rfl | (simp [errW_none, errW_some] <;> rfl) | (simp [*, errW_none, errW_some] <;> rfl), by repeat (first | (with_reducible first | exact HB.out | apply below_alloc | apply pw_below_drewN | apply below_drew1) | exact HB.out)⟩
     ·rw [if_neg c12] at H
      exact absurd H (by simp)
    ·rw [if_neg c11] at H
     exact absurd H (by simp)
def names_Check.f (k : Nat) (a0 : ByteArray) : Option (Int) := (names_Parts.f k a0).bind fun bt117 => (some bt117.2.2)
set_option maxHeartbeats 8000000 in
set_option maxRecDepth 100000 in
theorem names_Check.calls (k : Nat) (a0 : ByteArray) (r : Int) (w : World) (h : names_Check.f k a0 = some r) :
  Calls Tryd.prog 19 #[.string a0] w fun e w' => e = .returned (.int .i64 r) ∧ Below w.heap.size w w' := by
 have HB := Aside0.mk (Below.refl w.heap.size w)
 have H : ((names_Parts.f k a0).bind fun bt117 => (some bt117.2.2)) = some r := h
 clear h
 replace H := Option.bind_eq_some_iff.mp H
 obtain ⟨⟨t117, t118, t119⟩, A20, H⟩ := H
 replace H : (some t119) = some r := H
 have A2 := Aside0.mk A20
 clear A20
 obtain rfl := Option.some.inj H
 go_enter Tryd.func19, Tryd.ntmps19
 go_wp2_with (first | ((with_reducible refine gate_callee (f := 39) rfl ?_); refine goesL_ (some 8) rfl rfl Tryd.func39 (by kernel_rfl) rfl #[.string a0] rfl (by (try simp only [List.map_toArray, List.map_cons, List.map_nil]); first | done | rfl | (simp only [List.length_drop, List.length_take]; rfl)) ?_; (with_reducible refine (names_Parts.calls k a0 t117 t118 t119 _ A2.out).mono ?_); rintro e w3 ⟨rfl, hb⟩; refine ⟨_, rfl, ?_⟩; have n0_ := Aside0.mk (below_step (by repeat (first | (with_reducible first | exact HB.out | apply below_alloc | apply pw_below_drewN | apply below_drew1) | exact HB.out)) hb); clear HB; have HB := n0_; clear n0_; (try clear hb); (try clear hb2); (try clear hk); (try clear hi)))
 go_ret
 exact ⟨by first | rfl | (simp [errW_none, errW_some] <;> rfl) | (simp [*, errW_none, errW_some] <;> rfl), by repeat (first | (with_reducible first | exact HB.out | apply below_alloc | apply pw_below_drewN | apply below_drew1) | exact HB.out)⟩
-- NOT PRINTED: function 40 (slices_Compact_string_string)
-- NOT PRINTED: function 69 (slices_AppendSeq_string_string)
-- NOT PRINTED: function 54 (slices_Collect_string)
end Go.Proofs.YthnchdbkgenjhaaDoor.PScan
