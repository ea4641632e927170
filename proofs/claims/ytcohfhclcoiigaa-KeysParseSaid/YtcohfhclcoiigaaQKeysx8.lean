-- printed with xprint.py over the kit's print
import Derived.Test.YtcohfhclcoiigaaQKeysx0
import Derived.Test.YtcohfhclcoiigaaQKeysx7
namespace Go.Proofs.Ytcohfhclcoiigaa.PKeys
open Go.RowKit Go.Proofs.YtcohfhclcoiigaaW.PrintWords Go.Proofs.YtcohfhclcoiigaaW.PrintLast Go.Proofs.YtcohfhclcoiigaaW.PrintMore
attribute [local go_sem] max2_int min2_int max_two min_two max_three min_three max_four min_four   -- for this text's walks alone
set_option linter.unusedVariables false
set_option linter.unusedSimpArgs false

/-! ### chandleryref11_Bytes: function 16 -/
def chandleryref11_Bytes.j0 : Nat → ByteArray → Int → Bool → Int → ByteArray → ByteArray → Int → Int → Option (ByteArray)
  | 0, _, _, _, _, _, _, _, _ => none
  | k + 1, x3, x11, x47, x159000, x159001, x159002, x159003, x159004 => if x47 = true then (if x3.size + x159001.size ≤ 9223372036854775807 then (if (x3 ++ x159001).size + 1 ≤ 9223372036854775807 then (if ((x3 ++ x159001) ++ (⟨#[0]⟩ : ByteArray)).size + x159002.size ≤ 9223372036854775807 then (some (((x3 ++ x159001) ++ (⟨#[0]⟩ : ByteArray)) ++ x159002)) else (none)) else (none)) else (none)) else (if x11 = 9 then (if x3.size + x159001.size ≤ 9223372036854775807 then (if (x3 ++ x159001).size + 1 ≤ 9223372036854775807 then ((chandleryref11_three.f x159003).bind fun t165 => (if ((x3 ++ x159001) ++ (⟨#[0]⟩ : ByteArray)).size + t165.size ≤ 9223372036854775807 then (some (((x3 ++ x159001) ++ (⟨#[0]⟩ : ByteArray)) ++ t165)) else (none))) else (none)) else (none)) else (if x3.size + x159001.size ≤ 9223372036854775807 then (some (x3 ++ x159001)) else (none)))
def chandleryref11_Bytes.f (k : Nat) (a0_0 : Int) (a0_1 : ByteArray) (a0_2 : ByteArray) (a0_3 : Int) (a0_4 : Int) : Option (ByteArray) := if 0 ≤ a0_0 then (if a0_0 ≤ (wrap64 (a0_0 + 1)) then (if (wrap64 (a0_0 + 1)) ≤ 11 then (if a0_0 = 2 then ((chandleryref11_three.f a0_3).bind fun t159 => (if ((⟨#[32, 110, 105, 99, 100, 112, 114, 117, 102, 103, 116]⟩ : ByteArray).extract (a0_0 : Int).toNat ((wrap64 (a0_0 + 1)) : Int).toNat).size + t159.size ≤ 9223372036854775807 then (some (((⟨#[32, 110, 105, 99, 100, 112, 114, 117, 102, 103, 116]⟩ : ByteArray).extract (a0_0 : Int).toNat ((wrap64 (a0_0 + 1)) : Int).toNat) ++ t159)) else (none))) else (if a0_0 = 3 then ((chandleryref11_three.f a0_3).bind fun t160 => (if ((⟨#[32, 110, 105, 99, 100, 112, 114, 117, 102, 103, 116]⟩ : ByteArray).extract (a0_0 : Int).toNat ((wrap64 (a0_0 + 1)) : Int).toNat).size + t160.size ≤ 9223372036854775807 then ((some (([(wrap64 (Int.tdiv a0_4 256)) % 256, (Int.tmod a0_4 256) % 256] : List Int) : List Int)).bind fun y161 => (if (((⟨#[32, 110, 105, 99, 100, 112, 114, 117, 102, 103, 116]⟩ : ByteArray).extract (a0_0 : Int).toNat ((wrap64 (a0_0 + 1)) : Int).toNat) ++ t160).size + (strOfNums y161).size ≤ 9223372036854775807 then (some ((((⟨#[32, 110, 105, 99, 100, 112, 114, 117, 102, 103, 116]⟩ : ByteArray).extract (a0_0 : Int).toNat ((wrap64 (a0_0 + 1)) : Int).toNat) ++ t160) ++ (strOfNums y161))) else (none))) else (none))) else (if a0_0 = 4 then ((chandleryref11_three.f a0_3).bind fun t164 => (if ((⟨#[32, 110, 105, 99, 100, 112, 114, 117, 102, 103, 116]⟩ : ByteArray).extract (a0_0 : Int).toNat ((wrap64 (a0_0 + 1)) : Int).toNat).size + t164.size ≤ 9223372036854775807 then (if (((⟨#[32, 110, 105, 99, 100, 112, 114, 117, 102, 103, 116]⟩ : ByteArray).extract (a0_0 : Int).toNat ((wrap64 (a0_0 + 1)) : Int).toNat) ++ t164).size + a0_1.size ≤ 9223372036854775807 then (some ((((⟨#[32, 110, 105, 99, 100, 112, 114, 117, 102, 103, 116]⟩ : ByteArray).extract (a0_0 : Int).toNat ((wrap64 (a0_0 + 1)) : Int).toNat) ++ t164) ++ a0_1)) else (none)) else (none))) else (if a0_0 = 6 then (chandleryref11_Bytes.j0 k ((⟨#[32, 110, 105, 99, 100, 112, 114, 117, 102, 103, 116]⟩ : ByteArray).extract (a0_0 : Int).toNat ((wrap64 (a0_0 + 1)) : Int).toNat) a0_0 (a0_0 == 6) a0_0 a0_1 a0_2 a0_3 a0_4) else (chandleryref11_Bytes.j0 k ((⟨#[32, 110, 105, 99, 100, 112, 114, 117, 102, 103, 116]⟩ : ByteArray).extract (a0_0 : Int).toNat ((wrap64 (a0_0 + 1)) : Int).toNat) a0_0 (a0_0 == 7) a0_0 a0_1 a0_2 a0_3 a0_4))))) else (none)) else (none)) else (none)
theorem chandleryref11_Bytes.mono_l : ∀ k, (∀ y0 y1 y2 y3 y4 y5 y6 y7, LeO (chandleryref11_Bytes.j0 k y0 y1 y2 y3 y4 y5 y6 y7) (chandleryref11_Bytes.j0 (k + 1) y0 y1 y2 y3 y4 y5 y6 y7))
  | 0 => fun _ _ _ _ _ _ _ _ r h => by simp [chandleryref11_Bytes.j0] at h
  | k + 1 => by
    have ih0 := chandleryref11_Bytes.mono_l k
    · intro y0 y1 y2 y3 y4 y5 y6 y7
      unfold chandleryref11_Bytes.j0
      repeat' first
      | (with_reducible exact ih0 _ _ _ _ _ _ _ _)
      | (with_reducible exact LeO.refl _)
      | (with_reducible exact LeO.none _)
      | (with_reducible refine LeO.ite ?_ ?_)
      | (with_reducible refine LeO.bind ?_ (fun _ => ?_))
      | exact ih0 _ _ _ _ _ _ _ _
      | exact LeO.none _
      | refine LeO.ite ?_ ?_
      | refine LeO.bind ?_ (fun _ => ?_)
theorem chandleryref11_Bytes.mono : ∀ a0 a1 a2 a3 a4 k, LeO (chandleryref11_Bytes.f k a0 a1 a2 a3 a4) (chandleryref11_Bytes.f (k + 1) a0 a1 a2 a3 a4) := by
  intro a0 a1 a2 a3 a4 k
  have ih0 := chandleryref11_Bytes.mono_l k
  unfold chandleryref11_Bytes.f
  repeat' first
      | (with_reducible exact ih0 _ _ _ _ _ _ _ _)
      | (with_reducible exact LeO.refl _)
      | (with_reducible exact LeO.none _)
      | (with_reducible refine LeO.ite ?_ ?_)
      | (with_reducible refine LeO.bind ?_ (fun _ => ?_))
      | exact ih0 _ _ _ _ _ _ _ _
      | exact LeO.none _
      | refine LeO.ite ?_ ?_
      | refine LeO.bind ?_ (fun _ => ?_)
def chandleryref11_Bytes.T6 : Bool × List (List Nat × List Nat) := (true, [([], []), ([], []), ([1], [1]), ([2], [2]), ([0, 3], [0, 3]), ([], []), ([5], [5]), ([6], [6]), ([7], [7]), ([], []), ([9], [9]), ([10], [10]), ([11], [11]), ([8, 12], [8, 12]), ([13], [13]), ([4, 14], [4, 14]), ([15, 3, 0, 1, 2, 3, 4, 5, 6, 7, 8, 9, 10, 11, 12, 13, 14, 15], [15])])
def chandleryref11_Bytes.B6 : List Nat := [0, 0, 2, 6, 15, 0, 32, 96, 224, 0, 512, 1536, 3584, 8160, 16352, 32767, 65535]
theorem chandleryref11_Bytes.tab6 : rtab .any (opsOf Try.f16 6) = chandleryref11_Bytes.T6 := by kernel_rfl
theorem chandleryref11_Bytes.bits6 : waitsOk chandleryref11_Bytes.T6.2 chandleryref11_Bytes.B6 = true := by kernel_rfl
def chandleryref11_Bytes.T8 : Bool × List (List Nat × List Nat) := (true, [([], []), ([], []), ([1], [1]), ([2], [2]), ([0, 3], [0, 3]), ([], []), ([5], [5]), ([4, 6], [4, 6]), ([7, 3, 0, 1, 2, 3, 4, 5, 6, 7], [7])])
def chandleryref11_Bytes.B8 : List Nat := [0, 0, 2, 6, 15, 0, 32, 127, 255]
theorem chandleryref11_Bytes.tab8 : rtab .any (opsOf Try.f16 8) = chandleryref11_Bytes.T8 := by kernel_rfl
theorem chandleryref11_Bytes.bits8 : waitsOk chandleryref11_Bytes.T8.2 chandleryref11_Bytes.B8 = true := by kernel_rfl
def chandleryref11_Bytes.T13 : Bool × List (List Nat × List Nat) := (true, [([], []), ([], []), ([1], [1]), ([0, 2], [0, 2]), ([3], [3]), ([], []), ([5], [5]), ([6], [6]), ([4, 7], [4, 7]), ([8, 7, 0, 1, 2, 3, 4, 5, 6, 7, 8], [8])])
def chandleryref11_Bytes.B13 : List Nat := [0, 0, 2, 7, 15, 0, 32, 96, 255, 511]
theorem chandleryref11_Bytes.tab13 : rtab .any (opsOf Try.f16 13) = chandleryref11_Bytes.T13 := by kernel_rfl
theorem chandleryref11_Bytes.bits13 : waitsOk chandleryref11_Bytes.T13.2 chandleryref11_Bytes.B13 = true := by kernel_rfl
set_option maxHeartbeats 8000000 in
set_option maxRecDepth 100000 in
theorem chandleryref11_Bytes.calls (k : Nat) (a0_0 : Int) (a0_1 : ByteArray) (a0_2 : ByteArray) (a0_3 : Int) (a0_4 : Int) (r : ByteArray) (w : World) (h : chandleryref11_Bytes.f k a0_0 a0_1 a0_2 a0_3 a0_4 = some r) :
    Calls Try.prog 16 #[.agg #[.int .i64 a0_0, .string a0_1, .string a0_2, .int .i64 a0_3, .int .i64 a0_4]] w fun e w' => e = .returned (.string r) ∧ Below w.heap.size w w' := by
  have hu23 := Try.underlying23
  have HB := Aside0.mk (Below.refl w.heap.size w)
  have H : (if 0 ≤ a0_0 then (if a0_0 ≤ (wrap64 (a0_0 + 1)) then (if (wrap64 (a0_0 + 1)) ≤ 11 then (if a0_0 = 2 then ((chandleryref11_three.f a0_3).bind fun t159 => (if ((⟨#[32, 110, 105, 99, 100, 112, 114, 117, 102, 103, 116]⟩ : ByteArray).extract (a0_0 : Int).toNat ((wrap64 (a0_0 + 1)) : Int).toNat).size + t159.size ≤ 9223372036854775807 then (some (((⟨#[32, 110, 105, 99, 100, 112, 114, 117, 102, 103, 116]⟩ : ByteArray).extract (a0_0 : Int).toNat ((wrap64 (a0_0 + 1)) : Int).toNat) ++ t159)) else (none))) else (if a0_0 = 3 then ((chandleryref11_three.f a0_3).bind fun t160 => (if ((⟨#[32, 110, 105, 99, 100, 112, 114, 117, 102, 103, 116]⟩ : ByteArray).extract (a0_0 : Int).toNat ((wrap64 (a0_0 + 1)) : Int).toNat).size + t160.size ≤ 9223372036854775807 then ((some (([(wrap64 (Int.tdiv a0_4 256)) % 256, (Int.tmod a0_4 256) % 256] : List Int) : List Int)).bind fun y161 => (if (((⟨#[32, 110, 105, 99, 100, 112, 114, 117, 102, 103, 116]⟩ : ByteArray).extract (a0_0 : Int).toNat ((wrap64 (a0_0 + 1)) : Int).toNat) ++ t160).size + (strOfNums y161).size ≤ 9223372036854775807 then (some ((((⟨#[32, 110, 105, 99, 100, 112, 114, 117, 102, 103, 116]⟩ : ByteArray).extract (a0_0 : Int).toNat ((wrap64 (a0_0 + 1)) : Int).toNat) ++ t160) ++ (strOfNums y161))) else (none))) else (none))) else (if a0_0 = 4 then ((chandleryref11_three.f a0_3).bind fun t164 => (if ((⟨#[32, 110, 105, 99, 100, 112, 114, 117, 102, 103, 116]⟩ : ByteArray).extract (a0_0 : Int).toNat ((wrap64 (a0_0 + 1)) : Int).toNat).size + t164.size ≤ 9223372036854775807 then (if (((⟨#[32, 110, 105, 99, 100, 112, 114, 117, 102, 103, 116]⟩ : ByteArray).extract (a0_0 : Int).toNat ((wrap64 (a0_0 + 1)) : Int).toNat) ++ t164).size + a0_1.size ≤ 9223372036854775807 then (some ((((⟨#[32, 110, 105, 99, 100, 112, 114, 117, 102, 103, 116]⟩ : ByteArray).extract (a0_0 : Int).toNat ((wrap64 (a0_0 + 1)) : Int).toNat) ++ t164) ++ a0_1)) else (none)) else (none))) else (if a0_0 = 6 then (chandleryref11_Bytes.j0 k ((⟨#[32, 110, 105, 99, 100, 112, 114, 117, 102, 103, 116]⟩ : ByteArray).extract (a0_0 : Int).toNat ((wrap64 (a0_0 + 1)) : Int).toNat) a0_0 (a0_0 == 6) a0_0 a0_1 a0_2 a0_3 a0_4) else (chandleryref11_Bytes.j0 k ((⟨#[32, 110, 105, 99, 100, 112, 114, 117, 102, 103, 116]⟩ : ByteArray).extract (a0_0 : Int).toNat ((wrap64 (a0_0 + 1)) : Int).toNat) a0_0 (a0_0 == 7) a0_0 a0_1 a0_2 a0_3 a0_4))))) else (none)) else (none)) else (none)) = some r := h
  clear h
  by_cases c2 : 0 ≤ a0_0
  · rw [if_pos c2] at H
    have c2b0 := eq_true c2
    have c2b1 : decide (0 ≤ a0_0) = true := decide_eq_true c2
    clear c2
    by_cases c3 : a0_0 ≤ (wrap64 (a0_0 + 1))
    · rw [if_pos c3] at H
      have c3b0 := eq_true c3
      have c3b1 : decide (a0_0 ≤ (wrap64 (a0_0 + 1))) = true := decide_eq_true c3
      by_cases c4 : (wrap64 (a0_0 + 1)) ≤ 11
      · rw [if_pos c4] at H
        have c4b0 := eq_true c4
        have c4b1 : decide ((wrap64 (a0_0 + 1)) ≤ 11) = true := decide_eq_true c4
        by_cases c5 : a0_0 = 2
        · rw [if_pos c5] at H
          have c5b0 : (a0_0 == 2) = true := beq_iff_eq.mpr c5
          have c5b1 : (a0_0 != 2) = false := bne_eq_false_iff_eq.mpr c5
          clear c5
          replace H := Option.bind_eq_some_iff.mp H
          obtain ⟨t159, A60, H⟩ := H
          replace H : (if ((⟨#[32, 110, 105, 99, 100, 112, 114, 117, 102, 103, 116]⟩ : ByteArray).extract (a0_0 : Int).toNat ((wrap64 (a0_0 + 1)) : Int).toNat).size + t159.size ≤ 9223372036854775807 then (some (((⟨#[32, 110, 105, 99, 100, 112, 114, 117, 102, 103, 116]⟩ : ByteArray).extract (a0_0 : Int).toNat ((wrap64 (a0_0 + 1)) : Int).toNat) ++ t159)) else (none)) = some r := H
          have A6 := Aside0.mk A60
          clear A60
          by_cases c7 : ((⟨#[32, 110, 105, 99, 100, 112, 114, 117, 102, 103, 116]⟩ : ByteArray).extract (a0_0 : Int).toNat ((wrap64 (a0_0 + 1)) : Int).toNat).size + t159.size ≤ 9223372036854775807
          · rw [if_pos c7] at H
            have c7b0 := eq_true c7
            have c7b1 : decide (((⟨#[32, 110, 105, 99, 100, 112, 114, 117, 102, 103, 116]⟩ : ByteArray).extract (a0_0 : Int).toNat ((wrap64 (a0_0 + 1)) : Int).toNat).size + t159.size ≤ 9223372036854775807) = true := decide_eq_true c7
            try have c7b2 : (9223372036854775807 < ((⟨#[32, 110, 105, 99, 100, 112, 114, 117, 102, 103, 116]⟩ : ByteArray).extract (a0_0 : Int).toNat ((wrap64 (a0_0 + 1)) : Int).toNat).size + t159.size) = False := eq_false (Nat.not_lt.2 c7)
            try have c7b3 : (9223372036854775807 < ((⟨#[32, 110, 105, 99, 100, 112, 114, 117, 102, 103, 116]⟩ : ByteArray).extract (a0_0 : Int).toNat ((wrap64 (a0_0 + 1)) : Int).toNat).size + t159.size) = False := eq_false (by (have h0_ := Nat.not_lt.2 c7); (simp only [ByteArray.size_append, ByteArray.size_extract] at h0_);  omega)
            try have c7b5 : (9223372036854775807 < ((min ((wrap64 (a0_0 + 1)) : Int).toNat 11) - (a0_0 : Int).toNat) + t159.size) = False := eq_false (by (have h0_ := Nat.not_lt.2 c7); (simp only [ByteArray.size_append, ByteArray.size_extract] at h0_);  (try simp only [show (⟨#[32, 110, 105, 99, 100, 112, 114, 117, 102, 103, 116]⟩ : ByteArray).size = 11 from rfl] at h0_); omega)
            try have c7b6 : (9223372036854775807 < (((wrap64 (a0_0 + 1)) : Int).toNat - (a0_0 : Int).toNat) + t159.size) = False := eq_false (by (have h0_ := Nat.not_lt.2 c7); (simp only [ByteArray.size_append, ByteArray.size_extract] at h0_); (try have hc4_ := of_decide_eq_true c4b1); (try simp only [show (⟨#[32, 110, 105, 99, 100, 112, 114, 117, 102, 103, 116]⟩ : ByteArray).size = 11 from rfl] at h0_); omega)
            obtain rfl := Option.some.inj H
            go_enter Try.func16, Try.ntmps16
            go_wp2_with (first | ((with_reducible refine gate_dst (N := 1) rfl ?_); refine box_event ?hg (N := 1) ?hd (cs := #[.int .i64 a0_0, .string a0_1, .string a0_2, .int .i64 a0_3, .int .i64 a0_4]) (t := 23) ?hr ?_; (case hd => rfl); (case hg => rfl); (case hr => first | (go_simp; done) | (go_simp; rfl)); intro gb158 hg w8 hbox hb; have n0_ := Aside0.mk (below_step (by repeat (first | (with_reducible first | exact HB.out | apply below_alloc | apply pw_below_drewN | apply below_drew1) | exact HB.out)) hb); have n1_ := Aside0.mk (hbox); have n2_ := Aside0.mk ((by rw [hg]; exact (below_size (by repeat (first | (with_reducible first | exact HB.out | apply below_alloc | apply pw_below_drewN | apply below_drew1) | exact HB.out))) : w.heap.size ≤ gb158)); have n3_ := Aside0.mk ((by rw [hg]; exact (below_size (by repeat (first | (with_reducible first | exact HB.out | apply below_alloc | apply pw_below_drewN | apply below_drew1) | exact HB.out))) : w.heap.size ≤ gb158)); clear HB; have HB := n0_; have BK158 := n1_; have GW158 := n2_; have GE158 := n3_; clear n0_ n1_ n2_ n3_; clear hb hbox hg; have hcz9_0 : w8.cell? ⟨gb158, 0, none⟩ = some (.int .i64 a0_0) := (blk_cell BK158.out 0).trans rfl; have hcz9_1 : w8.cell? ⟨gb158, 1, none⟩ = some (.string a0_1) := (blk_cell BK158.out 1).trans rfl; have hcz9_2 : w8.cell? ⟨gb158, 2, none⟩ = some (.string a0_2) := (blk_cell BK158.out 2).trans rfl; have hcz9_3 : w8.cell? ⟨gb158, 3, none⟩ = some (.int .i64 a0_3) := (blk_cell BK158.out 3).trans rfl; have hcz9_4 : w8.cell? ⟨gb158, 4, none⟩ = some (.int .i64 a0_4) := (blk_cell BK158.out 4).trans rfl; have hfz9_0 := blk_frozen BK158.out 0; have hfz9_1 := blk_frozen BK158.out 1; have hfz9_2 := blk_frozen BK158.out 2; have hfz9_3 := blk_frozen BK158.out 3; have hfz9_4 := blk_frozen BK158.out 4) | ((with_reducible refine gate_callee (f := 26) rfl ?_); refine goesL_ (some 17) rfl rfl Try.func26 (by kernel_rfl) rfl #[.int .i64 a0_3] rfl (by (try simp only [List.map_toArray, List.map_cons, List.map_nil]); first | done | rfl | (simp only [List.length_drop, List.length_take]; rfl)) ?_; (with_reducible refine (chandleryref11_three.calls a0_3 t159 _ A6.out).mono ?_); rintro e w10 ⟨rfl, hb⟩; refine ⟨_, rfl, ?_⟩; have n0_ := Aside0.mk (blk_below (g := gb158) (o := .cells #[.int .i64 a0_0, .string a0_1, .string a0_2, .int .i64 a0_3, .int .i64 a0_4] 23 (0, 0)) (by (with_reducible repeat (first | refine blk_drewN ?_ _ | refine blk_drew ?_ | refine blk_alloc ?_ _)); exact BK158.out) hb); have n1_ := Aside0.mk (below_step (by repeat (first | (with_reducible first | exact HB.out | apply below_alloc | apply pw_below_drewN | apply below_drew1 | refine below_set ?_ GE158.out) | exact HB.out)) hb); clear BK158; clear HB; have BK158 := n0_; have HB := n1_; clear n0_ n1_; (try clear hb); (try clear hb2); (try clear hk); (try clear hi)))
            go_ret
            exact ⟨by first | rfl | (simp [errW_none, errW_some] <;> rfl) | (simp [*, errW_none, errW_some] <;> rfl), by repeat (first | (with_reducible first | exact HB.out | apply below_alloc | apply pw_below_drewN | apply below_drew1 | refine below_set ?_ GE158.out) | exact HB.out)⟩
          · rw [if_neg c7] at H
            exact absurd H (by simp)
        · rw [if_neg c5] at H
          have c5b0 : (a0_0 == 2) = false := beq_eq_false_iff_ne.mpr c5
          have c5b1 : (a0_0 != 2) = true := bne_iff_ne.mpr c5
          by_cases c11 : a0_0 = 3
          · rw [if_pos c11] at H
            have c11b0 : (a0_0 == 3) = true := beq_iff_eq.mpr c11
            have c11b1 : (a0_0 != 3) = false := bne_eq_false_iff_eq.mpr c11
            clear c11
            replace H := Option.bind_eq_some_iff.mp H
            obtain ⟨t160, A120, H⟩ := H
            replace H : (if ((⟨#[32, 110, 105, 99, 100, 112, 114, 117, 102, 103, 116]⟩ : ByteArray).extract (a0_0 : Int).toNat ((wrap64 (a0_0 + 1)) : Int).toNat).size + t160.size ≤ 9223372036854775807 then ((some (([(wrap64 (Int.tdiv a0_4 256)) % 256, (Int.tmod a0_4 256) % 256] : List Int) : List Int)).bind fun y161 => (if (((⟨#[32, 110, 105, 99, 100, 112, 114, 117, 102, 103, 116]⟩ : ByteArray).extract (a0_0 : Int).toNat ((wrap64 (a0_0 + 1)) : Int).toNat) ++ t160).size + (strOfNums y161).size ≤ 9223372036854775807 then (some ((((⟨#[32, 110, 105, 99, 100, 112, 114, 117, 102, 103, 116]⟩ : ByteArray).extract (a0_0 : Int).toNat ((wrap64 (a0_0 + 1)) : Int).toNat) ++ t160) ++ (strOfNums y161))) else (none))) else (none)) = some r := H
            have A12 := Aside0.mk A120
            clear A120
            by_cases c13 : ((⟨#[32, 110, 105, 99, 100, 112, 114, 117, 102, 103, 116]⟩ : ByteArray).extract (a0_0 : Int).toNat ((wrap64 (a0_0 + 1)) : Int).toNat).size + t160.size ≤ 9223372036854775807
            · rw [if_pos c13] at H
              have c13b0 := eq_true c13
              have c13b1 : decide (((⟨#[32, 110, 105, 99, 100, 112, 114, 117, 102, 103, 116]⟩ : ByteArray).extract (a0_0 : Int).toNat ((wrap64 (a0_0 + 1)) : Int).toNat).size + t160.size ≤ 9223372036854775807) = true := decide_eq_true c13
              try have c13b2 : (9223372036854775807 < ((⟨#[32, 110, 105, 99, 100, 112, 114, 117, 102, 103, 116]⟩ : ByteArray).extract (a0_0 : Int).toNat ((wrap64 (a0_0 + 1)) : Int).toNat).size + t160.size) = False := eq_false (Nat.not_lt.2 c13)
              try have c13b3 : (9223372036854775807 < ((⟨#[32, 110, 105, 99, 100, 112, 114, 117, 102, 103, 116]⟩ : ByteArray).extract (a0_0 : Int).toNat ((wrap64 (a0_0 + 1)) : Int).toNat).size + t160.size) = False := eq_false (by (have h0_ := Nat.not_lt.2 c13); (simp only [ByteArray.size_append, ByteArray.size_extract] at h0_);  omega)
              try have c13b5 : (9223372036854775807 < ((min ((wrap64 (a0_0 + 1)) : Int).toNat 11) - (a0_0 : Int).toNat) + t160.size) = False := eq_false (by (have h0_ := Nat.not_lt.2 c13); (simp only [ByteArray.size_append, ByteArray.size_extract] at h0_);  (try simp only [show (⟨#[32, 110, 105, 99, 100, 112, 114, 117, 102, 103, 116]⟩ : ByteArray).size = 11 from rfl] at h0_); omega)
              try have c13b6 : (9223372036854775807 < (((wrap64 (a0_0 + 1)) : Int).toNat - (a0_0 : Int).toNat) + t160.size) = False := eq_false (by (have h0_ := Nat.not_lt.2 c13); (simp only [ByteArray.size_append, ByteArray.size_extract] at h0_); (try have hc4_ := of_decide_eq_true c4b1); (try simp only [show (⟨#[32, 110, 105, 99, 100, 112, 114, 117, 102, 103, 116]⟩ : ByteArray).size = 11 from rfl] at h0_); omega)
              obtain ⟨y161, hy161⟩ : ∃ y_ : List Int, y_ = (([(wrap64 (Int.tdiv a0_4 256)) % 256, (Int.tmod a0_4 256) % 256] : List Int)) := ⟨_, rfl⟩
              replace H : (if (((⟨#[32, 110, 105, 99, 100, 112, 114, 117, 102, 103, 116]⟩ : ByteArray).extract (a0_0 : Int).toNat ((wrap64 (a0_0 + 1)) : Int).toNat) ++ t160).size + (strOfNums y161).size ≤ 9223372036854775807 then (some ((((⟨#[32, 110, 105, 99, 100, 112, 114, 117, 102, 103, 116]⟩ : ByteArray).extract (a0_0 : Int).toNat ((wrap64 (a0_0 + 1)) : Int).toNat) ++ t160) ++ (strOfNums y161))) else (none)) = some r := by first | (rw [hy161]; with_reducible exact H) | (have H2_ := (Option.bind_some _ _).symm.trans H; rw [hy161]; with_reducible exact H2_) | (have H2_ := (Option.bind_some _ _).symm.trans H; with_reducible exact H2_) | with_reducible exact H | (rw [hy161]; exact H) | exact H
              have Ny161 := Aside0.mk hy161
              clear hy161
              by_cases c14 : (((⟨#[32, 110, 105, 99, 100, 112, 114, 117, 102, 103, 116]⟩ : ByteArray).extract (a0_0 : Int).toNat ((wrap64 (a0_0 + 1)) : Int).toNat) ++ t160).size + (strOfNums y161).size ≤ 9223372036854775807
              · rw [if_pos c14] at H
                have c14b0 := eq_true c14
                have c14b1 : decide ((((⟨#[32, 110, 105, 99, 100, 112, 114, 117, 102, 103, 116]⟩ : ByteArray).extract (a0_0 : Int).toNat ((wrap64 (a0_0 + 1)) : Int).toNat) ++ t160).size + (strOfNums y161).size ≤ 9223372036854775807) = true := decide_eq_true c14
                try have c14b2 : (9223372036854775807 < (((⟨#[32, 110, 105, 99, 100, 112, 114, 117, 102, 103, 116]⟩ : ByteArray).extract (a0_0 : Int).toNat ((wrap64 (a0_0 + 1)) : Int).toNat) ++ t160).size + (strOfNums y161).size) = False := eq_false (Nat.not_lt.2 c14)
                try have c14b3 : (9223372036854775807 < (((⟨#[32, 110, 105, 99, 100, 112, 114, 117, 102, 103, 116]⟩ : ByteArray).extract (a0_0 : Int).toNat ((wrap64 (a0_0 + 1)) : Int).toNat) ++ t160).size + (strOfNums y161).size) = False := eq_false (by (have h0_ := Nat.not_lt.2 c14); (simp only [ByteArray.size_append, ByteArray.size_extract] at h0_);  omega)
                try have c14b5 : (9223372036854775807 < (((min ((wrap64 (a0_0 + 1)) : Int).toNat 11) - (a0_0 : Int).toNat) + t160.size) + (strOfNums y161).size) = False := eq_false (by (have h0_ := Nat.not_lt.2 c14); (simp only [ByteArray.size_append, ByteArray.size_extract] at h0_);  (try simp only [show (⟨#[32, 110, 105, 99, 100, 112, 114, 117, 102, 103, 116]⟩ : ByteArray).size = 11 from rfl] at h0_); omega)
                try have c14b6 : (9223372036854775807 < ((((wrap64 (a0_0 + 1)) : Int).toNat - (a0_0 : Int).toNat) + t160.size) + (strOfNums y161).size) = False := eq_false (by (have h0_ := Nat.not_lt.2 c14); (simp only [ByteArray.size_append, ByteArray.size_extract] at h0_); (try have hc4_ := of_decide_eq_true c4b1); (try simp only [show (⟨#[32, 110, 105, 99, 100, 112, 114, 117, 102, 103, 116]⟩ : ByteArray).size = 11 from rfl] at h0_); omega)
                obtain rfl := Option.some.inj H
                go_enter Try.func16, Try.ntmps16
                try go_wp2_with (first | ((with_reducible refine gate_dst (N := 1) rfl ?_); refine box_event ?hg (N := 1) ?hd (cs := #[.int .i64 a0_0, .string a0_1, .string a0_2, .int .i64 a0_3, .int .i64 a0_4]) (t := 23) ?hr ?_; (case hd => rfl); (case hg => rfl); (case hr => first | (go_simp; done) | (go_simp; rfl)); intro gb158 hg w15 hbox hb; have n0_ := Aside0.mk (below_step (by repeat (first | (with_reducible first | exact HB.out | apply below_alloc | apply pw_below_drewN | apply below_drew1) | exact HB.out)) hb); have n1_ := Aside0.mk (hbox); have n2_ := Aside0.mk ((by rw [hg]; exact (below_size (by repeat (first | (with_reducible first | exact HB.out | apply below_alloc | apply pw_below_drewN | apply below_drew1) | exact HB.out))) : w.heap.size ≤ gb158)); have n3_ := Aside0.mk ((by rw [hg]; exact (below_size (by repeat (first | (with_reducible first | exact HB.out | apply below_alloc | apply pw_below_drewN | apply below_drew1) | exact HB.out))) : w.heap.size ≤ gb158)); clear HB; have HB := n0_; have BK158 := n1_; have GW158 := n2_; have GE158 := n3_; clear n0_ n1_ n2_ n3_; clear hb hbox hg; have hcz16_0 : w15.cell? ⟨gb158, 0, none⟩ = some (.int .i64 a0_0) := (blk_cell BK158.out 0).trans rfl; have hcz16_1 : w15.cell? ⟨gb158, 1, none⟩ = some (.string a0_1) := (blk_cell BK158.out 1).trans rfl; have hcz16_2 : w15.cell? ⟨gb158, 2, none⟩ = some (.string a0_2) := (blk_cell BK158.out 2).trans rfl; have hcz16_3 : w15.cell? ⟨gb158, 3, none⟩ = some (.int .i64 a0_3) := (blk_cell BK158.out 3).trans rfl; have hcz16_4 : w15.cell? ⟨gb158, 4, none⟩ = some (.int .i64 a0_4) := (blk_cell BK158.out 4).trans rfl; have hfz16_0 := blk_frozen BK158.out 0; have hfz16_1 := blk_frozen BK158.out 1; have hfz16_2 := blk_frozen BK158.out 2; have hfz16_3 := blk_frozen BK158.out 3; have hfz16_4 := blk_frozen BK158.out 4))
                have n0_ := Aside0.mk (blk_drew BK158.out)
                have n1_ := Aside0.mk (below_drew1 HB.out)
                clear BK158
                clear HB
                have BK158 := n0_
                have HB := n1_
                clear n0_ n1_
                refine start_ (n := 17) (S := fun w' => w'.cell? ⟨gb158, 0, none⟩ = some (.int .i64 a0_0) ∧ w'.cell? ⟨gb158, 1, none⟩ = some (.string a0_1) ∧ w'.cell? ⟨gb158, 2, none⟩ = some (.string a0_2) ∧ w'.cell? ⟨gb158, 3, none⟩ = some (.int .i64 a0_3) ∧ w'.cell? ⟨gb158, 4, none⟩ = some (.int .i64 a0_4)) (ds := []) #[false, false, false, false, false, false, false, false, false, false, false, false, false, false, false, false, false] (by kernel_rfl) rfl rfl ⟨(blk_cell BK158.out 0).trans rfl, (blk_cell BK158.out 1).trans rfl, (blk_cell BK158.out 2).trans rfl, (blk_cell BK158.out 3).trans rfl, (blk_cell BK158.out 4).trans rfl⟩ (fun hHeld => ?_); refine with_tabW chandleryref11_Bytes.tab6 chandleryref11_Bytes.bits6 (fun HT_ HW_ => ?_)
                generalize w15.drew = w17 at BK158 HB hHeld ⊢
                refine pure_ (i := 0) (N := some 21) (v := ?_) (a' := ?_) #[true, false, false, false, false, false, false, false, false, false, false, false, false, false, false, false, false] rfl rfl (any_of HT_.out (by kernel_rfl)) (fun _ _ _ h => h) (Or.inl ⟨by rfl, ?_⟩) ?_ ?_
                rotate_left
                · intro w'
                  go_simp
                  with_reducible rfl
                rotate_left
                · simp only [Act.put, List.setIfInBounds_toArray, List.set_cons_zero, List.set_cons_succ, i64_w, i32_w]
                  rfl
                refine pure_ (i := 1) (N := some 22) (v := ?_) (a' := ?_) #[true, true, false, false, false, false, false, false, false, false, false, false, false, false, false, false, false] rfl rfl (any_of HT_.out (by kernel_rfl)) (fun _ _ _ h => h) (Or.inl ⟨by rfl, ?_⟩) ?_ ?_
                rotate_left
                · intro w'
                  go_simp
                  with_reducible rfl
                rotate_left
                · simp only [Act.put, List.setIfInBounds_toArray, List.set_cons_zero, List.set_cons_succ, i64_w, i32_w]
                  rfl
                refine pure_ (i := 5) (N := some 26) (v := ?_) (a' := ?_) #[true, true, false, false, false, true, false, false, false, false, false, false, false, false, false, false, false] rfl rfl (any_of HT_.out (by kernel_rfl)) (fun _ _ _ h => h) (Or.inl ⟨by rfl, ?_⟩) ?_ ?_
                rotate_left
                · intro w'
                  go_simp
                  with_reducible rfl
                rotate_left
                · simp only [Act.put, List.setIfInBounds_toArray, List.set_cons_zero, List.set_cons_succ, i64_w, i32_w]
                  rfl
                refine pure_ (i := 9) (N := some 30) (v := ?_) (a' := ?_) #[true, true, false, false, false, true, false, false, false, true, false, false, false, false, false, false, false] rfl rfl (any_of HT_.out (by kernel_rfl)) (fun _ _ _ h => h) (Or.inl ⟨by rfl, ?_⟩) ?_ ?_
                rotate_left
                · intro w'
                  go_simp
                  with_reducible rfl
                rotate_left
                · simp only [Act.put, List.setIfInBounds_toArray, List.set_cons_zero, List.set_cons_succ, i64_w, i32_w]
                  rfl
                refine take_ (i := 2) (N := some 23) (v := ?_) (a' := ?_) #[true, true, true, false, false, true, false, false, false, true, false, false, false, false, false, false, false] rfl rfl (take_ofW HT_.out HW_.out (by kernel_rfl)) (fun _ _ _ h => h) (Or.inl ⟨by rfl, ?_⟩) hHeld ?_ ?_
                rotate_left
                · rintro w' ⟨s0, s1, s2, s3, s4⟩
                  go_simp
                  with_reducible rfl
                rotate_left
                · simp only [Act.put, List.setIfInBounds_toArray, List.set_cons_zero, List.set_cons_succ, i64_w, i32_w]
                  rfl
                refine take_ (i := 6) (N := some 27) (v := ?_) (a' := ?_) #[true, true, true, false, false, true, true, false, false, true, false, false, false, false, false, false, false] rfl rfl (take_ofW HT_.out HW_.out (by kernel_rfl)) (fun _ _ _ h => h) (Or.inl ⟨by rfl, ?_⟩) hHeld ?_ ?_
                rotate_left
                · rintro w' ⟨s0, s1, s2, s3, s4⟩
                  go_simp
                  with_reducible rfl
                rotate_left
                · simp only [Act.put, List.setIfInBounds_toArray, List.set_cons_zero, List.set_cons_succ, i64_w, i32_w]
                  rfl
                refine pure_ (i := 7) (N := some 28) (v := ?_) (a' := ?_) #[true, true, true, false, false, true, true, true, false, true, false, false, false, false, false, false, false] rfl rfl (any_of HT_.out (by kernel_rfl)) (fun _ _ _ h => h) (Or.inl ⟨by rfl, ?_⟩) ?_ ?_
                rotate_left
                · intro w'
                  go_simp
                  with_reducible rfl
                rotate_left
                · simp only [Act.put, List.setIfInBounds_toArray, List.set_cons_zero, List.set_cons_succ, i64_w, i32_w]
                  rfl
                refine pure_ (i := 8) (N := some 29) (v := ?_) (a' := ?_) #[true, true, true, false, false, true, true, true, true, true, false, false, false, false, false, false, false] rfl rfl (any_of HT_.out (by kernel_rfl)) (fun _ _ _ h => h) (Or.inl ⟨by rfl, ?_⟩) ?_ ?_
                rotate_left
                · intro w'
                  go_simp
                  with_reducible rfl
                rotate_left
                · simp only [Act.put, List.setIfInBounds_toArray, List.set_cons_zero, List.set_cons_succ, i64_w, i32_w]
                  rfl
                refine take_ (i := 10) (N := some 31) (v := ?_) (a' := ?_) #[true, true, true, false, false, true, true, true, true, true, true, false, false, false, false, false, false] rfl rfl (take_ofW HT_.out HW_.out (by kernel_rfl)) (fun _ _ _ h => h) (Or.inl ⟨by rfl, ?_⟩) hHeld ?_ ?_
                rotate_left
                · rintro w' ⟨s0, s1, s2, s3, s4⟩
                  go_simp
                  with_reducible rfl
                rotate_left
                · simp only [Act.put, List.setIfInBounds_toArray, List.set_cons_zero, List.set_cons_succ, i64_w, i32_w]
                  rfl
                refine pure_ (i := 11) (N := some 32) (v := ?_) (a' := ?_) #[true, true, true, false, false, true, true, true, true, true, true, true, false, false, false, false, false] rfl rfl (any_of HT_.out (by kernel_rfl)) (fun _ _ _ h => h) (Or.inl ⟨by rfl, ?_⟩) ?_ ?_
                rotate_left
                · intro w'
                  go_simp
                  with_reducible rfl
                rotate_left
                · simp only [Act.put, List.setIfInBounds_toArray, List.set_cons_zero, List.set_cons_succ, i64_w, i32_w]
                  rfl
                refine pure_ (i := 12) (N := some 33) (v := ?_) (a' := ?_) #[true, true, true, false, false, true, true, true, true, true, true, true, true, false, false, false, false] rfl rfl (any_of HT_.out (by kernel_rfl)) (fun _ _ _ h => h) (Or.inl ⟨by rfl, ?_⟩) ?_ ?_
                rotate_left
                · intro w'
                  go_simp
                  with_reducible rfl
                rotate_left
                · simp only [Act.put, List.setIfInBounds_toArray, List.set_cons_zero, List.set_cons_succ, i64_w, i32_w]
                  rfl
                refine join_ (σ := Value) 2 #[true, true, true, true, true, true, true, true, true, true, true, true, true, true, true, false, false] (fun s_ => [(24, .string t160), (34, s_), (35, .string (strOfNums y161)), (25, .string (((⟨#[32, 110, 105, 99, 100, 112, 114, 117, 102, 103, 116]⟩ : ByteArray).extract (a0_0 : Int).toNat ((wrap64 (a0_0 + 1)) : Int).toNat) ++ t160))]) (fun s_ w' => (w'.cell? ⟨gb158, 0, none⟩ = some (.int .i64 a0_0) ∧ w'.cell? ⟨gb158, 1, none⟩ = some (.string a0_1) ∧ w'.cell? ⟨gb158, 2, none⟩ = some (.string a0_2) ∧ w'.cell? ⟨gb158, 3, none⟩ = some (.int .i64 a0_3) ∧ w'.cell? ⟨gb158, 4, none⟩ = some (.int .i64 a0_4)) ∧ (Kd.R (Kd.int .u8) 5 w' w.heap.size (fun _ => True) s_ y161) ∧ (w'.heap[gb158]? = some (.cells #[.int .i64 a0_0, .string a0_1, .string a0_2, .int .i64 a0_3, .int .i64 a0_4] 23 (0, 0))) ∧ (Below w.heap.size w w')) ?_ ?_
                rotate_left
                · intro hCont
                  refine two_ (i := 3) (j := 13) (Ni := some 24) (Nj := some 34) #[true, true, true, true, false, true, true, true, true, true, true, true, true, false, false, false, false] #[true, true, true, false, false, true, true, true, true, true, true, true, true, true, false, false, false] rfl rfl rfl rfl (two_of HT_.out (by kernel_rfl)) (by decide) (by decide) (fun K hK => ?_) (fun K hK => ?_)
                  · skip
                    refine goes_ Try.func26 (by kernel_rfl) rfl #[.int .i64 a0_3] (by rfl) rfl rfl (by (try simp only [List.map_toArray, List.map_cons, List.map_nil]); first | done | rfl | (simp only [List.length_drop, List.length_take]; rfl)) ?_
                    with_reducible refine (chandleryref11_three.calls a0_3 t160 _ A12.out).mono ?_
                    rintro e w18 ⟨rfl, hb⟩
                    refine ⟨_, rfl, ?_⟩
                    have n0_ := Aside0.mk (blk_below (g := gb158) (o := .cells #[.int .i64 a0_0, .string a0_1, .string a0_2, .int .i64 a0_3, .int .i64 a0_4] 23 (0, 0)) (by (with_reducible repeat (first | refine blk_drewN ?_ _ | refine blk_drew ?_ | refine blk_alloc ?_ _)); exact BK158.out) hb)
                    have n1_ := Aside0.mk (below_step (by repeat (first | (with_reducible first | exact HB.out | apply below_alloc | apply pw_below_drewN | apply below_drew1 | refine below_set ?_ GE158.out) | exact HB.out)) hb)
                    clear BK158
                    clear HB
                    have BK158 := n0_
                    have HB := n1_
                    clear n0_ n1_
                    (try clear hb)
                    (try clear hb2)
                    (try clear hk)
                    (try clear hi)
                    refine hK.out _ _ ⟨(blk_cell BK158.out 0).trans rfl, (blk_cell BK158.out 1).trans rfl, (blk_cell BK158.out 2).trans rfl, (blk_cell BK158.out 3).trans rfl, (blk_cell BK158.out 4).trans rfl⟩ (fun hHeld => ?_)
                    clear hK K
                    refine norm_ (a' := ?_) ?_ ?_
                    rotate_left
                    · show Act.put _ (some 24) _ = _
                      simp only [Act.put, List.setIfInBounds_toArray, List.set_cons_zero, List.set_cons_succ, i64_w, i32_w]
                      rfl
                    refine pure_ (i := 4) (N := some 25) (v := ?_) (a' := ?_) #[true, true, true, true, true, true, true, true, true, true, true, true, true, false, false, false, false] rfl rfl (any_of HT_.out (by kernel_rfl)) (fun _ _ _ h => h) (Or.inl ⟨by rfl, ?_⟩) ?_ ?_
                    rotate_left
                    · intro w'
                      go_simp
                      with_reducible rfl
                    rotate_left
                    · simp only [Act.put, List.setIfInBounds_toArray, List.set_cons_zero, List.set_cons_succ, i64_w, i32_w]
                      rfl
                    refine one_ (i := 13) (N := some 34) #[true, true, true, true, true, true, true, true, true, true, true, true, true, true, false, false, false] rfl rfl (one_of HT_.out (by kernel_rfl)) (by decide) (fun K hK => ?_)
                    refine Kd.R_lit_step (Kd.int .u8) _ 5 ?hg (N := 34) ?hd (xs := ([(wrap64 (Int.tdiv a0_4 256)) % 256, (Int.tmod a0_4 256) % 256] : List Int)) (inner := [.int .u8 ((wrap64 (Int.tdiv a0_4 256)) % 256), .int .u8 ((Int.tmod a0_4 256) % 256)]) (ok := fun _ => True) (okp := fun _ => True) ?hr ?hp (fun _ hk => hk) trivial (Below.refl _ _) (Nat.le_refl _) (by simp) ?_; (case hd => rfl); (case hg => rfl); (case hr => first | (go_simp; done) | (go_simp; rfl)); (case hp => exact (Reps.one (show Kd.M (Kd.int .u8) _ _ _ ((wrap64 (Int.tdiv a0_4 256)) % 256) [.int .u8 ((wrap64 (Int.tdiv a0_4 256)) % 256)] from rfl) (Reps.one (show Kd.M (Kd.int .u8) _ _ _ ((Int.tmod a0_4 256) % 256) [.int .u8 ((Int.tmod a0_4 256) % 256)] from rfl) (Reps.none _ _))))
                    intro v162 w19 ho20 hb hg_ hnew_
                    clear hg_ hnew_
                    (first | rw [← Ny161.out] at ho20 | (simp only [Int.reduceToNat] at ho20; rw [← Ny161.out] at ho20))
                    have n0_ := Aside0.mk (Kd.R_lower ho20 (below_size (by repeat (first | (with_reducible first | exact HB.out | apply below_alloc | apply pw_below_drewN | apply below_drew1 | refine below_set ?_ GE158.out) | exact HB.out))))
                    have n1_ := Aside0.mk (blk_below (g := gb158) (o := .cells #[.int .i64 a0_0, .string a0_1, .string a0_2, .int .i64 a0_3, .int .i64 a0_4] 23 (0, 0)) (by (with_reducible repeat (first | refine blk_drewN ?_ _ | refine blk_drew ?_ | refine blk_alloc ?_ _)); exact BK158.out) hb)
                    have n2_ := Aside0.mk (below_step (by repeat (first | (with_reducible first | exact HB.out | apply below_alloc | apply pw_below_drewN | apply below_drew1 | refine below_set ?_ GE158.out) | exact HB.out)) hb)
                    clear BK158
                    clear HB
                    have HO163 := n0_
                    have BK158 := n1_
                    have HB := n2_
                    clear n0_ n1_ n2_
                    clear hb ho20
                    refine hK.out _ _ ⟨(blk_cell BK158.out 0).trans rfl, (blk_cell BK158.out 1).trans rfl, (blk_cell BK158.out 2).trans rfl, (blk_cell BK158.out 3).trans rfl, (blk_cell BK158.out 4).trans rfl⟩ (fun hHeld => ?_)
                    clear hK K
                    refine norm_ (a' := ?_) ?_ ?_
                    rotate_left
                    · show Act.put _ (some 34) _ = _
                      simp only [Act.put, List.setIfInBounds_toArray, List.set_cons_zero, List.set_cons_succ, i64_w, i32_w]
                      rfl
                    refine one_ (i := 14) (N := some 35) #[true, true, true, true, true, true, true, true, true, true, true, true, true, true, true, false, false] rfl rfl (one_of HT_.out (by kernel_rfl)) (by decide) (fun K hK => ?_)
                    have hcv21 := own_string (P := Try.prog) Try.underlying45 Try.underlying5 Try.underlying9 (Kd.own_of_R HO163.out); have hcv21u := fun nq_ : Nat => own_string (P := Try.prog) Try.underlying45 Try.underlying5 Try.underlying9 (Kd.own_of_R (Kd.R_drewN HO163.out nq_))
                    refine value_ (w1 := ?_) (v := ?_) (by rfl) rfl ?_ ?_
                    rotate_left 2
                    · go_simp
                      constructor
                      · rfl
                      · rfl
                    clear hcv21
                    refine hK.out _ _ ⟨(blk_cell BK158.out 0).trans rfl, (blk_cell BK158.out 1).trans rfl, (blk_cell BK158.out 2).trans rfl, (blk_cell BK158.out 3).trans rfl, (blk_cell BK158.out 4).trans rfl⟩ (fun hHeld => ?_)
                    clear hK K
                    refine norm_ (a' := ?_) ?_ ?_
                    rotate_left
                    · show Act.put _ (some 35) _ = _
                      simp only [Act.put, List.setIfInBounds_toArray, List.set_cons_zero, List.set_cons_succ, i64_w, i32_w]
                      rfl
                    exact norm_ (by simp only [putAll, Act.put, List.setIfInBounds_toArray, List.set_cons_zero, List.set_cons_succ]) (hCont (v162) _ ⟨hHeld, (by (with_reducible repeat (first | apply Kd.R_alloc | apply Kd.R_drewN | apply Kd.R_drew)); exact HO163.out), (by (with_reducible repeat (first | refine blk_drewN ?_ _ | refine blk_drew ?_ | refine blk_alloc ?_ _)); exact BK158.out), (by repeat (first | (with_reducible first | exact HB.out | apply below_alloc | apply pw_below_drewN | apply below_drew1 | refine below_set ?_ GE158.out) | exact HB.out))⟩)
                  · skip
                    refine Kd.R_lit_step (Kd.int .u8) _ 5 ?hg (N := 34) ?hd (xs := ([(wrap64 (Int.tdiv a0_4 256)) % 256, (Int.tmod a0_4 256) % 256] : List Int)) (inner := [.int .u8 ((wrap64 (Int.tdiv a0_4 256)) % 256), .int .u8 ((Int.tmod a0_4 256) % 256)]) (ok := fun _ => True) (okp := fun _ => True) ?hr ?hp (fun _ hk => hk) trivial (Below.refl _ _) (Nat.le_refl _) (by simp) ?_; (case hd => rfl); (case hg => rfl); (case hr => first | (go_simp; done) | (go_simp; rfl)); (case hp => exact (Reps.one (show Kd.M (Kd.int .u8) _ _ _ ((wrap64 (Int.tdiv a0_4 256)) % 256) [.int .u8 ((wrap64 (Int.tdiv a0_4 256)) % 256)] from rfl) (Reps.one (show Kd.M (Kd.int .u8) _ _ _ ((Int.tmod a0_4 256) % 256) [.int .u8 ((Int.tmod a0_4 256) % 256)] from rfl) (Reps.none _ _))))
                    intro v162 w18 ho19 hb hg_ hnew_
                    clear hg_ hnew_
                    (first | rw [← Ny161.out] at ho19 | (simp only [Int.reduceToNat] at ho19; rw [← Ny161.out] at ho19))
                    have n0_ := Aside0.mk (Kd.R_lower ho19 (below_size (by repeat (first | (with_reducible first | exact HB.out | apply below_alloc | apply pw_below_drewN | apply below_drew1 | refine below_set ?_ GE158.out) | exact HB.out))))
                    have n1_ := Aside0.mk (blk_below (g := gb158) (o := .cells #[.int .i64 a0_0, .string a0_1, .string a0_2, .int .i64 a0_3, .int .i64 a0_4] 23 (0, 0)) (by (with_reducible repeat (first | refine blk_drewN ?_ _ | refine blk_drew ?_ | refine blk_alloc ?_ _)); exact BK158.out) hb)
                    have n2_ := Aside0.mk (below_step (by repeat (first | (with_reducible first | exact HB.out | apply below_alloc | apply pw_below_drewN | apply below_drew1 | refine below_set ?_ GE158.out) | exact HB.out)) hb)
                    clear BK158
                    clear HB
                    have HO163 := n0_
                    have BK158 := n1_
                    have HB := n2_
                    clear n0_ n1_ n2_
                    clear hb ho19
                    refine hK.out _ _ ⟨(blk_cell BK158.out 0).trans rfl, (blk_cell BK158.out 1).trans rfl, (blk_cell BK158.out 2).trans rfl, (blk_cell BK158.out 3).trans rfl, (blk_cell BK158.out 4).trans rfl⟩ (fun hHeld => ?_)
                    clear hK K
                    refine norm_ (a' := ?_) ?_ ?_
                    rotate_left
                    · show Act.put _ (some 34) _ = _
                      simp only [Act.put, List.setIfInBounds_toArray, List.set_cons_zero, List.set_cons_succ, i64_w, i32_w]
                      rfl
                    refine two_ (i := 3) (j := 14) (Ni := some 24) (Nj := some 35) #[true, true, true, true, false, true, true, true, true, true, true, true, true, true, false, false, false] #[true, true, true, false, false, true, true, true, true, true, true, true, true, true, true, false, false] rfl rfl rfl rfl (two_of HT_.out (by kernel_rfl)) (by decide) (by decide) (fun K hK => ?_) (fun K hK => ?_)
                    · skip
                      refine goes_ Try.func26 (by kernel_rfl) rfl #[.int .i64 a0_3] (by rfl) rfl rfl (by (try simp only [List.map_toArray, List.map_cons, List.map_nil]); first | done | rfl | (simp only [List.length_drop, List.length_take]; rfl)) ?_
                      with_reducible refine (chandleryref11_three.calls a0_3 t160 _ A12.out).mono ?_
                      rintro e w20 ⟨rfl, hb⟩
                      refine ⟨_, rfl, ?_⟩
                      have n0_ := Aside0.mk (Kd.R_below (by (with_reducible repeat (first | apply Kd.R_alloc | apply Kd.R_drewN | apply Kd.R_drew)); exact HO163.out) hb)
                      have n1_ := Aside0.mk (blk_below (g := gb158) (o := .cells #[.int .i64 a0_0, .string a0_1, .string a0_2, .int .i64 a0_3, .int .i64 a0_4] 23 (0, 0)) (by (with_reducible repeat (first | refine blk_drewN ?_ _ | refine blk_drew ?_ | refine blk_alloc ?_ _)); exact BK158.out) hb)
                      have n2_ := Aside0.mk (below_step (by repeat (first | (with_reducible first | exact HB.out | apply below_alloc | apply pw_below_drewN | apply below_drew1 | refine below_set ?_ GE158.out) | exact HB.out)) hb)
                      clear HO163
                      clear BK158
                      clear HB
                      have HO163 := n0_
                      have BK158 := n1_
                      have HB := n2_
                      clear n0_ n1_ n2_
                      (try clear hb)
                      (try clear hb2)
                      (try clear hk)
                      (try clear hi)
                      refine hK.out _ _ ⟨(blk_cell BK158.out 0).trans rfl, (blk_cell BK158.out 1).trans rfl, (blk_cell BK158.out 2).trans rfl, (blk_cell BK158.out 3).trans rfl, (blk_cell BK158.out 4).trans rfl⟩ (fun hHeld => ?_)
                      clear hK K
                      refine norm_ (a' := ?_) ?_ ?_
                      rotate_left
                      · show Act.put _ (some 24) _ = _
                        simp only [Act.put, List.setIfInBounds_toArray, List.set_cons_zero, List.set_cons_succ, i64_w, i32_w]
                        rfl
                      refine pure_ (i := 4) (N := some 25) (v := ?_) (a' := ?_) #[true, true, true, true, true, true, true, true, true, true, true, true, true, true, false, false, false] rfl rfl (any_of HT_.out (by kernel_rfl)) (fun _ _ _ h => h) (Or.inl ⟨by rfl, ?_⟩) ?_ ?_
                      rotate_left
                      · intro w'
                        go_simp
                        with_reducible rfl
                      rotate_left
                      · simp only [Act.put, List.setIfInBounds_toArray, List.set_cons_zero, List.set_cons_succ, i64_w, i32_w]
                        rfl
                      refine one_ (i := 14) (N := some 35) #[true, true, true, true, true, true, true, true, true, true, true, true, true, true, true, false, false] rfl rfl (one_of HT_.out (by kernel_rfl)) (by decide) (fun K hK => ?_)
                      have hcv21 := own_string (P := Try.prog) Try.underlying45 Try.underlying5 Try.underlying9 (Kd.own_of_R HO163.out); have hcv21u := fun nq_ : Nat => own_string (P := Try.prog) Try.underlying45 Try.underlying5 Try.underlying9 (Kd.own_of_R (Kd.R_drewN HO163.out nq_))
                      refine value_ (w1 := ?_) (v := ?_) (by rfl) rfl ?_ ?_
                      rotate_left 2
                      · go_simp
                        constructor
                        · rfl
                        · rfl
                      clear hcv21
                      refine hK.out _ _ ⟨(blk_cell BK158.out 0).trans rfl, (blk_cell BK158.out 1).trans rfl, (blk_cell BK158.out 2).trans rfl, (blk_cell BK158.out 3).trans rfl, (blk_cell BK158.out 4).trans rfl⟩ (fun hHeld => ?_)
                      clear hK K
                      refine norm_ (a' := ?_) ?_ ?_
                      rotate_left
                      · show Act.put _ (some 35) _ = _
                        simp only [Act.put, List.setIfInBounds_toArray, List.set_cons_zero, List.set_cons_succ, i64_w, i32_w]
                        rfl
                      exact norm_ (by simp only [putAll, Act.put, List.setIfInBounds_toArray, List.set_cons_zero, List.set_cons_succ]) (hCont (v162) _ ⟨hHeld, (by (with_reducible repeat (first | apply Kd.R_alloc | apply Kd.R_drewN | apply Kd.R_drew)); exact HO163.out), (by (with_reducible repeat (first | refine blk_drewN ?_ _ | refine blk_drew ?_ | refine blk_alloc ?_ _)); exact BK158.out), (by repeat (first | (with_reducible first | exact HB.out | apply below_alloc | apply pw_below_drewN | apply below_drew1 | refine below_set ?_ GE158.out) | exact HB.out))⟩)
                    · skip
                      have hcv20 := own_string (P := Try.prog) Try.underlying45 Try.underlying5 Try.underlying9 (Kd.own_of_R HO163.out); have hcv20u := fun nq_ : Nat => own_string (P := Try.prog) Try.underlying45 Try.underlying5 Try.underlying9 (Kd.own_of_R (Kd.R_drewN HO163.out nq_))
                      refine value_ (w1 := ?_) (v := ?_) (by rfl) rfl ?_ ?_
                      rotate_left 2
                      · go_simp
                        constructor
                        · rfl
                        · rfl
                      clear hcv20
                      refine hK.out _ _ ⟨(blk_cell BK158.out 0).trans rfl, (blk_cell BK158.out 1).trans rfl, (blk_cell BK158.out 2).trans rfl, (blk_cell BK158.out 3).trans rfl, (blk_cell BK158.out 4).trans rfl⟩ (fun hHeld => ?_)
                      clear hK K
                      refine norm_ (a' := ?_) ?_ ?_
                      rotate_left
                      · show Act.put _ (some 35) _ = _
                        simp only [Act.put, List.setIfInBounds_toArray, List.set_cons_zero, List.set_cons_succ, i64_w, i32_w]
                        rfl
                      refine one_ (i := 3) (N := some 24) #[true, true, true, true, false, true, true, true, true, true, true, true, true, true, true, false, false] rfl rfl (one_of HT_.out (by kernel_rfl)) (by decide) (fun K hK => ?_)
                      refine goes_ Try.func26 (by kernel_rfl) rfl #[.int .i64 a0_3] (by rfl) rfl rfl (by (try simp only [List.map_toArray, List.map_cons, List.map_nil]); first | done | rfl | (simp only [List.length_drop, List.length_take]; rfl)) ?_
                      with_reducible refine (chandleryref11_three.calls a0_3 t160 _ A12.out).mono ?_
                      rintro e w21 ⟨rfl, hb⟩
                      refine ⟨_, rfl, ?_⟩
                      have n0_ := Aside0.mk (Kd.R_below (by (with_reducible repeat (first | apply Kd.R_alloc | apply Kd.R_drewN | apply Kd.R_drew)); exact HO163.out) hb)
                      have n1_ := Aside0.mk (blk_below (g := gb158) (o := .cells #[.int .i64 a0_0, .string a0_1, .string a0_2, .int .i64 a0_3, .int .i64 a0_4] 23 (0, 0)) (by (with_reducible repeat (first | refine blk_drewN ?_ _ | refine blk_drew ?_ | refine blk_alloc ?_ _)); exact BK158.out) hb)
                      have n2_ := Aside0.mk (below_step (by repeat (first | (with_reducible first | exact HB.out | apply below_alloc | apply pw_below_drewN | apply below_drew1 | refine below_set ?_ GE158.out) | exact HB.out)) hb)
                      clear HO163
                      clear BK158
                      clear HB
                      have HO163 := n0_
                      have BK158 := n1_
                      have HB := n2_
                      clear n0_ n1_ n2_
                      (try clear hb)
                      (try clear hb2)
                      (try clear hk)
                      (try clear hi)
                      refine hK.out _ _ ⟨(blk_cell BK158.out 0).trans rfl, (blk_cell BK158.out 1).trans rfl, (blk_cell BK158.out 2).trans rfl, (blk_cell BK158.out 3).trans rfl, (blk_cell BK158.out 4).trans rfl⟩ (fun hHeld => ?_)
                      clear hK K
                      refine norm_ (a' := ?_) ?_ ?_
                      rotate_left
                      · show Act.put _ (some 24) _ = _
                        simp only [Act.put, List.setIfInBounds_toArray, List.set_cons_zero, List.set_cons_succ, i64_w, i32_w]
                        rfl
                      refine pure_ (i := 4) (N := some 25) (v := ?_) (a' := ?_) #[true, true, true, true, true, true, true, true, true, true, true, true, true, true, true, false, false] rfl rfl (any_of HT_.out (by kernel_rfl)) (fun _ _ _ h => h) (Or.inl ⟨by rfl, ?_⟩) ?_ ?_
                      rotate_left
                      · intro w'
                        go_simp
                        with_reducible rfl
                      rotate_left
                      · simp only [Act.put, List.setIfInBounds_toArray, List.set_cons_zero, List.set_cons_succ, i64_w, i32_w]
                        rfl
                      exact norm_ (by simp only [putAll, Act.put, List.setIfInBounds_toArray, List.set_cons_zero, List.set_cons_succ]) (hCont (v162) _ ⟨hHeld, (by (with_reducible repeat (first | apply Kd.R_alloc | apply Kd.R_drewN | apply Kd.R_drew)); exact HO163.out), (by (with_reducible repeat (first | refine blk_drewN ?_ _ | refine blk_drew ?_ | refine blk_alloc ?_ _)); exact BK158.out), (by repeat (first | (with_reducible first | exact HB.out | apply below_alloc | apply pw_below_drewN | apply below_drew1 | refine below_set ?_ GE158.out) | exact HB.out))⟩)
                rintro v162 w22 ⟨hS_, h0_, h1_, h2_⟩
                have n0_ : Aside0 (Kd.R (Kd.int .u8) 5 w22 w.heap.size (fun _ => True) v162 y161) := ⟨h0_⟩
                have n1_ : Aside0 (w22.heap[gb158]? = some (.cells #[.int .i64 a0_0, .string a0_1, .string a0_2, .int .i64 a0_3, .int .i64 a0_4] 23 (0, 0))) := ⟨h1_⟩
                have n2_ : Aside0 (Below w.heap.size w w22) := ⟨h2_⟩
                clear BK158
                clear HB
                clear h0_ h1_ h2_
                have HO163 := n0_
                have BK158 := n1_
                have HB := n2_
                clear n0_ n1_ n2_
                have hHeld : w22.cell? ⟨gb158, 0, none⟩ = some (.int .i64 a0_0) ∧ w22.cell? ⟨gb158, 1, none⟩ = some (.string a0_1) ∧ w22.cell? ⟨gb158, 2, none⟩ = some (.string a0_2) ∧ w22.cell? ⟨gb158, 3, none⟩ = some (.int .i64 a0_3) ∧ w22.cell? ⟨gb158, 4, none⟩ = some (.int .i64 a0_4) := hS_
                refine norm_ (a' := ?_) ?_ ?_
                rotate_left
                · simp only [putAll, Act.put, List.setIfInBounds_toArray, List.set_cons_zero, List.set_cons_succ]
                  rfl
                refine pure_ (i := 15) (N := some 36) (v := ?_) (a' := ?_) #[true, true, true, true, true, true, true, true, true, true, true, true, true, true, true, true, false] rfl rfl (any_of HT_.out (by kernel_rfl)) (fun _ _ _ h => h) (Or.inl ⟨by rfl, ?_⟩) ?_ ?_
                rotate_left
                · intro w'
                  go_simp
                  with_reducible rfl
                rotate_left
                · simp only [Act.put, List.setIfInBounds_toArray, List.set_cons_zero, List.set_cons_succ, i64_w, i32_w]
                  rfl
                refine pure_ (i := 16) (N := some 2) (v := ?_) (a' := ?_) #[true, true, true, true, true, true, true, true, true, true, true, true, true, true, true, true, true] rfl rfl (any_of HT_.out (by kernel_rfl)) (fun _ _ _ h => h) (Or.inl ⟨by rfl, ?_⟩) ?_ ?_
                rotate_left
                · intro w'
                  go_simp
                  with_reducible rfl
                rotate_left
                · simp only [Act.put, List.setIfInBounds_toArray, List.set_cons_zero, List.set_cons_succ, i64_w, i32_w]
                  rfl
                refine done_ (done_of HT_.out (by kernel_rfl)) ?_
                try go_wp2
                go_ret
                exact ⟨by first | rfl | (simp [errW_none, errW_some] <;> rfl) | (simp [*, errW_none, errW_some] <;> rfl), by repeat (first | (with_reducible first | exact HB.out | apply below_alloc | apply pw_below_drewN | apply below_drew1 | refine below_set ?_ GE158.out) | exact HB.out)⟩
              · rw [if_neg c14] at H
                exact absurd H (by simp)
            · rw [if_neg c13] at H
              exact absurd H (by simp)
          · rw [if_neg c11] at H
            have c11b0 : (a0_0 == 3) = false := beq_eq_false_iff_ne.mpr c11
            have c11b1 : (a0_0 != 3) = true := bne_iff_ne.mpr c11
            by_cases c23 : a0_0 = 4
            · rw [if_pos c23] at H
              have c23b0 : (a0_0 == 4) = true := beq_iff_eq.mpr c23
              have c23b1 : (a0_0 != 4) = false := bne_eq_false_iff_eq.mpr c23
              clear c23
              replace H := Option.bind_eq_some_iff.mp H
              obtain ⟨t164, A240, H⟩ := H
              replace H : (if ((⟨#[32, 110, 105, 99, 100, 112, 114, 117, 102, 103, 116]⟩ : ByteArray).extract (a0_0 : Int).toNat ((wrap64 (a0_0 + 1)) : Int).toNat).size + t164.size ≤ 9223372036854775807 then (if (((⟨#[32, 110, 105, 99, 100, 112, 114, 117, 102, 103, 116]⟩ : ByteArray).extract (a0_0 : Int).toNat ((wrap64 (a0_0 + 1)) : Int).toNat) ++ t164).size + a0_1.size ≤ 9223372036854775807 then (some ((((⟨#[32, 110, 105, 99, 100, 112, 114, 117, 102, 103, 116]⟩ : ByteArray).extract (a0_0 : Int).toNat ((wrap64 (a0_0 + 1)) : Int).toNat) ++ t164) ++ a0_1)) else (none)) else (none)) = some r := H
              have A24 := Aside0.mk A240
              clear A240
              by_cases c25 : ((⟨#[32, 110, 105, 99, 100, 112, 114, 117, 102, 103, 116]⟩ : ByteArray).extract (a0_0 : Int).toNat ((wrap64 (a0_0 + 1)) : Int).toNat).size + t164.size ≤ 9223372036854775807
              · rw [if_pos c25] at H
                have c25b0 := eq_true c25
                have c25b1 : decide (((⟨#[32, 110, 105, 99, 100, 112, 114, 117, 102, 103, 116]⟩ : ByteArray).extract (a0_0 : Int).toNat ((wrap64 (a0_0 + 1)) : Int).toNat).size + t164.size ≤ 9223372036854775807) = true := decide_eq_true c25
                try have c25b2 : (9223372036854775807 < ((⟨#[32, 110, 105, 99, 100, 112, 114, 117, 102, 103, 116]⟩ : ByteArray).extract (a0_0 : Int).toNat ((wrap64 (a0_0 + 1)) : Int).toNat).size + t164.size) = False := eq_false (Nat.not_lt.2 c25)
                try have c25b3 : (9223372036854775807 < ((⟨#[32, 110, 105, 99, 100, 112, 114, 117, 102, 103, 116]⟩ : ByteArray).extract (a0_0 : Int).toNat ((wrap64 (a0_0 + 1)) : Int).toNat).size + t164.size) = False := eq_false (by (have h0_ := Nat.not_lt.2 c25); (simp only [ByteArray.size_append, ByteArray.size_extract] at h0_);  omega)
                try have c25b5 : (9223372036854775807 < ((min ((wrap64 (a0_0 + 1)) : Int).toNat 11) - (a0_0 : Int).toNat) + t164.size) = False := eq_false (by (have h0_ := Nat.not_lt.2 c25); (simp only [ByteArray.size_append, ByteArray.size_extract] at h0_);  (try simp only [show (⟨#[32, 110, 105, 99, 100, 112, 114, 117, 102, 103, 116]⟩ : ByteArray).size = 11 from rfl] at h0_); omega)
                try have c25b6 : (9223372036854775807 < (((wrap64 (a0_0 + 1)) : Int).toNat - (a0_0 : Int).toNat) + t164.size) = False := eq_false (by (have h0_ := Nat.not_lt.2 c25); (simp only [ByteArray.size_append, ByteArray.size_extract] at h0_); (try have hc4_ := of_decide_eq_true c4b1); (try simp only [show (⟨#[32, 110, 105, 99, 100, 112, 114, 117, 102, 103, 116]⟩ : ByteArray).size = 11 from rfl] at h0_); omega)
                by_cases c26 : (((⟨#[32, 110, 105, 99, 100, 112, 114, 117, 102, 103, 116]⟩ : ByteArray).extract (a0_0 : Int).toNat ((wrap64 (a0_0 + 1)) : Int).toNat) ++ t164).size + a0_1.size ≤ 9223372036854775807
                · rw [if_pos c26] at H
                  have c26b0 := eq_true c26
                  have c26b1 : decide ((((⟨#[32, 110, 105, 99, 100, 112, 114, 117, 102, 103, 116]⟩ : ByteArray).extract (a0_0 : Int).toNat ((wrap64 (a0_0 + 1)) : Int).toNat) ++ t164).size + a0_1.size ≤ 9223372036854775807) = true := decide_eq_true c26
                  try have c26b2 : (9223372036854775807 < (((⟨#[32, 110, 105, 99, 100, 112, 114, 117, 102, 103, 116]⟩ : ByteArray).extract (a0_0 : Int).toNat ((wrap64 (a0_0 + 1)) : Int).toNat) ++ t164).size + a0_1.size) = False := eq_false (Nat.not_lt.2 c26)
                  try have c26b3 : (9223372036854775807 < (((⟨#[32, 110, 105, 99, 100, 112, 114, 117, 102, 103, 116]⟩ : ByteArray).extract (a0_0 : Int).toNat ((wrap64 (a0_0 + 1)) : Int).toNat) ++ t164).size + a0_1.size) = False := eq_false (by (have h0_ := Nat.not_lt.2 c26); (simp only [ByteArray.size_append, ByteArray.size_extract] at h0_);  omega)
                  try have c26b5 : (9223372036854775807 < (((min ((wrap64 (a0_0 + 1)) : Int).toNat 11) - (a0_0 : Int).toNat) + t164.size) + a0_1.size) = False := eq_false (by (have h0_ := Nat.not_lt.2 c26); (simp only [ByteArray.size_append, ByteArray.size_extract] at h0_);  (try simp only [show (⟨#[32, 110, 105, 99, 100, 112, 114, 117, 102, 103, 116]⟩ : ByteArray).size = 11 from rfl] at h0_); omega)
                  try have c26b6 : (9223372036854775807 < ((((wrap64 (a0_0 + 1)) : Int).toNat - (a0_0 : Int).toNat) + t164.size) + a0_1.size) = False := eq_false (by (have h0_ := Nat.not_lt.2 c26); (simp only [ByteArray.size_append, ByteArray.size_extract] at h0_); (try have hc4_ := of_decide_eq_true c4b1); (try simp only [show (⟨#[32, 110, 105, 99, 100, 112, 114, 117, 102, 103, 116]⟩ : ByteArray).size = 11 from rfl] at h0_); omega)
                  obtain rfl := Option.some.inj H
                  go_enter Try.func16, Try.ntmps16
                  try go_wp2_with (first | ((with_reducible refine gate_dst (N := 1) rfl ?_); refine box_event ?hg (N := 1) ?hd (cs := #[.int .i64 a0_0, .string a0_1, .string a0_2, .int .i64 a0_3, .int .i64 a0_4]) (t := 23) ?hr ?_; (case hd => rfl); (case hg => rfl); (case hr => first | (go_simp; done) | (go_simp; rfl)); intro gb158 hg w27 hbox hb; have n0_ := Aside0.mk (below_step (by repeat (first | (with_reducible first | exact HB.out | apply below_alloc | apply pw_below_drewN | apply below_drew1) | exact HB.out)) hb); have n1_ := Aside0.mk (hbox); have n2_ := Aside0.mk ((by rw [hg]; exact (below_size (by repeat (first | (with_reducible first | exact HB.out | apply below_alloc | apply pw_below_drewN | apply below_drew1) | exact HB.out))) : w.heap.size ≤ gb158)); have n3_ := Aside0.mk ((by rw [hg]; exact (below_size (by repeat (first | (with_reducible first | exact HB.out | apply below_alloc | apply pw_below_drewN | apply below_drew1) | exact HB.out))) : w.heap.size ≤ gb158)); clear HB; have HB := n0_; have BK158 := n1_; have GW158 := n2_; have GE158 := n3_; clear n0_ n1_ n2_ n3_; clear hb hbox hg; have hcz28_0 : w27.cell? ⟨gb158, 0, none⟩ = some (.int .i64 a0_0) := (blk_cell BK158.out 0).trans rfl; have hcz28_1 : w27.cell? ⟨gb158, 1, none⟩ = some (.string a0_1) := (blk_cell BK158.out 1).trans rfl; have hcz28_2 : w27.cell? ⟨gb158, 2, none⟩ = some (.string a0_2) := (blk_cell BK158.out 2).trans rfl; have hcz28_3 : w27.cell? ⟨gb158, 3, none⟩ = some (.int .i64 a0_3) := (blk_cell BK158.out 3).trans rfl; have hcz28_4 : w27.cell? ⟨gb158, 4, none⟩ = some (.int .i64 a0_4) := (blk_cell BK158.out 4).trans rfl; have hfz28_0 := blk_frozen BK158.out 0; have hfz28_1 := blk_frozen BK158.out 1; have hfz28_2 := blk_frozen BK158.out 2; have hfz28_3 := blk_frozen BK158.out 3; have hfz28_4 := blk_frozen BK158.out 4))
                  have n0_ := Aside0.mk (blk_drew BK158.out)
                  have n1_ := Aside0.mk (below_drew1 HB.out)
                  clear BK158
                  clear HB
                  have BK158 := n0_
                  have HB := n1_
                  clear n0_ n1_
                  refine start_ (n := 9) (S := fun w' => w'.cell? ⟨gb158, 0, none⟩ = some (.int .i64 a0_0) ∧ w'.cell? ⟨gb158, 1, none⟩ = some (.string a0_1) ∧ w'.cell? ⟨gb158, 2, none⟩ = some (.string a0_2) ∧ w'.cell? ⟨gb158, 3, none⟩ = some (.int .i64 a0_3) ∧ w'.cell? ⟨gb158, 4, none⟩ = some (.int .i64 a0_4)) (ds := []) #[false, false, false, false, false, false, false, false, false] (by kernel_rfl) rfl rfl ⟨(blk_cell BK158.out 0).trans rfl, (blk_cell BK158.out 1).trans rfl, (blk_cell BK158.out 2).trans rfl, (blk_cell BK158.out 3).trans rfl, (blk_cell BK158.out 4).trans rfl⟩ (fun hHeld => ?_); refine with_tabW chandleryref11_Bytes.tab8 chandleryref11_Bytes.bits8 (fun HT_ HW_ => ?_)
                  generalize w27.drew = w29 at BK158 HB hHeld ⊢
                  refine pure_ (i := 0) (N := some 39) (v := ?_) (a' := ?_) #[true, false, false, false, false, false, false, false, false] rfl rfl (any_of HT_.out (by kernel_rfl)) (fun _ _ _ h => h) (Or.inl ⟨by rfl, ?_⟩) ?_ ?_
                  rotate_left
                  · intro w'
                    go_simp
                    with_reducible rfl
                  rotate_left
                  · simp only [Act.put, List.setIfInBounds_toArray, List.set_cons_zero, List.set_cons_succ, i64_w, i32_w]
                    rfl
                  refine pure_ (i := 1) (N := some 40) (v := ?_) (a' := ?_) #[true, true, false, false, false, false, false, false, false] rfl rfl (any_of HT_.out (by kernel_rfl)) (fun _ _ _ h => h) (Or.inl ⟨by rfl, ?_⟩) ?_ ?_
                  rotate_left
                  · intro w'
                    go_simp
                    with_reducible rfl
                  rotate_left
                  · simp only [Act.put, List.setIfInBounds_toArray, List.set_cons_zero, List.set_cons_succ, i64_w, i32_w]
                    rfl
                  refine pure_ (i := 5) (N := some 44) (v := ?_) (a' := ?_) #[true, true, false, false, false, true, false, false, false] rfl rfl (any_of HT_.out (by kernel_rfl)) (fun _ _ _ h => h) (Or.inl ⟨by rfl, ?_⟩) ?_ ?_
                  rotate_left
                  · intro w'
                    go_simp
                    with_reducible rfl
                  rotate_left
                  · simp only [Act.put, List.setIfInBounds_toArray, List.set_cons_zero, List.set_cons_succ, i64_w, i32_w]
                    rfl
                  refine take_ (i := 2) (N := some 41) (v := ?_) (a' := ?_) #[true, true, true, false, false, true, false, false, false] rfl rfl (take_ofW HT_.out HW_.out (by kernel_rfl)) (fun _ _ _ h => h) (Or.inl ⟨by rfl, ?_⟩) hHeld ?_ ?_
                  rotate_left
                  · rintro w' ⟨s0, s1, s2, s3, s4⟩
                    go_simp
                    with_reducible rfl
                  rotate_left
                  · simp only [Act.put, List.setIfInBounds_toArray, List.set_cons_zero, List.set_cons_succ, i64_w, i32_w]
                    rfl
                  refine take_ (i := 6) (N := some 45) (v := ?_) (a' := ?_) #[true, true, true, false, false, true, true, false, false] rfl rfl (take_ofW HT_.out HW_.out (by kernel_rfl)) (fun _ _ _ h => h) (Or.inl ⟨by rfl, ?_⟩) hHeld ?_ ?_
                  rotate_left
                  · rintro w' ⟨s0, s1, s2, s3, s4⟩
                    go_simp
                    with_reducible rfl
                  rotate_left
                  · simp only [Act.put, List.setIfInBounds_toArray, List.set_cons_zero, List.set_cons_succ, i64_w, i32_w]
                    rfl
                  refine one_ (i := 3) (N := some 42) #[true, true, true, true, false, true, true, false, false] rfl rfl (one_of HT_.out (by kernel_rfl)) (by decide) (fun K hK => ?_)
                  refine goes_ Try.func26 (by kernel_rfl) rfl #[.int .i64 a0_3] (by rfl) rfl rfl (by (try simp only [List.map_toArray, List.map_cons, List.map_nil]); first | done | rfl | (simp only [List.length_drop, List.length_take]; rfl)) ?_
                  with_reducible refine (chandleryref11_three.calls a0_3 t164 _ A24.out).mono ?_
                  rintro e w30 ⟨rfl, hb⟩
                  refine ⟨_, rfl, ?_⟩
                  have n0_ := Aside0.mk (blk_below (g := gb158) (o := .cells #[.int .i64 a0_0, .string a0_1, .string a0_2, .int .i64 a0_3, .int .i64 a0_4] 23 (0, 0)) (by (with_reducible repeat (first | refine blk_drewN ?_ _ | refine blk_drew ?_ | refine blk_alloc ?_ _)); exact BK158.out) hb)
                  have n1_ := Aside0.mk (below_step (by repeat (first | (with_reducible first | exact HB.out | apply below_alloc | apply pw_below_drewN | apply below_drew1 | refine below_set ?_ GE158.out) | exact HB.out)) hb)
                  clear BK158
                  clear HB
                  have BK158 := n0_
                  have HB := n1_
                  clear n0_ n1_
                  (try clear hb)
                  (try clear hb2)
                  (try clear hk)
                  (try clear hi)
                  refine hK.out _ _ ⟨(blk_cell BK158.out 0).trans rfl, (blk_cell BK158.out 1).trans rfl, (blk_cell BK158.out 2).trans rfl, (blk_cell BK158.out 3).trans rfl, (blk_cell BK158.out 4).trans rfl⟩ (fun hHeld => ?_)
                  clear hK K
                  refine norm_ (a' := ?_) ?_ ?_
                  rotate_left
                  · show Act.put _ (some 42) _ = _
                    simp only [Act.put, List.setIfInBounds_toArray, List.set_cons_zero, List.set_cons_succ, i64_w, i32_w]
                    rfl
                  refine pure_ (i := 4) (N := some 43) (v := ?_) (a' := ?_) #[true, true, true, true, true, true, true, false, false] rfl rfl (any_of HT_.out (by kernel_rfl)) (fun _ _ _ h => h) (Or.inl ⟨by rfl, ?_⟩) ?_ ?_
                  rotate_left
                  · intro w'
                    go_simp
                    with_reducible rfl
                  rotate_left
                  · simp only [Act.put, List.setIfInBounds_toArray, List.set_cons_zero, List.set_cons_succ, i64_w, i32_w]
                    rfl
                  refine pure_ (i := 7) (N := some 46) (v := ?_) (a' := ?_) #[true, true, true, true, true, true, true, true, false] rfl rfl (any_of HT_.out (by kernel_rfl)) (fun _ _ _ h => h) (Or.inl ⟨by rfl, ?_⟩) ?_ ?_
                  rotate_left
                  · intro w'
                    go_simp
                    with_reducible rfl
                  rotate_left
                  · simp only [Act.put, List.setIfInBounds_toArray, List.set_cons_zero, List.set_cons_succ, i64_w, i32_w]
                    rfl
                  refine pure_ (i := 8) (N := some 2) (v := ?_) (a' := ?_) #[true, true, true, true, true, true, true, true, true] rfl rfl (any_of HT_.out (by kernel_rfl)) (fun _ _ _ h => h) (Or.inl ⟨by rfl, ?_⟩) ?_ ?_
                  rotate_left
                  · intro w'
                    go_simp
                    with_reducible rfl
                  rotate_left
                  · simp only [Act.put, List.setIfInBounds_toArray, List.set_cons_zero, List.set_cons_succ, i64_w, i32_w]
                    rfl
                  refine done_ (done_of HT_.out (by kernel_rfl)) ?_
                  try go_wp2
                  go_ret
                  exact ⟨by first | rfl | (simp [errW_none, errW_some] <;> rfl) | (simp [*, errW_none, errW_some] <;> rfl), by repeat (first | (with_reducible first | exact HB.out | apply below_alloc | apply pw_below_drewN | apply below_drew1 | refine below_set ?_ GE158.out) | exact HB.out)⟩
                · rw [if_neg c26] at H
                  exact absurd H (by simp)
              · rw [if_neg c25] at H
                exact absurd H (by simp)
            · rw [if_neg c23] at H
              have c23b0 : (a0_0 == 4) = false := beq_eq_false_iff_ne.mpr c23
              have c23b1 : (a0_0 != 4) = true := bne_iff_ne.mpr c23
              have HC31 := Aside0.mk H
              clear H
              go_enter Try.func16, Try.ntmps16
              go_upto_if 47 with (first | ((with_reducible refine gate_dst (N := 1) rfl ?_); refine box_event ?hg (N := 1) ?hd (cs := #[.int .i64 a0_0, .string a0_1, .string a0_2, .int .i64 a0_3, .int .i64 a0_4]) (t := 23) ?hr ?_; (case hd => rfl); (case hg => rfl); (case hr => first | (go_simp; done) | (go_simp; rfl)); intro gb158 hg w32 hbox hb; have n0_ := Aside0.mk (below_step (by repeat (first | (with_reducible first | exact HB.out | apply below_alloc | apply pw_below_drewN | apply below_drew1) | exact HB.out)) hb); have n1_ := Aside0.mk (hbox); have n2_ := Aside0.mk ((by rw [hg]; exact (below_size (by repeat (first | (with_reducible first | exact HB.out | apply below_alloc | apply pw_below_drewN | apply below_drew1) | exact HB.out))) : w.heap.size ≤ gb158)); have n3_ := Aside0.mk ((by rw [hg]; exact (below_size (by repeat (first | (with_reducible first | exact HB.out | apply below_alloc | apply pw_below_drewN | apply below_drew1) | exact HB.out))) : w.heap.size ≤ gb158)); clear HB; have HB := n0_; have BK158 := n1_; have GW158 := n2_; have GE158 := n3_; clear n0_ n1_ n2_ n3_; clear hb hbox hg; have hcz33_0 : w32.cell? ⟨gb158, 0, none⟩ = some (.int .i64 a0_0) := (blk_cell BK158.out 0).trans rfl; have hcz33_1 : w32.cell? ⟨gb158, 1, none⟩ = some (.string a0_1) := (blk_cell BK158.out 1).trans rfl; have hcz33_2 : w32.cell? ⟨gb158, 2, none⟩ = some (.string a0_2) := (blk_cell BK158.out 2).trans rfl; have hcz33_3 : w32.cell? ⟨gb158, 3, none⟩ = some (.int .i64 a0_3) := (blk_cell BK158.out 3).trans rfl; have hcz33_4 : w32.cell? ⟨gb158, 4, none⟩ = some (.int .i64 a0_4) := (blk_cell BK158.out 4).trans rfl; have hfz33_0 := blk_frozen BK158.out 0; have hfz33_1 := blk_frozen BK158.out 1; have hfz33_2 := blk_frozen BK158.out 2; have hfz33_3 := blk_frozen BK158.out 3; have hfz33_4 := blk_frozen BK158.out 4))
              (try simp only [Act.put, List.setIfInBounds_toArray, List.set_cons_zero, List.set_cons_succ])
              go_cut [47] (fun v47 wc => ∃ (kq : Nat) (x47_30 : Bool), v47 = .bool x47_30 ∧ Aside0 (chandleryref11_Bytes.j0 kq ((⟨#[32, 110, 105, 99, 100, 112, 114, 117, 102, 103, 116]⟩ : ByteArray).extract (a0_0 : Int).toNat ((wrap64 (a0_0 + 1)) : Int).toNat) a0_0 x47_30 a0_0 a0_1 a0_2 a0_3 a0_4 = some r) ∧ Aside0 (kq ≤ k) ∧ Aside0 (wc.heap[gb158]? = some (.cells #[.int .i64 a0_0, .string a0_1, .string a0_2, .int .i64 a0_3, .int .i64 a0_4] 23 (0, 0))) ∧ Aside0 (Below w.heap.size w wc))
              case first =>
                have H := HC31.out
                clear HC31
                by_cases c34 : a0_0 = 6
                · rw [if_pos c34] at H
                  have c34b0 : (a0_0 == 6) = true := beq_iff_eq.mpr c34
                  have c34b1 : (a0_0 != 6) = false := bne_eq_false_iff_eq.mpr c34
                  clear c34
                  (first | rw [c34b0] | (simp only [i64_w, i32_w]; rw [c34b0]) | skip)
                  have H' := Aside0.mk H
                  clear H
                  go_wp2
                  go_meet
                  case rel => exact ⟨_, ((a0_0 == 6)), (by first | rfl | (simp; done) | exact congrArg Value.bool (Go.Proofs.YtcohfhclcoiigaaX.isEmpty_ne_ _) | exact congrArg Value.bool (Go.Proofs.YtcohfhclcoiigaaX.ne_isEmpty_ _) | (simp [*]; done)), H', ⟨by first | omega | exact Nat.le_refl _⟩, ⟨by (with_reducible repeat (first | refine blk_drewN ?_ _ | refine blk_drew ?_ | refine blk_alloc ?_ _)); exact BK158.out⟩, ⟨by repeat (first | (with_reducible first | exact HB.out | apply below_alloc | apply pw_below_drewN | apply below_drew1 | refine below_set ?_ GE158.out) | exact HB.out)⟩⟩
                · rw [if_neg c34] at H
                  have c34b0 : (a0_0 == 6) = false := beq_eq_false_iff_ne.mpr c34
                  have c34b1 : (a0_0 != 6) = true := bne_iff_ne.mpr c34
                  (first | rw [c34b0] | (simp only [i64_w, i32_w]; rw [c34b0]) | skip)
                  have H' := Aside0.mk H
                  clear H
                  go_wp2
                  go_meet
                  case rel => exact ⟨_, ((a0_0 == 7)), (by first | rfl | (simp; done) | exact congrArg Value.bool (Go.Proofs.YtcohfhclcoiigaaX.isEmpty_ne_ _) | exact congrArg Value.bool (Go.Proofs.YtcohfhclcoiigaaX.ne_isEmpty_ _) | (simp [*]; done)), H', ⟨by first | omega | exact Nat.le_refl _⟩, ⟨by (with_reducible repeat (first | refine blk_drewN ?_ _ | refine blk_drew ?_ | refine blk_alloc ?_ _)); exact BK158.out⟩, ⟨by repeat (first | (with_reducible first | exact HB.out | apply below_alloc | apply pw_below_drewN | apply below_drew1 | refine below_set ?_ GE158.out) | exact HB.out)⟩⟩
              case rest =>
                clear HC31
                try clear c1
                try clear c2
                try clear c2b0
                try clear c2b1
                try clear p2
                try clear hcv2
                try clear hcv2u
                try clear c3
                try clear c3b0
                try clear c3b1
                try clear c4
                try clear c4b0
                try clear c4b1
                try clear c5
                try clear c5b0
                try clear c5b1
                try clear p6
                try clear c7
                try clear c7b0
                try clear c7b1
                try clear c7b2
                try clear c11
                try clear c11b0
                try clear c11b1
                try clear c13
                try clear c13b0
                try clear c13b1
                try clear c13b2
                try clear c14
                try clear c14b0
                try clear c14b1
                try clear c14b2
                try clear c16
                try clear hcv20
                try clear hcv20u
                try clear hcv21
                try clear hcv21u
                try clear c23
                try clear c23b0
                try clear c23b1
                try clear c25
                try clear c25b0
                try clear c25b1
                try clear c25b2
                try clear c26
                try clear c26b0
                try clear c26b1
                try clear c26b2
                try clear c34
                try clear c34b0
                try clear c34b1
                try clear hcz16_0
                try clear hcz16_1
                try clear hcz16_2
                try clear hcz16_3
                try clear hcz16_4
                try clear hcz28_0
                try clear hcz28_1
                try clear hcz28_2
                try clear hcz28_3
                try clear hcz28_4
                try clear hcz33_0
                try clear hcz33_1
                try clear hcz33_2
                try clear hcz33_3
                try clear hcz33_4
                try clear hcz9_0
                try clear hcz9_1
                try clear hcz9_2
                try clear hcz9_3
                try clear hcz9_4
                try clear hfz16_0
                try clear hfz16_1
                try clear hfz16_2
                try clear hfz16_3
                try clear hfz16_4
                try clear hfz28_0
                try clear hfz28_1
                try clear hfz28_2
                try clear hfz28_3
                try clear hfz28_4
                try clear hfz33_0
                try clear hfz33_1
                try clear hfz33_2
                try clear hfz33_3
                try clear hfz33_4
                try clear hfz9_0
                try clear hfz9_1
                try clear hfz9_2
                try clear hfz9_3
                try clear hfz9_4
                obtain ⟨kq, x47_30, rfl, HA, HJ30, BK158, HB⟩ := hcut
                cases kq with
                | zero => exact absurd HA.out (by simp [chandleryref11_Bytes.j0])
                | succ kj30 =>
                  have H := HA.out
                  clear HA
                  simp only [chandleryref11_Bytes.j0] at H
                  by_cases c35 : x47_30 = true
                  · subst c35
                    have H1 : (if ((⟨#[32, 110, 105, 99, 100, 112, 114, 117, 102, 103, 116]⟩ : ByteArray).extract (a0_0 : Int).toNat ((wrap64 (a0_0 + 1)) : Int).toNat).size + a0_1.size ≤ 9223372036854775807 then (if (((⟨#[32, 110, 105, 99, 100, 112, 114, 117, 102, 103, 116]⟩ : ByteArray).extract (a0_0 : Int).toNat ((wrap64 (a0_0 + 1)) : Int).toNat) ++ a0_1).size + 1 ≤ 9223372036854775807 then (if ((((⟨#[32, 110, 105, 99, 100, 112, 114, 117, 102, 103, 116]⟩ : ByteArray).extract (a0_0 : Int).toNat ((wrap64 (a0_0 + 1)) : Int).toNat) ++ a0_1) ++ (⟨#[0]⟩ : ByteArray)).size + a0_2.size ≤ 9223372036854775807 then (some (((((⟨#[32, 110, 105, 99, 100, 112, 114, 117, 102, 103, 116]⟩ : ByteArray).extract (a0_0 : Int).toNat ((wrap64 (a0_0 + 1)) : Int).toNat) ++ a0_1) ++ (⟨#[0]⟩ : ByteArray)) ++ a0_2)) else (none)) else (none)) else (none)) = some r := by rw [if_pos rfl] at H; exact H
                    clear H
                    have H := H1
                    clear H1
                    by_cases c36 : ((⟨#[32, 110, 105, 99, 100, 112, 114, 117, 102, 103, 116]⟩ : ByteArray).extract (a0_0 : Int).toNat ((wrap64 (a0_0 + 1)) : Int).toNat).size + a0_1.size ≤ 9223372036854775807
                    · rw [if_pos c36] at H
                      have c36b0 := eq_true c36
                      have c36b1 : decide (((⟨#[32, 110, 105, 99, 100, 112, 114, 117, 102, 103, 116]⟩ : ByteArray).extract (a0_0 : Int).toNat ((wrap64 (a0_0 + 1)) : Int).toNat).size + a0_1.size ≤ 9223372036854775807) = true := decide_eq_true c36
                      try have c36b2 : (9223372036854775807 < ((⟨#[32, 110, 105, 99, 100, 112, 114, 117, 102, 103, 116]⟩ : ByteArray).extract (a0_0 : Int).toNat ((wrap64 (a0_0 + 1)) : Int).toNat).size + a0_1.size) = False := eq_false (Nat.not_lt.2 c36)
                      try have c36b3 : (9223372036854775807 < ((⟨#[32, 110, 105, 99, 100, 112, 114, 117, 102, 103, 116]⟩ : ByteArray).extract (a0_0 : Int).toNat ((wrap64 (a0_0 + 1)) : Int).toNat).size + a0_1.size) = False := eq_false (by (have h0_ := Nat.not_lt.2 c36); (simp only [ByteArray.size_append, ByteArray.size_extract] at h0_);  omega)
                      try have c36b5 : (9223372036854775807 < ((min ((wrap64 (a0_0 + 1)) : Int).toNat 11) - (a0_0 : Int).toNat) + a0_1.size) = False := eq_false (by (have h0_ := Nat.not_lt.2 c36); (simp only [ByteArray.size_append, ByteArray.size_extract] at h0_);  (try simp only [show (⟨#[32, 110, 105, 99, 100, 112, 114, 117, 102, 103, 116]⟩ : ByteArray).size = 11 from rfl] at h0_); omega)
                      try have c36b6 : (9223372036854775807 < (((wrap64 (a0_0 + 1)) : Int).toNat - (a0_0 : Int).toNat) + a0_1.size) = False := eq_false (by (have h0_ := Nat.not_lt.2 c36); (simp only [ByteArray.size_append, ByteArray.size_extract] at h0_); (try have hc4_ := of_decide_eq_true c4b1); (try simp only [show (⟨#[32, 110, 105, 99, 100, 112, 114, 117, 102, 103, 116]⟩ : ByteArray).size = 11 from rfl] at h0_); omega)
                      by_cases c37 : (((⟨#[32, 110, 105, 99, 100, 112, 114, 117, 102, 103, 116]⟩ : ByteArray).extract (a0_0 : Int).toNat ((wrap64 (a0_0 + 1)) : Int).toNat) ++ a0_1).size + 1 ≤ 9223372036854775807
                      · rw [if_pos c37] at H
                        have c37b0 := eq_true c37
                        have c37b1 : decide ((((⟨#[32, 110, 105, 99, 100, 112, 114, 117, 102, 103, 116]⟩ : ByteArray).extract (a0_0 : Int).toNat ((wrap64 (a0_0 + 1)) : Int).toNat) ++ a0_1).size + 1 ≤ 9223372036854775807) = true := decide_eq_true c37
                        try have c37b2 : (9223372036854775807 < (((⟨#[32, 110, 105, 99, 100, 112, 114, 117, 102, 103, 116]⟩ : ByteArray).extract (a0_0 : Int).toNat ((wrap64 (a0_0 + 1)) : Int).toNat) ++ a0_1).size + 1) = False := eq_false (Nat.not_lt.2 c37)
                        try have c37b3 : (9223372036854775807 < (((⟨#[32, 110, 105, 99, 100, 112, 114, 117, 102, 103, 116]⟩ : ByteArray).extract (a0_0 : Int).toNat ((wrap64 (a0_0 + 1)) : Int).toNat) ++ a0_1).size + 1) = False := eq_false (by (have h0_ := Nat.not_lt.2 c37); (simp only [ByteArray.size_append, ByteArray.size_extract] at h0_);  omega)
                        try have c37b5 : (9223372036854775807 < (((min ((wrap64 (a0_0 + 1)) : Int).toNat 11) - (a0_0 : Int).toNat) + a0_1.size) + 1) = False := eq_false (by (have h0_ := Nat.not_lt.2 c37); (simp only [ByteArray.size_append, ByteArray.size_extract] at h0_);  (try simp only [show (⟨#[32, 110, 105, 99, 100, 112, 114, 117, 102, 103, 116]⟩ : ByteArray).size = 11 from rfl] at h0_); omega)
                        try have c37b6 : (9223372036854775807 < ((((wrap64 (a0_0 + 1)) : Int).toNat - (a0_0 : Int).toNat) + a0_1.size) + 1) = False := eq_false (by (have h0_ := Nat.not_lt.2 c37); (simp only [ByteArray.size_append, ByteArray.size_extract] at h0_); (try have hc4_ := of_decide_eq_true c4b1); (try simp only [show (⟨#[32, 110, 105, 99, 100, 112, 114, 117, 102, 103, 116]⟩ : ByteArray).size = 11 from rfl] at h0_); omega)
                        by_cases c38 : ((((⟨#[32, 110, 105, 99, 100, 112, 114, 117, 102, 103, 116]⟩ : ByteArray).extract (a0_0 : Int).toNat ((wrap64 (a0_0 + 1)) : Int).toNat) ++ a0_1) ++ (⟨#[0]⟩ : ByteArray)).size + a0_2.size ≤ 9223372036854775807
                        · rw [if_pos c38] at H
                          have c38b0 := eq_true c38
                          have c38b1 : decide (((((⟨#[32, 110, 105, 99, 100, 112, 114, 117, 102, 103, 116]⟩ : ByteArray).extract (a0_0 : Int).toNat ((wrap64 (a0_0 + 1)) : Int).toNat) ++ a0_1) ++ (⟨#[0]⟩ : ByteArray)).size + a0_2.size ≤ 9223372036854775807) = true := decide_eq_true c38
                          try have c38b2 : (9223372036854775807 < ((((⟨#[32, 110, 105, 99, 100, 112, 114, 117, 102, 103, 116]⟩ : ByteArray).extract (a0_0 : Int).toNat ((wrap64 (a0_0 + 1)) : Int).toNat) ++ a0_1) ++ (⟨#[0]⟩ : ByteArray)).size + a0_2.size) = False := eq_false (Nat.not_lt.2 c38)
                          try have c38b3 : (9223372036854775807 < ((((⟨#[32, 110, 105, 99, 100, 112, 114, 117, 102, 103, 116]⟩ : ByteArray).extract (a0_0 : Int).toNat ((wrap64 (a0_0 + 1)) : Int).toNat) ++ a0_1) ++ (⟨#[0]⟩ : ByteArray)).size + a0_2.size) = False := eq_false (by (have h0_ := Nat.not_lt.2 c38); (simp only [ByteArray.size_append, ByteArray.size_extract] at h0_);  omega)
                          try have c38b5 : (9223372036854775807 < ((((min ((wrap64 (a0_0 + 1)) : Int).toNat 11) - (a0_0 : Int).toNat) + a0_1.size) + 1) + a0_2.size) = False := eq_false (by (have h0_ := Nat.not_lt.2 c38); (simp only [ByteArray.size_append, ByteArray.size_extract] at h0_);  (try simp only [show (⟨#[0]⟩ : ByteArray).size = 1 from rfl] at h0_);(try simp only [show (⟨#[32, 110, 105, 99, 100, 112, 114, 117, 102, 103, 116]⟩ : ByteArray).size = 11 from rfl] at h0_); omega)
                          try have c38b6 : (9223372036854775807 < (((((wrap64 (a0_0 + 1)) : Int).toNat - (a0_0 : Int).toNat) + a0_1.size) + 1) + a0_2.size) = False := eq_false (by (have h0_ := Nat.not_lt.2 c38); (simp only [ByteArray.size_append, ByteArray.size_extract] at h0_); (try have hc4_ := of_decide_eq_true c4b1); (try simp only [show (⟨#[0]⟩ : ByteArray).size = 1 from rfl] at h0_);(try simp only [show (⟨#[32, 110, 105, 99, 100, 112, 114, 117, 102, 103, 116]⟩ : ByteArray).size = 11 from rfl] at h0_); omega)
                          obtain rfl := Option.some.inj H
                          have hcz39_0 : wc.cell? ⟨gb158, 0, none⟩ = some (.int .i64 a0_0) := (blk_cell BK158.out 0).trans rfl
                          have hcz39_1 : wc.cell? ⟨gb158, 1, none⟩ = some (.string a0_1) := (blk_cell BK158.out 1).trans rfl
                          have hcz39_2 : wc.cell? ⟨gb158, 2, none⟩ = some (.string a0_2) := (blk_cell BK158.out 2).trans rfl
                          have hcz39_3 : wc.cell? ⟨gb158, 3, none⟩ = some (.int .i64 a0_3) := (blk_cell BK158.out 3).trans rfl
                          have hcz39_4 : wc.cell? ⟨gb158, 4, none⟩ = some (.int .i64 a0_4) := (blk_cell BK158.out 4).trans rfl
                          have hfz39_0 := blk_frozen BK158.out 0
                          have hfz39_1 := blk_frozen BK158.out 1
                          have hfz39_2 := blk_frozen BK158.out 2
                          have hfz39_3 := blk_frozen BK158.out 3
                          have hfz39_4 := blk_frozen BK158.out 4
                          go_wp2
                          go_ret
                          exact ⟨by first | rfl | (simp [errW_none, errW_some] <;> rfl) | (simp [*, errW_none, errW_some] <;> rfl), by repeat (first | (with_reducible first | exact HB.out | apply below_alloc | apply pw_below_drewN | apply below_drew1 | refine below_set ?_ GE158.out) | exact HB.out)⟩
                        · rw [if_neg c38] at H
                          exact absurd H (by simp)
                      · rw [if_neg c37] at H
                        exact absurd H (by simp)
                    · rw [if_neg c36] at H
                      exact absurd H (by simp)
                  · replace c35 := Bool.eq_false_iff.mpr c35
                    subst c35
                    have H1 : (if a0_0 = 9 then (if ((⟨#[32, 110, 105, 99, 100, 112, 114, 117, 102, 103, 116]⟩ : ByteArray).extract (a0_0 : Int).toNat ((wrap64 (a0_0 + 1)) : Int).toNat).size + a0_1.size ≤ 9223372036854775807 then (if (((⟨#[32, 110, 105, 99, 100, 112, 114, 117, 102, 103, 116]⟩ : ByteArray).extract (a0_0 : Int).toNat ((wrap64 (a0_0 + 1)) : Int).toNat) ++ a0_1).size + 1 ≤ 9223372036854775807 then ((chandleryref11_three.f a0_3).bind fun t165 => (if ((((⟨#[32, 110, 105, 99, 100, 112, 114, 117, 102, 103, 116]⟩ : ByteArray).extract (a0_0 : Int).toNat ((wrap64 (a0_0 + 1)) : Int).toNat) ++ a0_1) ++ (⟨#[0]⟩ : ByteArray)).size + t165.size ≤ 9223372036854775807 then (some (((((⟨#[32, 110, 105, 99, 100, 112, 114, 117, 102, 103, 116]⟩ : ByteArray).extract (a0_0 : Int).toNat ((wrap64 (a0_0 + 1)) : Int).toNat) ++ a0_1) ++ (⟨#[0]⟩ : ByteArray)) ++ t165)) else (none))) else (none)) else (none)) else (if ((⟨#[32, 110, 105, 99, 100, 112, 114, 117, 102, 103, 116]⟩ : ByteArray).extract (a0_0 : Int).toNat ((wrap64 (a0_0 + 1)) : Int).toNat).size + a0_1.size ≤ 9223372036854775807 then (some (((⟨#[32, 110, 105, 99, 100, 112, 114, 117, 102, 103, 116]⟩ : ByteArray).extract (a0_0 : Int).toNat ((wrap64 (a0_0 + 1)) : Int).toNat) ++ a0_1)) else (none))) = some r := by rw [if_neg (show ¬ (false = true) by decide)] at H; exact H
                    clear H
                    have H := H1
                    clear H1
                    by_cases c40 : a0_0 = 9
                    · rw [if_pos c40] at H
                      have c40b0 : (a0_0 == 9) = true := beq_iff_eq.mpr c40
                      have c40b1 : (a0_0 != 9) = false := bne_eq_false_iff_eq.mpr c40
                      clear c40
                      by_cases c41 : ((⟨#[32, 110, 105, 99, 100, 112, 114, 117, 102, 103, 116]⟩ : ByteArray).extract (a0_0 : Int).toNat ((wrap64 (a0_0 + 1)) : Int).toNat).size + a0_1.size ≤ 9223372036854775807
                      · rw [if_pos c41] at H
                        have c41b0 := eq_true c41
                        have c41b1 : decide (((⟨#[32, 110, 105, 99, 100, 112, 114, 117, 102, 103, 116]⟩ : ByteArray).extract (a0_0 : Int).toNat ((wrap64 (a0_0 + 1)) : Int).toNat).size + a0_1.size ≤ 9223372036854775807) = true := decide_eq_true c41
                        try have c41b2 : (9223372036854775807 < ((⟨#[32, 110, 105, 99, 100, 112, 114, 117, 102, 103, 116]⟩ : ByteArray).extract (a0_0 : Int).toNat ((wrap64 (a0_0 + 1)) : Int).toNat).size + a0_1.size) = False := eq_false (Nat.not_lt.2 c41)
                        try have c41b3 : (9223372036854775807 < ((⟨#[32, 110, 105, 99, 100, 112, 114, 117, 102, 103, 116]⟩ : ByteArray).extract (a0_0 : Int).toNat ((wrap64 (a0_0 + 1)) : Int).toNat).size + a0_1.size) = False := eq_false (by (have h0_ := Nat.not_lt.2 c41); (simp only [ByteArray.size_append, ByteArray.size_extract] at h0_);  omega)
                        try have c41b5 : (9223372036854775807 < ((min ((wrap64 (a0_0 + 1)) : Int).toNat 11) - (a0_0 : Int).toNat) + a0_1.size) = False := eq_false (by (have h0_ := Nat.not_lt.2 c41); (simp only [ByteArray.size_append, ByteArray.size_extract] at h0_);  (try simp only [show (⟨#[32, 110, 105, 99, 100, 112, 114, 117, 102, 103, 116]⟩ : ByteArray).size = 11 from rfl] at h0_); omega)
                        try have c41b6 : (9223372036854775807 < (((wrap64 (a0_0 + 1)) : Int).toNat - (a0_0 : Int).toNat) + a0_1.size) = False := eq_false (by (have h0_ := Nat.not_lt.2 c41); (simp only [ByteArray.size_append, ByteArray.size_extract] at h0_); (try have hc4_ := of_decide_eq_true c4b1); (try simp only [show (⟨#[32, 110, 105, 99, 100, 112, 114, 117, 102, 103, 116]⟩ : ByteArray).size = 11 from rfl] at h0_); omega)
                        by_cases c42 : (((⟨#[32, 110, 105, 99, 100, 112, 114, 117, 102, 103, 116]⟩ : ByteArray).extract (a0_0 : Int).toNat ((wrap64 (a0_0 + 1)) : Int).toNat) ++ a0_1).size + 1 ≤ 9223372036854775807
                        · rw [if_pos c42] at H
                          have c42b0 := eq_true c42
                          have c42b1 : decide ((((⟨#[32, 110, 105, 99, 100, 112, 114, 117, 102, 103, 116]⟩ : ByteArray).extract (a0_0 : Int).toNat ((wrap64 (a0_0 + 1)) : Int).toNat) ++ a0_1).size + 1 ≤ 9223372036854775807) = true := decide_eq_true c42
                          try have c42b2 : (9223372036854775807 < (((⟨#[32, 110, 105, 99, 100, 112, 114, 117, 102, 103, 116]⟩ : ByteArray).extract (a0_0 : Int).toNat ((wrap64 (a0_0 + 1)) : Int).toNat) ++ a0_1).size + 1) = False := eq_false (Nat.not_lt.2 c42)
                          try have c42b3 : (9223372036854775807 < (((⟨#[32, 110, 105, 99, 100, 112, 114, 117, 102, 103, 116]⟩ : ByteArray).extract (a0_0 : Int).toNat ((wrap64 (a0_0 + 1)) : Int).toNat) ++ a0_1).size + 1) = False := eq_false (by (have h0_ := Nat.not_lt.2 c42); (simp only [ByteArray.size_append, ByteArray.size_extract] at h0_);  omega)
                          try have c42b5 : (9223372036854775807 < (((min ((wrap64 (a0_0 + 1)) : Int).toNat 11) - (a0_0 : Int).toNat) + a0_1.size) + 1) = False := eq_false (by (have h0_ := Nat.not_lt.2 c42); (simp only [ByteArray.size_append, ByteArray.size_extract] at h0_);  (try simp only [show (⟨#[32, 110, 105, 99, 100, 112, 114, 117, 102, 103, 116]⟩ : ByteArray).size = 11 from rfl] at h0_); omega)
                          try have c42b6 : (9223372036854775807 < ((((wrap64 (a0_0 + 1)) : Int).toNat - (a0_0 : Int).toNat) + a0_1.size) + 1) = False := eq_false (by (have h0_ := Nat.not_lt.2 c42); (simp only [ByteArray.size_append, ByteArray.size_extract] at h0_); (try have hc4_ := of_decide_eq_true c4b1); (try simp only [show (⟨#[32, 110, 105, 99, 100, 112, 114, 117, 102, 103, 116]⟩ : ByteArray).size = 11 from rfl] at h0_); omega)
                          replace H := Option.bind_eq_some_iff.mp H
                          obtain ⟨t165, A430, H⟩ := H
                          replace H : (if ((((⟨#[32, 110, 105, 99, 100, 112, 114, 117, 102, 103, 116]⟩ : ByteArray).extract (a0_0 : Int).toNat ((wrap64 (a0_0 + 1)) : Int).toNat) ++ a0_1) ++ (⟨#[0]⟩ : ByteArray)).size + t165.size ≤ 9223372036854775807 then (some (((((⟨#[32, 110, 105, 99, 100, 112, 114, 117, 102, 103, 116]⟩ : ByteArray).extract (a0_0 : Int).toNat ((wrap64 (a0_0 + 1)) : Int).toNat) ++ a0_1) ++ (⟨#[0]⟩ : ByteArray)) ++ t165)) else (none)) = some r := H
                          have A43 := Aside0.mk A430
                          clear A430
                          by_cases c44 : ((((⟨#[32, 110, 105, 99, 100, 112, 114, 117, 102, 103, 116]⟩ : ByteArray).extract (a0_0 : Int).toNat ((wrap64 (a0_0 + 1)) : Int).toNat) ++ a0_1) ++ (⟨#[0]⟩ : ByteArray)).size + t165.size ≤ 9223372036854775807
                          · rw [if_pos c44] at H
                            have c44b0 := eq_true c44
                            have c44b1 : decide (((((⟨#[32, 110, 105, 99, 100, 112, 114, 117, 102, 103, 116]⟩ : ByteArray).extract (a0_0 : Int).toNat ((wrap64 (a0_0 + 1)) : Int).toNat) ++ a0_1) ++ (⟨#[0]⟩ : ByteArray)).size + t165.size ≤ 9223372036854775807) = true := decide_eq_true c44
                            try have c44b2 : (9223372036854775807 < ((((⟨#[32, 110, 105, 99, 100, 112, 114, 117, 102, 103, 116]⟩ : ByteArray).extract (a0_0 : Int).toNat ((wrap64 (a0_0 + 1)) : Int).toNat) ++ a0_1) ++ (⟨#[0]⟩ : ByteArray)).size + t165.size) = False := eq_false (Nat.not_lt.2 c44)
                            try have c44b3 : (9223372036854775807 < ((((⟨#[32, 110, 105, 99, 100, 112, 114, 117, 102, 103, 116]⟩ : ByteArray).extract (a0_0 : Int).toNat ((wrap64 (a0_0 + 1)) : Int).toNat) ++ a0_1) ++ (⟨#[0]⟩ : ByteArray)).size + t165.size) = False := eq_false (by (have h0_ := Nat.not_lt.2 c44); (simp only [ByteArray.size_append, ByteArray.size_extract] at h0_);  omega)
                            try have c44b5 : (9223372036854775807 < ((((min ((wrap64 (a0_0 + 1)) : Int).toNat 11) - (a0_0 : Int).toNat) + a0_1.size) + 1) + t165.size) = False := eq_false (by (have h0_ := Nat.not_lt.2 c44); (simp only [ByteArray.size_append, ByteArray.size_extract] at h0_);  (try simp only [show (⟨#[0]⟩ : ByteArray).size = 1 from rfl] at h0_);(try simp only [show (⟨#[32, 110, 105, 99, 100, 112, 114, 117, 102, 103, 116]⟩ : ByteArray).size = 11 from rfl] at h0_); omega)
                            try have c44b6 : (9223372036854775807 < (((((wrap64 (a0_0 + 1)) : Int).toNat - (a0_0 : Int).toNat) + a0_1.size) + 1) + t165.size) = False := eq_false (by (have h0_ := Nat.not_lt.2 c44); (simp only [ByteArray.size_append, ByteArray.size_extract] at h0_); (try have hc4_ := of_decide_eq_true c4b1); (try simp only [show (⟨#[0]⟩ : ByteArray).size = 1 from rfl] at h0_);(try simp only [show (⟨#[32, 110, 105, 99, 100, 112, 114, 117, 102, 103, 116]⟩ : ByteArray).size = 11 from rfl] at h0_); omega)
                            obtain rfl := Option.some.inj H
                            try go_wp2
                            have n0_ := Aside0.mk (blk_drew BK158.out)
                            have n1_ := Aside0.mk (below_drew1 HB.out)
                            clear BK158
                            clear HB
                            have BK158 := n0_
                            have HB := n1_
                            clear n0_ n1_
                            refine start_ (n := 10) (S := fun w' => w'.cell? ⟨gb158, 0, none⟩ = some (.int .i64 a0_0) ∧ w'.cell? ⟨gb158, 1, none⟩ = some (.string a0_1) ∧ w'.cell? ⟨gb158, 2, none⟩ = some (.string a0_2) ∧ w'.cell? ⟨gb158, 3, none⟩ = some (.int .i64 a0_3) ∧ w'.cell? ⟨gb158, 4, none⟩ = some (.int .i64 a0_4)) (ds := []) #[false, false, false, false, false, false, false, false, false, false] (by kernel_rfl) rfl rfl ⟨(blk_cell BK158.out 0).trans rfl, (blk_cell BK158.out 1).trans rfl, (blk_cell BK158.out 2).trans rfl, (blk_cell BK158.out 3).trans rfl, (blk_cell BK158.out 4).trans rfl⟩ (fun hHeld => ?_); refine with_tabW chandleryref11_Bytes.tab13 chandleryref11_Bytes.bits13 (fun HT_ HW_ => ?_)
                            generalize wc.drew = w45 at BK158 HB hHeld ⊢
                            refine pure_ (i := 0) (N := some 60) (v := ?_) (a' := ?_) #[true, false, false, false, false, false, false, false, false, false] rfl rfl (any_of HT_.out (by kernel_rfl)) (fun _ _ _ h => h) (Or.inl ⟨by rfl, ?_⟩) ?_ ?_
                            rotate_left
                            · intro w'
                              go_simp
                              with_reducible rfl
                            rotate_left
                            · simp only [Act.put, List.setIfInBounds_toArray, List.set_cons_zero, List.set_cons_succ, i64_w, i32_w]
                              rfl
                            refine pure_ (i := 1) (N := some 61) (v := ?_) (a' := ?_) #[true, true, false, false, false, false, false, false, false, false] rfl rfl (any_of HT_.out (by kernel_rfl)) (fun _ _ _ h => h) (Or.inl ⟨by rfl, ?_⟩) ?_ ?_
                            rotate_left
                            · intro w'
                              go_simp
                              with_reducible rfl
                            rotate_left
                            · simp only [Act.put, List.setIfInBounds_toArray, List.set_cons_zero, List.set_cons_succ, i64_w, i32_w]
                              rfl
                            refine pure_ (i := 5) (N := some 65) (v := ?_) (a' := ?_) #[true, true, false, false, false, true, false, false, false, false] rfl rfl (any_of HT_.out (by kernel_rfl)) (fun _ _ _ h => h) (Or.inl ⟨by rfl, ?_⟩) ?_ ?_
                            rotate_left
                            · intro w'
                              go_simp
                              with_reducible rfl
                            rotate_left
                            · simp only [Act.put, List.setIfInBounds_toArray, List.set_cons_zero, List.set_cons_succ, i64_w, i32_w]
                              rfl
                            refine take_ (i := 2) (N := some 62) (v := ?_) (a' := ?_) #[true, true, true, false, false, true, false, false, false, false] rfl rfl (take_ofW HT_.out HW_.out (by kernel_rfl)) (fun _ _ _ h => h) (Or.inl ⟨by rfl, ?_⟩) hHeld ?_ ?_
                            rotate_left
                            · rintro w' ⟨s0, s1, s2, s3, s4⟩
                              go_simp
                              with_reducible rfl
                            rotate_left
                            · simp only [Act.put, List.setIfInBounds_toArray, List.set_cons_zero, List.set_cons_succ, i64_w, i32_w]
                              rfl
                            refine pure_ (i := 3) (N := some 63) (v := ?_) (a' := ?_) #[true, true, true, true, false, true, false, false, false, false] rfl rfl (any_of HT_.out (by kernel_rfl)) (fun _ _ _ h => h) (Or.inl ⟨by rfl, ?_⟩) ?_ ?_
                            rotate_left
                            · intro w'
                              go_simp
                              with_reducible rfl
                            rotate_left
                            · simp only [Act.put, List.setIfInBounds_toArray, List.set_cons_zero, List.set_cons_succ, i64_w, i32_w]
                              rfl
                            refine pure_ (i := 4) (N := some 64) (v := ?_) (a' := ?_) #[true, true, true, true, true, true, false, false, false, false] rfl rfl (any_of HT_.out (by kernel_rfl)) (fun _ _ _ h => h) (Or.inl ⟨by rfl, ?_⟩) ?_ ?_
                            rotate_left
                            · intro w'
                              go_simp
                              with_reducible rfl
                            rotate_left
                            · simp only [Act.put, List.setIfInBounds_toArray, List.set_cons_zero, List.set_cons_succ, i64_w, i32_w]
                              rfl
                            refine take_ (i := 6) (N := some 66) (v := ?_) (a' := ?_) #[true, true, true, true, true, true, true, false, false, false] rfl rfl (take_ofW HT_.out HW_.out (by kernel_rfl)) (fun _ _ _ h => h) (Or.inl ⟨by rfl, ?_⟩) hHeld ?_ ?_
                            rotate_left
                            · rintro w' ⟨s0, s1, s2, s3, s4⟩
                              go_simp
                              with_reducible rfl
                            rotate_left
                            · simp only [Act.put, List.setIfInBounds_toArray, List.set_cons_zero, List.set_cons_succ, i64_w, i32_w]
                              rfl
                            refine one_ (i := 7) (N := some 67) #[true, true, true, true, true, true, true, true, false, false] rfl rfl (one_of HT_.out (by kernel_rfl)) (by decide) (fun K hK => ?_)
                            refine goes_ Try.func26 (by kernel_rfl) rfl #[.int .i64 a0_3] (by rfl) rfl rfl (by (try simp only [List.map_toArray, List.map_cons, List.map_nil]); first | done | rfl | (simp only [List.length_drop, List.length_take]; rfl)) ?_
                            with_reducible refine (chandleryref11_three.calls a0_3 t165 _ A43.out).mono ?_
                            rintro e w46 ⟨rfl, hb⟩
                            refine ⟨_, rfl, ?_⟩
                            have n0_ := Aside0.mk (blk_below (g := gb158) (o := .cells #[.int .i64 a0_0, .string a0_1, .string a0_2, .int .i64 a0_3, .int .i64 a0_4] 23 (0, 0)) (by (with_reducible repeat (first | refine blk_drewN ?_ _ | refine blk_drew ?_ | refine blk_alloc ?_ _)); exact BK158.out) hb)
                            have n1_ := Aside0.mk (below_step (by repeat (first | (with_reducible first | exact HB.out | apply below_alloc | apply pw_below_drewN | apply below_drew1 | refine below_set ?_ GE158.out) | exact HB.out)) hb)
                            clear BK158
                            clear HB
                            have BK158 := n0_
                            have HB := n1_
                            clear n0_ n1_
                            (try clear hb)
                            (try clear hb2)
                            (try clear hk)
                            (try clear hi)
                            refine hK.out _ _ ⟨(blk_cell BK158.out 0).trans rfl, (blk_cell BK158.out 1).trans rfl, (blk_cell BK158.out 2).trans rfl, (blk_cell BK158.out 3).trans rfl, (blk_cell BK158.out 4).trans rfl⟩ (fun hHeld => ?_)
                            clear hK K
                            refine norm_ (a' := ?_) ?_ ?_
                            rotate_left
                            · show Act.put _ (some 67) _ = _
                              simp only [Act.put, List.setIfInBounds_toArray, List.set_cons_zero, List.set_cons_succ, i64_w, i32_w]
                              rfl
                            refine pure_ (i := 8) (N := some 68) (v := ?_) (a' := ?_) #[true, true, true, true, true, true, true, true, true, false] rfl rfl (any_of HT_.out (by kernel_rfl)) (fun _ _ _ h => h) (Or.inl ⟨by rfl, ?_⟩) ?_ ?_
                            rotate_left
                            · intro w'
                              go_simp
                              with_reducible rfl
                            rotate_left
                            · simp only [Act.put, List.setIfInBounds_toArray, List.set_cons_zero, List.set_cons_succ, i64_w, i32_w]
                              rfl
                            refine pure_ (i := 9) (N := some 2) (v := ?_) (a' := ?_) #[true, true, true, true, true, true, true, true, true, true] rfl rfl (any_of HT_.out (by kernel_rfl)) (fun _ _ _ h => h) (Or.inl ⟨by rfl, ?_⟩) ?_ ?_
                            rotate_left
                            · intro w'
                              go_simp
                              with_reducible rfl
                            rotate_left
                            · simp only [Act.put, List.setIfInBounds_toArray, List.set_cons_zero, List.set_cons_succ, i64_w, i32_w]
                              rfl
                            refine done_ (done_of HT_.out (by kernel_rfl)) ?_
                            try go_wp2
                            go_ret
                            exact ⟨by first | rfl | (simp [errW_none, errW_some] <;> rfl) | (simp [*, errW_none, errW_some] <;> rfl), by repeat (first | (with_reducible first | exact HB.out | apply below_alloc | apply pw_below_drewN | apply below_drew1 | refine below_set ?_ GE158.out) | exact HB.out)⟩
                          · rw [if_neg c44] at H
                            exact absurd H (by simp)
                        · rw [if_neg c42] at H
                          exact absurd H (by simp)
                      · rw [if_neg c41] at H
                        exact absurd H (by simp)
                    · rw [if_neg c40] at H
                      have c40b0 : (a0_0 == 9) = false := beq_eq_false_iff_ne.mpr c40
                      have c40b1 : (a0_0 != 9) = true := bne_iff_ne.mpr c40
                      by_cases c47 : ((⟨#[32, 110, 105, 99, 100, 112, 114, 117, 102, 103, 116]⟩ : ByteArray).extract (a0_0 : Int).toNat ((wrap64 (a0_0 + 1)) : Int).toNat).size + a0_1.size ≤ 9223372036854775807
                      · rw [if_pos c47] at H
                        have c47b0 := eq_true c47
                        have c47b1 : decide (((⟨#[32, 110, 105, 99, 100, 112, 114, 117, 102, 103, 116]⟩ : ByteArray).extract (a0_0 : Int).toNat ((wrap64 (a0_0 + 1)) : Int).toNat).size + a0_1.size ≤ 9223372036854775807) = true := decide_eq_true c47
                        try have c47b2 : (9223372036854775807 < ((⟨#[32, 110, 105, 99, 100, 112, 114, 117, 102, 103, 116]⟩ : ByteArray).extract (a0_0 : Int).toNat ((wrap64 (a0_0 + 1)) : Int).toNat).size + a0_1.size) = False := eq_false (Nat.not_lt.2 c47)
                        try have c47b3 : (9223372036854775807 < ((⟨#[32, 110, 105, 99, 100, 112, 114, 117, 102, 103, 116]⟩ : ByteArray).extract (a0_0 : Int).toNat ((wrap64 (a0_0 + 1)) : Int).toNat).size + a0_1.size) = False := eq_false (by (have h0_ := Nat.not_lt.2 c47); (simp only [ByteArray.size_append, ByteArray.size_extract] at h0_);  omega)
                        try have c47b5 : (9223372036854775807 < ((min ((wrap64 (a0_0 + 1)) : Int).toNat 11) - (a0_0 : Int).toNat) + a0_1.size) = False := eq_false (by (have h0_ := Nat.not_lt.2 c47); (simp only [ByteArray.size_append, ByteArray.size_extract] at h0_);  (try simp only [show (⟨#[32, 110, 105, 99, 100, 112, 114, 117, 102, 103, 116]⟩ : ByteArray).size = 11 from rfl] at h0_); omega)
                        try have c47b6 : (9223372036854775807 < (((wrap64 (a0_0 + 1)) : Int).toNat - (a0_0 : Int).toNat) + a0_1.size) = False := eq_false (by (have h0_ := Nat.not_lt.2 c47); (simp only [ByteArray.size_append, ByteArray.size_extract] at h0_); (try have hc4_ := of_decide_eq_true c4b1); (try simp only [show (⟨#[32, 110, 105, 99, 100, 112, 114, 117, 102, 103, 116]⟩ : ByteArray).size = 11 from rfl] at h0_); omega)
                        obtain rfl := Option.some.inj H
                        have hcz48_0 : wc.cell? ⟨gb158, 0, none⟩ = some (.int .i64 a0_0) := (blk_cell BK158.out 0).trans rfl
                        have hcz48_1 : wc.cell? ⟨gb158, 1, none⟩ = some (.string a0_1) := (blk_cell BK158.out 1).trans rfl
                        have hcz48_2 : wc.cell? ⟨gb158, 2, none⟩ = some (.string a0_2) := (blk_cell BK158.out 2).trans rfl
                        have hcz48_3 : wc.cell? ⟨gb158, 3, none⟩ = some (.int .i64 a0_3) := (blk_cell BK158.out 3).trans rfl
                        have hcz48_4 : wc.cell? ⟨gb158, 4, none⟩ = some (.int .i64 a0_4) := (blk_cell BK158.out 4).trans rfl
                        have hfz48_0 := blk_frozen BK158.out 0
                        have hfz48_1 := blk_frozen BK158.out 1
                        have hfz48_2 := blk_frozen BK158.out 2
                        have hfz48_3 := blk_frozen BK158.out 3
                        have hfz48_4 := blk_frozen BK158.out 4
                        go_wp2
                        go_ret
                        exact ⟨by first | rfl | (simp [errW_none, errW_some] <;> rfl) | (simp [*, errW_none, errW_some] <;> rfl), by repeat (first | (with_reducible first | exact HB.out | apply below_alloc | apply pw_below_drewN | apply below_drew1 | refine below_set ?_ GE158.out) | exact HB.out)⟩
                      · rw [if_neg c47] at H
                        exact absurd H (by simp)
      · rw [if_neg c4] at H
        exact absurd H (by simp)
    · rw [if_neg c3] at H
      exact absurd H (by simp)
  · rw [if_neg c2] at H
    exact absurd H (by simp)

end Go.Proofs.Ytcohfhclcoiigaa.PKeys
