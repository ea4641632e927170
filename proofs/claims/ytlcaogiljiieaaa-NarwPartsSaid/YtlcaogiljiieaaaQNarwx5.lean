-- printed with xprint.py over the kit's print
import Derived.Test.YtlcaogiljiieaaaQNarwx0
import Derived.Test.YtlcaogiljiieaaaQNarwx2
import Derived.Test.YtlcaogiljiieaaaQNarwx3
import Derived.Test.YtlcaogiljiieaaaQNarwx4
namespace Go.Proofs.Ytlcaogiljiieaaa.PNarw
open Go.RowKit Go.Proofs.YtlcaogiljiieaaaW.PrintWords Go.Proofs.YtlcaogiljiieaaaW.PrintLast Go.Proofs.YtlcaogiljiieaaaW.PrintMore
attribute [local go_sem] max2_int min2_int max_two min_two max_three min_three max_four min_four   -- for this text's walks alone
set_option linter.unusedVariables false
set_option linter.unusedSimpArgs false
def chandlerylaw17_awake.f (k : Nat)  : Option (Bool) := (narw_Texts.f k (([(⟨(⟨#[]⟩ : ByteArray), 1, false, (⟨#[97, 98, 99]⟩ : ByteArray)⟩ : S27)] : List (S27)))).bind fun bt169 => ((narw_Size.f k (([(⟨(⟨#[]⟩ : ByteArray), 1, false, (⟨#[97, 98, 99]⟩ : ByteArray)⟩ : S27)] : List (S27)))).bind fun bt176 => ((chandleryref01_Texts.f k bt169.1 (([(⟨#[110, 105, 120, 45, 97, 114, 99, 104, 105, 118, 101, 45, 49]⟩ : ByteArray), (⟨#[40]⟩ : ByteArray), (⟨#[116, 121, 112, 101]⟩ : ByteArray), (⟨#[114, 101, 103, 117, 108, 97, 114]⟩ : ByteArray), (⟨#[99, 111, 110, 116, 101, 110, 116, 115]⟩ : ByteArray), (⟨#[97, 98, 99]⟩ : ByteArray), (⟨#[41]⟩ : ByteArray)] : List ByteArray))).bind fun t181 => (if t181 = true then (if bt169.2 = 0 then (if bt176.1 = 120 then (some (bt176.2 == 0)) else (some false)) else (some false)) else (some false))))
theorem chandlerylaw17_awake.mono : ∀ k, LeO (chandlerylaw17_awake.f k ) (chandlerylaw17_awake.f (k + 1) ) := by
 intro  k
 unfold chandlerylaw17_awake.f
 repeat' first
   | (with_reducible exact chandleryref01_Texts.mono _ _ _)
   | (with_reducible exact narw_Size.mono _ _)
   | (with_reducible exact narw_Texts.mono _ _)
   | (with_reducible exact LeO.refl _)
   | (with_reducible exact LeO.none _)
   | (with_reducible refine LeO.ite ?_ ?_)
   | (with_reducible refine LeO.bind ?_ (fun _ => ?_))
   | exact chandleryref01_Texts.mono _ _ _
   | exact narw_Size.mono _ _
   | exact narw_Texts.mono _ _
   | exact LeO.none _
   | refine LeO.ite ?_ ?_
   | refine LeO.bind ?_ (fun _ => ?_)
set_option maxHeartbeats 8000000 in
set_option maxRecDepth 100000 in
theorem chandlerylaw17_awake.calls (k : Nat)  (r : Bool) (w : World) (h : chandlerylaw17_awake.f k  = some r) :
  Calls Try.prog 18 #[] w fun e w' => e = .returned (.bool r) ∧ Below w.heap.size w w' := by
 have hu27 := Try.underlying27
 have HB := Aside0.mk (Below.refl w.heap.size w)
 have H : ((narw_Texts.f k (([(⟨(⟨#[]⟩ : ByteArray), 1, false, (⟨#[97, 98, 99]⟩ : ByteArray)⟩ : S27)] : List (S27)))).bind fun bt169 => ((narw_Size.f k (([(⟨(⟨#[]⟩ : ByteArray), 1, false, (⟨#[97, 98, 99]⟩ : ByteArray)⟩ : S27)] : List (S27)))).bind fun bt176 => ((chandleryref01_Texts.f k bt169.1 (([(⟨#[110, 105, 120, 45, 97, 114, 99, 104, 105, 118, 101, 45, 49]⟩ : ByteArray), (⟨#[40]⟩ : ByteArray), (⟨#[116, 121, 112, 101]⟩ : ByteArray), (⟨#[114, 101, 103, 117, 108, 97, 114]⟩ : ByteArray), (⟨#[99, 111, 110, 116, 101, 110, 116, 115]⟩ : ByteArray), (⟨#[97, 98, 99]⟩ : ByteArray), (⟨#[41]⟩ : ByteArray)] : List ByteArray))).bind fun t181 => (if t181 = true then (if bt169.2 = 0 then (if bt176.1 = 120 then (some (bt176.2 == 0)) else (some false)) else (some false)) else (some false))))) = some r := h
 clear h
 obtain ⟨y166, hy166⟩ : ∃ y_ : List (S27), y_ = (([(⟨(⟨#[]⟩ : ByteArray), 1, false, (⟨#[97, 98, 99]⟩ : ByteArray)⟩ : S27)] : List (S27))) := ⟨_, rfl⟩
 replace H : ((narw_Texts.f k y166).bind fun bt169 => ((narw_Size.f k (([(⟨(⟨#[]⟩ : ByteArray), 1, false, (⟨#[97, 98, 99]⟩ : ByteArray)⟩ : S27)] : List (S27)))).bind fun bt176 => ((chandleryref01_Texts.f k bt169.1 (([(⟨#[110, 105, 120, 45, 97, 114, 99, 104, 105, 118, 101, 45, 49]⟩ : ByteArray), (⟨#[40]⟩ : ByteArray), (⟨#[116, 121, 112, 101]⟩ : ByteArray), (⟨#[114, 101, 103, 117, 108, 97, 114]⟩ : ByteArray), (⟨#[99, 111, 110, 116, 101, 110, 116, 115]⟩ : ByteArray), (⟨#[97, 98, 99]⟩ : ByteArray), (⟨#[41]⟩ : ByteArray)] : List ByteArray))).bind fun t181 => (if t181 = true then (if bt169.2 = 0 then (if bt176.1 = 120 then (some (bt176.2 == 0)) else (some false)) else (some false)) else (some false))))) = some r := by first | (rw [hy166]; with_reducible exact H) | (have H2_ := (Option.bind_some _ _).symm.trans H; rw [hy166]; with_reducible exact H2_) | (have H2_ := (Option.bind_some _ _).symm.trans H; with_reducible exact H2_) | with_reducible exact H | (rw [hy166]; exact H) | exact H
 have Ny166 := Aside0.mk hy166
 clear hy166
 replace H := Option.bind_eq_some_iff.mp H
 obtain ⟨⟨t169, t170⟩, A10, H⟩ := H
 replace H : ((narw_Size.f k (([(⟨(⟨#[]⟩ : ByteArray), 1, false, (⟨#[97, 98, 99]⟩ : ByteArray)⟩ : S27)] : List (S27)))).bind fun bt176 => ((chandleryref01_Texts.f k t169 (([(⟨#[110, 105, 120, 45, 97, 114, 99, 104, 105, 118, 101, 45, 49]⟩ : ByteArray), (⟨#[40]⟩ : ByteArray), (⟨#[116, 121, 112, 101]⟩ : ByteArray), (⟨#[114, 101, 103, 117, 108, 97, 114]⟩ : ByteArray), (⟨#[99, 111, 110, 116, 101, 110, 116, 115]⟩ : ByteArray), (⟨#[97, 98, 99]⟩ : ByteArray), (⟨#[41]⟩ : ByteArray)] : List ByteArray))).bind fun t181 => (if t181 = true then (if t170 = 0 then (if bt176.1 = 120 then (some (bt176.2 == 0)) else (some false)) else (some false)) else (some false)))) = some r := H
 have A1 := Aside0.mk A10
 clear A10
 obtain ⟨y173, hy173⟩ : ∃ y_ : List (S27), y_ = (([(⟨(⟨#[]⟩ : ByteArray), 1, false, (⟨#[97, 98, 99]⟩ : ByteArray)⟩ : S27)] : List (S27))) := ⟨_, rfl⟩
 replace H : ((narw_Size.f k y173).bind fun bt176 => ((chandleryref01_Texts.f k t169 (([(⟨#[110, 105, 120, 45, 97, 114, 99, 104, 105, 118, 101, 45, 49]⟩ : ByteArray), (⟨#[40]⟩ : ByteArray), (⟨#[116, 121, 112, 101]⟩ : ByteArray), (⟨#[114, 101, 103, 117, 108, 97, 114]⟩ : ByteArray), (⟨#[99, 111, 110, 116, 101, 110, 116, 115]⟩ : ByteArray), (⟨#[97, 98, 99]⟩ : ByteArray), (⟨#[41]⟩ : ByteArray)] : List ByteArray))).bind fun t181 => (if t181 = true then (if t170 = 0 then (if bt176.1 = 120 then (some (bt176.2 == 0)) else (some false)) else (some false)) else (some false)))) = some r := by first | (rw [hy173]; with_reducible exact H) | (have H2_ := (Option.bind_some _ _).symm.trans H; rw [hy173]; with_reducible exact H2_) | (have H2_ := (Option.bind_some _ _).symm.trans H; with_reducible exact H2_) | with_reducible exact H | (rw [hy173]; exact H) | exact H
 have Ny173 := Aside0.mk hy173
 clear hy173
 replace H := Option.bind_eq_some_iff.mp H
 obtain ⟨⟨t176, t177⟩, A20, H⟩ := H
 replace H : ((chandleryref01_Texts.f k t169 (([(⟨#[110, 105, 120, 45, 97, 114, 99, 104, 105, 118, 101, 45, 49]⟩ : ByteArray), (⟨#[40]⟩ : ByteArray), (⟨#[116, 121, 112, 101]⟩ : ByteArray), (⟨#[114, 101, 103, 117, 108, 97, 114]⟩ : ByteArray), (⟨#[99, 111, 110, 116, 101, 110, 116, 115]⟩ : ByteArray), (⟨#[97, 98, 99]⟩ : ByteArray), (⟨#[41]⟩ : ByteArray)] : List ByteArray))).bind fun t181 => (if t181 = true then (if t170 = 0 then (if t176 = 120 then (some (t177 == 0)) else (some false)) else (some false)) else (some false))) = some r := H
 have A2 := Aside0.mk A20
 clear A20
 obtain ⟨y178, hy178⟩ : ∃ y_ : List ByteArray, y_ = (([(⟨#[110, 105, 120, 45, 97, 114, 99, 104, 105, 118, 101, 45, 49]⟩ : ByteArray), (⟨#[40]⟩ : ByteArray), (⟨#[116, 121, 112, 101]⟩ : ByteArray), (⟨#[114, 101, 103, 117, 108, 97, 114]⟩ : ByteArray), (⟨#[99, 111, 110, 116, 101, 110, 116, 115]⟩ : ByteArray), (⟨#[97, 98, 99]⟩ : ByteArray), (⟨#[41]⟩ : ByteArray)] : List ByteArray)) := ⟨_, rfl⟩
 replace H : ((chandleryref01_Texts.f k t169 y178).bind fun t181 => (if t181 = true then (if t170 = 0 then (if t176 = 120 then (some (t177 == 0)) else (some false)) else (some false)) else (some false))) = some r := by first | (rw [hy178]; with_reducible exact H) | (have H2_ := (Option.bind_some _ _).symm.trans H; rw [hy178]; with_reducible exact H2_) | (have H2_ := (Option.bind_some _ _).symm.trans H; with_reducible exact H2_) | with_reducible exact H | (rw [hy178]; exact H) | exact H
 have Ny178 := Aside0.mk hy178
 clear hy178
 replace H := Option.bind_eq_some_iff.mp H
 obtain ⟨t181, A30, H⟩ := H
 replace H : (if t181 = true then (if t170 = 0 then (if t176 = 120 then (some (t177 == 0)) else (some false)) else (some false)) else (some false)) = some r := H
 have A3 := Aside0.mk A30
 clear A30
 by_cases c4 : t181 = true
 ·subst c4
  have H1 : (if t170 = 0 then (if t176 = 120 then (some (t177 == 0)) else (some false)) else (some false)) = some r := by rw [if_pos rfl] at H; exact H
  clear H
  have H := H1
  clear H1
  by_cases c5 : t170 = 0
  ·rw [if_pos c5] at H
   have c5b0 : (t170 == 0) = true := beq_iff_eq.mpr c5
   have c5b1 : (t170 != 0) = false := bne_eq_false_iff_eq.mpr c5
   clear c5
   by_cases c6 : t176 = 120
   ·rw [if_pos c6] at H
    have c6b0 : (t176 == 120) = true := beq_iff_eq.mpr c6
    have c6b1 : (t176 != 120) = false := bne_eq_false_iff_eq.mpr c6
    clear c6
    obtain rfl := Option.some.inj H
    go_enter Try.func18, Try.ntmps18
    go_wp2_with (first | ((with_reducible refine gate_dst (N := 7) rfl ?_); refine Kd.R_lit k27 _ 27 ?hg (N := 7) ?hd (xs := ([(⟨(⟨#[]⟩ : ByteArray), 1, false, (⟨#[97, 98, 99]⟩ : ByteArray)⟩ : S27)] : List (S27))) (inner := [.string (⟨#[]⟩ : ByteArray), .int .i64 1, .bool false, .string (⟨#[97, 98, 99]⟩ : ByteArray)]) (ok := fun _ => True) (okp := fun _ => True) ?hr ?hp (fun _ hk => hk) trivial (Below.refl _ _) (Nat.le_refl _) (by simp) ?_; (case hd => rfl); (case hg => rfl); (case hr => first | (go_simp; done) | (go_simp; rfl)); (case hp => exact (Reps.c4 (show Kd.M k27 _ _ _ (⟨(⟨#[]⟩ : ByteArray), 1, false, (⟨#[97, 98, 99]⟩ : ByteArray)⟩ : S27) [.string (⟨#[]⟩ : ByteArray), .int .i64 1, .bool false, .string (⟨#[97, 98, 99]⟩ : ByteArray)] from (k27_mkM _ _ _ (⟨(⟨#[]⟩ : ByteArray), 1, false, (⟨#[97, 98, 99]⟩ : ByteArray)⟩ : S27) )) (Reps.none _ _))); intro v167 w7 ho8 hb hg_ hnew_; clear hg_ hnew_; (first | rw [← Ny166.out] at ho8 | (simp only [Int.reduceToNat] at ho8; rw [← Ny166.out] at ho8)); have n0_ := Aside0.mk (Kd.R_lower ho8 (below_size (by repeat (first | (with_reducible first | exact HB.out | apply below_alloc | apply pw_below_drewN | apply below_drew1) | exact HB.out)))); have n1_ := Aside0.mk (below_step (by repeat (first | (with_reducible first | exact HB.out | apply below_alloc | apply pw_below_drewN | apply below_drew1) | exact HB.out)) hb); clear HB; have HO168 := n0_; have HB := n1_; clear n0_ n1_; clear hb ho8; obtain ⟨Ao9, co9, eo9⟩ := Kd.R_slice HO168.out; subst eo9) | ((with_reducible refine gate_callee (f := 15) rfl ?_); refine goesL_ (some 8) rfl rfl Try.func15 (by kernel_rfl) rfl #[.slice Ao9 y166.length co9] rfl (by (try simp only [List.map_toArray, List.map_cons, List.map_nil]); first | done | rfl | (simp only [List.length_drop, List.length_take]; rfl)) ?_; (with_reducible refine (narw_Texts.calls k _ _ y166 t169 t170 _ ?side1 ?side2 A1.out).mono ?_); (case side1 => repeat (first | exact (Kd.R_reads' HO168.out).2.2 | (with_reducible refine Kd.C_alloc ?_ _) | (with_reducible refine Kd.C_drewN ?_ _) | (with_reducible refine Kd.C_drew ?_))); (case side2 => exact (Kd.R_reads' HO168.out).2.1); rintro e w10 ⟨v171, rfl, ho0, hb⟩; refine ⟨_, rfl, ?_⟩; have n0_ := Aside0.mk (Kd.R_below (by (with_reducible repeat (first | apply Kd.R_alloc | apply Kd.R_drewN | apply Kd.R_drew)); exact HO168.out) hb); have n1_ := Aside0.mk (Kd.R_lower ho0 (below_size (by repeat (first | (with_reducible first | exact HB.out | apply below_alloc | apply pw_below_drewN | apply below_drew1) | exact HB.out)))); have n2_ := Aside0.mk (below_step (by repeat (first | (with_reducible first | exact HB.out | apply below_alloc | apply pw_below_drewN | apply below_drew1) | exact HB.out)) hb); clear HO168; clear HB; have HO168 := n0_; have HO172 := n1_; have HB := n2_; clear n0_ n1_ n2_; (try clear hb); (try clear hb2); (try clear hk); (try clear hi); (try clear ho0)) | ((with_reducible refine gate_dst (N := 13) rfl ?_); refine Kd.R_lit k27 _ 27 ?hg (N := 13) ?hd (xs := ([(⟨(⟨#[]⟩ : ByteArray), 1, false, (⟨#[97, 98, 99]⟩ : ByteArray)⟩ : S27)] : List (S27))) (inner := [.string (⟨#[]⟩ : ByteArray), .int .i64 1, .bool false, .string (⟨#[97, 98, 99]⟩ : ByteArray)]) (ok := fun _ => True) (okp := fun _ => True) ?hr ?hp (fun _ hk => hk) trivial (Below.refl _ _) (Nat.le_refl _) (by simp) ?_; (case hd => rfl); (case hg => rfl); (case hr => first | (go_simp; done) | (go_simp; rfl)); (case hp => exact (Reps.c4 (show Kd.M k27 _ _ _ (⟨(⟨#[]⟩ : ByteArray), 1, false, (⟨#[97, 98, 99]⟩ : ByteArray)⟩ : S27) [.string (⟨#[]⟩ : ByteArray), .int .i64 1, .bool false, .string (⟨#[97, 98, 99]⟩ : ByteArray)] from (k27_mkM _ _ _ (⟨(⟨#[]⟩ : ByteArray), 1, false, (⟨#[97, 98, 99]⟩ : ByteArray)⟩ : S27) )) (Reps.none _ _))); intro v174 w11 ho12 hb hg_ hnew_; clear hg_ hnew_; (first | rw [← Ny173.out] at ho12 | (simp only [Int.reduceToNat] at ho12; rw [← Ny173.out] at ho12)); have n0_ := Aside0.mk (Kd.R_elder' (by (with_reducible repeat (first | apply Kd.R_alloc | apply Kd.R_drewN | apply Kd.R_drew)); exact HO168.out) (Kd.R_base ho12) hb); have n1_ := Aside0.mk (Kd.R_below (by (with_reducible repeat (first | apply Kd.R_alloc | apply Kd.R_drewN | apply Kd.R_drew)); exact HO172.out) hb); have n2_ := Aside0.mk (Kd.R_lower (Kd.R_new' ho12 (Kd.R_lt (by (with_reducible repeat (first | apply Kd.R_alloc | apply Kd.R_drewN | apply Kd.R_drew)); exact HO168.out))) (below_size (by repeat (first | (with_reducible first | exact HB.out | apply below_alloc | apply pw_below_drewN | apply below_drew1) | exact HB.out)))); have n3_ := Aside0.mk (below_step (by repeat (first | (with_reducible first | exact HB.out | apply below_alloc | apply pw_below_drewN | apply below_drew1) | exact HB.out)) hb); clear HO168; clear HO172; clear HB; have HO168 := n0_; have HO172 := n1_; have HO175 := n2_; have HB := n3_; clear n0_ n1_ n2_ n3_; clear hb ho12; obtain ⟨Ao13, co13, eo13⟩ := Kd.R_slice HO175.out; subst eo13) | ((with_reducible refine gate_callee (f := 20) rfl ?_); refine goesL_ (some 14) rfl rfl Try.func20 (by kernel_rfl) rfl #[.slice Ao13 y173.length co13] rfl (by (try simp only [List.map_toArray, List.map_cons, List.map_nil]); first | done | rfl | (simp only [List.length_drop, List.length_take]; rfl)) ?_; (with_reducible refine (narw_Size.calls k _ _ y173 t176 t177 _ ?side1 ?side2 A2.out).mono ?_); (case side1 => repeat (first | exact (Kd.R_reads' HO175.out).2.2 | (with_reducible refine Kd.C_alloc ?_ _) | (with_reducible refine Kd.C_drewN ?_ _) | (with_reducible refine Kd.C_drew ?_))); (case side2 => exact (Kd.R_reads' HO175.out).2.1); rintro e w14 ⟨rfl, hb⟩; refine ⟨_, rfl, ?_⟩; have n0_ := Aside0.mk (Kd.R_below (by (with_reducible repeat (first | apply Kd.R_alloc | apply Kd.R_drewN | apply Kd.R_drew)); exact HO168.out) hb); have n1_ := Aside0.mk (Kd.R_below (by (with_reducible repeat (first | apply Kd.R_alloc | apply Kd.R_drewN | apply Kd.R_drew)); exact HO172.out) hb); have n2_ := Aside0.mk (Kd.R_below (by (with_reducible repeat (first | apply Kd.R_alloc | apply Kd.R_drewN | apply Kd.R_drew)); exact HO175.out) hb); have n3_ := Aside0.mk (below_step (by repeat (first | (with_reducible first | exact HB.out | apply below_alloc | apply pw_below_drewN | apply below_drew1) | exact HB.out)) hb); clear HO168; clear HO172; clear HO175; clear HB; have HO168 := n0_; have HO172 := n1_; have HO175 := n2_; have HB := n3_; clear n0_ n1_ n2_ n3_; (try clear hb); (try clear hb2); (try clear hk); (try clear hi)) | ((with_reducible refine gate_dst (N := 18) rfl ?_); refine Kd.R_lit Kd.string _ 9 ?hg (N := 18) ?hd (xs := ([(⟨#[110, 105, 120, 45, 97, 114, 99, 104, 105, 118, 101, 45, 49]⟩ : ByteArray), (⟨#[40]⟩ : ByteArray), (⟨#[116, 121, 112, 101]⟩ : ByteArray), (⟨#[114, 101, 103, 117, 108, 97, 114]⟩ : ByteArray), (⟨#[99, 111, 110, 116, 101, 110, 116, 115]⟩ : ByteArray), (⟨#[97, 98, 99]⟩ : ByteArray), (⟨#[41]⟩ : ByteArray)] : List ByteArray)) (inner := [.string (⟨#[110, 105, 120, 45, 97, 114, 99, 104, 105, 118, 101, 45, 49]⟩ : ByteArray), .string (⟨#[40]⟩ : ByteArray), .string (⟨#[116, 121, 112, 101]⟩ : ByteArray), .string (⟨#[114, 101, 103, 117, 108, 97, 114]⟩ : ByteArray), .string (⟨#[99, 111, 110, 116, 101, 110, 116, 115]⟩ : ByteArray), .string (⟨#[97, 98, 99]⟩ : ByteArray), .string (⟨#[41]⟩ : ByteArray)]) (ok := fun _ => True) (okp := fun _ => True) ?hr ?hp (fun _ hk => hk) trivial (Below.refl _ _) (Nat.le_refl _) (by simp) ?_; (case hd => rfl); (case hg => rfl); (case hr => first | (go_simp; done) | (go_simp; rfl)); (case hp => exact (Reps.one (show Kd.M Kd.string _ _ _ (⟨#[110, 105, 120, 45, 97, 114, 99, 104, 105, 118, 101, 45, 49]⟩ : ByteArray) [.string (⟨#[110, 105, 120, 45, 97, 114, 99, 104, 105, 118, 101, 45, 49]⟩ : ByteArray)] from rfl) (Reps.one (show Kd.M Kd.string _ _ _ (⟨#[40]⟩ : ByteArray) [.string (⟨#[40]⟩ : ByteArray)] from rfl) (Reps.one (show Kd.M Kd.string _ _ _ (⟨#[116, 121, 112, 101]⟩ : ByteArray) [.string (⟨#[116, 121, 112, 101]⟩ : ByteArray)] from rfl) (Reps.one (show Kd.M Kd.string _ _ _ (⟨#[114, 101, 103, 117, 108, 97, 114]⟩ : ByteArray) [.string (⟨#[114, 101, 103, 117, 108, 97, 114]⟩ : ByteArray)] from rfl) (Reps.one (show Kd.M Kd.string _ _ _ (⟨#[99, 111, 110, 116, 101, 110, 116, 115]⟩ : ByteArray) [.string (⟨#[99, 111, 110, 116, 101, 110, 116, 115]⟩ : ByteArray)] from rfl) (Reps.one (show Kd.M Kd.string _ _ _ (⟨#[97, 98, 99]⟩ : ByteArray) [.string (⟨#[97, 98, 99]⟩ : ByteArray)] from rfl) (Reps.one (show Kd.M Kd.string _ _ _ (⟨#[41]⟩ : ByteArray) [.string (⟨#[41]⟩ : ByteArray)] from rfl) (Reps.none _ _))))))))); intro v179 w15 ho16 hb hg_ hnew_; clear hg_ hnew_; (first | rw [← Ny178.out] at ho16 | (simp only [Int.reduceToNat] at ho16; rw [← Ny178.out] at ho16)); have n0_ := Aside0.mk (Kd.R_below (by (with_reducible repeat (first | apply Kd.R_alloc | apply Kd.R_drewN | apply Kd.R_drew)); exact HO168.out) hb); have n1_ := Aside0.mk (Kd.R_elder' (by (with_reducible repeat (first | apply Kd.R_alloc | apply Kd.R_drewN | apply Kd.R_drew)); exact HO172.out) (Kd.R_base ho16) hb); have n2_ := Aside0.mk (Kd.R_below (by (with_reducible repeat (first | apply Kd.R_alloc | apply Kd.R_drewN | apply Kd.R_drew)); exact HO175.out) hb); have n3_ := Aside0.mk (Kd.R_lower (Kd.R_new' ho16 (Kd.R_lt (by (with_reducible repeat (first | apply Kd.R_alloc | apply Kd.R_drewN | apply Kd.R_drew)); exact HO172.out))) (below_size (by repeat (first | (with_reducible first | exact HB.out | apply below_alloc | apply pw_below_drewN | apply below_drew1) | exact HB.out)))); have n4_ := Aside0.mk (below_step (by repeat (first | (with_reducible first | exact HB.out | apply below_alloc | apply pw_below_drewN | apply below_drew1) | exact HB.out)) hb); clear HO168; clear HO172; clear HO175; clear HB; have HO168 := n0_; have HO172 := n1_; have HO175 := n2_; have HO180 := n3_; have HB := n4_; clear n0_ n1_ n2_ n3_ n4_; clear hb ho16; obtain ⟨Ao17, co17, eo17⟩ := Kd.R_slice HO172.out; subst eo17; obtain ⟨Ao18, co18, eo18⟩ := Kd.R_slice HO180.out; subst eo18) | ((with_reducible refine gate_callee (f := 17) rfl ?_); refine goesL_ (some 19) rfl rfl Try.func17 (by kernel_rfl) rfl #[.slice Ao17 t169.length co17, .slice Ao18 y178.length co18] rfl (by (try simp only [List.map_toArray, List.map_cons, List.map_nil]); first | done | rfl | (simp only [List.length_drop, List.length_take]; rfl)) ?_; (with_reducible refine (chandleryref01_Texts.calls k _ _ t169 _ _ y178 true _ ?side1 ?side2 ?side3 ?side4 A3.out).mono ?_); (case side1 => repeat (first | exact (Kd.R_reads' HO172.out).2.2 | (with_reducible refine Kd.C_alloc ?_ _) | (with_reducible refine Kd.C_drewN ?_ _) | (with_reducible refine Kd.C_drew ?_))); (case side2 => exact (Kd.R_reads' HO172.out).2.1); (case side3 => repeat (first | exact (Kd.R_reads' HO180.out).2.2 | (with_reducible refine Kd.C_alloc ?_ _) | (with_reducible refine Kd.C_drewN ?_ _) | (with_reducible refine Kd.C_drew ?_))); (case side4 => exact (Kd.R_reads' HO180.out).2.1); rintro e w' ⟨rfl, ⟨nd, rfl⟩⟩; refine ⟨_, rfl, ?_⟩))
    go_ret
    exact ⟨by first | rfl | (simp [errW_none, errW_some] <;> rfl) | (simp [*, errW_none, errW_some] <;> rfl), by repeat (first | (with_reducible first | exact HB.out | apply below_alloc | apply pw_below_drewN | apply below_drew1) | exact HB.out)⟩
   ·rw [if_neg c6] at H
    have c6b0 : (t176 == 120) = false := beq_eq_false_iff_ne.mpr c6
    have c6b1 : (t176 != 120) = true := bne_iff_ne.mpr c6
    obtain rfl := Option.some.inj H
    go_enter Try.func18, Try.ntmps18
    go_wp2_with (first | ((with_reducible refine gate_dst (N := 7) rfl ?_); refine Kd.R_lit k27 _ 27 ?hg (N := 7) ?hd (xs := ([(⟨(⟨#[]⟩ : ByteArray), 1, false, (⟨#[97, 98, 99]⟩ : ByteArray)⟩ : S27)] : List (S27))) (inner := [.string (⟨#[]⟩ : ByteArray), .int .i64 1, .bool false, .string (⟨#[97, 98, 99]⟩ : ByteArray)]) (ok := fun _ => True) (okp := fun _ => True) ?hr ?hp (fun _ hk => hk) trivial (Below.refl _ _) (Nat.le_refl _) (by simp) ?_; (case hd => rfl); (case hg => rfl); (case hr => first | (go_simp; done) | (go_simp; rfl)); (case hp => exact (Reps.c4 (show Kd.M k27 _ _ _ (⟨(⟨#[]⟩ : ByteArray), 1, false, (⟨#[97, 98, 99]⟩ : ByteArray)⟩ : S27) [.string (⟨#[]⟩ : ByteArray), .int .i64 1, .bool false, .string (⟨#[97, 98, 99]⟩ : ByteArray)] from (k27_mkM _ _ _ (⟨(⟨#[]⟩ : ByteArray), 1, false, (⟨#[97, 98, 99]⟩ : ByteArray)⟩ : S27) )) (Reps.none _ _))); intro v167 w19 ho20 hb hg_ hnew_; clear hg_ hnew_; (first | rw [← Ny166.out] at ho20 | (simp only [Int.reduceToNat] at ho20; rw [← Ny166.out] at ho20)); have n0_ := Aside0.mk (Kd.R_lower ho20 (below_size (by repeat (first | (with_reducible first | exact HB.out | apply below_alloc | apply pw_below_drewN | apply below_drew1) | exact HB.out)))); have n1_ := Aside0.mk (below_step (by repeat (first | (with_reducible first | exact HB.out | apply below_alloc | apply pw_below_drewN | apply below_drew1) | exact HB.out)) hb); clear HB; have HO168 := n0_; have HB := n1_; clear n0_ n1_; clear hb ho20; obtain ⟨Ao21, co21, eo21⟩ := Kd.R_slice HO168.out; subst eo21) | ((with_reducible refine gate_callee (f := 15) rfl ?_); refine goesL_ (some 8) rfl rfl Try.func15 (by kernel_rfl) rfl #[.slice Ao21 y166.length co21] rfl (by (try simp only [List.map_toArray, List.map_cons, List.map_nil]); first | done | rfl | (simp only [List.length_drop, List.length_take]; rfl)) ?_; (with_reducible refine (narw_Texts.calls k _ _ y166 t169 t170 _ ?side1 ?side2 A1.out).mono ?_); (case side1 => repeat (first | exact (Kd.R_reads' HO168.out).2.2 | (with_reducible refine Kd.C_alloc ?_ _) | (with_reducible refine Kd.C_drewN ?_ _) | (with_reducible refine Kd.C_drew ?_))); (case side2 => exact (Kd.R_reads' HO168.out).2.1); rintro e w22 ⟨v171, rfl, ho0, hb⟩; refine ⟨_, rfl, ?_⟩; have n0_ := Aside0.mk (Kd.R_below (by (with_reducible repeat (first | apply Kd.R_alloc | apply Kd.R_drewN | apply Kd.R_drew)); exact HO168.out) hb); have n1_ := Aside0.mk (Kd.R_lower ho0 (below_size (by repeat (first | (with_reducible first | exact HB.out | apply below_alloc | apply pw_below_drewN | apply below_drew1) | exact HB.out)))); have n2_ := Aside0.mk (below_step (by repeat (first | (with_reducible first | exact HB.out | apply below_alloc | apply pw_below_drewN | apply below_drew1) | exact HB.out)) hb); clear HO168; clear HB; have HO168 := n0_; have HO172 := n1_; have HB := n2_; clear n0_ n1_ n2_; (try clear hb); (try clear hb2); (try clear hk); (try clear hi); (try clear ho0)) | ((with_reducible refine gate_dst (N := 13) rfl ?_); refine Kd.R_lit k27 _ 27 ?hg (N := 13) ?hd (xs := ([(⟨(⟨#[]⟩ : ByteArray), 1, false, (⟨#[97, 98, 99]⟩ : ByteArray)⟩ : S27)] : List (S27))) (inner := [.string (⟨#[]⟩ : ByteArray), .int .i64 1, .bool false, .string (⟨#[97, 98, 99]⟩ : ByteArray)]) (ok := fun _ => True) (okp := fun _ => True) ?hr ?hp (fun _ hk => hk) trivial (Below.refl _ _) (Nat.le_refl _) (by simp) ?_; (case hd => rfl); (case hg => rfl); (case hr => first | (go_simp; done) | (go_simp; rfl)); (case hp => exact (Reps.c4 (show Kd.M k27 _ _ _ (⟨(⟨#[]⟩ : ByteArray), 1, false, (⟨#[97, 98, 99]⟩ : ByteArray)⟩ : S27) [.string (⟨#[]⟩ : ByteArray), .int .i64 1, .bool false, .string (⟨#[97, 98, 99]⟩ : ByteArray)] from (k27_mkM _ _ _ (⟨(⟨#[]⟩ : ByteArray), 1, false, (⟨#[97, 98, 99]⟩ : ByteArray)⟩ : S27) )) (Reps.none _ _))); intro v174 w23 ho24 hb hg_ hnew_; clear hg_ hnew_; (first | rw [← Ny173.out] at ho24 | (simp only [Int.reduceToNat] at ho24; rw [← Ny173.out] at ho24)); have n0_ := Aside0.mk (Kd.R_elder' (by (with_reducible repeat (first | apply Kd.R_alloc | apply Kd.R_drewN | apply Kd.R_drew)); exact HO168.out) (Kd.R_base ho24) hb); have n1_ := Aside0.mk (Kd.R_below (by (with_reducible repeat (first | apply Kd.R_alloc | apply Kd.R_drewN | apply Kd.R_drew)); exact HO172.out) hb); have n2_ := Aside0.mk (Kd.R_lower (Kd.R_new' ho24 (Kd.R_lt (by (with_reducible repeat (first | apply Kd.R_alloc | apply Kd.R_drewN | apply Kd.R_drew)); exact HO168.out))) (below_size (by repeat (first | (with_reducible first | exact HB.out | apply below_alloc | apply pw_below_drewN | apply below_drew1) | exact HB.out)))); have n3_ := Aside0.mk (below_step (by repeat (first | (with_reducible first | exact HB.out | apply below_alloc | apply pw_below_drewN | apply below_drew1) | exact HB.out)) hb); clear HO168; clear HO172; clear HB; have HO168 := n0_; have HO172 := n1_; have HO175 := n2_; have HB := n3_; clear n0_ n1_ n2_ n3_; clear hb ho24; obtain ⟨Ao25, co25, eo25⟩ := Kd.R_slice HO175.out; subst eo25) | ((with_reducible refine gate_callee (f := 20) rfl ?_); refine goesL_ (some 14) rfl rfl Try.func20 (by kernel_rfl) rfl #[.slice Ao25 y173.length co25] rfl (by (try simp only [List.map_toArray, List.map_cons, List.map_nil]); first | done | rfl | (simp only [List.length_drop, List.length_take]; rfl)) ?_; (with_reducible refine (narw_Size.calls k _ _ y173 t176 t177 _ ?side1 ?side2 A2.out).mono ?_); (case side1 => repeat (first | exact (Kd.R_reads' HO175.out).2.2 | (with_reducible refine Kd.C_alloc ?_ _) | (with_reducible refine Kd.C_drewN ?_ _) | (with_reducible refine Kd.C_drew ?_))); (case side2 => exact (Kd.R_reads' HO175.out).2.1); rintro e w26 ⟨rfl, hb⟩; refine ⟨_, rfl, ?_⟩; have n0_ := Aside0.mk (Kd.R_below (by (with_reducible repeat (first | apply Kd.R_alloc | apply Kd.R_drewN | apply Kd.R_drew)); exact HO168.out) hb); have n1_ := Aside0.mk (Kd.R_below (by (with_reducible repeat (first | apply Kd.R_alloc | apply Kd.R_drewN | apply Kd.R_drew)); exact HO172.out) hb); have n2_ := Aside0.mk (Kd.R_below (by (with_reducible repeat (first | apply Kd.R_alloc | apply Kd.R_drewN | apply Kd.R_drew)); exact HO175.out) hb); have n3_ := Aside0.mk (below_step (by repeat (first | (with_reducible first | exact HB.out | apply below_alloc | apply pw_below_drewN | apply below_drew1) | exact HB.out)) hb); clear HO168; clear HO172; clear HO175; clear HB; have HO168 := n0_; have HO172 := n1_; have HO175 := n2_; have HB := n3_; clear n0_ n1_ n2_ n3_; (try clear hb); (try clear hb2); (try clear hk); (try clear hi)) | ((with_reducible refine gate_dst (N := 18) rfl ?_); refine Kd.R_lit Kd.string _ 9 ?hg (N := 18) ?hd (xs := ([(⟨#[110, 105, 120, 45, 97, 114, 99, 104, 105, 118, 101, 45, 49]⟩ : ByteArray), (⟨#[40]⟩ : ByteArray), (⟨#[116, 121, 112, 101]⟩ : ByteArray), (⟨#[114, 101, 103, 117, 108, 97, 114]⟩ : ByteArray), (⟨#[99, 111, 110, 116, 101, 110, 116, 115]⟩ : ByteArray), (⟨#[97, 98, 99]⟩ : ByteArray), (⟨#[41]⟩ : ByteArray)] : List ByteArray)) (inner := [.string (⟨#[110, 105, 120, 45, 97, 114, 99, 104, 105, 118, 101, 45, 49]⟩ : ByteArray), .string (⟨#[40]⟩ : ByteArray), .string (⟨#[116, 121, 112, 101]⟩ : ByteArray), .string (⟨#[114, 101, 103, 117, 108, 97, 114]⟩ : ByteArray), .string (⟨#[99, 111, 110, 116, 101, 110, 116, 115]⟩ : ByteArray), .string (⟨#[97, 98, 99]⟩ : ByteArray), .string (⟨#[41]⟩ : ByteArray)]) (ok := fun _ => True) (okp := fun _ => True) ?hr ?hp (fun _ hk => hk) trivial (Below.refl _ _) (Nat.le_refl _) (by simp) ?_; (case hd => rfl); (case hg => rfl); (case hr => first | (go_simp; done) | (go_simp; rfl)); (case hp => exact (Reps.one (show Kd.M Kd.string _ _ _ (⟨#[110, 105, 120, 45, 97, 114, 99, 104, 105, 118, 101, 45, 49]⟩ : ByteArray) [.string (⟨#[110, 105, 120, 45, 97, 114, 99, 104, 105, 118, 101, 45, 49]⟩ : ByteArray)] from rfl) (Reps.one (show Kd.M Kd.string _ _ _ (⟨#[40]⟩ : ByteArray) [.string (⟨#[40]⟩ : ByteArray)] from rfl) (Reps.one (show Kd.M Kd.string _ _ _ (⟨#[116, 121, 112, 101]⟩ : ByteArray) [.string (⟨#[116, 121, 112, 101]⟩ : ByteArray)] from rfl) (Reps.one (show Kd.M Kd.string _ _ _ (⟨#[114, 101, 103, 117, 108, 97, 114]⟩ : ByteArray) [.string (⟨#[114, 101, 103, 117, 108, 97, 114]⟩ : ByteArray)] from rfl) (Reps.one (show Kd.M Kd.string _ _ _ (⟨#[99, 111, 110, 116, 101, 110, 116, 115]⟩ : ByteArray) [.string (⟨#[99, 111, 110, 116, 101, 110, 116, 115]⟩ : ByteArray)] from rfl) (Reps.one (show Kd.M Kd.string _ _ _ (⟨#[97, 98, 99]⟩ : ByteArray) [.string (⟨#[97, 98, 99]⟩ : ByteArray)] from rfl) (Reps.one (show Kd.M Kd.string _ _ _ (⟨#[41]⟩ : ByteArray) [.string (⟨#[41]⟩ : ByteArray)] from rfl) (Reps.none _ _))))))))); intro v179 w27 ho28 hb hg_ hnew_; clear hg_ hnew_; (first | rw [← Ny178.out] at ho28 | (simp only [Int.reduceToNat] at ho28; rw [← Ny178.out] at ho28)); have n0_ := Aside0.mk (Kd.R_below (by (with_reducible repeat (first | apply Kd.R_alloc | apply Kd.R_drewN | apply Kd.R_drew)); exact HO168.out) hb); have n1_ := Aside0.mk (Kd.R_elder' (by (with_reducible repeat (first | apply Kd.R_alloc | apply Kd.R_drewN | apply Kd.R_drew)); exact HO172.out) (Kd.R_base ho28) hb); have n2_ := Aside0.mk (Kd.R_below (by (with_reducible repeat (first | apply Kd.R_alloc | apply Kd.R_drewN | apply Kd.R_drew)); exact HO175.out) hb); have n3_ := Aside0.mk (Kd.R_lower (Kd.R_new' ho28 (Kd.R_lt (by (with_reducible repeat (first | apply Kd.R_alloc | apply Kd.R_drewN | apply Kd.R_drew)); exact HO172.out))) (below_size (by repeat (first | (with_reducible first | exact HB.out | apply below_alloc | apply pw_below_drewN | apply below_drew1) | exact HB.out)))); have n4_ := Aside0.mk (below_step (by repeat (first | (with_reducible first | exact HB.out | apply below_alloc | apply pw_below_drewN | apply below_drew1) | exact HB.out)) hb); clear HO168; clear HO172; clear HO175; clear HB; have HO168 := n0_; have HO172 := n1_; have HO175 := n2_; have HO180 := n3_; have HB := n4_; clear n0_ n1_ n2_ n3_ n4_; clear hb ho28; obtain ⟨Ao29, co29, eo29⟩ := Kd.R_slice HO172.out; subst eo29; obtain ⟨Ao30, co30, eo30⟩ := Kd.R_slice HO180.out; subst eo30) | ((with_reducible refine gate_callee (f := 17) rfl ?_); refine goesL_ (some 19) rfl rfl Try.func17 (by kernel_rfl) rfl #[.slice Ao29 t169.length co29, .slice Ao30 y178.length co30] rfl (by (try simp only [List.map_toArray, List.map_cons, List.map_nil]); first | done | rfl | (simp only [List.length_drop, List.length_take]; rfl)) ?_; (with_reducible refine (chandleryref01_Texts.calls k _ _ t169 _ _ y178 true _ ?side1 ?side2 ?side3 ?side4 A3.out).mono ?_); (case side1 => repeat (first | exact (Kd.R_reads' HO172.out).2.2 | (with_reducible refine Kd.C_alloc ?_ _) | (with_reducible refine Kd.C_drewN ?_ _) | (with_reducible refine Kd.C_drew ?_))); (case side2 => exact (Kd.R_reads' HO172.out).2.1); (case side3 => repeat (first | exact (Kd.R_reads' HO180.out).2.2 | (with_reducible refine Kd.C_alloc ?_ _) | (with_reducible refine Kd.C_drewN ?_ _) | (with_reducible refine Kd.C_drew ?_))); (case side4 => exact (Kd.R_reads' HO180.out).2.1); rintro e w' ⟨rfl, ⟨nd, rfl⟩⟩; refine ⟨_, rfl, ?_⟩))
    go_ret
    exact ⟨by first | rfl | (simp [errW_none, errW_some] <;> rfl) | (simp [*, errW_none, errW_some] <;> rfl), by repeat (first | (with_reducible first | exact HB.out | apply below_alloc | apply pw_below_drewN | apply below_drew1) | exact HB.out)⟩
  ·rw [if_neg c5] at H
   have c5b0 : (t170 == 0) = false := beq_eq_false_iff_ne.mpr c5
   have c5b1 : (t170 != 0) = true := bne_iff_ne.mpr c5
   obtain rfl := Option.some.inj H
   go_enter Try.func18, Try.ntmps18
   go_wp2_with (first | ((with_reducible refine gate_dst (N := 7) rfl ?_); refine Kd.R_lit k27 _ 27 ?hg (N := 7) ?hd (xs := ([(⟨(⟨#[]⟩ : ByteArray), 1, false, (⟨#[97, 98, 99]⟩ : ByteArray)⟩ : S27)] : List (S27))) (inner := [.string (⟨#[]⟩ : ByteArray), .int .i64 1, .bool false, .string (⟨#[97, 98, 99]⟩ : ByteArray)]) (ok := fun _ => True) (okp := fun _ => True) ?hr ?hp (fun _ hk => hk) trivial (Below.refl _ _) (Nat.le_refl _) (by simp) ?_; (case hd => rfl); (case hg => rfl); (case hr => first | (go_simp; done) | (go_simp; rfl)); (case hp => exact (Reps.c4 (show Kd.M k27 _ _ _ (⟨(⟨#[]⟩ : ByteArray), 1, false, (⟨#[97, 98, 99]⟩ : ByteArray)⟩ : S27) [.string (⟨#[]⟩ : ByteArray), .int .i64 1, .bool false, .string (⟨#[97, 98, 99]⟩ : ByteArray)] from (k27_mkM _ _ _ (⟨(⟨#[]⟩ : ByteArray), 1, false, (⟨#[97, 98, 99]⟩ : ByteArray)⟩ : S27) )) (Reps.none _ _))); intro v167 w31 ho32 hb hg_ hnew_; clear hg_ hnew_; (first | rw [← Ny166.out] at ho32 | (simp only [Int.reduceToNat] at ho32; rw [← Ny166.out] at ho32)); have n0_ := Aside0.mk (Kd.R_lower ho32 (below_size (by repeat (first | (with_reducible first | exact HB.out | apply below_alloc | apply pw_below_drewN | apply below_drew1) | exact HB.out)))); have n1_ := Aside0.mk (below_step (by repeat (first | (with_reducible first | exact HB.out | apply below_alloc | apply pw_below_drewN | apply below_drew1) | exact HB.out)) hb); clear HB; have HO168 := n0_; have HB := n1_; clear n0_ n1_; clear hb ho32; obtain ⟨Ao33, co33, eo33⟩ := Kd.R_slice HO168.out; subst eo33) | ((with_reducible refine gate_callee (f := 15) rfl ?_); refine goesL_ (some 8) rfl rfl Try.func15 (by kernel_rfl) rfl #[.slice Ao33 y166.length co33] rfl (by (try simp only [List.map_toArray, List.map_cons, List.map_nil]); first | done | rfl | (simp only [List.length_drop, List.length_take]; rfl)) ?_; (with_reducible refine (narw_Texts.calls k _ _ y166 t169 t170 _ ?side1 ?side2 A1.out).mono ?_); (case side1 => repeat (first | exact (Kd.R_reads' HO168.out).2.2 | (with_reducible refine Kd.C_alloc ?_ _) | (with_reducible refine Kd.C_drewN ?_ _) | (with_reducible refine Kd.C_drew ?_))); (case side2 => exact (Kd.R_reads' HO168.out).2.1); rintro e w34 ⟨v171, rfl, ho0, hb⟩; refine ⟨_, rfl, ?_⟩; have n0_ := Aside0.mk (Kd.R_below (by (with_reducible repeat (first | apply Kd.R_alloc | apply Kd.R_drewN | apply Kd.R_drew)); exact HO168.out) hb); have n1_ := Aside0.mk (Kd.R_lower ho0 (below_size (by repeat (first | (with_reducible first | exact HB.out | apply below_alloc | apply pw_below_drewN | apply below_drew1) | exact HB.out)))); have n2_ := Aside0.mk (below_step (by repeat (first | (with_reducible first | exact HB.out | apply below_alloc | apply pw_below_drewN | apply below_drew1) | exact HB.out)) hb); clear HO168; clear HB; have HO168 := n0_; have HO172 := n1_; have HB := n2_; clear n0_ n1_ n2_; (try clear hb); (try clear hb2); (try clear hk); (try clear hi); (try clear ho0)) | ((with_reducible refine gate_dst (N := 13) rfl ?_); refine Kd.R_lit k27 _ 27 ?hg (N := 13) ?hd (xs := ([(⟨(⟨#[]⟩ : ByteArray), 1, false, (⟨#[97, 98, 99]⟩ : ByteArray)⟩ : S27)] : List (S27))) (inner := [.string (⟨#[]⟩ : ByteArray), .int .i64 1, .bool false, .string (⟨#[97, 98, 99]⟩ : ByteArray)]) (ok := fun _ => True) (okp := fun _ => True) ?hr ?hp (fun _ hk => hk) trivial (Below.refl _ _) (Nat.le_refl _) (by simp) ?_; (case hd => rfl); (case hg => rfl); (case hr => first | (go_simp; done) | (go_simp; rfl)); (case hp => exact (Reps.c4 (show Kd.M k27 _ _ _ (⟨(⟨#[]⟩ : ByteArray), 1, false, (⟨#[97, 98, 99]⟩ : ByteArray)⟩ : S27) [.string (⟨#[]⟩ : ByteArray), .int .i64 1, .bool false, .string (⟨#[97, 98, 99]⟩ : ByteArray)] from (k27_mkM _ _ _ (⟨(⟨#[]⟩ : ByteArray), 1, false, (⟨#[97, 98, 99]⟩ : ByteArray)⟩ : S27) )) (Reps.none _ _))); intro v174 w35 ho36 hb hg_ hnew_; clear hg_ hnew_; (first | rw [← Ny173.out] at ho36 | (simp only [Int.reduceToNat] at ho36; rw [← Ny173.out] at ho36)); have n0_ := Aside0.mk (Kd.R_elder' (by (with_reducible repeat (first | apply Kd.R_alloc | apply Kd.R_drewN | apply Kd.R_drew)); exact HO168.out) (Kd.R_base ho36) hb); have n1_ := Aside0.mk (Kd.R_below (by (with_reducible repeat (first | apply Kd.R_alloc | apply Kd.R_drewN | apply Kd.R_drew)); exact HO172.out) hb); have n2_ := Aside0.mk (Kd.R_lower (Kd.R_new' ho36 (Kd.R_lt (by (with_reducible repeat (first | apply Kd.R_alloc | apply Kd.R_drewN | apply Kd.R_drew)); exact HO168.out))) (below_size (by repeat (first | (with_reducible first | exact HB.out | apply below_alloc | apply pw_below_drewN | apply below_drew1) | exact HB.out)))); have n3_ := Aside0.mk (below_step (by repeat (first | (with_reducible first | exact HB.out | apply below_alloc | apply pw_below_drewN | apply below_drew1) | exact HB.out)) hb); clear HO168; clear HO172; clear HB; have HO168 := n0_; have HO172 := n1_; have HO175 := n2_; have HB := n3_; clear n0_ n1_ n2_ n3_; clear hb ho36; obtain ⟨Ao37, co37, eo37⟩ := Kd.R_slice HO175.out; subst eo37) | ((with_reducible refine gate_callee (f := 20) rfl ?_); refine goesL_ (some 14) rfl rfl Try.func20 (by kernel_rfl) rfl #[.slice Ao37 y173.length co37] rfl (by (try simp only [List.map_toArray, List.map_cons, List.map_nil]); first | done | rfl | (simp only [List.length_drop, List.length_take]; rfl)) ?_; (with_reducible refine (narw_Size.calls k _ _ y173 t176 t177 _ ?side1 ?side2 A2.out).mono ?_); (case side1 => repeat (first | exact (Kd.R_reads' HO175.out).2.2 | (with_reducible refine Kd.C_alloc ?_ _) | (with_reducible refine Kd.C_drewN ?_ _) | (with_reducible refine Kd.C_drew ?_))); (case side2 => exact (Kd.R_reads' HO175.out).2.1); rintro e w38 ⟨rfl, hb⟩; refine ⟨_, rfl, ?_⟩; have n0_ := Aside0.mk (Kd.R_below (by (with_reducible repeat (first | apply Kd.R_alloc | apply Kd.R_drewN | apply Kd.R_drew)); exact HO168.out) hb); have n1_ := Aside0.mk (Kd.R_below (by (with_reducible repeat (first | apply Kd.R_alloc | apply Kd.R_drewN | apply Kd.R_drew)); exact HO172.out) hb); have n2_ := Aside0.mk (Kd.R_below (by (with_reducible repeat (first | apply Kd.R_alloc | apply Kd.R_drewN | apply Kd.R_drew)); exact HO175.out) hb); have n3_ := Aside0.mk (below_step (by repeat (first | (with_reducible first | exact HB.out | apply below_alloc | apply pw_below_drewN | apply below_drew1) | exact HB.out)) hb); clear HO168; clear HO172; clear HO175; clear HB; have HO168 := n0_; have HO172 := n1_; have HO175 := n2_; have HB := n3_; clear n0_ n1_ n2_ n3_; (try clear hb); (try clear hb2); (try clear hk); (try clear hi)) | ((with_reducible refine gate_dst (N := 18) rfl ?_); refine Kd.R_lit Kd.string _ 9 ?hg (N := 18) ?hd (xs := ([(⟨#[110, 105, 120, 45, 97, 114, 99, 104, 105, 118, 101, 45, 49]⟩ : ByteArray), (⟨#[40]⟩ : ByteArray), (⟨#[116, 121, 112, 101]⟩ : ByteArray), (⟨#[114, 101, 103, 117, 108, 97, 114]⟩ : ByteArray), (⟨#[99, 111, 110, 116, 101, 110, 116, 115]⟩ : ByteArray), (⟨#[97, 98, 99]⟩ : ByteArray), (⟨#[41]⟩ : ByteArray)] : List ByteArray)) (inner := [.string (⟨#[110, 105, 120, 45, 97, 114, 99, 104, 105, 118, 101, 45, 49]⟩ : ByteArray), .string (⟨#[40]⟩ : ByteArray), .string (⟨#[116, 121, 112, 101]⟩ : ByteArray), .string (⟨#[114, 101, 103, 117, 108, 97, 114]⟩ : ByteArray), .string (⟨#[99, 111, 110, 116, 101, 110, 116, 115]⟩ : ByteArray), .string (⟨#[97, 98, 99]⟩ : ByteArray), .string (⟨#[41]⟩ : ByteArray)]) (ok := fun _ => True) (okp := fun _ => True) ?hr ?hp (fun _ hk => hk) trivial (Below.refl _ _) (Nat.le_refl _) (by simp) ?_; (case hd => rfl); (case hg => rfl); (case hr => first | (go_simp; done) | (go_simp; rfl)); (case hp => exact (Reps.one (show Kd.M Kd.string _ _ _ (⟨#[110, 105, 120, 45, 97, 114, 99, 104, 105, 118, 101, 45, 49]⟩ : ByteArray) [.string (⟨#[110, 105, 120, 45, 97, 114, 99, 104, 105, 118, 101, 45, 49]⟩ : ByteArray)] from rfl) (Reps.one (show Kd.M Kd.string _ _ _ (⟨#[40]⟩ : ByteArray) [.string (⟨#[40]⟩ : ByteArray)] from rfl) (Reps.one (show Kd.M Kd.string _ _ _ (⟨#[116, 121, 112, 101]⟩ : ByteArray) [.string (⟨#[116, 121, 112, 101]⟩ : ByteArray)] from rfl) (Reps.one (show Kd.M Kd.string _ _ _ (⟨#[114, 101, 103, 117, 108, 97, 114]⟩ : ByteArray) [.string (⟨#[114, 101, 103, 117, 108, 97, 114]⟩ : ByteArray)] from rfl) (Reps.one (show Kd.M Kd.string _ _ _ (⟨#[99, 111, 110, 116, 101, 110, 116, 115]⟩ : ByteArray) [.string (⟨#[99, 111, 110, 116, 101, 110, 116, 115]⟩ : ByteArray)] from rfl) (Reps.one (show Kd.M Kd.string _ _ _ (⟨#[97, 98, 99]⟩ : ByteArray) [.string (⟨#[97, 98, 99]⟩ : ByteArray)] from rfl) (Reps.one (show Kd.M Kd.string _ _ _ (⟨#[41]⟩ : ByteArray) [.string (⟨#[41]⟩ : ByteArray)] from rfl) (Reps.none _ _))))))))); intro v179 w39 ho40 hb hg_ hnew_; clear hg_ hnew_; (first | rw [← Ny178.out] at ho40 | (simp only [Int.reduceToNat] at ho40; rw [← Ny178.out] at ho40)); have n0_ := Aside0.mk (Kd.R_below (by (with_reducible repeat (first | apply Kd.R_alloc | apply Kd.R_drewN | apply Kd.R_drew)); exact HO168.out) hb); have n1_ := Aside0.mk (Kd.R_elder' (by (with_reducible repeat (first | apply Kd.R_alloc | apply Kd.R_drewN | apply Kd.R_drew)); exact HO172.out) (Kd.R_base ho40) hb); have n2_ := Aside0.mk (Kd.R_below (by (with_reducible repeat (first | apply Kd.R_alloc | apply Kd.R_drewN | apply Kd.R_drew)); exact HO175.out) hb); have n3_ := Aside0.mk (Kd.R_lower (Kd.R_new' ho40 (Kd.R_lt (by (with_reducible repeat (first | apply Kd.R_alloc | apply Kd.R_drewN | apply Kd.R_drew)); exact HO172.out))) (below_size (by repeat (first | (with_reducible first | exact HB.out | apply below_alloc | apply pw_below_drewN | apply below_drew1) | exact HB.out)))); have n4_ := Aside0.mk (below_step (by repeat (first | (with_reducible first | exact HB.out | apply below_alloc | apply pw_below_drewN | apply below_drew1) | exact HB.out)) hb); clear HO168; clear HO172; clear HO175; clear HB; have HO168 := n0_; have HO172 := n1_; have HO175 := n2_; have HO180 := n3_; have HB := n4_; clear n0_ n1_ n2_ n3_ n4_; clear hb ho40; obtain ⟨Ao41, co41, eo41⟩ := Kd.R_slice HO172.out; subst eo41; obtain ⟨Ao42, co42, eo42⟩ := Kd.R_slice HO180.out; subst eo42) | ((with_reducible refine gate_callee (f := 17) rfl ?_); refine goesL_ (some 19) rfl rfl Try.func17 (by kernel_rfl) rfl #[.slice Ao41 t169.length co41, .slice Ao42 y178.length co42] rfl (by (try simp only [List.map_toArray, List.map_cons, List.map_nil]); first | done | rfl | (simp only [List.length_drop, List.length_take]; rfl)) ?_; (with_reducible refine (chandleryref01_Texts.calls k _ _ t169 _ _ y178 true _ ?side1 ?side2 ?side3 ?side4 A3.out).mono ?_); (case side1 => repeat (first | exact (Kd.R_reads' HO172.out).2.2 | (with_reducible refine Kd.C_alloc ?_ _) | (with_reducible refine Kd.C_drewN ?_ _) | (with_reducible refine Kd.C_drew ?_))); (case side2 => exact (Kd.R_reads' HO172.out).2.1); (case side3 => repeat (first | exact (Kd.R_reads' HO180.out).2.2 | (with_reducible refine Kd.C_alloc ?_ _) | (with_reducible refine Kd.C_drewN ?_ _) | (with_reducible refine Kd.C_drew ?_))); (case side4 => exact (Kd.R_reads' HO180.out).2.1); rintro e w' ⟨rfl, ⟨nd, rfl⟩⟩; refine ⟨_, rfl, ?_⟩))
   go_ret
   exact ⟨by first | rfl | (simp [errW_none, errW_some] <;> rfl) | (simp [*, errW_none, errW_some] <;> rfl), by repeat (first | (with_reducible first | exact HB.out | apply below_alloc | apply pw_below_drewN | apply below_drew1) | exact HB.out)⟩
 ·replace c4 := Bool.eq_false_iff.mpr c4
  subst c4
  have H1 : (some false) = some r := by rw [if_neg (show ¬ (false = true) by decide)] at H; exact H
  clear H
  have H := H1
  clear H1
  obtain rfl := Option.some.inj H
  go_enter Try.func18, Try.ntmps18
  go_wp2_with (first | ((with_reducible refine gate_dst (N := 7) rfl ?_); refine Kd.R_lit k27 _ 27 ?hg (N := 7) ?hd (xs := ([(⟨(⟨#[]⟩ : ByteArray), 1, false, (⟨#[97, 98, 99]⟩ : ByteArray)⟩ : S27)] : List (S27))) (inner := [.string (⟨#[]⟩ : ByteArray), .int .i64 1, .bool false, .string (⟨#[97, 98, 99]⟩ : ByteArray)]) (ok := fun _ => True) (okp := fun _ => True) ?hr ?hp (fun _ hk => hk) trivial (Below.refl _ _) (Nat.le_refl _) (by simp) ?_; (case hd => rfl); (case hg => rfl); (case hr => first | (go_simp; done) | (go_simp; rfl)); (case hp => exact (Reps.c4 (show Kd.M k27 _ _ _ (⟨(⟨#[]⟩ : ByteArray), 1, false, (⟨#[97, 98, 99]⟩ : ByteArray)⟩ : S27) [.string (⟨#[]⟩ : ByteArray), .int .i64 1, .bool false, .string (⟨#[97, 98, 99]⟩ : ByteArray)] from (k27_mkM _ _ _ (⟨(⟨#[]⟩ : ByteArray), 1, false, (⟨#[97, 98, 99]⟩ : ByteArray)⟩ : S27) )) (Reps.none _ _))); intro v167 w43 ho44 hb hg_ hnew_; clear hg_ hnew_; (first | rw [← Ny166.out] at ho44 | (simp only [Int.reduceToNat] at ho44; rw [← Ny166.out] at ho44)); have n0_ := Aside0.mk (Kd.R_lower ho44 (below_size (by repeat (first | (with_reducible first | exact HB.out | apply below_alloc | apply pw_below_drewN | apply below_drew1) | exact HB.out)))); have n1_ := Aside0.mk (below_step (by repeat (first | (with_reducible first | exact HB.out | apply below_alloc | apply pw_below_drewN | apply below_drew1) | exact HB.out)) hb); clear HB; have HO168 := n0_; have HB := n1_; clear n0_ n1_; clear hb ho44; obtain ⟨Ao45, co45, eo45⟩ := Kd.R_slice HO168.out; subst eo45) | ((with_reducible refine gate_callee (f := 15) rfl ?_); refine goesL_ (some 8) rfl rfl Try.func15 (by kernel_rfl) rfl #[.slice Ao45 y166.length co45] rfl (by (try simp only [List.map_toArray, List.map_cons, List.map_nil]); first | done | rfl | (simp only [List.length_drop, List.length_take]; rfl)) ?_; (with_reducible refine (narw_Texts.calls k _ _ y166 t169 t170 _ ?side1 ?side2 A1.out).mono ?_); (case side1 => repeat (first | exact (Kd.R_reads' HO168.out).2.2 | (with_reducible refine Kd.C_alloc ?_ _) | (with_reducible refine Kd.C_drewN ?_ _) | (with_reducible refine Kd.C_drew ?_))); (case side2 => exact (Kd.R_reads' HO168.out).2.1); rintro e w46 ⟨v171, rfl, ho0, hb⟩; refine ⟨_, rfl, ?_⟩; have n0_ := Aside0.mk (Kd.R_below (by (with_reducible repeat (first | apply Kd.R_alloc | apply Kd.R_drewN | apply Kd.R_drew)); exact HO168.out) hb); have n1_ := Aside0.mk (Kd.R_lower ho0 (below_size (by repeat (first | (with_reducible first | exact HB.out | apply below_alloc | apply pw_below_drewN | apply below_drew1) | exact HB.out)))); have n2_ := Aside0.mk (below_step (by repeat (first | (with_reducible first | exact HB.out | apply below_alloc | apply pw_below_drewN | apply below_drew1) | exact HB.out)) hb); clear HO168; clear HB; have HO168 := n0_; have HO172 := n1_; have HB := n2_; clear n0_ n1_ n2_; (try clear hb); (try clear hb2); (try clear hk); (try clear hi); (try clear ho0)) | ((with_reducible refine gate_dst (N := 13) rfl ?_); refine Kd.R_lit k27 _ 27 ?hg (N := 13) ?hd (xs := ([(⟨(⟨#[]⟩ : ByteArray), 1, false, (⟨#[97, 98, 99]⟩ : ByteArray)⟩ : S27)] : List (S27))) (inner := [.string (⟨#[]⟩ : ByteArray), .int .i64 1, .bool false, .string (⟨#[97, 98, 99]⟩ : ByteArray)]) (ok := fun _ => True) (okp := fun _ => True) ?hr ?hp (fun _ hk => hk) trivial (Below.refl _ _) (Nat.le_refl _) (by simp) ?_; (case hd => rfl); (case hg => rfl); (case hr => first | (go_simp; done) | (go_simp; rfl)); (case hp => exact (Reps.c4 (show Kd.M k27 _ _ _ (⟨(⟨#[]⟩ : ByteArray), 1, false, (⟨#[97, 98, 99]⟩ : ByteArray)⟩ : S27) [.string (⟨#[]⟩ : ByteArray), .int .i64 1, .bool false, .string (⟨#[97, 98, 99]⟩ : ByteArray)] from (k27_mkM _ _ _ (⟨(⟨#[]⟩ : ByteArray), 1, false, (⟨#[97, 98, 99]⟩ : ByteArray)⟩ : S27) )) (Reps.none _ _))); intro v174 w47 ho48 hb hg_ hnew_; clear hg_ hnew_; (first | rw [← Ny173.out] at ho48 | (simp only [Int.reduceToNat] at ho48; rw [← Ny173.out] at ho48)); have n0_ := Aside0.mk (Kd.R_elder' (by (with_reducible repeat (first | apply Kd.R_alloc | apply Kd.R_drewN | apply Kd.R_drew)); exact HO168.out) (Kd.R_base ho48) hb); have n1_ := Aside0.mk (Kd.R_below (by (with_reducible repeat (first | apply Kd.R_alloc | apply Kd.R_drewN | apply Kd.R_drew)); exact HO172.out) hb); have n2_ := Aside0.mk (Kd.R_lower (Kd.R_new' ho48 (Kd.R_lt (by (with_reducible repeat (first | apply Kd.R_alloc | apply Kd.R_drewN | apply Kd.R_drew)); exact HO168.out))) (below_size (by repeat (first | (with_reducible first | exact HB.out | apply below_alloc | apply pw_below_drewN | apply below_drew1) | exact HB.out)))); have n3_ := Aside0.mk (below_step (by repeat (first | (with_reducible first | exact HB.out | apply below_alloc | apply pw_below_drewN | apply below_drew1) | exact HB.out)) hb); clear HO168; clear HO172; clear HB; have HO168 := n0_; have HO172 := n1_; have HO175 := n2_; have HB := n3_; clear n0_ n1_ n2_ n3_; clear hb ho48; obtain ⟨Ao49, co49, eo49⟩ := Kd.R_slice HO175.out; subst eo49) | ((with_reducible refine gate_callee (f := 20) rfl ?_); refine goesL_ (some 14) rfl rfl Try.func20 (by kernel_rfl) rfl #[.slice Ao49 y173.length co49] rfl (by (try simp only [List.map_toArray, List.map_cons, List.map_nil]); first | done | rfl | (simp only [List.length_drop, List.length_take]; rfl)) ?_; (with_reducible refine (narw_Size.calls k _ _ y173 t176 t177 _ ?side1 ?side2 A2.out).mono ?_); (case side1 => repeat (first | exact (Kd.R_reads' HO175.out).2.2 | (with_reducible refine Kd.C_alloc ?_ _) | (with_reducible refine Kd.C_drewN ?_ _) | (with_reducible refine Kd.C_drew ?_))); (case side2 => exact (Kd.R_reads' HO175.out).2.1); rintro e w50 ⟨rfl, hb⟩; refine ⟨_, rfl, ?_⟩; have n0_ := Aside0.mk (Kd.R_below (by (with_reducible repeat (first | apply Kd.R_alloc | apply Kd.R_drewN | apply Kd.R_drew)); exact HO168.out) hb); have n1_ := Aside0.mk (Kd.R_below (by (with_reducible repeat (first | apply Kd.R_alloc | apply Kd.R_drewN | apply Kd.R_drew)); exact HO172.out) hb); have n2_ := Aside0.mk (Kd.R_below (by (with_reducible repeat (first | apply Kd.R_alloc | apply Kd.R_drewN | apply Kd.R_drew)); exact HO175.out) hb); have n3_ := Aside0.mk (below_step (by repeat (first | (with_reducible first | exact HB.out | apply below_alloc | apply pw_below_drewN | apply below_drew1) | exact HB.out)) hb); clear HO168; clear HO172; clear HO175; clear HB; have HO168 := n0_; have HO172 := n1_; have HO175 := n2_; have HB := n3_; clear n0_ n1_ n2_ n3_; (try clear hb); (try clear hb2); (try clear hk); (try clear hi)) | ((with_reducible refine gate_dst (N := 18) rfl ?_); refine Kd.R_lit Kd.string _ 9 ?hg (N := 18) ?hd (xs := ([(⟨#[110, 105, 120, 45, 97, 114, 99, 104, 105, 118, 101, 45, 49]⟩ : ByteArray), (⟨#[40]⟩ : ByteArray), (⟨#[116, 121, 112, 101]⟩ : ByteArray), (⟨#[114, 101, 103, 117, 108, 97, 114]⟩ : ByteArray), (⟨#[99, 111, 110, 116, 101, 110, 116, 115]⟩ : ByteArray), (⟨#[97, 98, 99]⟩ : ByteArray), (⟨#[41]⟩ : ByteArray)] : List ByteArray)) (inner := [.string (⟨#[110, 105, 120, 45, 97, 114, 99, 104, 105, 118, 101, 45, 49]⟩ : ByteArray), .string (⟨#[40]⟩ : ByteArray), .string (⟨#[116, 121, 112, 101]⟩ : ByteArray), .string (⟨#[114, 101, 103, 117, 108, 97, 114]⟩ : ByteArray), .string (⟨#[99, 111, 110, 116, 101, 110, 116, 115]⟩ : ByteArray), .string (⟨#[97, 98, 99]⟩ : ByteArray), .string (⟨#[41]⟩ : ByteArray)]) (ok := fun _ => True) (okp := fun _ => True) ?hr ?hp (fun _ hk => hk) trivial (Below.refl _ _) (Nat.le_refl _) (by simp) ?_; (case hd => rfl); (case hg => rfl); (case hr => first | (go_simp; done) | (go_simp; rfl)); (case hp => exact (Reps.one (show Kd.M Kd.string _ _ _ (⟨#[110, 105, 120, 45, 97, 114, 99, 104, 105, 118, 101, 45, 49]⟩ : ByteArray) [.string (⟨#[110, 105, 120, 45, 97, 114, 99, 104, 105, 118, 101, 45, 49]⟩ : ByteArray)] from rfl) (Reps.one (show Kd.M Kd.string _ _ _ (⟨#[40]⟩ : ByteArray) [.string (⟨#[40]⟩ : ByteArray)] from rfl) (Reps.one (show Kd.M Kd.string _ _ _ (⟨#[116, 121, 112, 101]⟩ : ByteArray) [.string (⟨#[116, 121, 112, 101]⟩ : ByteArray)] from rfl) (Reps.one (show Kd.M Kd.string _ _ _ (⟨#[114, 101, 103, 117, 108, 97, 114]⟩ : ByteArray) [.string (⟨#[114, 101, 103, 117, 108, 97, 114]⟩ : ByteArray)] from rfl) (Reps.one (show Kd.M Kd.string _ _ _ (⟨#[99, 111, 110, 116, 101, 110, 116, 115]⟩ : ByteArray) [.string (⟨#[99, 111, 110, 116, 101, 110, 116, 115]⟩ : ByteArray)] from rfl) (Reps.one (show Kd.M Kd.string _ _ _ (⟨#[97, 98, 99]⟩ : ByteArray) [.string (⟨#[97, 98, 99]⟩ : ByteArray)] from rfl) (Reps.one (show Kd.M Kd.string _ _ _ (⟨#[41]⟩ : ByteArray) [.string (⟨#[41]⟩ : ByteArray)] from rfl) (Reps.none _ _))))))))); intro v179 w51 ho52 hb hg_ hnew_; clear hg_ hnew_; (first | rw [← Ny178.out] at ho52 | (simp only [Int.reduceToNat] at ho52; rw [← Ny178.out] at ho52)); have n0_ := Aside0.mk (Kd.R_below (by (with_reducible repeat (first | apply Kd.R_alloc | apply Kd.R_drewN | apply Kd.R_drew)); exact HO168.out) hb); have n1_ := Aside0.mk (Kd.R_elder' (by (with_reducible repeat (first | apply Kd.R_alloc | apply Kd.R_drewN | apply Kd.R_drew)); exact HO172.out) (Kd.R_base ho52) hb); have n2_ := Aside0.mk (Kd.R_below (by (with_reducible repeat (first | apply Kd.R_alloc | apply Kd.R_drewN | apply Kd.R_drew)); exact HO175.out) hb); have n3_ := Aside0.mk (Kd.R_lower (Kd.R_new' ho52 (Kd.R_lt (by (with_reducible repeat (first | apply Kd.R_alloc | apply Kd.R_drewN | apply Kd.R_drew)); exact HO172.out))) (below_size (by repeat (first | (with_reducible first | exact HB.out | apply below_alloc | apply pw_below_drewN | apply below_drew1) | exact HB.out)))); have n4_ := Aside0.mk (below_step (by repeat (first | (with_reducible first | exact HB.out | apply below_alloc | apply pw_below_drewN | apply below_drew1) | exact HB.out)) hb); clear HO168; clear HO172; clear HO175; clear HB; have HO168 := n0_; have HO172 := n1_; have HO175 := n2_; have HO180 := n3_; have HB := n4_; clear n0_ n1_ n2_ n3_ n4_; clear hb ho52; obtain ⟨Ao53, co53, eo53⟩ := Kd.R_slice HO172.out; subst eo53; obtain ⟨Ao54, co54, eo54⟩ := Kd.R_slice HO180.out; subst eo54) | ((with_reducible refine gate_callee (f := 17) rfl ?_); refine goesL_ (some 19) rfl rfl Try.func17 (by kernel_rfl) rfl #[.slice Ao53 t169.length co53, .slice Ao54 y178.length co54] rfl (by (try simp only [List.map_toArray, List.map_cons, List.map_nil]); first | done | rfl | (simp only [List.length_drop, List.length_take]; rfl)) ?_; (with_reducible refine (chandleryref01_Texts.calls k _ _ t169 _ _ y178 false _ ?side1 ?side2 ?side3 ?side4 A3.out).mono ?_); (case side1 => repeat (first | exact (Kd.R_reads' HO172.out).2.2 | (with_reducible refine Kd.C_alloc ?_ _) | (with_reducible refine Kd.C_drewN ?_ _) | (with_reducible refine Kd.C_drew ?_))); (case side2 => exact (Kd.R_reads' HO172.out).2.1); (case side3 => repeat (first | exact (Kd.R_reads' HO180.out).2.2 | (with_reducible refine Kd.C_alloc ?_ _) | (with_reducible refine Kd.C_drewN ?_ _) | (with_reducible refine Kd.C_drew ?_))); (case side4 => exact (Kd.R_reads' HO180.out).2.1); rintro e w' ⟨rfl, ⟨nd, rfl⟩⟩; refine ⟨_, rfl, ?_⟩))
  go_ret
  exact ⟨by first | rfl | (simp [errW_none, errW_some] <;> rfl) | (simp [*, errW_none, errW_some] <;> rfl), by repeat (first | (with_reducible first | exact HB.out | apply below_alloc | apply pw_below_drewN | apply below_drew1) | exact HB.out)⟩
mutual
def chandlerylaw17_NarwParts.j0 : Nat → List (S27) → ByteArray → Bool → Option (Bool)
 | 0, _, _, _ => none
 | k + 1, x0, x1, x19 => if x19 = true then (some true) else ((chandleryref16_Find.f k x0 x1).bind fun bt184 => (if bt184.2.2.2.2 = true then ((narw_Texts.f k x0).bind fun bt190 => ((chandleryref16_Below.f k x0 x1).bind fun t194 => ((narw_Texts.f k t194).bind fun bt197 => (if bt190.2 = 0 then (if bt197.2 = 0 then (chandlerylaw17_NarwParts.j1 k bt190.1 bt197.1 (decide ((bt197.1.length : Int) < 2))) else (chandlerylaw17_NarwParts.j1 k bt190.1 bt197.1 true)) else (chandlerylaw17_NarwParts.j1 k bt190.1 bt197.1 true))))) else (some true)))
def chandlerylaw17_NarwParts.j1 : Nat → List ByteArray → List ByteArray → Bool → Option (Bool)
 | 0, _, _, _ => none
 | k + 1, x7, x9, x50 => if x50 = true then (some false) else (if 1 ≤ (x9.length : Int) then (chandlerylaw17_NarwParts.l0 k x7 (x9.drop (1 : Int).toNat) 0) else (none))
def chandlerylaw17_NarwParts.l0 : Nat → List ByteArray → List ByteArray → Int → Option (Bool)
 | 0, _, _, _ => none
 | k + 1, x7, x9, x11 => if (wrap64 (x11 + (x9.length : Int))) ≤ (x7.length : Int) then (if 0 ≤ x11 then (if x11 ≤ (wrap64 (x11 + (x9.length : Int))) then ((chandleryref01_Texts.f k ((x7.take ((wrap64 (x11 + (x9.length : Int))) : Int).toNat).drop (x11 : Int).toNat) x9).bind fun t208 => (if t208 = true then ((chandlerylaw17_awake.f k).bind fun t209 => (some t209)) else (chandlerylaw17_NarwParts.l0 k x7 x9 (wrap64 (x11 + 1))))) else (none)) else (none)) else (some false)
end
def chandlerylaw17_NarwParts.f (k : Nat) (l0 : List (S27)) (a1 : ByteArray) : Option (Bool) := (chandlerylaw17_few.f k l0).bind fun t182 => (if t182 = true then ((chandleryref16_Check.f k l0).bind fun t183 => (chandlerylaw17_NarwParts.j0 k l0 a1 (t183 != 0))) else (chandlerylaw17_NarwParts.j0 k l0 a1 true))
theorem chandlerylaw17_NarwParts.mono_l : ∀ k, (∀ y0 y1 y2, LeO (chandlerylaw17_NarwParts.j0 k y0 y1 y2) (chandlerylaw17_NarwParts.j0 (k + 1) y0 y1 y2)) ∧ (∀ y0 y1 y2, LeO (chandlerylaw17_NarwParts.j1 k y0 y1 y2) (chandlerylaw17_NarwParts.j1 (k + 1) y0 y1 y2)) ∧ (∀ y0 y1 y2, LeO (chandlerylaw17_NarwParts.l0 k y0 y1 y2) (chandlerylaw17_NarwParts.l0 (k + 1) y0 y1 y2))
 | 0 => ⟨fun _ _ _ r h => by simp [chandlerylaw17_NarwParts.j0] at h, fun _ _ _ r h => by simp [chandlerylaw17_NarwParts.j1] at h, fun _ _ _ r h => by simp [chandlerylaw17_NarwParts.l0] at h⟩
 | k + 1 => by
  obtain ⟨ih0, ih1, ih2⟩ := chandlerylaw17_NarwParts.mono_l k
  refine ⟨?_, ?_, ?_⟩
  ·intro y0 y1 y2
   unfold chandlerylaw17_NarwParts.j0
   repeat' first
   | (with_reducible exact ih0 _ _ _)
   | (with_reducible exact ih1 _ _ _)
   | (with_reducible exact ih2 _ _ _)
   | (with_reducible exact chandlerylaw17_awake.mono _)
   | (with_reducible exact chandlerylaw17_few.mono _ _)
   | (with_reducible exact chandleryref01_Texts.mono _ _ _)
   | (with_reducible exact chandleryref16_Below.mono _ _ _)
   | (with_reducible exact chandleryref16_Check.mono _ _)
   | (with_reducible exact chandleryref16_Find.mono _ _ _)
   | (with_reducible exact narw_Texts.mono _ _)
   | (with_reducible exact LeO.refl _)
   | (with_reducible exact LeO.none _)
   | (with_reducible refine LeO.ite ?_ ?_)
   | (with_reducible refine LeO.bind ?_ (fun _ => ?_))
   | exact ih0 _ _ _
   | exact ih1 _ _ _
   | exact ih2 _ _ _
   | exact chandlerylaw17_awake.mono _
   | exact chandlerylaw17_few.mono _ _
   | exact chandleryref01_Texts.mono _ _ _
   | exact chandleryref16_Below.mono _ _ _
   | exact chandleryref16_Check.mono _ _
   | exact chandleryref16_Find.mono _ _ _
   | exact narw_Texts.mono _ _
   | exact LeO.none _
   | refine LeO.ite ?_ ?_
   | refine LeO.bind ?_ (fun _ => ?_)
  ·intro y0 y1 y2
   unfold chandlerylaw17_NarwParts.j1
   repeat' first
   | (with_reducible exact ih0 _ _ _)
   | (with_reducible exact ih1 _ _ _)
   | (with_reducible exact ih2 _ _ _)
   | (with_reducible exact chandlerylaw17_awake.mono _)
   | (with_reducible exact chandlerylaw17_few.mono _ _)
   | (with_reducible exact chandleryref01_Texts.mono _ _ _)
   | (with_reducible exact chandleryref16_Below.mono _ _ _)
   | (with_reducible exact chandleryref16_Check.mono _ _)
   | (with_reducible exact chandleryref16_Find.mono _ _ _)
   | (with_reducible exact narw_Texts.mono _ _)
   | (with_reducible exact LeO.refl _)
   | (with_reducible exact LeO.none _)
   | (with_reducible refine LeO.ite ?_ ?_)
   | (with_reducible refine LeO.bind ?_ (fun _ => ?_))
   | exact ih0 _ _ _
   | exact ih1 _ _ _
   | exact ih2 _ _ _
   | exact chandlerylaw17_awake.mono _
   | exact chandlerylaw17_few.mono _ _
   | exact chandleryref01_Texts.mono _ _ _
   | exact chandleryref16_Below.mono _ _ _
   | exact chandleryref16_Check.mono _ _
   | exact chandleryref16_Find.mono _ _ _
   | exact narw_Texts.mono _ _
   | exact LeO.none _
   | refine LeO.ite ?_ ?_
   | refine LeO.bind ?_ (fun _ => ?_)
  ·intro y0 y1 y2
   unfold chandlerylaw17_NarwParts.l0
   repeat' first
   | (with_reducible exact ih0 _ _ _)
   | (with_reducible exact ih1 _ _ _)
   | (with_reducible exact ih2 _ _ _)
   | (with_reducible exact chandlerylaw17_awake.mono _)
   | (with_reducible exact chandlerylaw17_few.mono _ _)
   | (with_reducible exact chandleryref01_Texts.mono _ _ _)
   | (with_reducible exact chandleryref16_Below.mono _ _ _)
   | (with_reducible exact chandleryref16_Check.mono _ _)
   | (with_reducible exact chandleryref16_Find.mono _ _ _)
   | (with_reducible exact narw_Texts.mono _ _)
   | (with_reducible exact LeO.refl _)
   | (with_reducible exact LeO.none _)
   | (with_reducible refine LeO.ite ?_ ?_)
   | (with_reducible refine LeO.bind ?_ (fun _ => ?_))
   | exact ih0 _ _ _
   | exact ih1 _ _ _
   | exact ih2 _ _ _
   | exact chandlerylaw17_awake.mono _
   | exact chandlerylaw17_few.mono _ _
   | exact chandleryref01_Texts.mono _ _ _
   | exact chandleryref16_Below.mono _ _ _
   | exact chandleryref16_Check.mono _ _
   | exact chandleryref16_Find.mono _ _ _
   | exact narw_Texts.mono _ _
   | exact LeO.none _
   | refine LeO.ite ?_ ?_
   | refine LeO.bind ?_ (fun _ => ?_)
theorem chandlerylaw17_NarwParts.mono : ∀ a0 a1 k, LeO (chandlerylaw17_NarwParts.f k a0 a1) (chandlerylaw17_NarwParts.f (k + 1) a0 a1) := by
 intro a0 a1 k
 obtain ⟨ih0, ih1, ih2⟩ := chandlerylaw17_NarwParts.mono_l k
 unfold chandlerylaw17_NarwParts.f
 repeat' first
   | (with_reducible exact ih0 _ _ _)
   | (with_reducible exact ih1 _ _ _)
   | (with_reducible exact ih2 _ _ _)
   | (with_reducible exact chandlerylaw17_awake.mono _)
   | (with_reducible exact chandlerylaw17_few.mono _ _)
   | (with_reducible exact chandleryref01_Texts.mono _ _ _)
   | (with_reducible exact chandleryref16_Below.mono _ _ _)
   | (with_reducible exact chandleryref16_Check.mono _ _)
   | (with_reducible exact chandleryref16_Find.mono _ _ _)
   | (with_reducible exact narw_Texts.mono _ _)
   | (with_reducible exact LeO.refl _)
   | (with_reducible exact LeO.none _)
   | (with_reducible refine LeO.ite ?_ ?_)
   | (with_reducible refine LeO.bind ?_ (fun _ => ?_))
   | exact ih0 _ _ _
   | exact ih1 _ _ _
   | exact ih2 _ _ _
   | exact chandlerylaw17_awake.mono _
   | exact chandlerylaw17_few.mono _ _
   | exact chandleryref01_Texts.mono _ _ _
   | exact chandleryref16_Below.mono _ _ _
   | exact chandleryref16_Check.mono _ _
   | exact chandleryref16_Find.mono _ _ _
   | exact narw_Texts.mono _ _
   | exact LeO.none _
   | refine LeO.ite ?_ ?_
   | refine LeO.bind ?_ (fun _ => ?_)
set_option maxHeartbeats 8000000 in
set_option maxRecDepth 100000 in
theorem chandlerylaw17_NarwParts.calls (k : Nat) (A0 : Option Addr) (c0 : Nat) (l0 : List (S27)) (a1 : ByteArray) (r : Bool) (w : World) (hr0 : Kd.C k27 w A0 l0.length l0) (hc0 : l0.length ≤ c0) (h : chandlerylaw17_NarwParts.f k l0 a1 = some r) :
  Calls Try.prog 3 #[.slice A0 l0.length c0, .string a1] w fun e w' => e = .returned (.bool r) ∧ Below w.heap.size w w' := by
 have hu27 := Try.underlying27
 have HR0 := Aside0.mk hr0
 have HC0 := Aside0.mk hc0
 clear hr0 hc0
 have HB := Aside0.mk (Below.refl w.heap.size w)
 have H : ((chandlerylaw17_few.f k l0).bind fun t182 => (if t182 = true then ((chandleryref16_Check.f k l0).bind fun t183 => (chandlerylaw17_NarwParts.j0 k l0 a1 (t183 != 0))) else (chandlerylaw17_NarwParts.j0 k l0 a1 true))) = some r := h
 clear h
 have HC3 := Aside0.mk H
 clear H
 go_enter Try.func3, Try.ntmps3
 go_upto_region 1 with (fail)
 go_cut [19] (fun v19 wc => ∃ (kq : Nat) (x19_2 : Bool), v19 = .bool x19_2 ∧ Aside0 (chandlerylaw17_NarwParts.j0 kq l0 a1 x19_2 = some r) ∧ Aside0 (kq ≤ k) ∧ Aside0 (Below w.heap.size w wc))
 case first =>
  have H := HC3.out
  clear HC3
  replace H := Option.bind_eq_some_iff.mp H
  obtain ⟨t182, A40, H⟩ := H
  replace H : (if t182 = true then ((chandleryref16_Check.f k l0).bind fun t183 => (chandlerylaw17_NarwParts.j0 k l0 a1 (t183 != 0))) else (chandlerylaw17_NarwParts.j0 k l0 a1 true)) = some r := H
  have A4 := Aside0.mk A40
  clear A40
  by_cases c5 : t182 = true
  ·subst c5
   have H1 : ((chandleryref16_Check.f k l0).bind fun t183 => (chandlerylaw17_NarwParts.j0 k l0 a1 (t183 != 0))) = some r := by rw [if_pos rfl] at H; exact H
   clear H
   have H := H1
   clear H1
   replace H := Option.bind_eq_some_iff.mp H
   obtain ⟨t183, A60, H⟩ := H
   replace H : (chandlerylaw17_NarwParts.j0 k l0 a1 (t183 != 0)) = some r := H
   have A6 := Aside0.mk A60
   clear A60
   have H' := Aside0.mk H
   clear H
   go_wp2_with (first | ((with_reducible refine gate_callee (f := 12) rfl ?_); refine goesL_ (some 13) rfl rfl Try.func12 (by kernel_rfl) rfl #[.slice A0 l0.length c0] rfl (by (try simp only [List.map_toArray, List.map_cons, List.map_nil]); first | done | rfl | (simp only [List.length_drop, List.length_take]; rfl)) ?_; (with_reducible refine (chandlerylaw17_few.calls k _ _ l0 true _ ?side1 ?side2 A4.out).mono ?_); (case side1 => repeat (first | exact (Kd.C_below HR0.out HB.out) | (with_reducible refine Kd.C_alloc ?_ _) | (with_reducible refine Kd.C_drewN ?_ _) | (with_reducible refine Kd.C_drew ?_))); (case side2 => exact HC0.out); rintro e w' ⟨rfl, ⟨nd, rfl⟩⟩; refine ⟨_, rfl, ?_⟩) | (go_at_call 13; (with_reducible refine (chandleryref16_Check.calls k _ _ l0 t183 _ ?side1 ?side2 A6.out).mono ?_); (case side1 => repeat (first | exact (Kd.C_below HR0.out (by repeat (first | (with_reducible first | exact HB.out | apply below_alloc | apply pw_below_drewN | apply below_drew1) | exact HB.out))) | (with_reducible refine Kd.C_alloc ?_ _) | (with_reducible refine Kd.C_drewN ?_ _) | (with_reducible refine Kd.C_drew ?_))); (case side2 => exact HC0.out); rintro e w7 ⟨rfl, hb⟩; have n0_ := Aside0.mk (below_step (by repeat (first | (with_reducible first | exact HB.out | apply below_alloc | apply pw_below_drewN | apply below_drew1) | exact HB.out)) hb); clear HB; have HB := n0_; clear n0_; (try clear hb); (try clear hb2); (try clear hk); (try clear hi)))
   go_meet
   case rel => exact ⟨_, ((t183 != 0)), (by first | rfl | (simp; done) | exact congrArg Value.bool (Go.Proofs.YtlcaogiljiieaaaX.isEmpty_ne_ _) | exact congrArg Value.bool (Go.Proofs.YtlcaogiljiieaaaX.ne_isEmpty_ _) | (simp [*]; done)), H', ⟨by first | omega | exact Nat.le_refl _⟩, ⟨by repeat (first | (with_reducible first | exact HB.out | apply below_alloc | apply pw_below_drewN | apply below_drew1) | exact HB.out)⟩⟩
  ·replace c5 := Bool.eq_false_iff.mpr c5
   subst c5
   have H1 : (chandlerylaw17_NarwParts.j0 k l0 a1 true) = some r := by rw [if_neg (show ¬ (false = true) by decide)] at H; exact H
   clear H
   have H := H1
   clear H1
   have H' := Aside0.mk H
   clear H
   go_wp2_with (first | ((with_reducible refine gate_callee (f := 12) rfl ?_); refine goesL_ (some 13) rfl rfl Try.func12 (by kernel_rfl) rfl #[.slice A0 l0.length c0] rfl (by (try simp only [List.map_toArray, List.map_cons, List.map_nil]); first | done | rfl | (simp only [List.length_drop, List.length_take]; rfl)) ?_; (with_reducible refine (chandlerylaw17_few.calls k _ _ l0 false _ ?side1 ?side2 A4.out).mono ?_); (case side1 => repeat (first | exact (Kd.C_below HR0.out HB.out) | (with_reducible refine Kd.C_alloc ?_ _) | (with_reducible refine Kd.C_drewN ?_ _) | (with_reducible refine Kd.C_drew ?_))); (case side2 => exact HC0.out); rintro e w' ⟨rfl, ⟨nd, rfl⟩⟩; refine ⟨_, rfl, ?_⟩))
   go_meet
   case rel => exact ⟨_, (true), (by first | rfl | (simp; done) | exact congrArg Value.bool (Go.Proofs.YtlcaogiljiieaaaX.isEmpty_ne_ _) | exact congrArg Value.bool (Go.Proofs.YtlcaogiljiieaaaX.ne_isEmpty_ _) | (simp [*]; done)), H', ⟨by first | omega | exact Nat.le_refl _⟩, ⟨by repeat (first | (with_reducible first | exact HB.out | apply below_alloc | apply pw_below_drewN | apply below_drew1) | exact HB.out)⟩⟩
 case rest =>
  clear HC3
  try clear c1
  try clear p2
  try clear c3
  try clear c5
  obtain ⟨kq, x19_2, rfl, HA, HJ2, HB⟩ := hcut
  cases kq with
  | zero => exact absurd HA.out (by simp [chandlerylaw17_NarwParts.j0])
  | succ kj2 =>
   have H := HA.out
   clear HA
   simp only [chandlerylaw17_NarwParts.j0] at H
   by_cases c8 : x19_2 = true
   ·subst c8
    have H1 : (some true) = some r := by rw [if_pos rfl] at H; exact H
    clear H
    have H := H1
    clear H1
    obtain rfl := Option.some.inj H
    go_wp2
    go_ret
    exact ⟨by first | rfl | (simp [errW_none, errW_some] <;> rfl) | (simp [*, errW_none, errW_some] <;> rfl), by repeat (first | (with_reducible first | exact HB.out | apply below_alloc | apply pw_below_drewN | apply below_drew1) | exact HB.out)⟩
   ·replace c8 := Bool.eq_false_iff.mpr c8
    subst c8
    have H1 : ((chandleryref16_Find.f kj2 l0 a1).bind fun bt184 => (if bt184.2.2.2.2 = true then ((narw_Texts.f kj2 l0).bind fun bt190 => ((chandleryref16_Below.f kj2 l0 a1).bind fun t194 => ((narw_Texts.f kj2 t194).bind fun bt197 => (if bt190.2 = 0 then (if bt197.2 = 0 then (chandlerylaw17_NarwParts.j1 kj2 bt190.1 bt197.1 (decide ((bt197.1.length : Int) < 2))) else (chandlerylaw17_NarwParts.j1 kj2 bt190.1 bt197.1 true)) else (chandlerylaw17_NarwParts.j1 kj2 bt190.1 bt197.1 true))))) else (some true))) = some r := by rw [if_neg (show ¬ (false = true) by decide)] at H; exact H
    clear H
    have H := H1
    clear H1
    replace H := Option.bind_eq_some_iff.mp H
    obtain ⟨⟨t184, t185, t186, t187, t188⟩, A90, H⟩ := H
    replace H : (if t188 = true then ((narw_Texts.f kj2 l0).bind fun bt190 => ((chandleryref16_Below.f kj2 l0 a1).bind fun t194 => ((narw_Texts.f kj2 t194).bind fun bt197 => (if bt190.2 = 0 then (if bt197.2 = 0 then (chandlerylaw17_NarwParts.j1 kj2 bt190.1 bt197.1 (decide ((bt197.1.length : Int) < 2))) else (chandlerylaw17_NarwParts.j1 kj2 bt190.1 bt197.1 true)) else (chandlerylaw17_NarwParts.j1 kj2 bt190.1 bt197.1 true))))) else (some true)) = some r := H
    have A9 := Aside0.mk A90
    clear A90
    by_cases c10 : t188 = true
    ·subst c10
     have H1 : ((narw_Texts.f kj2 l0).bind fun bt190 => ((chandleryref16_Below.f kj2 l0 a1).bind fun t194 => ((narw_Texts.f kj2 t194).bind fun bt197 => (if bt190.2 = 0 then (if bt197.2 = 0 then (chandlerylaw17_NarwParts.j1 kj2 bt190.1 bt197.1 (decide ((bt197.1.length : Int) < 2))) else (chandlerylaw17_NarwParts.j1 kj2 bt190.1 bt197.1 true)) else (chandlerylaw17_NarwParts.j1 kj2 bt190.1 bt197.1 true))))) = some r := by rw [if_pos rfl] at H; exact H
     clear H
     have H := H1
     clear H1
     replace H := Option.bind_eq_some_iff.mp H
     obtain ⟨⟨t190, t191⟩, A110, H⟩ := H
     replace H : ((chandleryref16_Below.f kj2 l0 a1).bind fun t194 => ((narw_Texts.f kj2 t194).bind fun bt197 => (if t191 = 0 then (if bt197.2 = 0 then (chandlerylaw17_NarwParts.j1 kj2 t190 bt197.1 (decide ((bt197.1.length : Int) < 2))) else (chandlerylaw17_NarwParts.j1 kj2 t190 bt197.1 true)) else (chandlerylaw17_NarwParts.j1 kj2 t190 bt197.1 true)))) = some r := H
     have A11 := Aside0.mk A110
     clear A110
     replace H := Option.bind_eq_some_iff.mp H
     obtain ⟨t194, A120, H⟩ := H
     replace H : ((narw_Texts.f kj2 t194).bind fun bt197 => (if t191 = 0 then (if bt197.2 = 0 then (chandlerylaw17_NarwParts.j1 kj2 t190 bt197.1 (decide ((bt197.1.length : Int) < 2))) else (chandlerylaw17_NarwParts.j1 kj2 t190 bt197.1 true)) else (chandlerylaw17_NarwParts.j1 kj2 t190 bt197.1 true))) = some r := H
     have A12 := Aside0.mk A120
     clear A120
     replace H := Option.bind_eq_some_iff.mp H
     obtain ⟨⟨t197, t198⟩, A130, H⟩ := H
     replace H : (if t191 = 0 then (if t198 = 0 then (chandlerylaw17_NarwParts.j1 kj2 t190 t197 (decide ((t197.length : Int) < 2))) else (chandlerylaw17_NarwParts.j1 kj2 t190 t197 true)) else (chandlerylaw17_NarwParts.j1 kj2 t190 t197 true)) = some r := H
     have A13 := Aside0.mk A130
     clear A130
     have HC14 := Aside0.mk H
     clear H
     go_upto_region 8 with (first | ((with_reducible refine gate_callee (f := 14) rfl ?_); refine goesL_ (some 23) rfl rfl Try.func14 (by kernel_rfl) rfl #[.slice A0 l0.length c0, .string a1] rfl (by (try simp only [List.map_toArray, List.map_cons, List.map_nil]); first | done | rfl | (simp only [List.length_drop, List.length_take]; rfl)) ?_; (with_reducible refine (chandleryref16_Find.calls kj2 _ _ l0 a1 t184 t185 t186 t187 true _ ?side1 ?side2 A9.out).mono ?_); (case side1 => repeat (first | exact (Kd.C_below HR0.out HB.out) | (with_reducible refine Kd.C_alloc ?_ _) | (with_reducible refine Kd.C_drewN ?_ _) | (with_reducible refine Kd.C_drew ?_))); (case side2 => exact HC0.out); rintro e w15 ⟨rfl, hb⟩; refine ⟨_, rfl, ?_⟩; have n0_ := Aside0.mk (below_step (by repeat (first | (with_reducible first | exact HB.out | apply below_alloc | apply pw_below_drewN | apply below_drew1) | exact HB.out)) hb); clear HB; have HB := n0_; clear n0_; (try clear hb); (try clear hb2); (try clear hk); (try clear hi)) | ((with_reducible refine gate_dst (N := 5) rfl ?_); (try (refine gate_guard (by rfl) ?_; dsimp only)); refine box_event ?hg (N := 5) ?hd (cs := #[.string (⟨#[]⟩ : ByteArray), .int .i64 0, .bool false, .string (⟨#[]⟩ : ByteArray)]) (t := 27) ?hr ?_; (case hd => rfl); (case hg => rfl); (case hr => first | (go_simp; done) | (go_simp; rfl)); intro gb189 hg w16 hbox hb; have n0_ := Aside0.mk (below_step (by repeat (first | (with_reducible first | exact HB.out | apply below_alloc | apply pw_below_drewN | apply below_drew1) | exact HB.out)) hb); have n1_ := Aside0.mk (hbox); have n2_ := Aside0.mk ((by rw [hg]; exact (below_size (by repeat (first | (with_reducible first | exact HB.out | apply below_alloc | apply pw_below_drewN | apply below_drew1) | exact HB.out))) : w.heap.size ≤ gb189)); have n3_ := Aside0.mk ((by rw [hg]; exact (below_size (by repeat (first | (with_reducible first | exact HB.out | apply below_alloc | apply pw_below_drewN | apply below_drew1) | exact HB.out))) : w.heap.size ≤ gb189)); clear HB; have HB := n0_; have BK189 := n1_; have GW189 := n2_; have GE189 := n3_; clear n0_ n1_ n2_ n3_; clear hb hbox hg; have hcz17_0 : w16.cell? ⟨gb189, 0, none⟩ = some (.string (⟨#[]⟩ : ByteArray)) := (blk_cell BK189.out 0).trans rfl; have hcz17_1 : w16.cell? ⟨gb189, 1, none⟩ = some (.int .i64 0) := (blk_cell BK189.out 1).trans rfl; have hcz17_2 : w16.cell? ⟨gb189, 2, none⟩ = some (.bool false) := (blk_cell BK189.out 2).trans rfl; have hcz17_3 : w16.cell? ⟨gb189, 3, none⟩ = some (.string (⟨#[]⟩ : ByteArray)) := (blk_cell BK189.out 3).trans rfl; have hfz17_0 := blk_frozen BK189.out 0; have hfz17_1 := blk_frozen BK189.out 1; have hfz17_2 := blk_frozen BK189.out 2; have hfz17_3 := blk_frozen BK189.out 3) | ((with_reducible refine gate_callee (f := 15) rfl ?_); refine goesL_ (some 30) rfl rfl Try.func15 (by kernel_rfl) rfl #[.slice A0 l0.length c0] rfl (by (try simp only [List.map_toArray, List.map_cons, List.map_nil]); first | done | rfl | (simp only [List.length_drop, List.length_take]; rfl)) ?_; (with_reducible refine (narw_Texts.calls kj2 _ _ l0 t190 t191 _ ?side1 ?side2 A11.out).mono ?_); (case side1 => exact Kd.C_below HR0.out (by repeat (first | (with_reducible first | exact HB.out | apply below_alloc | apply pw_below_drewN | apply below_drew1 | refine below_set ?_ GE189.out) | exact HB.out))); (case side2 => exact HC0.out); rintro e w18 ⟨v192, rfl, ho0, hb⟩; refine ⟨_, rfl, ?_⟩; have n0_ := Aside0.mk (Kd.R_lower ho0 (below_size (by repeat (first | (with_reducible first | exact HB.out | apply below_alloc | apply pw_below_drewN | apply below_drew1 | refine below_set ?_ GE189.out) | exact HB.out)))); have n1_ := Aside0.mk (blk_below (g := gb189) (o := .cells #[.string t184, .int .i64 t185, .bool t186, .string t187] 27 (0, 0)) (by (with_reducible repeat (first | refine blk_drewN ?_ _ | refine blk_drew ?_ | refine blk_alloc ?_ _)); refine blk_put (cs := #[.string t184, .int .i64 t185, .bool t186, .string (⟨#[]⟩ : ByteArray)]) ?_ 3 _ rfl; (with_reducible repeat (first | refine blk_drewN ?_ _ | refine blk_drew ?_ | refine blk_alloc ?_ _)); refine blk_put (cs := #[.string t184, .int .i64 t185, .bool false, .string (⟨#[]⟩ : ByteArray)]) ?_ 2 _ rfl; (with_reducible repeat (first | refine blk_drewN ?_ _ | refine blk_drew ?_ | refine blk_alloc ?_ _)); refine blk_put (cs := #[.string t184, .int .i64 0, .bool false, .string (⟨#[]⟩ : ByteArray)]) ?_ 1 _ rfl; (with_reducible repeat (first | refine blk_drewN ?_ _ | refine blk_drew ?_ | refine blk_alloc ?_ _)); refine blk_put (cs := #[.string (⟨#[]⟩ : ByteArray), .int .i64 0, .bool false, .string (⟨#[]⟩ : ByteArray)]) ?_ 0 _ rfl; (with_reducible repeat (first | refine blk_drewN ?_ _ | refine blk_drew ?_ | refine blk_alloc ?_ _)); exact BK189.out) hb); have n2_ := Aside0.mk (below_step (by repeat (first | (with_reducible first | exact HB.out | apply below_alloc | apply pw_below_drewN | apply below_drew1 | refine below_set ?_ GE189.out) | exact HB.out)) hb); clear BK189; clear HB; have HO193 := n0_; have BK189 := n1_; have HB := n2_; clear n0_ n1_ n2_; (try clear hb); (try clear hb2); (try clear hk); (try clear hi); (try clear ho0)) | ((with_reducible refine gate_callee (f := 16) rfl ?_); refine goesL_ (some 36) rfl rfl Try.func16 (by kernel_rfl) rfl #[.slice A0 l0.length c0, .string a1] rfl (by (try simp only [List.map_toArray, List.map_cons, List.map_nil]); first | done | rfl | (simp only [List.length_drop, List.length_take]; rfl)) ?_; (with_reducible refine (chandleryref16_Below.calls kj2 _ _ l0 a1 t194 _ ?side1 ?side2 A12.out).mono ?_); (case side1 => repeat (first | exact (Kd.C_below HR0.out HB.out) | (with_reducible refine Kd.C_alloc ?_ _) | (with_reducible refine Kd.C_drewN ?_ _) | (with_reducible refine Kd.C_drew ?_))); (case side2 => exact HC0.out); rintro e w19 ⟨v195, rfl, ho0, hb⟩; refine ⟨_, rfl, ?_⟩; have n0_ := Aside0.mk (Kd.R_below (by (with_reducible repeat (first | apply Kd.R_alloc | apply Kd.R_drewN | apply Kd.R_drew)); exact HO193.out) hb); have n1_ := Aside0.mk (Kd.R_lower (Kd.R_newB ho0 (g := gb189) (o := .cells #[.string t184, .int .i64 t185, .bool t186, .string t187] 27 (0, 0)) (by (with_reducible repeat (first | refine blk_drewN ?_ _ | refine blk_drew ?_ | refine blk_alloc ?_ _)); exact BK189.out)) (below_size (by repeat (first | (with_reducible first | exact HB.out | apply below_alloc | apply pw_below_drewN | apply below_drew1 | refine below_set ?_ GE189.out) | exact HB.out)))); have n2_ := Aside0.mk (blk_below (g := gb189) (o := .cells #[.string t184, .int .i64 t185, .bool t186, .string t187] 27 (0, 0)) (by (with_reducible repeat (first | refine blk_drewN ?_ _ | refine blk_drew ?_ | refine blk_alloc ?_ _)); exact BK189.out) hb); have n3_ := Aside0.mk (below_step (by repeat (first | (with_reducible first | exact HB.out | apply below_alloc | apply pw_below_drewN | apply below_drew1 | refine below_set ?_ GE189.out) | exact HB.out)) hb); clear HO193; clear BK189; clear HB; have HO193 := n0_; have HO196 := n1_; have BK189 := n2_; have HB := n3_; clear n0_ n1_ n2_ n3_; (try clear hb); (try clear hb2); (try clear hk); (try clear hi); (try clear ho0); obtain ⟨Ao20, co20, eo20⟩ := Kd.R_slice HO196.out; subst eo20) | ((with_reducible refine gate_callee (f := 15) rfl ?_); refine goesL_ (some 37) rfl rfl Try.func15 (by kernel_rfl) rfl #[.slice Ao20 t194.length co20] rfl (by (try simp only [List.map_toArray, List.map_cons, List.map_nil]); first | done | rfl | (simp only [List.length_drop, List.length_take]; rfl)) ?_; (with_reducible refine (narw_Texts.calls kj2 _ _ t194 t197 t198 _ ?side1 ?side2 A13.out).mono ?_); (case side1 => repeat (first | exact (Kd.R_reads' HO196.out).2.2 | (with_reducible refine Kd.C_alloc ?_ _) | (with_reducible refine Kd.C_drewN ?_ _) | (with_reducible refine Kd.C_drew ?_))); (case side2 => exact (Kd.R_reads' HO196.out).2.1); rintro e w21 ⟨v199, rfl, ho0, hb⟩; refine ⟨_, rfl, ?_⟩; have n0_ := Aside0.mk (Kd.R_elder' (by (with_reducible repeat (first | apply Kd.R_alloc | apply Kd.R_drewN | apply Kd.R_drew)); exact HO193.out) (Kd.R_base ho0) hb); have n1_ := Aside0.mk (Kd.R_below (by (with_reducible repeat (first | apply Kd.R_alloc | apply Kd.R_drewN | apply Kd.R_drew)); exact HO196.out) hb); have n2_ := Aside0.mk (Kd.R_lower (Kd.R_new' ho0 (Kd.R_lt (by (with_reducible repeat (first | apply Kd.R_alloc | apply Kd.R_drewN | apply Kd.R_drew)); exact HO193.out))) (below_size (by repeat (first | (with_reducible first | exact HB.out | apply below_alloc | apply pw_below_drewN | apply below_drew1 | refine below_set ?_ GE189.out) | exact HB.out)))); have n3_ := Aside0.mk (blk_below (g := gb189) (o := .cells #[.string t184, .int .i64 t185, .bool t186, .string t187] 27 (0, 0)) (by (with_reducible repeat (first | refine blk_drewN ?_ _ | refine blk_drew ?_ | refine blk_alloc ?_ _)); exact BK189.out) hb); have n4_ := Aside0.mk (below_step (by repeat (first | (with_reducible first | exact HB.out | apply below_alloc | apply pw_below_drewN | apply below_drew1 | refine below_set ?_ GE189.out) | exact HB.out)) hb); clear HO193; clear HO196; clear BK189; clear HB; have HO193 := n0_; have HO196 := n1_; have HO200 := n2_; have BK189 := n3_; have HB := n4_; clear n0_ n1_ n2_ n3_ n4_; (try clear hb); (try clear hb2); (try clear hk); (try clear hi); (try clear ho0)))
     (try simp only [Act.put, List.setIfInBounds_toArray, List.set_cons_zero, List.set_cons_succ])
     go_cut [50] (fun v50 wc => ∃ (kq : Nat) (x50_13 : Bool), v50 = .bool x50_13 ∧ Aside0 (chandlerylaw17_NarwParts.j1 kq t190 t197 x50_13 = some r) ∧ Aside0 (kq ≤ kj2) ∧ Aside0 (Kd.R Kd.string 9 wc w.heap.size (fun k_ => some k_ ≠ (v199 : Value).ownBlock) v192 t190) ∧ Aside0 (Kd.Q Kd.string 9 wc w.heap.size (fun k_ => some k_ ≠ (v192 : Value).ownBlock) v199 t197) ∧ Aside0 (wc.heap[gb189]? = some (.cells #[.string t184, .int .i64 t185, .bool t186, .string t187] 27 (0, 0))) ∧ Aside0 (Below w.heap.size w wc))
     case first =>
      have H := HC14.out
      clear HC14
      by_cases c22 : t191 = 0
      ·rw [if_pos c22] at H
       have c22b0 : (t191 == 0) = true := beq_iff_eq.mpr c22
       have c22b1 : (t191 != 0) = false := bne_eq_false_iff_eq.mpr c22
       clear c22
       (first | rw [c22b0] | (simp only [i64_w, i32_w]; rw [c22b0]) | skip)
       by_cases c23 : t198 = 0
       ·rw [if_pos c23] at H
        have c23b0 : (t198 == 0) = true := beq_iff_eq.mpr c23
        have c23b1 : (t198 != 0) = false := bne_eq_false_iff_eq.mpr c23
        clear c23
        have H' := Aside0.mk H
        clear H
        obtain ⟨Ao24, co24, eo24⟩ := Kd.R_slice HO200.out
        subst eo24
        go_wp2
        go_meet
        case rel => exact ⟨_, (decide ((t197.length : Int) < 2)), (by first | rfl | (simp; done) | exact congrArg Value.bool (Go.Proofs.YtlcaogiljiieaaaX.isEmpty_ne_ _) | exact congrArg Value.bool (Go.Proofs.YtlcaogiljiieaaaX.ne_isEmpty_ _) | (simp [*]; done)), H', ⟨by have := HJ2.out; first | omega | exact Nat.le_refl _⟩, ⟨by (with_reducible repeat (first | apply Kd.R_alloc | apply Kd.R_drewN | apply Kd.R_drew)); exact Kd.R_mono HO193.out (fun _ hk => hk.2)⟩, ⟨Kd.Q_of_R (by (with_reducible repeat (first | apply Kd.R_alloc | apply Kd.R_drewN | apply Kd.R_drew)); exact Kd.R_mono HO200.out (fun _ hk => hk.2))⟩, ⟨by (with_reducible repeat (first | refine blk_drewN ?_ _ | refine blk_drew ?_ | refine blk_alloc ?_ _)); exact BK189.out⟩, ⟨by repeat (first | (with_reducible first | exact HB.out | apply below_alloc | apply pw_below_drewN | apply below_drew1 | refine below_set ?_ GE189.out) | exact HB.out)⟩⟩
       ·rw [if_neg c23] at H
        have c23b0 : (t198 == 0) = false := beq_eq_false_iff_ne.mpr c23
        have c23b1 : (t198 != 0) = true := bne_iff_ne.mpr c23
        have H' := Aside0.mk H
        clear H
        go_wp2
        go_meet
        case rel => exact ⟨_, (true), (by first | rfl | (simp; done) | exact congrArg Value.bool (Go.Proofs.YtlcaogiljiieaaaX.isEmpty_ne_ _) | exact congrArg Value.bool (Go.Proofs.YtlcaogiljiieaaaX.ne_isEmpty_ _) | (simp [*]; done)), H', ⟨by have := HJ2.out; first | omega | exact Nat.le_refl _⟩, ⟨by (with_reducible repeat (first | apply Kd.R_alloc | apply Kd.R_drewN | apply Kd.R_drew)); exact Kd.R_mono HO193.out (fun _ hk => hk.2)⟩, ⟨Kd.Q_of_R (by (with_reducible repeat (first | apply Kd.R_alloc | apply Kd.R_drewN | apply Kd.R_drew)); exact Kd.R_mono HO200.out (fun _ hk => hk.2))⟩, ⟨by (with_reducible repeat (first | refine blk_drewN ?_ _ | refine blk_drew ?_ | refine blk_alloc ?_ _)); exact BK189.out⟩, ⟨by repeat (first | (with_reducible first | exact HB.out | apply below_alloc | apply pw_below_drewN | apply below_drew1 | refine below_set ?_ GE189.out) | exact HB.out)⟩⟩
      ·rw [if_neg c22] at H
       have c22b0 : (t191 == 0) = false := beq_eq_false_iff_ne.mpr c22
       have c22b1 : (t191 != 0) = true := bne_iff_ne.mpr c22
       (first | rw [c22b0] | (simp only [i64_w, i32_w]; rw [c22b0]) | skip)
       have H' := Aside0.mk H
       clear H
       go_wp2
       go_meet
       case rel => exact ⟨_, (true), (by first | rfl | (simp; done) | exact congrArg Value.bool (Go.Proofs.YtlcaogiljiieaaaX.isEmpty_ne_ _) | exact congrArg Value.bool (Go.Proofs.YtlcaogiljiieaaaX.ne_isEmpty_ _) | (simp [*]; done)), H', ⟨by have := HJ2.out; first | omega | exact Nat.le_refl _⟩, ⟨by (with_reducible repeat (first | apply Kd.R_alloc | apply Kd.R_drewN | apply Kd.R_drew)); exact Kd.R_mono HO193.out (fun _ hk => hk.2)⟩, ⟨Kd.Q_of_R (by (with_reducible repeat (first | apply Kd.R_alloc | apply Kd.R_drewN | apply Kd.R_drew)); exact Kd.R_mono HO200.out (fun _ hk => hk.2))⟩, ⟨by (with_reducible repeat (first | refine blk_drewN ?_ _ | refine blk_drew ?_ | refine blk_alloc ?_ _)); exact BK189.out⟩, ⟨by repeat (first | (with_reducible first | exact HB.out | apply below_alloc | apply pw_below_drewN | apply below_drew1 | refine below_set ?_ GE189.out) | exact HB.out)⟩⟩
     case rest =>
      clear HC14
      try clear c1
      try clear c2
      try clear p2
      try clear c3
      try clear c5
      try clear c8
      try clear c10
      try clear c12
      try clear c14
      try clear c15
      try clear c16
      try clear c22
      try clear c22b0
      try clear c22b1
      try clear c23
      try clear c23b0
      try clear c23b1
      try clear hcz17_0
      try clear hcz17_1
      try clear hcz17_2
      try clear hcz17_3
      try clear hfz17_0
      try clear hfz17_1
      try clear hfz17_2
      try clear hfz17_3
      try clear p2
      obtain ⟨kq, x50_13, rfl, HA, HJ13, HO_7, HO_9, BK189, HB⟩ := hcut
      cases kq with
      | zero => exact absurd HA.out (by simp [chandlerylaw17_NarwParts.j1])
      | succ kj13 =>
       have H := HA.out
       clear HA
       simp only [chandlerylaw17_NarwParts.j1] at H
       by_cases c25 : x50_13 = true
       ·subst c25
        have H1 : (some false) = some r := by rw [if_pos rfl] at H; exact H
        clear H
        have H := H1
        clear H1
        obtain rfl := Option.some.inj H
        go_wp2
        go_ret
        exact ⟨by first | rfl | (simp [errW_none, errW_some] <;> rfl) | (simp [*, errW_none, errW_some] <;> rfl), by repeat (first | (with_reducible first | exact HB.out | apply below_alloc | apply pw_below_drewN | apply below_drew1 | refine below_set ?_ GE189.out) | exact HB.out)⟩
       ·replace c25 := Bool.eq_false_iff.mpr c25
        subst c25
        have H1 : (if 1 ≤ (t197.length : Int) then (chandlerylaw17_NarwParts.l0 kj13 t190 (t197.drop (1 : Int).toNat) 0) else (none)) = some r := by rw [if_neg (show ¬ (false = true) by decide)] at H; exact H
        clear H
        have H := H1
        clear H1
        by_cases c26 : 1 ≤ (t197.length : Int)
        ·rw [if_pos c26] at H
         have c26b0 := eq_true c26
         have c26b1 : decide (1 ≤ (t197.length : Int)) = true := decide_eq_true c26
         clear c26
         obtain ⟨y201, hy201⟩ : ∃ y_ : List ByteArray, y_ = (t197.drop (1 : Int).toNat) := ⟨_, rfl⟩
         replace H : (chandlerylaw17_NarwParts.l0 kj13 t190 y201 0) = some r := by first | (rw [hy201]; with_reducible exact H) | (have H2_ := (Option.bind_some _ _).symm.trans H; rw [hy201]; with_reducible exact H2_) | (have H2_ := (Option.bind_some _ _).symm.trans H; with_reducible exact H2_) | with_reducible exact H | (rw [hy201]; exact H) | exact H
         have Ny201 := Aside0.mk hy201
         clear hy201
         have H' := Aside0.mk H
         clear H
         obtain ⟨Ao27, co27, eo27, _⟩ := Kd.Q_slice HO_9.out
         subst eo27
         have q28 : (1 : Int) ≤ ((t197.length : Int) : Int) := of_decide_eq_true (by first | (with_reducible assumption) | assumption)
         obtain ⟨i028, hi028, _, hsz28, _⟩ := info_parts info9
         have hcut28 := cut_from (P := Try.prog) 30 9 .i64 Try.underlying30 hi028 1 hsz28 Ao27 t197.length co27 1 (by omega) q28
         have hr28 := Kd.Q_drop (k := (1 : Int).toNat) HO_9.out (by omega)
         obtain ⟨A28, hA28⟩ : ∃ A1, A1 = (if co27 = (1 : Int).toNat then Ao27 else (Ao27 : Option Addr).map (·.add ((1 : Int).toNat * 1))) := ⟨_, rfl⟩
         obtain ⟨c28, hc28⟩ : ∃ c1, c1 = co27 - (1 : Int).toNat := ⟨_, rfl⟩
         have hy28 : y201.length = t197.length - (1 : Int).toNat := (by rw [Ny201.out, List.length_drop])
         rw [← Ny201.out] at hr28
         rw [← hy28, ← hA28, ← hc28] at hcut28
         replace hr28 : Kd.Q Kd.string 9 wc w.heap.size (fun k_ => some k_ ≠ (v192 : Value).ownBlock) (.slice A28 y201.length c28) y201 := (by rw [hA28, hc28, hy28]; exact hr28)
         have HE28 : Aside0 ((Value.slice A28 y201.length c28).ownBlock = (.slice Ao27 t197.length co27 : Value).ownBlock) := ⟨by rw [hA28]; split <;> (cases (Ao27 : Option Addr) <;> rfl)⟩
         clear hy28 hi028 hsz28 HO_9 hA28 hc28
         have HO203 := Aside0.mk hr28
         clear hr28
         replace q28 := eq_true q28
         have n_ := Aside0.mk (Kd.R_mono (ok' := fun k_ => some k_ ≠ (.slice A28 y201.length c28 : Value).ownBlock) HO_7.out (fun k_ hk => (by rw [HE28.out]; exact hk)))
         clear HO_7
         have HO_7 := n_
         clear n_
         go_wp2
         go_loopg [11] kj13 (fun kq v11 w' => ∃ (x11_3 : Int), v11 = .int .i64 x11_3 ∧ Aside0 (chandlerylaw17_NarwParts.l0 kq t190 y201 x11_3 = some r) ∧ Aside0 (kq ≤ kj13) ∧ Aside0 (Kd.R Kd.string 9 w' w.heap.size (fun k_ => some k_ ≠ ((.slice A28 y201.length c28) : Value).ownBlock) v192 t190) ∧ Aside0 (Kd.Q Kd.string 9 w' w.heap.size (fun k_ => some k_ ≠ (v192 : Value).ownBlock) (.slice A28 y201.length c28) y201) ∧ Aside0 (w'.heap[gb189]? = some (.cells #[.string t184, .int .i64 t185, .bool t186, .string t187] 27 (0, 0))) ∧ Aside0 (Below w.heap.size w w'))
         case atStart => exact ⟨(0), (by first | rfl | (simp; done) | exact congrArg Value.bool (Go.Proofs.YtlcaogiljiieaaaX.isEmpty_ne_ _) | exact congrArg Value.bool (Go.Proofs.YtlcaogiljiieaaaX.ne_isEmpty_ _) | (simp [*]; done)), H', ⟨Nat.le_refl _⟩, ⟨by (with_reducible repeat (first | apply Kd.R_alloc | apply Kd.R_drewN | apply Kd.R_drew)); exact HO_7.out⟩, ⟨by (with_reducible repeat (first | apply Kd.Q_alloc | apply Kd.Q_drewN | apply Kd.Q_drew)); exact HO203.out⟩, ⟨by (with_reducible repeat (first | refine blk_drewN ?_ _ | refine blk_drew ?_ | refine blk_alloc ?_ _)); exact BK189.out⟩, ⟨by repeat (first | (with_reducible first | exact HB.out | apply below_alloc | apply pw_below_drewN | apply below_drew1 | refine below_set ?_ GE189.out) | exact HB.out)⟩⟩
         case round =>
          clear H'
          try clear c1
          try clear c2
          try clear p2
          try clear q2
          try clear c3
          try clear c5
          try clear c8
          try clear c10
          try clear c12
          try clear c14
          try clear c15
          try clear c16
          try clear c22
          try clear c22b0
          try clear c22b1
          try clear c23
          try clear c23b0
          try clear c23b1
          try clear c25
          try clear c26
          try clear c26b0
          try clear c26b1
          try clear c28
          try clear q28
          try clear hcz17_0
          try clear hcz17_1
          try clear hcz17_2
          try clear hcz17_3
          try clear hfz17_0
          try clear hfz17_1
          try clear hfz17_2
          try clear hfz17_3
          try clear p2
          try clear q28
          obtain ⟨x11_3, rfl, HA, HK3, HO_7, HO_9, BK189, HB⟩ := hrel
          cases gk with
          | zero => exact absurd HA.out (by simp [chandlerylaw17_NarwParts.l0])
          | succ k3 =>
           have H := HA.out
           clear HA
           simp only [chandlerylaw17_NarwParts.l0] at H
           by_cases c29 : (wrap64 (x11_3 + (y201.length : Int))) ≤ (t190.length : Int)
           ·rw [if_pos c29] at H
            have c29b0 : decide ((wrap64 (x11_3 + (y201.length : Int))) ≤ (t190.length : Int)) = true := decide_eq_true c29
            clear c29
            by_cases c30 : 0 ≤ x11_3
            ·rw [if_pos c30] at H
             have c30b0 := eq_true c30
             have c30b1 : decide (0 ≤ x11_3) = true := decide_eq_true c30
             clear c30
             by_cases c31 : x11_3 ≤ (wrap64 (x11_3 + (y201.length : Int)))
             ·rw [if_pos c31] at H
              have c31b0 := eq_true c31
              have c31b1 : decide (x11_3 ≤ (wrap64 (x11_3 + (y201.length : Int)))) = true := decide_eq_true c31
              have c32b0 := eq_true (of_decide_eq_true (by first | (with_reducible assumption) | assumption) : (wrap64 (x11_3 + (y201.length : Int))) ≤ (t190.length : Int))
              obtain ⟨y204, hy204⟩ : ∃ y_ : List ByteArray, y_ = ((t190.take ((wrap64 (x11_3 + (y201.length : Int))) : Int).toNat).drop (x11_3 : Int).toNat) := ⟨_, rfl⟩
              replace H : ((chandleryref01_Texts.f k3 y204 y201).bind fun t208 => (if t208 = true then ((chandlerylaw17_awake.f k3).bind fun t209 => (some t209)) else (chandlerylaw17_NarwParts.l0 k3 t190 y201 (wrap64 (x11_3 + 1))))) = some r := by first | (rw [hy204]; with_reducible exact H) | (have H2_ := (Option.bind_some _ _).symm.trans H; rw [hy204]; with_reducible exact H2_) | (have H2_ := (Option.bind_some _ _).symm.trans H; with_reducible exact H2_) | with_reducible exact H | (rw [hy204]; exact H) | exact H
              have Ny204 := Aside0.mk hy204
              clear hy204
              replace H := Option.bind_eq_some_iff.mp H
              obtain ⟨t208, A330, H⟩ := H
              replace H : (if t208 = true then ((chandlerylaw17_awake.f k3).bind fun t209 => (some t209)) else (chandlerylaw17_NarwParts.l0 k3 t190 y201 (wrap64 (x11_3 + 1)))) = some r := H
              have A33 := Aside0.mk A330
              clear A330
              by_cases c34 : t208 = true
              ·subst c34
               have H1 : ((chandlerylaw17_awake.f k3).bind fun t209 => (some t209)) = some r := by rw [if_pos rfl] at H; exact H
               clear H
               have H := H1
               clear H1
               replace H := Option.bind_eq_some_iff.mp H
               obtain ⟨t209, A350, H⟩ := H
               replace H : (some t209) = some r := H
               have A35 := Aside0.mk A350
               clear A350
               obtain rfl := Option.some.inj H
               obtain ⟨Ao36, co36, eo36⟩ := Kd.R_slice HO_7.out
               subst eo36
               have q37 : ((wrap64 (x11_3 + (y201.length : Int))) : Int) ≤ ((t190.length : Int) : Int) := of_decide_eq_true (by first | (with_reducible assumption) | assumption)
               obtain ⟨i037, hi037, _, hsz37, _⟩ := info_parts info9
               have hroom37 : t190.length ≤ co36 := (Kd.R_reads' HO_7.out).2.1
               have hC37 : Kd.C Kd.string _ Ao36 t190.length t190 := (Kd.R_reads' HO_7.out).2.2
               have ql37 : (x11_3 : Int) ≤ ((wrap64 (x11_3 + (y201.length : Int))) : Int) := of_decide_eq_true (by first | (with_reducible assumption) | assumption)
               have q037 : (0 : Int) ≤ (x11_3 : Int) := of_decide_eq_true (by first | (with_reducible assumption) | assumption)
               have hcut37 := cut_mid (P := Try.prog) 30 9 .i64 .i64 Try.underlying30 hi037 1 hsz37 Ao36 t190.length co36 x11_3 (wrap64 (x11_3 + (y201.length : Int))) q037 ql37 q37 hroom37
               have hr37 := Kd.C_mid (lo := (x11_3 : Int).toNat) (hi := ((wrap64 (x11_3 + (y201.length : Int))) : Int).toNat) (c := co36) hC37 (by omega) (by omega) hroom37
               obtain ⟨A37, hA37⟩ : ∃ A1, A1 = (if co36 = (x11_3 : Int).toNat then Ao36 else (Ao36 : Option Addr).map (·.add ((x11_3 : Int).toNat * 1))) := ⟨_, rfl⟩
               obtain ⟨c37, hc37⟩ : ∃ c1, c1 = co36 - (x11_3 : Int).toNat := ⟨_, rfl⟩
               have hy37 : y204.length = ((wrap64 (x11_3 + (y201.length : Int))) : Int).toNat - (x11_3 : Int).toNat := (by rw [Ny204.out, List.length_drop, List.length_take] <;> omega)
               rw [show ((t190).take ((wrap64 (x11_3 + (y201.length : Int))) : Int).toNat).drop (x11_3 : Int).toNat = y204 from Ny204.out.symm] at hr37
               replace hr37 : Kd.C Kd.string _ A37 y204.length y204 := (by rw [hA37]; exact hr37)
               rw [← hy37, ← hA37, ← hc37] at hcut37
               have HR207 := Aside0.mk hr37
               have HC207 := Aside0.mk (show y204.length ≤ c37 from by rw [hy37, hc37]; exact Nat.sub_le_sub_right (Nat.le_trans (by omega) hroom37) _)
               clear hr37 hC37 hroom37 hi037 hsz37 hc37
               have KY37 := Aside0.mk hy37
               have KA37 := Aside0.mk hA37
               clear hy37 hA37
               have KL37 := Aside0.mk (show ((wrap64 (x11_3 + (y201.length : Int))) : Int).toNat ≤ t190.length from by omega)
               have KM37 := Aside0.mk (show (x11_3 : Int).toNat ≤ ((wrap64 (x11_3 + (y201.length : Int))) : Int).toNat from by omega)
               replace q37 := eq_true q37
               go_wp2_with (first | ((with_reducible refine gate_callee (f := 17) rfl ?_); refine goesL_ (some 70) rfl rfl Try.func17 (by kernel_rfl) rfl #[.slice A37 y204.length c37, .slice A28 y201.length c28] rfl (by (try simp only [List.map_toArray, List.map_cons, List.map_nil]); first | done | rfl | (simp only [List.length_drop, List.length_take]; rfl)) ?_; (with_reducible refine (chandleryref01_Texts.calls k3 _ _ y204 _ _ y201 true _ ?side1 ?side2 ?side3 ?side4 A33.out).mono ?_); (case side1 => repeat (first | exact (by repeat (first | (with_reducible exact HR207.out) | (with_reducible refine Kd.C_alloc ?_ _) | (with_reducible refine Kd.C_drewN ?_ _) | (with_reducible refine Kd.C_drew ?_) | exact HR207.out)) | (with_reducible refine Kd.C_alloc ?_ _) | (with_reducible refine Kd.C_drewN ?_ _) | (with_reducible refine Kd.C_drew ?_))); (case side2 => exact HC207.out); (case side3 => repeat (first | exact (Kd.Q_reads' HO_9.out).2.2 | (with_reducible refine Kd.C_alloc ?_ _) | (with_reducible refine Kd.C_drewN ?_ _) | (with_reducible refine Kd.C_drew ?_))); (case side4 => exact (Kd.Q_reads' HO_9.out).2.1); rintro e w' ⟨rfl, ⟨nd, rfl⟩⟩; refine ⟨_, rfl, ?_⟩) | ((with_reducible refine gate_callee (f := 18) rfl ?_); refine goesL_ (some 71) rfl rfl Try.func18 (by kernel_rfl) rfl #[] rfl (by (try simp only [List.map_toArray, List.map_cons, List.map_nil]); first | done | rfl | (simp only [List.length_drop, List.length_take]; rfl)) ?_; (with_reducible refine (chandlerylaw17_awake.calls k3  t209 _ A35.out).mono ?_); rintro e w38 ⟨rfl, hb⟩; refine ⟨_, rfl, ?_⟩; have n0_ := Aside0.mk (Kd.R_below (by (with_reducible repeat (first | apply Kd.R_alloc | apply Kd.R_drewN | apply Kd.R_drew)); exact HO_7.out) hb); have n1_ := Aside0.mk (Kd.Q_below (by (with_reducible repeat (first | apply Kd.Q_alloc | apply Kd.Q_drewN | apply Kd.Q_drew)); exact HO_9.out) hb); have n2_ := Aside0.mk (blk_below (g := gb189) (o := .cells #[.string t184, .int .i64 t185, .bool t186, .string t187] 27 (0, 0)) (by (with_reducible repeat (first | refine blk_drewN ?_ _ | refine blk_drew ?_ | refine blk_alloc ?_ _)); exact BK189.out) hb); have n3_ := Aside0.mk (Kd.C_below (by repeat (first | (with_reducible exact HR207.out) | (with_reducible refine Kd.C_alloc ?_ _) | (with_reducible refine Kd.C_drewN ?_ _) | (with_reducible refine Kd.C_drew ?_) | exact HR207.out)) hb); have n4_ := Aside0.mk (below_step (by repeat (first | (with_reducible first | exact HB.out | apply below_alloc | apply pw_below_drewN | apply below_drew1 | refine below_set ?_ GE189.out) | exact HB.out)) hb); clear HO_7; clear HO_9; clear BK189; clear HR207; clear HB; have HO_7 := n0_; have HO_9 := n1_; have BK189 := n2_; have HR207 := n3_; have HB := n4_; clear n0_ n1_ n2_ n3_ n4_; (try clear hb); (try clear hb2); (try clear hk); (try clear hi)))
               go_ret
               exact ⟨by first | rfl | (simp [errW_none, errW_some] <;> rfl) | (simp [*, errW_none, errW_some] <;> rfl), by repeat (first | (with_reducible first | exact HB.out | apply below_alloc | apply pw_below_drewN | apply below_drew1 | refine below_set ?_ GE189.out) | exact HB.out)⟩
              ·replace c34 := Bool.eq_false_iff.mpr c34
               subst c34
               have H1 : (chandlerylaw17_NarwParts.l0 k3 t190 y201 (wrap64 (x11_3 + 1))) = some r := by rw [if_neg (show ¬ (false = true) by decide)] at H; exact H
               clear H
               have H := H1
               clear H1
               have H' := Aside0.mk H
               clear H
               obtain ⟨Ao39, co39, eo39⟩ := Kd.R_slice HO_7.out
               subst eo39
               have q40 : ((wrap64 (x11_3 + (y201.length : Int))) : Int) ≤ ((t190.length : Int) : Int) := of_decide_eq_true (by first | (with_reducible assumption) | assumption)
               obtain ⟨i040, hi040, _, hsz40, _⟩ := info_parts info9
               have hroom40 : t190.length ≤ co39 := (Kd.R_reads' HO_7.out).2.1
               have hC40 : Kd.C Kd.string _ Ao39 t190.length t190 := (Kd.R_reads' HO_7.out).2.2
               have ql40 : (x11_3 : Int) ≤ ((wrap64 (x11_3 + (y201.length : Int))) : Int) := of_decide_eq_true (by first | (with_reducible assumption) | assumption)
               have q040 : (0 : Int) ≤ (x11_3 : Int) := of_decide_eq_true (by first | (with_reducible assumption) | assumption)
               have hcut40 := cut_mid (P := Try.prog) 30 9 .i64 .i64 Try.underlying30 hi040 1 hsz40 Ao39 t190.length co39 x11_3 (wrap64 (x11_3 + (y201.length : Int))) q040 ql40 q40 hroom40
               have hr40 := Kd.C_mid (lo := (x11_3 : Int).toNat) (hi := ((wrap64 (x11_3 + (y201.length : Int))) : Int).toNat) (c := co39) hC40 (by omega) (by omega) hroom40
               obtain ⟨A40, hA40⟩ : ∃ A1, A1 = (if co39 = (x11_3 : Int).toNat then Ao39 else (Ao39 : Option Addr).map (·.add ((x11_3 : Int).toNat * 1))) := ⟨_, rfl⟩
               obtain ⟨c40, hc40⟩ : ∃ c1, c1 = co39 - (x11_3 : Int).toNat := ⟨_, rfl⟩
               have hy40 : y204.length = ((wrap64 (x11_3 + (y201.length : Int))) : Int).toNat - (x11_3 : Int).toNat := (by rw [Ny204.out, List.length_drop, List.length_take] <;> omega)
               rw [show ((t190).take ((wrap64 (x11_3 + (y201.length : Int))) : Int).toNat).drop (x11_3 : Int).toNat = y204 from Ny204.out.symm] at hr40
               replace hr40 : Kd.C Kd.string _ A40 y204.length y204 := (by rw [hA40]; exact hr40)
               rw [← hy40, ← hA40, ← hc40] at hcut40
               have HR207 := Aside0.mk hr40
               have HC207 := Aside0.mk (show y204.length ≤ c40 from by rw [hy40, hc40]; exact Nat.sub_le_sub_right (Nat.le_trans (by omega) hroom40) _)
               clear hr40 hC40 hroom40 hi040 hsz40 hc40
               have KY40 := Aside0.mk hy40
               have KA40 := Aside0.mk hA40
               clear hy40 hA40
               have KL40 := Aside0.mk (show ((wrap64 (x11_3 + (y201.length : Int))) : Int).toNat ≤ t190.length from by omega)
               have KM40 := Aside0.mk (show (x11_3 : Int).toNat ≤ ((wrap64 (x11_3 + (y201.length : Int))) : Int).toNat from by omega)
               replace q40 := eq_true q40
               go_wp2_with (first | ((with_reducible refine gate_callee (f := 17) rfl ?_); refine goesL_ (some 70) rfl rfl Try.func17 (by kernel_rfl) rfl #[.slice A40 y204.length c40, .slice A28 y201.length c28] rfl (by (try simp only [List.map_toArray, List.map_cons, List.map_nil]); first | done | rfl | (simp only [List.length_drop, List.length_take]; rfl)) ?_; (with_reducible refine (chandleryref01_Texts.calls k3 _ _ y204 _ _ y201 false _ ?side1 ?side2 ?side3 ?side4 A33.out).mono ?_); (case side1 => repeat (first | exact (by repeat (first | (with_reducible exact HR207.out) | (with_reducible refine Kd.C_alloc ?_ _) | (with_reducible refine Kd.C_drewN ?_ _) | (with_reducible refine Kd.C_drew ?_) | exact HR207.out)) | (with_reducible refine Kd.C_alloc ?_ _) | (with_reducible refine Kd.C_drewN ?_ _) | (with_reducible refine Kd.C_drew ?_))); (case side2 => exact HC207.out); (case side3 => repeat (first | exact (Kd.Q_reads' HO_9.out).2.2 | (with_reducible refine Kd.C_alloc ?_ _) | (with_reducible refine Kd.C_drewN ?_ _) | (with_reducible refine Kd.C_drew ?_))); (case side4 => exact (Kd.Q_reads' HO_9.out).2.1); rintro e w' ⟨rfl, ⟨nd, rfl⟩⟩; refine ⟨_, rfl, ?_⟩))
               go_roundg k3
               case measure => have := HJ2.out; have := HJ13.out; have := HK3.out; omega
               case rel => exact ⟨(wrap64 (x11_3 + 1)), (by first | rfl | (simp; done) | exact congrArg Value.bool (Go.Proofs.YtlcaogiljiieaaaX.isEmpty_ne_ _) | exact congrArg Value.bool (Go.Proofs.YtlcaogiljiieaaaX.ne_isEmpty_ _) | (simp [*]; done)), H', ⟨by have := HJ2.out; have := HJ13.out; have := HK3.out; omega⟩, ⟨by (with_reducible repeat (first | apply Kd.R_alloc | apply Kd.R_drewN | apply Kd.R_drew)); exact HO_7.out⟩, ⟨by (with_reducible repeat (first | apply Kd.Q_alloc | apply Kd.Q_drewN | apply Kd.Q_drew)); exact HO_9.out⟩, ⟨by (with_reducible repeat (first | refine blk_drewN ?_ _ | refine blk_drew ?_ | refine blk_alloc ?_ _)); exact BK189.out⟩, ⟨by repeat (first | (with_reducible first | exact HB.out | apply below_alloc | apply pw_below_drewN | apply below_drew1 | refine below_set ?_ GE189.out) | exact HB.out)⟩⟩
             ·rw [if_neg c31] at H
              exact absurd H (by simp)
            ·rw [if_neg c30] at H
             exact absurd H (by simp)
           ·rw [if_neg c29] at H
            have c29b0 : decide ((wrap64 (x11_3 + (y201.length : Int))) ≤ (t190.length : Int)) = false := decide_eq_false c29
            clear c29
            obtain rfl := Option.some.inj H
            obtain ⟨Ao41, co41, eo41⟩ := Kd.R_slice HO_7.out
            subst eo41
            go_wp2
            go_ret
            exact ⟨by first | rfl | (simp [errW_none, errW_some] <;> rfl) | (simp [*, errW_none, errW_some] <;> rfl), by repeat (first | (with_reducible first | exact HB.out | apply below_alloc | apply pw_below_drewN | apply below_drew1 | refine below_set ?_ GE189.out) | exact HB.out)⟩
        ·rw [if_neg c26] at H
         exact absurd H (by simp)
    ·replace c10 := Bool.eq_false_iff.mpr c10
     subst c10
     have H1 : (some true) = some r := by rw [if_neg (show ¬ (false = true) by decide)] at H; exact H
     clear H
     have H := H1
     clear H1
     obtain rfl := Option.some.inj H
     go_wp2_with (first | ((with_reducible refine gate_callee (f := 14) rfl ?_); refine goesL_ (some 23) rfl rfl Try.func14 (by kernel_rfl) rfl #[.slice A0 l0.length c0, .string a1] rfl (by (try simp only [List.map_toArray, List.map_cons, List.map_nil]); first | done | rfl | (simp only [List.length_drop, List.length_take]; rfl)) ?_; (with_reducible refine (chandleryref16_Find.calls kj2 _ _ l0 a1 t184 t185 t186 t187 false _ ?side1 ?side2 A9.out).mono ?_); (case side1 => repeat (first | exact (Kd.C_below HR0.out HB.out) | (with_reducible refine Kd.C_alloc ?_ _) | (with_reducible refine Kd.C_drewN ?_ _) | (with_reducible refine Kd.C_drew ?_))); (case side2 => exact HC0.out); rintro e w42 ⟨rfl, hb⟩; refine ⟨_, rfl, ?_⟩; have n0_ := Aside0.mk (below_step (by repeat (first | (with_reducible first | exact HB.out | apply below_alloc | apply pw_below_drewN | apply below_drew1) | exact HB.out)) hb); clear HB; have HB := n0_; clear n0_; (try clear hb); (try clear hb2); (try clear hk); (try clear hi)) | ((with_reducible refine gate_dst (N := 5) rfl ?_); (try (refine gate_guard (by rfl) ?_; dsimp only)); refine box_event ?hg (N := 5) ?hd (cs := #[.string (⟨#[]⟩ : ByteArray), .int .i64 0, .bool false, .string (⟨#[]⟩ : ByteArray)]) (t := 27) ?hr ?_; (case hd => rfl); (case hg => rfl); (case hr => first | (go_simp; done) | (go_simp; rfl)); intro gb189 hg w43 hbox hb; have n0_ := Aside0.mk (below_step (by repeat (first | (with_reducible first | exact HB.out | apply below_alloc | apply pw_below_drewN | apply below_drew1) | exact HB.out)) hb); have n1_ := Aside0.mk (hbox); have n2_ := Aside0.mk ((by rw [hg]; exact (below_size (by repeat (first | (with_reducible first | exact HB.out | apply below_alloc | apply pw_below_drewN | apply below_drew1) | exact HB.out))) : w.heap.size ≤ gb189)); have n3_ := Aside0.mk ((by rw [hg]; exact (below_size (by repeat (first | (with_reducible first | exact HB.out | apply below_alloc | apply pw_below_drewN | apply below_drew1) | exact HB.out))) : w.heap.size ≤ gb189)); clear HB; have HB := n0_; have BK189 := n1_; have GW189 := n2_; have GE189 := n3_; clear n0_ n1_ n2_ n3_; clear hb hbox hg; have hcz44_0 : w43.cell? ⟨gb189, 0, none⟩ = some (.string (⟨#[]⟩ : ByteArray)) := (blk_cell BK189.out 0).trans rfl; have hcz44_1 : w43.cell? ⟨gb189, 1, none⟩ = some (.int .i64 0) := (blk_cell BK189.out 1).trans rfl; have hcz44_2 : w43.cell? ⟨gb189, 2, none⟩ = some (.bool false) := (blk_cell BK189.out 2).trans rfl; have hcz44_3 : w43.cell? ⟨gb189, 3, none⟩ = some (.string (⟨#[]⟩ : ByteArray)) := (blk_cell BK189.out 3).trans rfl; have hfz44_0 := blk_frozen BK189.out 0; have hfz44_1 := blk_frozen BK189.out 1; have hfz44_2 := blk_frozen BK189.out 2; have hfz44_3 := blk_frozen BK189.out 3))
     go_ret
     exact ⟨by first | rfl | (simp [errW_none, errW_some] <;> rfl) | (simp [*, errW_none, errW_some] <;> rfl), by repeat (first | (with_reducible first | exact HB.out | apply below_alloc | apply pw_below_drewN | apply below_drew1 | refine below_set ?_ GE189.out) | exact HB.out)⟩
def slices_Clone_byte_byte.f (l0 : List Int) : Option (List Int) := if l0.length ≤ 1000000 then some l0 else none
theorem slices_Clone_byte_byte.calls (A0 : Option Addr) (c0 : Nat) (l0 : List Int) (r : List Int) (w : World) (hr0 : Kd.C (Kd.int .u8) w A0 l0.length l0) (hc0 : l0.length ≤ c0) (h : slices_Clone_byte_byte.f l0 = some r) :
  Calls Try.prog 73 #[.slice A0 l0.length c0] w fun e w' => ∃ v0_ : Value, e = .returned v0_ ∧ Kd.R (Kd.int .u8) 5 w' w.heap.size (fun _ => True) v0_ r ∧ Below w.heap.size w w' := by
 unfold slices_Clone_byte_byte.f at h
 by_cases hl : l0.length ≤ 1000000
 ·rw [if_pos hl] at h
  rw [← Option.some.inj h]
  exact YtlcaogiljiieaaaX.clone_calls A0 c0 l0 w hr0 hc0 hl
 ·rw [if_neg hl] at h
  cases h
mutual
def wire_Put.j0 : Nat → List Int → Int → Bool → Option (List Int × Int)
 | 0, _, _, _ => none
 | k + 1, x0, x1, x13 => if x13 = true then (some (([] : List Int), 1)) else ((slices_Clone_byte_byte.f x0).bind fun t210 => (wire_Put.l0 k x1 t210 0))
def wire_Put.l0 : Nat → Int → List Int → Int → Option (List Int × Int)
 | 0, _, _, _ => none
 | k + 1, x1, x6, x16 => if x16 < 8 then (if 0 ≤ (wrap64 (8 * x16)) then (if x6.length < 140737488355328 then (wire_Put.l0 k x1 (x6 ++ [(shr .i64 x1 (wrap64 (8 * x16))) % 256]) (wrap64 (x16 + 1))) else (none)) else (none)) else (some (x6, 0))
end
def wire_Put.f (k : Nat) (l0 : List Int) (a1 : Int) : Option (List Int × Int) := if a1 < 0 then (wire_Put.j0 k l0 a1 true) else (wire_Put.j0 k l0 a1 (decide (a1 > 2147483647)))
theorem wire_Put.mono_l : ∀ k, (∀ y0 y1 y2, LeO (wire_Put.j0 k y0 y1 y2) (wire_Put.j0 (k + 1) y0 y1 y2)) ∧ (∀ y0 y1 y2, LeO (wire_Put.l0 k y0 y1 y2) (wire_Put.l0 (k + 1) y0 y1 y2))
 | 0 => ⟨fun _ _ _ r h => by simp [wire_Put.j0] at h, fun _ _ _ r h => by simp [wire_Put.l0] at h⟩
 | k + 1 => by
  obtain ⟨ih0, ih1⟩ := wire_Put.mono_l k
  refine ⟨?_, ?_⟩
  ·intro y0 y1 y2
   unfold wire_Put.j0
   repeat' first
   | (with_reducible exact ih0 _ _ _)
   | (with_reducible exact ih1 _ _ _)
   | (with_reducible exact LeO.refl _)
   | (with_reducible exact LeO.none _)
   | (with_reducible refine LeO.ite ?_ ?_)
   | (with_reducible refine LeO.bind ?_ (fun _ => ?_))
   | exact ih0 _ _ _
   | exact ih1 _ _ _
   | exact LeO.none _
   | refine LeO.ite ?_ ?_
   | refine LeO.bind ?_ (fun _ => ?_)
  ·intro y0 y1 y2
   unfold wire_Put.l0
   repeat' first
   | (with_reducible exact ih0 _ _ _)
   | (with_reducible exact ih1 _ _ _)
   | (with_reducible exact LeO.refl _)
   | (with_reducible exact LeO.none _)
   | (with_reducible refine LeO.ite ?_ ?_)
   | (with_reducible refine LeO.bind ?_ (fun _ => ?_))
   | exact ih0 _ _ _
   | exact ih1 _ _ _
   | exact LeO.none _
   | refine LeO.ite ?_ ?_
   | refine LeO.bind ?_ (fun _ => ?_)
theorem wire_Put.mono : ∀ a0 a1 k, LeO (wire_Put.f k a0 a1) (wire_Put.f (k + 1) a0 a1) := by
 intro a0 a1 k
 obtain ⟨ih0, ih1⟩ := wire_Put.mono_l k
 unfold wire_Put.f
 repeat' first
   | (with_reducible exact ih0 _ _ _)
   | (with_reducible exact ih1 _ _ _)
   | (with_reducible exact LeO.refl _)
   | (with_reducible exact LeO.none _)
   | (with_reducible refine LeO.ite ?_ ?_)
   | (with_reducible refine LeO.bind ?_ (fun _ => ?_))
   | exact ih0 _ _ _
   | exact ih1 _ _ _
   | exact LeO.none _
   | refine LeO.ite ?_ ?_
   | refine LeO.bind ?_ (fun _ => ?_)
set_option maxHeartbeats 8000000 in
set_option maxRecDepth 100000 in
theorem wire_Put.calls (k : Nat) (A0 : Option Addr) (c0 : Nat) (l0 : List Int) (a1 : Int) (r1 : List Int) (r2 : Int) (w : World) (hr0 : Kd.C (Kd.int .u8) w A0 l0.length l0) (hc0 : l0.length ≤ c0) (h : wire_Put.f k l0 a1 = some (r1, r2)) :
  Calls Try.prog 60 #[.slice A0 l0.length c0, .int .i64 a1] w fun e w' => ∃ v0_ : Value, e = .returned (.tuple #[v0_, .int .i64 r2]) ∧ Kd.R (Kd.int .u8) 5 w' w.heap.size (fun _ => True) v0_ r1 ∧ Below w.heap.size w w' := by
 have HR0 := Aside0.mk hr0
 have HC0 := Aside0.mk hc0
 clear hr0 hc0
 have HB := Aside0.mk (Below.refl w.heap.size w)
 have H : (if a1 < 0 then (wire_Put.j0 k l0 a1 true) else (wire_Put.j0 k l0 a1 (decide (a1 > 2147483647)))) = some (r1, r2) := h
 clear h
 have HC3 := Aside0.mk H
 clear H
 go_enter Try.func60, Try.ntmps60
 go_upto_region 1 with (fail)
 go_cut [13] (fun v13 wc => ∃ (kq : Nat) (x13_2 : Bool), v13 = .bool x13_2 ∧ Aside0 (wire_Put.j0 kq l0 a1 x13_2 = some (r1, r2)) ∧ Aside0 (kq ≤ k) ∧ Aside0 (Below w.heap.size w wc))
 case first =>
  have H := HC3.out
  clear HC3
  by_cases c4 : a1 < 0
  ·rw [if_pos c4] at H
   have c4b0 : decide (a1 < 0) = true := decide_eq_true c4
   clear c4
   (first | rw [c4b0] | (simp only [i64_w, i32_w]; rw [c4b0]) | skip)
   have H' := Aside0.mk H
   clear H
   go_wp2
   go_meet
   case rel => exact ⟨_, (true), (by first | rfl | (simp; done) | exact congrArg Value.bool (Go.Proofs.YtlcaogiljiieaaaX.isEmpty_ne_ _) | exact congrArg Value.bool (Go.Proofs.YtlcaogiljiieaaaX.ne_isEmpty_ _) | (simp [*]; done)), H', ⟨by first | omega | exact Nat.le_refl _⟩, ⟨by repeat (first | (with_reducible first | exact HB.out | apply below_alloc | apply pw_below_drewN | apply below_drew1) | exact HB.out)⟩⟩
  ·rw [if_neg c4] at H
   have c4b0 : decide (a1 < 0) = false := decide_eq_false c4
   clear c4
   (first | rw [c4b0] | (simp only [i64_w, i32_w]; rw [c4b0]) | skip)
   have H' := Aside0.mk H
   clear H
   go_wp2
   go_meet
   case rel => exact ⟨_, (decide (a1 > 2147483647)), (by first | rfl | (simp; done) | exact congrArg Value.bool (Go.Proofs.YtlcaogiljiieaaaX.isEmpty_ne_ _) | exact congrArg Value.bool (Go.Proofs.YtlcaogiljiieaaaX.ne_isEmpty_ _) | (simp [*]; done)), H', ⟨by first | omega | exact Nat.le_refl _⟩, ⟨by repeat (first | (with_reducible first | exact HB.out | apply below_alloc | apply pw_below_drewN | apply below_drew1) | exact HB.out)⟩⟩
 case rest =>
  clear HC3
  try clear p2
  try clear c4
  try clear c4b0
  obtain ⟨kq, x13_2, rfl, HA, HJ2, HB⟩ := hcut
  cases kq with
  | zero => exact absurd HA.out (by simp [wire_Put.j0])
  | succ kj2 =>
   have H := HA.out
   clear HA
   simp only [wire_Put.j0] at H
   by_cases c5 : x13_2 = true
   ·subst c5
    have H1 : (some (([] : List Int), 1)) = some (r1, r2) := by rw [if_pos rfl] at H; exact H
    clear H
    have H := H1
    clear H1
    simp only [Option.some.injEq, Prod.mk.injEq] at H
    obtain ⟨rfl, rfl⟩ := H
    go_wp2
    go_ret2
    exact ⟨_, by first | rfl | (simp [errW_none, errW_some] <;> rfl) | (simp [*, errW_none, errW_some] <;> rfl), by first | exact Kd.R_nil _ _ _ _ _ | exact Kd.N_nil _ _ _ _ _ | exact Kd.V_nil _ _ _ _ _ | exact Kd.Q_nil _ _ _ _ _ | exact Kd.S_nil _ _ _ _ _, by repeat (first | (with_reducible first | exact HB.out | apply below_alloc | apply pw_below_drewN | apply below_drew1) | exact HB.out)⟩
   ·replace c5 := Bool.eq_false_iff.mpr c5
    subst c5
    have H1 : ((slices_Clone_byte_byte.f l0).bind fun t210 => (wire_Put.l0 kj2 a1 t210 0)) = some (r1, r2) := by rw [if_neg (show ¬ (false = true) by decide)] at H; exact H
    clear H
    have H := H1
    clear H1
    replace H := Option.bind_eq_some_iff.mp H
    obtain ⟨t210, A60, H⟩ := H
    replace H : (wire_Put.l0 kj2 a1 t210 0) = some (r1, r2) := H
    have A6 := Aside0.mk A60
    clear A60
    have H' := Aside0.mk H
    clear H
    go_wp2_with (first | ((with_reducible refine gate_callee (f := 73) rfl ?_); refine goesL_ (some 15) rfl rfl Try.func73 (by kernel_rfl) rfl #[.slice A0 l0.length c0] rfl (by (try simp only [List.map_toArray, List.map_cons, List.map_nil]); first | done | rfl | (simp only [List.length_drop, List.length_take]; rfl)) ?_; (with_reducible refine (slices_Clone_byte_byte.calls _ _ l0 t210 _ ?side1 ?side2 A6.out).mono ?_); (case side1 => repeat (first | exact (Kd.C_below HR0.out HB.out) | (with_reducible refine Kd.C_alloc ?_ _) | (with_reducible refine Kd.C_drewN ?_ _) | (with_reducible refine Kd.C_drew ?_))); (case side2 => exact HC0.out); rintro e w7 ⟨v211, rfl, ho0, hb⟩; refine ⟨_, rfl, ?_⟩; have n0_ := Aside0.mk (Kd.R_lower ho0 (below_size (by repeat (first | (with_reducible first | exact HB.out | apply below_alloc | apply pw_below_drewN | apply below_drew1) | exact HB.out)))); have n1_ := Aside0.mk (below_step (by repeat (first | (with_reducible first | exact HB.out | apply below_alloc | apply pw_below_drewN | apply below_drew1) | exact HB.out)) hb); clear HB; have HO212 := n0_; have HB := n1_; clear n0_ n1_; (try clear hb); (try clear hb2); (try clear hk); (try clear hi); (try clear ho0)))
    go_loopg [6, 16] kj2 (fun kq v6 v16 w' => ∃ (x6_2 : List Int) (x16_2 : Int), v16 = .int .i64 x16_2 ∧ Aside0 (wire_Put.l0 kq a1 x6_2 x16_2 = some (r1, r2)) ∧ Aside0 (kq ≤ kj2) ∧ Aside0 (Kd.R (Kd.int .u8) 5 w' w.heap.size (fun _ => True) v6 x6_2) ∧ Aside0 (Below w.heap.size w w'))
    case atStart => exact ⟨(t210), (0), (by first | rfl | (simp; done) | exact congrArg Value.bool (Go.Proofs.YtlcaogiljiieaaaX.isEmpty_ne_ _) | exact congrArg Value.bool (Go.Proofs.YtlcaogiljiieaaaX.ne_isEmpty_ _) | (simp [*]; done)), H', ⟨Nat.le_refl _⟩, ⟨by (with_reducible repeat (first | apply Kd.R_alloc | apply Kd.R_drewN | apply Kd.R_drew)); exact HO212.out⟩, ⟨by repeat (first | (with_reducible first | exact HB.out | apply below_alloc | apply pw_below_drewN | apply below_drew1) | exact HB.out)⟩⟩
    case round =>
     clear H'
     try clear p2
     try clear c4
     try clear c4b0
     try clear c5
     try clear c6
     try clear c7
     try clear p2
     obtain ⟨x6_2, x16_2, rfl, HA, HK2, HO_6, HB⟩ := hrel
     cases gk with
     | zero => exact absurd HA.out (by simp [wire_Put.l0])
     | succ k2 =>
      have H := HA.out
      clear HA
      simp only [wire_Put.l0] at H
      by_cases c8 : x16_2 < 8
      ·rw [if_pos c8] at H
       have c8b0 : decide (x16_2 < 8) = true := decide_eq_true c8
       clear c8
       obtain ⟨ji9, hji9⟩ : ∃ j_ : Int, (wrap64 (8 * x16_2)) = j_ := ⟨_, rfl⟩
       replace H : (if 0 ≤ (ji9) then (if x6_2.length < 140737488355328 then (wire_Put.l0 k2 a1 (x6_2 ++ [(shr .i64 a1 (ji9)) % 256]) (wrap64 (x16_2 + 1))) else (none)) else (none)) = some (r1, r2) := by first | (rw [hji9] at H; exact H) | (simp only [hji9] at H ⊢; exact H)
       have hji9w : (IntKind.i64.wrap (8 * x16_2)) = ji9 := (i64_w _).trans hji9
       by_cases c10 : 0 ≤ (ji9)
       ·rw [if_pos c10] at H
        have c10b0 := eq_true c10
        have c10b1 : decide (0 ≤ (ji9)) = true := decide_eq_true c10
        clear c10
        obtain ⟨ji11, hji11⟩ : ∃ j_ : Int, (shr .i64 a1 (ji9)) = j_ := ⟨_, rfl⟩
        replace H : (if x6_2.length < 140737488355328 then (wire_Put.l0 k2 a1 (x6_2 ++ [(ji11) % 256]) (wrap64 (x16_2 + 1))) else (none)) = some (r1, r2) := by first | (rw [hji11] at H; exact H) | (simp only [hji11] at H ⊢; exact H)
        have hji11_ : (a1 / 2 ^ min (ji9).toNat 64) = ji11 := hji11
        have hji11z : (ji9) ≤ 64 → (a1 / 2 ^ (ji9).toNat) = ji11 := shr_small hji11
        by_cases c12 : x6_2.length < 140737488355328
        ·rw [if_pos c12] at H
         have LMc12 := Aside0.mk c12
         clear c12
         obtain ⟨y213, hy213⟩ : ∃ y_ : List Int, y_ = (x6_2 ++ [(ji11) % 256]) := ⟨_, rfl⟩
         replace H : (wire_Put.l0 k2 a1 y213 (wrap64 (x16_2 + 1))) = some (r1, r2) := by first | (rw [hy213]; with_reducible exact H) | (have H2_ := (Option.bind_some _ _).symm.trans H; rw [hy213]; with_reducible exact H2_) | (have H2_ := (Option.bind_some _ _).symm.trans H; with_reducible exact H2_) | with_reducible exact H | (rw [hy213]; exact H) | exact H
         have Ny213 := Aside0.mk hy213
         clear hy213
         have H' := Aside0.mk H
         clear H
         go_wp2_with (first | ((with_reducible refine gate_builtin (b := .append) (xs := #[.tmp 19, .tmp 25]) rfl ?_); at_builtin; refine Kd.R_append (Kd.int .u8) (w0 := w) w.heap.size rfl (.tmp 19) (.tmp 25) 37 5 (.int .u8 0) 1 rfl Try.underlying37 info5 rfl (by decide) (by omega) u6 x6_2 ((ji11) % 256) [.int .u8 ((ji11) % 256)] (fun _ => True) (fun _ => False) rfl rfl ?aP (fun _ hk => hk.elim) ?aF ?aO ?aB ?aS ?aL ?_; (case aP => exact rfl); (case aB => exact (by repeat (first | (with_reducible first | exact HB.out | apply below_alloc | apply pw_below_drewN | apply below_drew1) | exact HB.out))); (case aF => exact (fun _ _ => trivial)); (case aO => exact (by (with_reducible repeat (first | apply Kd.R_alloc | apply Kd.R_drewN | apply Kd.R_drew)); exact HO_6.out)); (case aS => exact (below_size (by repeat (first | (with_reducible first | exact HB.out | apply below_alloc | apply pw_below_drewN | apply below_drew1) | exact HB.out)))); (case aL => have := LMc12.out; omega); intro v214 w13 ho hb hg hat; rw [← Ny213.out] at ho; have n0_ := Aside0.mk (hb); have n1_ := Aside0.mk (ho); clear HB; clear HO_6; have HB := n0_; have HO215 := n1_; clear n0_ n1_; clear ho hb hg hat))
         go_roundg k2
         case measure => have := HJ2.out; have := HK2.out; omega
         case rel => exact ⟨(y213), (wrap64 (x16_2 + 1)), (by first | rfl | (simp; done) | exact congrArg Value.bool (Go.Proofs.YtlcaogiljiieaaaX.isEmpty_ne_ _) | exact congrArg Value.bool (Go.Proofs.YtlcaogiljiieaaaX.ne_isEmpty_ _) | (simp [*]; done)), H', ⟨by have := HJ2.out; have := HK2.out; omega⟩, ⟨by (with_reducible repeat (first | apply Kd.R_alloc | apply Kd.R_drewN | apply Kd.R_drew)); exact HO215.out⟩, ⟨by repeat (first | (with_reducible first | exact HB.out | apply below_alloc | apply pw_below_drewN | apply below_drew1) | exact HB.out)⟩⟩
        ·rw [if_neg c12] at H
         exact absurd H (by simp)
       ·rw [if_neg c10] at H
        exact absurd H (by simp)
      ·rw [if_neg c8] at H
       have c8b0 : decide (x16_2 < 8) = false := decide_eq_false c8
       clear c8
       simp only [Option.some.injEq, Prod.mk.injEq] at H
       obtain ⟨rfl, rfl⟩ := H
       go_wp2
       go_ret2
       exact ⟨_, by first | rfl | (simp [errW_none, errW_some] <;> rfl) | (simp [*, errW_none, errW_some] <;> rfl), by (with_reducible repeat (first | apply Kd.R_alloc | apply Kd.R_drewN | apply Kd.R_drew)); exact HO_6.out, by repeat (first | (with_reducible first | exact HB.out | apply below_alloc | apply pw_below_drewN | apply below_drew1) | exact HB.out)⟩
def wire_pad.f (a0 : Int) : Option (Int) := some (Int.tmod (wrap64 (8 - (Int.tmod a0 8))) 8)
set_option maxHeartbeats 8000000 in
set_option maxRecDepth 100000 in
theorem wire_pad.calls (a0 : Int) (r : Int) (w : World) (h : wire_pad.f a0 = some r) :
  Calls Try.prog 61 #[.int .i64 a0] w fun e w' => e = .returned (.int .i64 r) ∧ Drawn0 w w' := by
 have H : (some (Int.tmod (wrap64 (8 - (Int.tmod a0 8))) 8)) = some r := h
 clear h
 obtain rfl := Option.some.inj H
 go_enter Try.func61, Try.ntmps61
 go_wp2
 go_ret
 exact ⟨by first | rfl | (simp; done) | (simp [*]; done), by repeat (first | exact Drawn0.refl _ | apply Drawn0.step)⟩
end Go.Proofs.Ytlcaogiljiieaaa.PNarw
