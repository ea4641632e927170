/- The scan laws' own example: the walk. -/
import Derived.Test.YtkmnjekbacdfoaaScanPlain
import Derived.Lib.SlBytesConst
set_option linter.unusedVariables false
set_option linter.unusedSimpArgs false
namespace Go.Proofs.YtkmnjekbacdfoaaX
open Go.RowKit Go.Proofs.Ytkmnjekbacdfoaa.PScan Go.Proofs.YtkmnjekbacdfoaaW.PrintWords Go.Proofs.YtkmnjekbacdfoaaW.PrintLast Go.Proofs.YtkmnjekbacdfoaaW.PrintMore

/-- The digits, two names of them. -/
def nameA : ByteArray := ⟨#[48, 49, 50, 51, 52, 53, 54, 55, 56, 57, 97, 98, 99, 100, 102, 103, 104, 105, 106, 107, 108, 109, 110, 112, 113, 114, 115, 118, 119, 120, 121, 122, 45, 97]⟩
def digA : ByteArray := ⟨#[48, 49, 50, 51, 52, 53, 54, 55, 56, 57, 97, 98, 99, 100, 102, 103, 104, 105, 106, 107, 108, 109, 110, 112, 113, 114, 115, 118, 119, 120, 121, 122]⟩
def nameC : ByteArray := digA.extract 1 32 ++ ⟨#[48, 45, 98]⟩
def dgI : List Int := [48, 49, 50, 51, 52, 53, 54, 55, 56, 57, 97, 98, 99, 100, 102, 103, 104, 105, 106, 107, 108, 109, 110, 112, 113, 114, 115, 118, 119, 120, 121, 122]
def bytesA : List Int := 120 :: (dgI ++ [120])
theorem nameA_ok : nameB nameA = true := by decide +kernel
theorem nameC_ok : nameB nameC = true := by decide +kernel
theorem findA : findB bytesA [nameA, nameC] = [nameA] := by
  refine rise_ext bB_ord (find_rise _ _) (List.pairwise_singleton _ _) fun x => ?_
  rw [mem_find, List.mem_singleton]
  constructor
  · rintro ⟨h1, i, hi, h2⟩
    have hi3 : i < 3 := by
      have : bytesA.length = 34 := rfl
      omega
    rcases List.mem_cons.1 h1 with rfl | h1
    · rfl
    · rw [List.mem_singleton] at h1
      subst h1
      have : ∀ i, i < 3 → nameC.extract 0 32 ≠ cutAt bytesA i := by decide +kernel
      exact absurd h2 (this i hi3)
  · rintro rfl
    exact ⟨by simp, 1, by decide, by decide +kernel⟩
theorem hitsA : hits [nameA] dgI 1 = [nameA] := by
  have : groupsOf [nameA] (cutAt dgI 0) = [nameA] := by
    unfold groupsOf
    rw [List.filter_cons_of_pos (by decide +kernel)]
    rfl
  rw [show (1 : Nat) = 0 + 1 from rfl, hits_succ, this]
  rfl
theorem C_ints {W : World} {g : Nat} {xs : List Int} {t : TypeId} {fr : Nat × Nat} (h : W.heap[g]? = some (.cells (xs.map (Value.int .u8)).toArray t fr)) (hl : xs.length ≤ 1000000) : Kd.C (Kd.int .u8) W (some ⟨g, 0, none⟩) xs.length xs := by
  refine Kd.C_of_reads (d := (0 : Int)) (h1 := fun _ => rfl) (enc := Value.int .u8) ⟨rfl, by omega, fun _ => ⟨_, rfl, fun j hj => ?_⟩⟩
  rw [add_plain]
  simp [World.cell?, h, List.getElem?_map, List.getElem?_eq_getElem hj, List.getD]
theorem C_strs {W : World} {g : Nat} {xs : List ByteArray} {t : TypeId} {fr : Nat × Nat} (h : W.heap[g]? = some (.cells (xs.map Value.string).toArray t fr)) (hl : xs.length ≤ 1000000) : Kd.C Kd.string W (some ⟨g, 0, none⟩) xs.length xs := by
  refine Kd.C_of_reads (d := ByteArray.empty) (h1 := fun _ => rfl) (enc := Value.string) ⟨rfl, by omega, fun _ => ⟨_, rfl, fun j hj => ?_⟩⟩
  rw [add_plain]
  simp [World.cell?, h, List.getElem?_map, List.getElem?_eq_getElem hj, List.getD]
theorem find_awake (w : World) : Calls Try.prog 9 #[.slice (some ⟨w.heap.size, 0, none⟩) 34 34, .slice (some ⟨w.heap.size + 1, 0, none⟩) 2 2] ((w.alloc (.cells #[.int .u8 120, .int .u8 48, .int .u8 49, .int .u8 50, .int .u8 51, .int .u8 52, .int .u8 53, .int .u8 54, .int .u8 55, .int .u8 56, .int .u8 57, .int .u8 97, .int .u8 98, .int .u8 99, .int .u8 100, .int .u8 102, .int .u8 103, .int .u8 104, .int .u8 105, .int .u8 106, .int .u8 107, .int .u8 108, .int .u8 109, .int .u8 110, .int .u8 112, .int .u8 113, .int .u8 114, .int .u8 115, .int .u8 118, .int .u8 119, .int .u8 120, .int .u8 121, .int .u8 122, .int .u8 120] 5 (34, 35))).alloc (.cells #[.string ⟨#[48, 49, 50, 51, 52, 53, 54, 55, 56, 57, 97, 98, 99, 100, 102, 103, 104, 105, 106, 107, 108, 109, 110, 112, 113, 114, 115, 118, 119, 120, 121, 122, 45, 97]⟩, .string ((⟨#[48, 49, 50, 51, 52, 53, 54, 55, 56, 57, 97, 98, 99, 100, 102, 103, 104, 105, 106, 107, 108, 109, 110, 112, 113, 114, 115, 118, 119, 120, 121, 122]⟩ : ByteArray).extract 1 32 ++ ⟨#[48, 45, 98]⟩)] 9)) fun e w' => ∃ v, e = .returned (.tuple #[v, .int .i64 0]) ∧ Kd.R Kd.string 9 w' w.heap.size (fun _ => True) v [nameA] ∧ Below w.heap.size w w' := by
  have hb : Below w.heap.size w ((w.alloc (.cells #[.int .u8 120, .int .u8 48, .int .u8 49, .int .u8 50, .int .u8 51, .int .u8 52, .int .u8 53, .int .u8 54, .int .u8 55, .int .u8 56, .int .u8 57, .int .u8 97, .int .u8 98, .int .u8 99, .int .u8 100, .int .u8 102, .int .u8 103, .int .u8 104, .int .u8 105, .int .u8 106, .int .u8 107, .int .u8 108, .int .u8 109, .int .u8 110, .int .u8 112, .int .u8 113, .int .u8 114, .int .u8 115, .int .u8 118, .int .u8 119, .int .u8 120, .int .u8 121, .int .u8 122, .int .u8 120] 5 (34, 35))).alloc (.cells #[.string ⟨#[48, 49, 50, 51, 52, 53, 54, 55, 56, 57, 97, 98, 99, 100, 102, 103, 104, 105, 106, 107, 108, 109, 110, 112, 113, 114, 115, 118, 119, 120, 121, 122, 45, 97]⟩, .string ((⟨#[48, 49, 50, 51, 52, 53, 54, 55, 56, 57, 97, 98, 99, 100, 102, 103, 104, 105, 106, 107, 108, 109, 110, 112, 113, 114, 115, 118, 119, 120, 121, 122]⟩ : ByteArray).extract 1 32 ++ ⟨#[48, 45, 98]⟩)] 9)) := ((Below.refl _ _).alloc (Nat.le_refl _) _).alloc (by simp) _
  have h1 : Kd.C (Kd.int .u8) ((w.alloc (.cells #[.int .u8 120, .int .u8 48, .int .u8 49, .int .u8 50, .int .u8 51, .int .u8 52, .int .u8 53, .int .u8 54, .int .u8 55, .int .u8 56, .int .u8 57, .int .u8 97, .int .u8 98, .int .u8 99, .int .u8 100, .int .u8 102, .int .u8 103, .int .u8 104, .int .u8 105, .int .u8 106, .int .u8 107, .int .u8 108, .int .u8 109, .int .u8 110, .int .u8 112, .int .u8 113, .int .u8 114, .int .u8 115, .int .u8 118, .int .u8 119, .int .u8 120, .int .u8 121, .int .u8 122, .int .u8 120] 5 (34, 35))).alloc (.cells #[.string ⟨#[48, 49, 50, 51, 52, 53, 54, 55, 56, 57, 97, 98, 99, 100, 102, 103, 104, 105, 106, 107, 108, 109, 110, 112, 113, 114, 115, 118, 119, 120, 121, 122, 45, 97]⟩, .string ((⟨#[48, 49, 50, 51, 52, 53, 54, 55, 56, 57, 97, 98, 99, 100, 102, 103, 104, 105, 106, 107, 108, 109, 110, 112, 113, 114, 115, 118, 119, 120, 121, 122]⟩ : ByteArray).extract 1 32 ++ ⟨#[48, 45, 98]⟩)] 9)) (some ⟨w.heap.size, 0, none⟩) bytesA.length bytesA := C_ints (heap_one _ _ _) (by decide)
  have h2 : Kd.C Kd.string ((w.alloc (.cells #[.int .u8 120, .int .u8 48, .int .u8 49, .int .u8 50, .int .u8 51, .int .u8 52, .int .u8 53, .int .u8 54, .int .u8 55, .int .u8 56, .int .u8 57, .int .u8 97, .int .u8 98, .int .u8 99, .int .u8 100, .int .u8 102, .int .u8 103, .int .u8 104, .int .u8 105, .int .u8 106, .int .u8 107, .int .u8 108, .int .u8 109, .int .u8 110, .int .u8 112, .int .u8 113, .int .u8 114, .int .u8 115, .int .u8 118, .int .u8 119, .int .u8 120, .int .u8 121, .int .u8 122, .int .u8 120] 5 (34, 35))).alloc (.cells #[.string ⟨#[48, 49, 50, 51, 52, 53, 54, 55, 56, 57, 97, 98, 99, 100, 102, 103, 104, 105, 106, 107, 108, 109, 110, 112, 113, 114, 115, 118, 119, 120, 121, 122, 45, 97]⟩, .string ((⟨#[48, 49, 50, 51, 52, 53, 54, 55, 56, 57, 97, 98, 99, 100, 102, 103, 104, 105, 106, 107, 108, 109, 110, 112, 113, 114, 115, 118, 119, 120, 121, 122]⟩ : ByteArray).extract 1 32 ++ ⟨#[48, 45, 98]⟩)] 9)) (some ⟨w.heap.size + 1, 0, none⟩) [nameA, nameC].length [nameA, nameC] := C_strs (heap_two _ _ _) (by decide)
  have h := find_yes (some ⟨w.heap.size, 0, none⟩) (some ⟨w.heap.size + 1, 0, none⟩) 34 2 bytesA [nameA, nameC] _ (by decide) (by decide +kernel) (by decide) h2 h1 (by decide) (by decide) (find_hf _ _ (by decide) (by decide)) (by decide +kernel)
  rw [findA] at h
  refine h.mono fun e w' hh => ?_
  obtain ⟨v, he, hr, hbb⟩ := hh
  exact ⟨v, he, Kd.R_lower hr hb.size, hb.trans (hbb.mono hb.size)⟩
theorem new_awake (W : World) : Calls Try.prog 13 #[.slice (some ⟨W.heap.size, 0, none⟩) 1 1] (W.alloc (.cells #[.string ⟨#[48, 49, 50, 51, 52, 53, 54, 55, 56, 57, 97, 98, 99, 100, 102, 103, 104, 105, 106, 107, 108, 109, 110, 112, 113, 114, 115, 118, 119, 120, 121, 122, 45, 97]⟩] 9)) fun e w' => e = .returned (.tuple #[.pointer (some ⟨W.heap.size + 1 + 1, 0, none⟩), .int .i64 0]) ∧ Sc w' (W.heap.size + 1) w'.heap.size w'.heap.size [nameA] [] [] ∧ Below W.heap.size W w' := by
  have h2 : Kd.C Kd.string (W.alloc (.cells #[.string ⟨#[48, 49, 50, 51, 52, 53, 54, 55, 56, 57, 97, 98, 99, 100, 102, 103, 104, 105, 106, 107, 108, 109, 110, 112, 113, 114, 115, 118, 119, 120, 121, 122, 45, 97]⟩] 9)) (some ⟨W.heap.size, 0, none⟩) [nameA].length [nameA] := C_strs (heap_alloc_new W _) (by decide)
  refine (new_calls (some ⟨W.heap.size, 0, none⟩) 1 [nameA] _ (by decide) (by decide +kernel) (by decide) h2).mono fun e w' hh => ?_
  obtain ⟨hb, ⟨_, he, hs⟩ | ⟨hn, _⟩⟩ := hh
  · refine ⟨by simpa using he, ?_, (below_alloc (Below.refl _ _) _).trans (hb.mono (by simp))⟩
    have := hs.sc (by decide) w'.heap.size
    simpa using this
  · have : [nameA].all nameB = true := by decide +kernel
    rw [this] at hn
    cases hn
theorem write_lit {B top rlo : Nat} {l : List ByteArray} {rs : List Int} {fs : List ByteArray} (s : ByteArray) (b : List Int) (n : Nat) (hb : bytesOf s = b) (hn : s.size = n) (hn2 : n ≤ 1000) (W : World) (hS : Sc W B top rlo l rs fs) (hr : rs.length ≤ 1000)
    (hf : fs.length + (hits l (rs ++ b) (rs.length + b.length - 31)).length ≤ 1000000000) :
    Calls Try.prog 14 #[.pointer (some ⟨B + 1, 0, none⟩), .slice (some ⟨W.heap.size, 0, none⟩) n (grownCap W n 0 5)] (Lib.bytesWorld W 5 s) fun e w' => e = .returned (.int .i64 0) ∧ Kept1 B top W w' ∧
      ∃ rlo', Sc w' B top rlo' l ((rs ++ b).drop (rs.length + b.length - 31)) (fs ++ hits l (rs ++ b) (rs.length + b.length - 31)) := by
  subst hn hb
  have hbw : Below W.heap.size W (Lib.bytesWorld W 5 s) := bytes_below (Below.refl _ _) (Nat.le_refl _) 5 s
  have hC : Kd.C (Kd.int .u8) (Lib.bytesWorld W 5 s) (some ⟨W.heap.size, 0, none⟩) (bytesOf s).length (bytesOf s) := by
    rw [bytesOf_length]
    exact Kd.C_of_reads (d := (0 : Int)) (h1 := fun _ => rfl) (bytes_reads W 5 s (by omega))
  have h := write_calls B top rlo l rs fs (some ⟨W.heap.size, 0, none⟩) (grownCap W s.size 0 5) (bytesOf s) (Lib.bytesWorld W 5 s) (hS.below hbw) hC (by rw [bytesOf_length]; exact grownCap_ge _ _ _ _) hr (by rw [bytesOf_length]; omega) hf
  rw [bytesOf_length] at h
  refine h.mono fun e w' hh => ?_
  obtain ⟨he, hk, hs⟩ := hh
  rw [bytesOf_length]
  exact ⟨he, (Kept1.of_below hbw hS.le).trans hk, _, hs⟩
set_option maxHeartbeats 4000000 in
set_option maxRecDepth 100000 in
theorem awake_calls (w : World) : Calls Try.prog 11 #[] w fun e w' => e = .returned (.bool true) ∧ Below w.heap.size w w' := by
  have kc := fun (w : World) (C : Array Value) (n c : Nat) => Lib.run_convert_bytes_const (P := Try.prog) w 22 5 C n c Try.underlying22 Try.underlying5
  have kb_ := fun (s_ : ByteArray) (W_ : World) => print_bytes (P := Try.prog) 9 22 5 Try.underlying9 Try.underlying22 Try.underlying5 s_ W_
  have cF := find_awake w
  have b20 : bytesOf ((⟨#[48, 49, 50, 51, 52, 53, 54, 55, 56, 57, 97, 98, 99, 100, 102, 103, 104, 105, 106, 107, 108, 109, 110, 112, 113, 114, 115, 118, 119, 120, 121, 122]⟩ : ByteArray).extract 0 20) = dgI.take 20 := by decide +kernel
  have b12 : bytesOf ((⟨#[48, 49, 50, 51, 52, 53, 54, 55, 56, 57, 97, 98, 99, 100, 102, 103, 104, 105, 106, 107, 108, 109, 110, 112, 113, 114, 115, 118, 119, 120, 121, 122]⟩ : ByteArray).extract 20 32) = dgI.drop 20 := by decide +kernel
  have s20 : ((⟨#[48, 49, 50, 51, 52, 53, 54, 55, 56, 57, 97, 98, 99, 100, 102, 103, 104, 105, 106, 107, 108, 109, 110, 112, 113, 114, 115, 118, 119, 120, 121, 122]⟩ : ByteArray).extract 0 20).size = 20 := by decide +kernel
  have s12 : ((⟨#[48, 49, 50, 51, 52, 53, 54, 55, 56, 57, 97, 98, 99, 100, 102, 103, 104, 105, 106, 107, 108, 109, 110, 112, 113, 114, 115, 118, 119, 120, 121, 122]⟩ : ByteArray).extract 20 32).size = 12 := by decide +kernel
  have B20 := Aside0.mk b20
  have B12 := Aside0.mk b12
  have S20 := Aside0.mk s20
  have S12 := Aside0.mk s12
  clear b20 b12 s20 s12
  go_enter Try.func11, Try.ntmps11
  go_wp2_with (first
    | (go_at_call 9; refine cF.mono ?_; rintro e W1 ⟨v1, rfl, hr1, hb1⟩; obtain ⟨A1, c1, e1⟩ := Kd.R_slice hr1; subst e1; have HC1 := Aside0.mk (Kd.R_reads' hr1).2.1; have HR1 := Aside0.mk hr1; have HB1 := Aside0.mk hb1; clear hr1 hb1 cF)
    | (go_at_call 13; refine (new_awake _).mono ?_; rintro e W2 ⟨rfl, hs2, hb2⟩; have HS2 := Aside0.mk hs2; have HB2 := Aside0.mk hb2; clear hs2 hb2; have tok1 : True := trivial; have cW := write_lit _ _ 20 B20.out S20.out (by decide) W2 HS2.out (by decide) (by decide))
    | (go_at_call 14; have tok2 := tok1; clear tok1 tok2; refine cW.mono ?_; rintro e W3 ⟨rfl, hk3, rlo3, hs3⟩; have HK3 := Aside0.mk hk3; have HS3 := Aside0.mk (show Sc W3 _ _ rlo3 [nameA] (dgI.take 20) [] from hs3); clear hs3 hk3 cW; have cX := write_lit _ _ 12 B12.out S12.out (by decide) W3 HS3.out (by decide) (by decide +kernel))
    | (go_at_call 14; refine cX.mono ?_; rintro e W4 ⟨rfl, hk4, rlo4, hs4⟩; have HK4 := Aside0.mk hk4; have HS4 := Aside0.mk (show Sc W4 _ _ rlo4 [nameA] (dgI.drop 1) [nameA] from by have e1 : ([] : List ByteArray) ++ hits [nameA] (dgI.take 20 ++ dgI.drop 20) ((dgI.take 20).length + (dgI.drop 20).length - 31) = [nameA] := hitsA; rw [e1] at hs4; exact hs4); clear hs4 hk4 cX; have cY := found_calls _ _ _ _ _ _ W4 HS4.out (by decide); rw [foundB_one] at cY)
    | (go_at_call 15; refine cY.mono ?_; rintro e W5 ⟨v5, rfl, hk5, hs5, hr5⟩; have HK5 := Aside0.mk hk5; have HS5 := Aside0.mk hs5; obtain ⟨A5, c5, e5⟩ := Kd.R_slice hr5; subst e5; have HR5 := Aside0.mk hr5; have HB5 := Aside0.mk (HB2.out.trans (((HK3.out.trans HK4.out).trans HK5.out).below (Nat.le_succ _) HB2.out.size)); have cT := chandleryref01_Texts.calls 3 A1 c1 [nameA] (some ⟨W5.heap.size, 0, none⟩) 1 [nameA] true (W5.alloc (.cells #[.string nameA] 9)) (Kd.C_alloc (Kd.C_below (Kd.R_reads' HR1.out).2.2 HB5.out) _) HC1.out (C_strs (heap_alloc_new W5 _) (by decide)) (by decide) (by decide +kernel); clear hk5 hs5 hr5 cY)
    | (go_at_call 12; refine cT.mono ?_; rintro e W6 ⟨rfl, ⟨n6, rfl⟩⟩; clear cT; have cU := chandleryref01_Texts.calls 3 A5 c5 [nameA] A1 c1 [nameA] true _ (Kd.C_drewN (Kd.C_alloc (Kd.R_reads' HR5.out).2.2 (.cells #[.string nameA] 9)) n6) (Kd.R_reads' HR5.out).2.1 (Kd.C_drewN (Kd.C_alloc (Kd.C_below (Kd.R_reads' HR1.out).2.2 HB5.out) (.cells #[.string nameA] 9)) n6) HC1.out (by decide +kernel))
    | (go_at_call 12; refine cU.mono ?_; rintro e W7 ⟨rfl, ⟨n7, rfl⟩⟩; clear cU))
  go_ret
  refine ⟨rfl, HB1.out.trans ?_⟩
  have h5 := HB5.out
  refine (((h5.trans ?_)).mono HB1.out.size)
  exact pw_below_drewN ((Below.refl _ _).alloc h5.size _) _
end Go.Proofs.YtkmnjekbacdfoaaX
