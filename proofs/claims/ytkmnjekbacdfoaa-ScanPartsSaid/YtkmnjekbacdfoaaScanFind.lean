/- scan.Find: the walk. -/
import Derived.Test.YtkmnjekbacdfoaaScanFound
import Derived.Test.YtkmnjekbacdfoaaScanWrite
set_option linter.unusedVariables false
set_option linter.unusedSimpArgs false
namespace Go.Proofs.YtkmnjekbacdfoaaX
open Go.RowKit Go.Maps Go.Proofs.YtkmnjekbacdfoaaW.PrintWords Go.Proofs.YtkmnjekbacdfoaaW.PrintLast Go.Proofs.YtkmnjekbacdfoaaW.PrintMore

theorem hits_len (l : List ByteArray) (all : List Int) (n : Nat) : (hits l all n).length ≤ n * l.length := by
  induction n with
  | zero => simp [hits]
  | succ n ih =>
    rw [hits_succ, List.length_append, Nat.succ_mul]
    have : (groupsOf l (cutAt all n)).length ≤ l.length := by unfold groupsOf; exact List.length_filter_le _ _
    omega
/-- What Find answers. -/
def findB (b : List Int) (l : List ByteArray) : List ByteArray := foundB (hits l b (b.length - 31))
theorem find_hf (b : List Int) (l : List ByteArray) (hl : l.length ≤ 1000) (hb : b.length ≤ 1000) : (hits l b (b.length - 31)).length ≤ 1000000 := by
  have h1 := hits_len l b (b.length - 31)
  have h2 : (b.length - 31) * l.length ≤ 1000 * 1000 := Nat.mul_le_mul (by omega) hl
  omega
set_option maxHeartbeats 4000000 in
set_option maxRecDepth 100000 in
theorem find_no (A A1 : Option Addr) (c c1 : Nat) (b : List Int) (l : List ByteArray) (w : World) (hl : l.length ≤ 1000) (hs : ∀ s ∈ l, s.size ≤ 1000) (hc1 : l.length ≤ c1) (hA1 : Kd.C Kd.string w A1 l.length l) (hall : l.all nameB = false) :
    Calls Try.prog 9 #[.slice A b.length c, .slice A1 l.length c1] w fun e w' => e = .returned (.tuple #[.slice none 0 0, .int .i64 190]) ∧ Below w.heap.size w w' := by
  have cN : Calls Try.prog 13 #[.slice A1 l.length c1] w fun e w' => e = .returned (.tuple #[.pointer none, .int .i64 190]) ∧ Below w.heap.size w w' := (new_calls A1 c1 l w hl hs hc1 hA1).mono fun e w' h => by
    obtain ⟨hb, ⟨h1, _⟩ | ⟨_, h2⟩⟩ := h
    · rw [hall] at h1; cases h1
    · exact ⟨h2, hb⟩
  clear hs hA1 hall
  go_enter Try.func9, Try.ntmps9
  go_wp2_with (go_at_call 13; refine cN.mono ?_; rintro e W1 ⟨rfl, hb1⟩)
  go_ret2
  exact ⟨rfl, hb1⟩
set_option maxHeartbeats 4000000 in
set_option maxRecDepth 100000 in
theorem find_yes (A A1 : Option Addr) (c c1 : Nat) (b : List Int) (l : List ByteArray) (w : World) (hl : l.length ≤ 1000) (hs : ∀ s ∈ l, s.size ≤ 1000) (hc1 : l.length ≤ c1) (hA1 : Kd.C Kd.string w A1 l.length l)
    (hA : Kd.C (Kd.int .u8) w A b.length b) (hc : b.length ≤ c) (hb : b.length ≤ 1000000) (hf : (hits l b (b.length - 31)).length ≤ 1000000) (hall : l.all nameB = true) :
    Calls Try.prog 9 #[.slice A b.length c, .slice A1 l.length c1] w fun e w' => ∃ v, e = .returned (.tuple #[v, .int .i64 0]) ∧ Kd.R Kd.string 9 w' w.heap.size (fun _ => True) v (findB b l) ∧ Below w.heap.size w w' := by
  have cN : Calls Try.prog 13 #[.slice A1 l.length c1] w fun e w' => e = .returned (.tuple #[.pointer (some ⟨w.heap.size + 1, 0, none⟩), .int .i64 0]) ∧ Below w.heap.size w w' ∧ Scn w' w.heap.size l.length l (.slice none 0 0) (.slice none 0 0) := (new_calls A1 c1 l w hl hs hc1 hA1).mono fun e w' h => by
    obtain ⟨hb, ⟨_, h2, h3⟩ | ⟨h1, _⟩⟩ := h
    · exact ⟨h2, hb, h3⟩
    · rw [hall] at h1; cases h1
  have HA := Aside0.mk hA
  have HF := Aside0.mk hf
  clear hs hA1 hall hA hf
  go_enter Try.func9, Try.ntmps9
  go_wp2_with (first
    | (go_at_call 13; refine cN.mono ?_; rintro e W1 ⟨rfl, hb1, hsc⟩; have HS1 := Aside0.mk (hsc.sc (by omega) W1.heap.size); have HB1 := Aside0.mk hb1; clear hsc hb1 cN; have cW := write_calls w.heap.size W1.heap.size W1.heap.size l [] [] A c b W1 HS1.out (Kd.C_below HA.out HB1.out) hc (by simp) hb (by simpa using Nat.le_trans HF.out (by omega)))
    | (go_at_call 14; refine cW.mono ?_; rintro e W2 ⟨rfl, hk2, hs2⟩; simp only [List.nil_append, List.length_nil, Nat.zero_add] at hs2; have HS2 := Aside0.mk hs2; have HK2 := Aside0.mk hk2; clear hs2 hk2 cW; have cF := found_calls w.heap.size W1.heap.size W1.heap.size l _ _ W2 HS2.out HF.out)
    | (go_at_call 15; refine cF.mono ?_; rintro e W3 ⟨v3, rfl, hk3, hs3, hr3⟩))
  go_ret2
  have hB1 := HB1.out
  refine ⟨v3, rfl, Kd.R_lower hr3 ?_, hB1.trans ((HK2.out.trans hk3).below (Nat.le_refl _) hB1.size)⟩
  have h1 := hB1.size
  have h2 := HK2.out.size
  omega
end Go.Proofs.YtkmnjekbacdfoaaX
