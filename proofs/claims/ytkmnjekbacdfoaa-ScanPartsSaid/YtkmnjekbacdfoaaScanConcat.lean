/- slices.Grow, slices.Concat at rows of bytes: the walks. -/
import Derived.Test.YtkmnjekbacdfoaaShelf
import Derived.Test.YtkmnjekbacdfoaaWWords
import Derived.Test.YtkmnjekbacdfoaaPlain
set_option linter.unusedVariables false
set_option linter.unusedSimpArgs false
namespace Go.Proofs.YtkmnjekbacdfoaaX
open Go.RowKit Go.Shelf Go.Lib Go.Proofs.YtkmnjekbacdfoaaW.PrintWords

theorem grow_calls (n : Nat) (hn : n ≤ 1000000000) (w : World) : Calls Try.prog 28 #[.slice none 0 0, .int .i64 n] w fun e w' =>
    ∃ v, e = .returned v ∧ Kd.R (Kd.int .u8) 5 w' w.heap.size (fun _ => True) v [] ∧ Below w.heap.size w w' := by
  rcases Nat.eq_zero_or_pos n with rfl | h0
  · refine (Any8.slices_Grow_room Try.growB none 0 0 0 w (by omega) (by omega) (by omega) (by omega)).mono ?_
    rintro e w' ⟨rfl, rfl⟩
    exact ⟨_, rfl, Kd.R_nil _ _ _ _ _, Below.refl _ _⟩
  · obtain ⟨i, hi, hz⟩ := Option.map_eq_some_iff.1 (show (Try.prog.info? 5).map (fun i => (i.zero, i.size, i.bytes)) = some (some (.int .u8 0), 1, 1) by kernel_rfl)
    simp only [Prod.mk.injEq] at hz
    obtain ⟨hz0, hz1, hz2⟩ := hz
    refine (Any8.slices_Grow_grow Try.growB i (.int .u8 0) hi hz0 (by omega) none 0 0 n [] w (by omega) (by omega) (by rw [hz2]; omega) (by omega) (by rw [hz1]; rfl) (fun _ => rfl) (fun a h => by cases h)).mono ?_
    rintro e w' ⟨rfl, rfl⟩
    refine ⟨_, rfl, Kd.R_of_own ⟨by simp [encs], .inr ⟨w.heap.size, _, _, rfl, Nat.le_refl _, heap_alloc_new w.drew _, ?_, ?_, ?_, ?_⟩⟩ (fun _ _ => trivial), below_alloc (below_drew1 (Below.refl _ _)) _⟩
    · simp
    · exact grownCap_le_maxLen _ _ _ _ (by simp only [maxLen]; omega)
    · have hge := grownCap_ge w (0 + n) 0 (Try.growB_ren.t 25)
      simp only [Array.size_append, size_zeroCells, show (Value.int IntKind.u8 0).cells.size = 1 from rfl, List.size_toArray, List.length_nil]
      omega
    · simp [encs]

set_option maxHeartbeats 4000000 in
set_option maxRecDepth 100000 in
theorem concat_calls (q c : Nat) (A1 A2 : Option Addr) (c1 c2 : Nat) (l1 l2 : List Int) (w : World) (hc : 2 ≤ c) (h1 : Kd.C (Kd.int .u8) w A1 l1.length l1) (h2 : Kd.C (Kd.int .u8) w A2 l2.length l2)
    (n1 : l1.length ≤ 100000000) (n2 : l2.length ≤ 100000000) (q1 : w.cell? ⟨q, 0, none⟩ = some (.slice A1 l1.length c1)) (q2 : w.cell? ⟨q, 1, none⟩ = some (.slice A2 l2.length c2)) :
    Calls Try.prog 19 #[.slice (some ⟨q, 0, none⟩) 2 c] w fun e w' =>
      ∃ v, e = .returned v ∧ Kd.R (Kd.int .u8) 5 w' w.heap.size (fun _ => True) v (l1 ++ l2) ∧ Below w.heap.size w w' := by
  have H1 := Aside0.mk h1
  have H2 := Aside0.mk h2
  clear h1 h2
  have z1 : wrap64 (0 + (l1.length : Int)) = (l1.length : Int) := by rw [w64 (by omega) (by omega)]; omega
  have z2 : wrap64 ((l1.length : Int) + (l2.length : Int)) = ((l1.length + l2.length : Nat) : Int) := by rw [w64 (by omega) (by omega)]; omega
  have d1 : ¬ ((l1.length : Int) < 0) := by omega
  have d2 : ¬ (((l1.length + l2.length : Nat) : Int) < 0) := by omega
  go_enter Try.func19, Try.ntmps19
  go_wp2
  go_loopw [3, 11] (fun sz i wr => w = wr ∧ ((i = .int .i64 0 ∧ sz = .int .i64 0) ∨ (i = .int .i64 1 ∧ sz = .int .i64 l1.length) ∨ (i = .int .i64 2 ∧ sz = .int .i64 (l1.length + l2.length : Nat))))
    (fun _ i _ => 2 - (intOf i).toNat)
  case atStart => exact ⟨rfl, .inl ⟨rfl, rfl⟩⟩
  case round =>
    obtain ⟨rfl, ⟨rfl, rfl⟩ | ⟨rfl, rfl⟩ | ⟨rfl, rfl⟩⟩ := hrel
    · go_wp2
      go_roundw
      case rel => exact ⟨trivial, .inr (.inl ⟨rfl, by simp⟩)⟩
      case measure => simp [intOf]
    · go_wp2
      go_roundw
      case rel => exact ⟨trivial, .inr (.inr ⟨rfl, by simp⟩)⟩
      case measure => simp [intOf]
    · go_wp2_with (go_at_call 28; refine (grow_calls (l1.length + l2.length) (by omega) w).mono ?_; rintro e W1 ⟨v1, rfl, hR1, hb1⟩)
      go_loopw [6, 27] (fun v i wr => Below w.heap.size w wr ∧ ∃ xs : List Int, Kd.R (Kd.int .u8) 5 wr w.heap.size (fun _ => True) v xs ∧ ((i = .int .i64 0 ∧ xs = []) ∨ (i = .int .i64 1 ∧ xs = l1) ∨ (i = .int .i64 2 ∧ xs = l1 ++ l2)))
        (fun _ i _ => 2 - (intOf i).toNat)
      case atStart => exact ⟨hb1, [], hR1, .inl ⟨rfl, rfl⟩⟩
      case round =>
        obtain ⟨hbb, xs, hRR, hcase⟩ := hrel
        have HB := Aside0.mk hbb
        obtain ⟨A6, c6, e6⟩ := Kd.R_slice hRR
        subst e6
        have HR := Aside0.mk hRR
        rcases hcase with ⟨rfl, rfl⟩ | ⟨rfl, rfl⟩ | ⟨rfl, rfl⟩
        · have HQ := Aside0.mk (Kd.C_below H1.out hbb)
          have r1 := (hbb.cell (World.block_lt_of_cell? w _ q1)).trans q1
          clear hbb hRR
          go_wp2_with ((with_reducible refine gate_builtin (b := .append) (xs := #[.tmp 31, .tmp 32]) rfl ?_); at_builtin; refine Kd.R_append_rows (Kd.int .u8) (w0 := w) w.heap.size rfl (.tmp 31) (.tmp 32) 22 5 (.int .u8 0) 1 rfl Try.underlying22 (by kernel_rfl) rfl (by decide) (by omega) (.slice A6 ([] : List Int).length c6) ([] : List Int) l1 A1 l1.length c1 (fun _ => True) (fun _ => False) rfl rfl ?aO ?aR (fun _ _ h => h) (fun _ h => h.elim) ?aF ?aB ?aS ?aL ?_; (case aO => exact HR.out); (case aR => exact HQ.out); (case aF => exact fun _ _ => trivial); (case aB => exact HB.out); (case aS => exact HB.out.size); (case aL => first | omega | (simp only [List.length_nil]; omega)); intro v2 W2 ho2 hb2 hg2 hat2)
          go_roundw
          case rel => exact ⟨hb2, _, ho2, .inr (.inl ⟨rfl, rfl⟩)⟩
          case measure => simp [intOf]
        · have HQ := Aside0.mk (Kd.C_below H2.out hbb)
          have r1 := (hbb.cell (World.block_lt_of_cell? w _ q2)).trans q2
          clear hbb hRR
          go_wp2_with ((with_reducible refine gate_builtin (b := .append) (xs := #[.tmp 31, .tmp 32]) rfl ?_); at_builtin; refine Kd.R_append_rows (Kd.int .u8) (w0 := w) w.heap.size rfl (.tmp 31) (.tmp 32) 22 5 (.int .u8 0) 1 rfl Try.underlying22 (by kernel_rfl) rfl (by decide) (by omega) (.slice A6 xs.length c6) xs l2 A2 l2.length c2 (fun _ => True) (fun _ => False) rfl rfl ?aO ?aR (fun _ _ h => h) (fun _ h => h.elim) ?aF ?aB ?aS ?aL ?_; (case aO => exact HR.out); (case aR => exact HQ.out); (case aF => exact fun _ _ => trivial); (case aB => exact HB.out); (case aS => exact HB.out.size); (case aL => first | omega | (simp only [List.length_nil]; omega)); intro v2 W2 ho2 hb2 hg2 hat2)
          go_roundw
          case rel => exact ⟨hb2, _, ho2, .inr (.inr ⟨rfl, rfl⟩)⟩
          case measure => simp [intOf]
        · go_wp2
          go_ret
          exact ⟨_, rfl, HR.out, HB.out⟩
end Go.Proofs.YtkmnjekbacdfoaaX
