/- tree.above: the walk. -/
import Derived.Test.YtlcaogiljiieaaaPathD
import Derived.Test.YtlcaogiljiieaaaWLast
import Derived.Test.YtlcaogiljiieaaaWMore
import Derived.Lib.LastIndexByte
set_option linter.unusedVariables false
set_option linter.unusedSimpArgs false
namespace Go.Proofs.YtlcaogiljiieaaaX
open Go.RowKit Go.Proofs.YtlcaogiljiieaaaW.PrintWords Go.Proofs.YtlcaogiljiieaaaW.PrintLast Go.Proofs.YtlcaogiljiieaaaW.PrintMore

theorem lastIdx_le (s : ByteArray) (c : Int) : ∀ n, n ≤ s.size → -1 ≤ Lib.lastIdx s c n ∧ Lib.lastIdx s c n < n
  | 0, _ => by simp [Lib.lastIdx]
  | n + 1, h => by
    have ih := lastIdx_le s c n (by omega)
    unfold Lib.lastIdx
    split <;> omega
/-- The place of the last slash, or -1. -/
def lastB (s : ByteArray) : Int := Lib.lastIndexByte s 47
theorem lastB_le (s : ByteArray) : -1 ≤ lastB s ∧ lastB s < s.size := lastIdx_le s 47 s.size (Nat.le_refl _)
theorem last_calls (s : ByteArray) (hs : s.size ≤ 1000000) (w : World) : Calls Try.prog 65 #[.string s, .string ⟨#[47]⟩] w fun e w' => e = .returned (.int .i64 (lastB s)) ∧ w' = w :=
  Try.strings_LastIndex_one s ⟨#[47]⟩ rfl (by omega) w
/-- A path's directory. -/
def aboveB (s : ByteArray) : ByteArray := s.extract 0 (max (lastB s) 0).toNat

attribute [local go_sem] max2_int min2_int max_two min_two
set_option maxHeartbeats 1000000 in
set_option maxRecDepth 100000 in
theorem above_calls (s : ByteArray) (hs : s.size ≤ 1000000) (w : World) : Calls Try.prog 54 #[.string s] w fun e w' => e = .returned (.string (aboveB s)) ∧ w' = w := by
  obtain ⟨h1, h2⟩ := lastB_le s
  unfold aboveB
  generalize hi : lastB s = i at *
  by_cases h5 : 0 ≤ i
  · have hm : max i 0 = i := by omega
    have hle : i ≤ (s.size : Int) := by omega
    rw [hm]
    clear hm
    go_enter Try.func54, Try.ntmps54
    go_wp2_with (go_at_call 65; refine (last_calls _ hs _).mono ?_; rintro e w' ⟨rfl, rfl⟩; rw [hi])
    all_goals (go_ret; refine ⟨?_, rfl⟩)
    all_goals first
      | rfl
      | (have h0 : i = 0 := by omega
         subst h0
         have e0 : s.extract 0 (0 : Int).toNat = ByteArray.empty := by ext1; simp
         rw [e0]; rfl)
  · have hm : i = -1 := by omega
    subst hm
    go_enter Try.func54, Try.ntmps54
    go_wp2_with (go_at_call 65; refine (last_calls _ hs _).mono ?_; rintro e w' ⟨rfl, rfl⟩; rw [hi])
    go_ret
    have e0 : s.extract 0 (max (-1 : Int) 0).toNat = ByteArray.empty := by ext1; simp; exact .inl (by omega)
    exact ⟨by rw [e0]; rfl, rfl⟩
end Go.Proofs.YtlcaogiljiieaaaX
