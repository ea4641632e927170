/- internal/stringslite.Index at a text of one byte. -/
import Derived.Test.YtlcaogiljiieaaaProg
import Derived.Test.YtlcaogiljiieaaaShelf
import Derived.WalkKit
import Derived.WalkSpells
import Derived.Outline
import Derived.Lib.Hide
import Derived.Laws.Strings
import Derived.KernelRfl
set_option linter.unusedVariables false
namespace Go.Proofs.YtlcaogiljiieaaaX
open Go.RowKit
set_option maxHeartbeats 1000000 in
set_option maxRecDepth 100000 in
theorem Index_one (s t : ByteArray) (w : World) (h1 : t.size = 1) :
    Calls Try.prog 90 #[.string s, .string t] w fun e w' => e = .returned (.int .i64 (Lib.indexByte s.data.toList (t[0]'(by omega)))) ∧ w' = w := by
  have hn0 : ((t.size : Int) == 0) = false := beq_eq_false_iff_ne.2 (by omega)
  have hn1 : ((t.size : Int) == 1) = true := beq_iff_eq.2 (by omega)
  have hlt : (0 : Int) < (t.size : Int) := by omega
  have hlt2 : 0 < t.size := by omega
  by_cases he : t.toList = s.toList
  · have hb : (t.toList == s.toList) = true := beq_iff_eq.2 he
    have hs : s.data.toList = [t[0]] := by
      rw [← ByteArray.toList_eq, ← he, ByteArray.toList_eq]
      have hl : t.data.toList.length = 1 := by rw [Array.length_toList]; exact h1
      obtain ⟨x, hx⟩ := List.length_eq_one_iff.1 hl
      have : t[0] = x := by
        show t.data[0] = x
        have e : t.data = #[x] := by rw [← Array.toArray_toList (xs := t.data), hx]
        simp [e]
      rw [hx, this]
    have hfin : Lib.indexByte s.data.toList (t[0]'(by omega)) = 0 := by rw [hs]; simp [Lib.indexByte]
    have HF := Lib.hid hfin
    clear hfin hs he
    go_enter Try.func90, Try.ntmps90
    go_wp2_with fail
    go_ret
    exact ⟨by rw [HF.out]; rfl, rfl⟩
  · have hb : (t.toList == s.toList) = false := beq_eq_false_iff_ne.2 he
    clear he
    go_enter Try.func90, Try.ntmps90
    go_wp2_with (go_at_call 102; refine (Try.stringslite_IndexByte _ _ _).mono ?_; rintro e w' ⟨rfl, rfl⟩)
    go_ret
    exact ⟨by simp, rfl⟩
end Go.Proofs.YtlcaogiljiieaaaX
