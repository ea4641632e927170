-- printed with xprint.py over the kit's print
import Derived.Test.YtjhenmegcgnkgaaQNodex0
namespace Go.Proofs.Ytjhenmegcgnkgaa.PNode
open Go.RowKit Go.Proofs.YtjhenmegcgnkgaaW.PrintWords Go.Proofs.YtjhenmegcgnkgaaW.PrintLast Go.Proofs.YtjhenmegcgnkgaaW.PrintMore
attribute [local go_sem] max2_int min2_int max_two min_two max_three min_three max_four min_four   -- for this text's walks alone
set_option linter.unusedVariables false
set_option linter.unusedSimpArgs false
def octB (l : List Int) : Bool := l.all fun x => decide (0 ≤ x) && decide (x ≤ 255)
theorem octB_rd {l : List Int} (h : octB l = true) (i : Int) : 0 ≤ rd l i ∧ rd l i ≤ 255 := by
 unfold rd
 rw [List.getD_eq_getElem?_getD]
 rcases Nat.lt_or_ge i.toNat l.length with hl | hl
 ·rw [List.getElem?_eq_getElem hl]
  have := List.all_eq_true.1 h _ (List.getElem_mem hl)
  rw [Bool.and_eq_true] at this
  exact ⟨of_decide_eq_true this.1, of_decide_eq_true this.2⟩
 ·rw [List.getElem?_eq_none hl]
  exact ⟨Int.le_refl _, by decide⟩
def chandleryref08_text.f (l0 : List Int) (a1 : Int) : Option (ByteArray × Int) := if octB l0 = true ∧ l0.length ≤ 1000000 then some (YtjhenmegcgnkgaaX.refText l0 a1) else none
theorem chandleryref08_text.calls (A0 : Option Addr) (c0 : Nat) (l0 : List Int) (a1 : Int) (r1 : ByteArray) (r2 : Int) (w : World) (hr0 : Kd.C (Kd.int .u8) w A0 l0.length l0) (hc0 : l0.length ≤ c0) (h : chandleryref08_text.f l0 a1 = some (r1, r2)) :
  Calls Try.prog 37 #[.slice A0 l0.length c0, .int .i64 a1] w fun e w' => e = .returned (.tuple #[.string r1, .int .i64 r2]) ∧ Drawn0 w w' := by
 unfold chandleryref08_text.f at h
 by_cases hc : octB l0 = true ∧ l0.length ≤ 1000000
 ·rw [if_pos hc] at h
  injection h with h
  refine (YtjhenmegcgnkgaaX.refText_calls A0 c0 l0 a1 w hr0 hc0 hc.2 (octB_rd hc.1)).mono ?_
  rintro e w' ⟨he, rfl⟩
  rw [h] at he
  exact ⟨he, Drawn0.refl _⟩
 ·rw [if_neg hc] at h
  cases h
end Go.Proofs.Ytjhenmegcgnkgaa.PNode
