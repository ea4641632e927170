/- Texts held against each other by >=, <= and >. -/
import Derived.Test.YtlcaogiljiieaaaProg
import Derived.WalkKit
import Derived.Laws.Strings
namespace Go.Proofs.YtlcaogiljiieaaaX
theorem less_tri : ∀ a b : List UInt8, Op.bytesLess b a = !(Op.bytesLess a b || a == b)
  | [], [] => rfl
  | [], _ :: _ => rfl
  | _ :: _, [] => rfl
  | x :: a, y :: b => by
    have ih := less_tri a b
    have e1 : Op.bytesLess (y :: b) (x :: a) = (decide (y < x) || (y == x && Op.bytesLess b a)) := rfl
    have e2 : Op.bytesLess (x :: a) (y :: b) = (decide (x < y) || (x == y && Op.bytesLess a b)) := rfl
    rw [e1, e2, ih, Bool.eq_iff_iff]
    by_cases hlt : x < y
    · have h1 : ¬ y < x := by rw [UInt8.lt_iff_toNat_lt] at *; omega
      have h2 : ¬ y = x := by rintro rfl; exact absurd hlt h1
      simp [hlt, h1, h2]
    · by_cases hgt : y < x
      · have h2 : ¬ x = y := by rintro rfl; exact absurd hgt hlt
        simp [hlt, hgt, h2]
      · have e : x = y := UInt8.toNat_inj.1 (by rw [UInt8.lt_iff_toNat_lt] at hlt hgt; omega)
        subst e
        simp [hlt]
theorem str_geq (a b : ByteArray) (w : World) : (binOp .geq 9 (.string a) (.string b)).run Try.prog w = .ok (.bool (!Op.bytesLess a.toList b.toList)) w := by
  simp [binOp, Op.stringOp]
theorem str_leq (a b : ByteArray) (w : World) : (binOp .leq 9 (.string a) (.string b)).run Try.prog w = .ok (.bool (!Op.bytesLess b.toList a.toList)) w := by
  rw [less_tri a.toList b.toList]
  simp [binOp, Op.stringOp]
theorem str_gtr (a b : ByteArray) (w : World) : (binOp .gtr 9 (.string a) (.string b)).run Try.prog w = .ok (.bool (Op.bytesLess b.toList a.toList)) w := by
  rw [less_tri a.toList b.toList]
  simp [binOp, Op.stringOp]
end Go.Proofs.YtlcaogiljiieaaaX
