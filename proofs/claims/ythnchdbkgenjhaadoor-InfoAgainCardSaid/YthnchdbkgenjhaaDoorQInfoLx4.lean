-- printed with xprint.py over the kit's print
import Derived.Test.YthnchdbkgenjhaaDoorQInfoLx0
import Derived.Test.YthnchdbkgenjhaaDoorQInfoLx1
import Derived.Test.YthnchdbkgenjhaaDoorQInfoLx2
namespace Go.Proofs.YthnchdbkgenjhaaDoor.PInfoL
open Go.RowKit Go.Proofs.YthnchdbkgenjhaaDoorW.PrintWords Go.Proofs.YthnchdbkgenjhaaDoorW.PrintLast Go.Proofs.YthnchdbkgenjhaaDoorW.PrintMore
attribute [local go_sem] max2_int min2_int max_two min_two max_three min_three max_four min_four   -- for this text's walks alone
set_option linter.unusedVariables false
set_option linter.unusedSimpArgs false
-- NOT PRINTED: function 4 (chandlerylaw22_InfoRow)
def info_Read.f (a0 : ByteArray) : Option (ByteArray × Int × List ByteArray × Int) := if a0.size ≤ 1000000 then some (YthnchdbkgenjhaaDoorX.readE a0) else none
theorem info_Read.calls (a0 : ByteArray) (r1 : ByteArray) (r2 : Int) (r3 : List ByteArray) (r4 : Int) (w : World) (h : info_Read.f a0 = some (r1, r2, r3, r4)) :
  Calls Tryd.prog 18 #[.string a0] w fun e w' => ∃ v2_ : Value, e = .returned (.tuple #[.agg #[.string r1, .int .i64 r2, v2_], .int .i64 r4]) ∧ Kd.R Kd.string 9 w' w.heap.size (fun _ => True) v2_ r3 ∧ Below w.heap.size w w' := by
 unfold info_Read.f at h
 by_cases c : a0.size ≤ 1000000
 ·rw [if_pos c] at h
  exact YthnchdbkgenjhaaDoorX.read_calls a0 w c r1 r2 r3 r4 (Option.some.inj h)
 ·rw [if_neg c] at h; cases h
end Go.Proofs.YthnchdbkgenjhaaDoor.PInfoL
