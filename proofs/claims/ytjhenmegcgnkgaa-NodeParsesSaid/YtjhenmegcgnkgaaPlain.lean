/- Plain laws on the words in which the print speaks: wraps, bits, bytes. No program. -/
import Derived.Test.YtjhenmegcgnkgaaWWords
import Derived.Test.YtjhenmegcgnkgaaWLast
import Derived.Test.YtjhenmegcgnkgaaWMore
import Derived.Laws.BitsLemmas
import Derived.Laws.Strings
namespace Go.Proofs.YtjhenmegcgnkgaaX
open Go.RowKit Go.Proofs.YtjhenmegcgnkgaaW.PrintWords Go.Proofs.YtjhenmegcgnkgaaW.PrintLast Go.Proofs.YtjhenmegcgnkgaaW.PrintMore
theorem w64 {x : Int} (h1 : -9223372036854775808 ≤ x) (h2 : x ≤ 9223372036854775807) : wrap64 x = x := by unfold wrap64; omega
theorem wraps_i64 (n : Int) (h0 : 0 ≤ n) (h1 : n < 2 ^ 62) : IntKind.i64.wrap n = n := by rw [IntKind.wrap_i64]; omega
theorem or64 {x y : Int} (i : Nat) (hx0 : 0 ≤ x) (hx : x % 2 ^ i = 0) (hx1 : x < 4611686018427387904) (hy0 : 0 ≤ y) (hy : y < 2 ^ i) (hy1 : y < 4611686018427387904) : Go.bits .or .i64 x y = x + y :=
  bits_join .i64 62 (by decide) wraps_i64 i x y hx0 hx (show x < 2 ^ 62 from hx1) hy0 hy (show y < 2 ^ 62 from hy1)
/-- A number of a kind of integers, as its reading says it. -/
theorem u8_of_wf {x : Int} (h : (Lit.int .u8 x).wf = true) : 0 ≤ x ∧ x ≤ 255 := by
  simp [Lit.wf, IntKind.min, IntKind.max, IntKind.signed, IntKind.bits] at h
  omega
theorem ba_size (a : ByteArray) : a.size = a.data.toList.length := by rw [Array.length_toList]; rfl
theorem ba_toList (a : ByteArray) : a.toList = a.data.toList := ByteArray.toList_eq a
end Go.Proofs.YtjhenmegcgnkgaaX
