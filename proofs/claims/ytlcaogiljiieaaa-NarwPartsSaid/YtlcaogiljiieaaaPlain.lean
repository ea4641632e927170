/- Plain laws on the words in which the print speaks: wraps, bits, bytes. No program. -/
import Derived.Test.YtlcaogiljiieaaaWWords
import Derived.Test.YtlcaogiljiieaaaWLast
import Derived.Test.YtlcaogiljiieaaaWMore
import Derived.Laws.BitsLemmas
import Derived.Laws.Strings
namespace Go.Proofs.YtlcaogiljiieaaaX
open Go.RowKit Go.Proofs.YtlcaogiljiieaaaW.PrintWords Go.Proofs.YtlcaogiljiieaaaW.PrintLast Go.Proofs.YtlcaogiljiieaaaW.PrintMore
theorem w64 {x : Int} (h1 : -9223372036854775808 ≤ x) (h2 : x ≤ 9223372036854775807) : wrap64 x = x := by unfold wrap64; omega
theorem shr64 {x n : Int} (hn : n ≤ 64) : shr .i64 x n = x / 2 ^ n.toNat := by
  unfold shr
  have : min n.toNat IntKind.i64.bits = n.toNat := by show min n.toNat 64 = n.toNat; omega
  rw [this]
theorem ba_ext {a b : ByteArray} (h : a.data.toList = b.data.toList) : a = b := by
  cases a; cases b; simp only [ByteArray.mk.injEq]; exact Array.toList_inj.1 h
theorem ba_append (a b : ByteArray) : (a ++ b).data.toList = a.data.toList ++ b.data.toList := by simp
theorem ba_extract (a : ByteArray) (i j : Nat) : (a.extract i j).data.toList = (a.data.toList.drop i).take (j - i) := by
  simp [ByteArray.data_extract, Array.toList_extract, List.extract_eq_take_drop]
theorem ba_size (a : ByteArray) : a.size = a.data.toList.length := by rw [Array.length_toList]; rfl
theorem ba_toList (a : ByteArray) : a.toList = a.data.toList := ByteArray.toList_eq a
theorem bt_list (s : ByteArray) (i : Nat) (h : i < s.data.toList.length) : bt s (i : Int) = ((s.data.toList[i]).toNat : Int) := by
  have hs : ((i : Int)).toNat < s.size := by rw [Int.toNat_natCast, ba_size]; exact h
  rw [← bt_at s i hs]
  rfl
end Go.Proofs.YtlcaogiljiieaaaX
