/- Plain laws on the words in which the print speaks: wraps, bits, bytes. No program. -/
import Derived.Test.YtkmnjekbacdfoaaWWords
import Derived.Test.YtkmnjekbacdfoaaWLast
import Derived.Test.YtkmnjekbacdfoaaWMore
import Derived.Laws.BitsLemmas
import Derived.Laws.Strings
namespace Go.Proofs.YtkmnjekbacdfoaaX
open Go.RowKit Go.Proofs.YtkmnjekbacdfoaaW.PrintWords Go.Proofs.YtkmnjekbacdfoaaW.PrintLast Go.Proofs.YtkmnjekbacdfoaaW.PrintMore

theorem w64 {x : Int} (h1 : -9223372036854775808 ≤ x) (h2 : x ≤ 9223372036854775807) : wrap64 x = x := by unfold wrap64; omega

theorem wraps_i64 (n : Int) (h0 : 0 ≤ n) (h1 : n < 2 ^ 62) : IntKind.i64.wrap n = n := by rw [IntKind.wrap_i64]; omega

theorem or64 {x y : Int} (i : Nat) (hx0 : 0 ≤ x) (hx : x % 2 ^ i = 0) (hx1 : x < 4611686018427387904) (hy0 : 0 ≤ y) (hy : y < 2 ^ i) (hy1 : y < 4611686018427387904) : Go.bits .or .i64 x y = x + y :=
  bits_join .i64 62 (by decide) wraps_i64 i x y hx0 hx (show x < 2 ^ 62 from hx1) hy0 hy (show y < 2 ^ 62 from hy1)
theorem or8 {x y : Int} (i : Nat) (hx0 : 0 ≤ x) (hx : x % 2 ^ i = 0) (hx1 : x < 256) (hy0 : 0 ≤ y) (hy : y < 2 ^ i) (hy1 : y < 256) : Go.bits .or .u8 x y = x + y :=
  bits_join .u8 8 (by decide) wraps_u8 i x y hx0 hx (show x < 2 ^ 8 from hx1) hy0 hy (show y < 2 ^ 8 from hy1)
theorem bits_or_comm (k : IntKind) (x y : Int) : Go.bits .or k x y = Go.bits .or k y x := by
  simp only [Go.bits, BitVec.toNat_or, Nat.or_comm]
theorem and64 {x : Int} (i : Nat) (hi : i ≤ 62) (h0 : 0 ≤ x) (h1 : x < 4611686018427387904) : Go.bits .and .i64 x (2 ^ i - 1) = x % 2 ^ i :=
  bits_mask .i64 62 (by decide) wraps_i64 i hi x h0 (show x < 2 ^ 62 from h1)

theorem shl64 {x n : Int} (hx0 : 0 ≤ x) (hn0 : 0 ≤ n) (hn : n ≤ 64) (hx : x * 2 ^ n.toNat < 4611686018427387904) : shl .i64 x n = x * 2 ^ n.toNat := by
  unfold shl
  have : min n.toNat IntKind.i64.bits = n.toNat := by show min n.toNat 64 = n.toNat; omega
  rw [this]
  have h0 : (0 : Int) ≤ x * 2 ^ n.toNat := Int.mul_nonneg hx0 (by exact_mod_cast Nat.zero_le (2 ^ n.toNat))
  exact wraps_i64 _ h0 (show x * 2 ^ n.toNat < 2 ^ 62 from hx)
theorem shr64 {x n : Int} (hn : n ≤ 64) : shr .i64 x n = x / 2 ^ n.toNat := by
  unfold shr
  have : min n.toNat IntKind.i64.bits = n.toNat := by show min n.toNat 64 = n.toNat; omega
  rw [this]

/-- A number of a kind of integers, as its reading says it. -/
theorem u8_of_wf {x : Int} (h : (Lit.int .u8 x).wf = true) : 0 ≤ x ∧ x ≤ 255 := by
  simp [Lit.wf, IntKind.min, IntKind.max, IntKind.signed, IntKind.bits] at h
  omega

/-! ### strings as lists of bytes -/
theorem ba_ext {a b : ByteArray} (h : a.data.toList = b.data.toList) : a = b := by
  cases a; cases b; simp only [ByteArray.mk.injEq]; exact Array.toList_inj.1 h
theorem ba_append (a b : ByteArray) : (a ++ b).data.toList = a.data.toList ++ b.data.toList := by simp
theorem ba_extract (a : ByteArray) (i j : Nat) : (a.extract i j).data.toList = (a.data.toList.drop i).take (j - i) := by
  simp [ByteArray.data_extract, Array.toList_extract, List.extract_eq_take_drop]
theorem ba_mk (l : List UInt8) : (⟨l.toArray⟩ : ByteArray).data.toList = l := rfl
theorem ba_size (a : ByteArray) : a.size = a.data.toList.length := by rw [Array.length_toList]; rfl
theorem ba_toList (a : ByteArray) : a.toList = a.data.toList := ByteArray.toList_eq a
theorem bt_list (s : ByteArray) (i : Nat) (h : i < s.data.toList.length) : bt s (i : Int) = ((s.data.toList[i]).toNat : Int) := by
  have hs : ((i : Int)).toNat < s.size := by rw [Int.toNat_natCast, ba_size]; exact h
  rw [← bt_at s i hs]
  rfl
/-- One letter of a text, cut out. -/
theorem ba_one (t : ByteArray) (n : Nat) (h : n < t.data.toList.length) (l : List UInt8) : t.extract n (n + 1) ++ ⟨l.toArray⟩ = ⟨(t.data.toList[n] :: l).toArray⟩ := by
  apply ba_ext
  rw [ba_append, ba_extract, show n + 1 - n = 1 by omega]
  have e := List.drop_eq_getElem_cons h
  simp only [e, List.take_succ_cons, List.take_zero, List.singleton_append]

end Go.Proofs.YtkmnjekbacdfoaaX
