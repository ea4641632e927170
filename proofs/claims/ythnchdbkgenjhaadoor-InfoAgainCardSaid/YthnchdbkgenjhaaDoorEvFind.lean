import Derived.Test.YthnchdbkgenjhaaDoorWWords
import Derived.Test.YthnchdbkgenjhaaDoorWLast
import Derived.Test.YthnchdbkgenjhaaDoorWMore
import Derived.Laws.BitsLemmas
import Derived.Laws.Strings
set_option linter.unusedVariables false
/- Plain laws on the words in which the print speaks: wraps, bits, bytes. No program. -/
namespace Go.Proofs.YthnchdbkgenjhaaDoorX
open Go.RowKit Go.Proofs.YthnchdbkgenjhaaDoorW.PrintWords Go.Proofs.YthnchdbkgenjhaaDoorW.PrintLast Go.Proofs.YthnchdbkgenjhaaDoorW.PrintMore
theorem w64 {x : Int} (h1 : -9223372036854775808 ≤ x) (h2 : x ≤ 9223372036854775807) : wrap64 x = x := by unfold wrap64; omega
theorem wraps_i64 (n : Int) (h0 : 0 ≤ n) (h1 : n < 2 ^ 62) : IntKind.i64.wrap n = n := by rw [IntKind.wrap_i64]; omega
theorem or64 {x y : Int} (i : Nat) (hx0 : 0 ≤ x) (hx : x % 2 ^ i = 0) (hx1 : x < 4611686018427387904) (hy0 : 0 ≤ y) (hy : y < 2 ^ i) (hy1 : y < 4611686018427387904) : Go.bits .or .i64 x y = x + y :=
  bits_join .i64 62 (by decide) wraps_i64 i x y hx0 hx (show x < 2 ^ 62 from hx1) hy0 hy (show y < 2 ^ 62 from hy1)
theorem shr64 {x n : Int} (hn : n ≤ 64) : shr .i64 x n = x / 2 ^ n.toNat := by
  unfold shr
  have : min n.toNat IntKind.i64.bits = n.toNat := by show min n.toNat 64 = n.toNat; omega
  rw [this]
/-- A number of a kind of integers, as its reading says it. -/
theorem u8_of_wf {x : Int} (h : (Lit.int .u8 x).wf = true) : 0 ≤ x ∧ x ≤ 255 := by
  simp [Lit.wf, IntKind.min, IntKind.max, IntKind.signed, IntKind.bits] at h
  omega
theorem ba_ext {a b : ByteArray} (h : a.data.toList = b.data.toList) : a = b := by
  cases a; cases b; simp only [ByteArray.mk.injEq]; exact Array.toList_inj.1 h
theorem ba_append (a b : ByteArray) : (a ++ b).data.toList = a.data.toList ++ b.data.toList := by simp
theorem ba_extract (a : ByteArray) (i j : Nat) : (a.extract i j).data.toList = (a.data.toList.drop i).take (j - i) := by
  simp [ByteArray.data_extract, Array.toList_extract, List.extract_eq_take_drop]
theorem ba_mk (l : List UInt8) : (⟨l.toArray⟩ : ByteArray).data.toList = l := rfl
theorem ba_size (a : ByteArray) : a.size = a.data.toList.length := by rw [Array.length_toList]; rfl
theorem ba_toList (a : ByteArray) : a.toList = a.data.toList := ByteArray.toList_eq a
theorem bt_list (s : ByteArray) (i : Nat) (h : i < s.data.toList.length) : bt s (i : Int) = ((s.data.toList[i]).toNat : Int) := by
  have hs : ((i : Int)).toNat < s.size := by rw [Int.toNat_natCast, ba_size]; exact h
  rw [← bt_at s i hs]
  rfl
end Go.Proofs.YthnchdbkgenjhaaDoorX
/- Loops that are told by rounds: going on, and stopping at the first that fails. No program. -/
namespace Go.Proofs.YthnchdbkgenjhaaDoorX
open Go.RowKit Go.Proofs.YthnchdbkgenjhaaDoorW.PrintWords Go.Proofs.YthnchdbkgenjhaaDoorW.PrintLast Go.Proofs.YthnchdbkgenjhaaDoorW.PrintMore
theorem ev_iter {α : Type} (G : Nat → Nat → Option α) (n : Nat) (hgo : ∀ i, i < n → ∀ k, G i (k + 1) = G (i + 1) k) {v : α} (hend : Ev (G n) v) : ∀ m i, i + m = n → Ev (G i) v
  | 0, i, h => by
    have : i = n := by omega
    subst this
    exact hend
  | m + 1, i, h => Ev.step (hgo i (by omega)) (ev_iter G n hgo hend m (i + 1) (by omega))
theorem ev_go {α : Type} (G : Nat → Nat → Option α) (n : Nat) (hgo : ∀ i, i < n → ∀ k, G i (k + 1) = G (i + 1) k) {v : α} (hend : Ev (G n) v) : Ev (G 0) v := ev_iter G n hgo hend n 0 (by omega)
theorem ev_no {α : Type} (G : Nat → Nat → Option α) (n : Nat) (ok : Nat → Prop) (hgo : ∀ i, i < n → ok i → ∀ k, G i (k + 1) = G (i + 1) k) {bad : α} (hbad : ∀ i, i < n → ¬ ok i → ∀ k, G i (k + 1) = some bad) (j : Nat) (hj : j < n) (hno : ¬ ok j) : ∀ m i, i + m = j → Ev (G i) bad
  | 0, i, h => by
    have : i = j := by omega
    subst this
    exact Ev.step (f := fun _ => some bad) (hbad i hj hno) (Ev.now bad)
  | m + 1, i, h => by
    by_cases hi : ok i
    · exact Ev.step (hgo i (by omega) hi) (ev_no G n ok hgo hbad j hj hno m (i + 1) (by omega))
    · exact Ev.step (f := fun _ => some bad) (hbad i (by omega) hi) (Ev.now bad)
/-- A loop that goes on while its test holds: either all hold, and it ends with v, or one fails. -/
theorem ev_all {α : Type} (G : Nat → Nat → Option α) (n : Nat) (ok : Nat → Prop) {v bad : α} (hgo : ∀ i, i < n → ok i → ∀ k, G i (k + 1) = G (i + 1) k) (hbad : ∀ i, i < n → ¬ ok i → ∀ k, G i (k + 1) = some bad) (hend : Ev (G n) v) :
    ((∀ j, j < n → ok j) ∧ Ev (G 0) v) ∨ ((∃ j, j < n ∧ ¬ ok j) ∧ Ev (G 0) bad) := by
  by_cases h : ∀ j, j < n → ok j
  · exact .inl ⟨h, ev_go G n (fun i hi k => hgo i hi (h i hi) k) hend⟩
  · have h' : ∃ j, j < n ∧ ¬ ok j := by
      refine Classical.byContradiction fun hc => h fun j hj => Classical.byContradiction fun hn => hc ⟨j, hj, hn⟩
    obtain ⟨j, hj, hn⟩ := h'
    exact .inr ⟨⟨j, hj, hn⟩, ev_no G n ok hgo hbad j hj hn j 0 (by omega)⟩
theorem w1 {n i : Nat} (h : i < n) (hn : n ≤ 9223372036854775807) : wrap64 ((i : Int) + 1) = ((i + 1 : Nat) : Int) := by
  rw [w64 (by omega) (by omega)]
  omega
end Go.Proofs.YthnchdbkgenjhaaDoorX
/- Loops that look for the first place at which a test holds. No program. -/
namespace Go.Proofs.YthnchdbkgenjhaaDoorX
open Go.RowKit Go.Proofs.YthnchdbkgenjhaaDoorW.PrintWords Go.Proofs.YthnchdbkgenjhaaDoorW.PrintLast Go.Proofs.YthnchdbkgenjhaaDoorW.PrintMore
/-- A place at which the test holds: no word on the end. -/
theorem ev_hit {α : Type} (G : Nat → Nat → Option α) (n : Nat) (hit : Nat → Bool) {yes : α} (hgo : ∀ i, i < n → hit i = false → ∀ v, Ev (G (i + 1)) v → Ev (G i) v) (hstop : ∀ i, i < n → hit i = true → Ev (G i) yes) (h : ∃ i, i < n ∧ hit i = true) : Ev (G 0) yes := by
  obtain ⟨j, hj, hh⟩ := h
  have key : ∀ m i, i + m = j → Ev (G i) yes := by
    intro m
    induction m with
    | zero =>
      intro i hi
      obtain rfl : i = j := by omega
      exact hstop i hj hh
    | succ m ih =>
      intro i hi
      cases h2 : hit i
      · exact hgo i (by omega) h2 _ (ih (i + 1) (by omega))
      · exact hstop i (by omega) h2
  exact key j 0 (by omega)
theorem ev_miss {α : Type} (G : Nat → Nat → Option α) (n : Nat) {v : α} (hgo : ∀ i, i < n → ∀ v, Ev (G (i + 1)) v → Ev (G i) v) (hend : Ev (G n) v) : ∀ i, i ≤ n → Ev (G i) v := by
  have key : ∀ m i, i + m = n → Ev (G i) v := by
    intro m
    induction m with
    | zero =>
      intro i hi
      obtain rfl : i = n := by omega
      exact hend
    | succ m ih => exact fun i hi => hgo i (by omega) _ (ih (i + 1) (by omega))
  exact fun i hi => key (n - i) i (by omega)
theorem rdB_get (l : List ByteArray) (i : Nat) (hi : i < l.length) : rdOf ByteArray.empty l (i : Int) = l[i] := by
  unfold rdOf
  rw [Int.toNat_natCast, List.getD_eq_getElem?_getD, List.getElem?_eq_getElem hi]
  rfl
end Go.Proofs.YthnchdbkgenjhaaDoorX
