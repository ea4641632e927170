/- fsys.named, strings.Cut at a slash, fsys.names, fsys.Path: a range over a function that keeps the rest of the path in a variable of its own: the walks. -/
import Derived.Test.YtlcaogiljiieaaaIndexOne
import Derived.Test.YtlcaogiljiieaaaKeysCheck4
import Derived.Test.YtlcaogiljiieaaaParts
import Derived.Lib.IndexLaws
import Derived.Test.YtlcaogiljiieaaaWWords
import Derived.RangeFuncNested
import Derived.RangeFuncBound
import Derived.RangeFuncCalls
import Derived.RangeFuncLeaves
import Derived.RangeFuncBox
import Derived.Shelf.Abstract
import Derived.Shelf.RegionOpen
import Derived.WalkKit
import Derived.OwnWalkIn
import Derived.TacticsInMore
import Derived.LoopNIn
import Derived.LoopIn
import Derived.Maps.AppendAt
set_option linter.unusedVariables false
set_option linter.unusedSimpArgs false
namespace Go.Proofs.YtlcaogiljiieaaaX
open Go.RowKit Go.Shelf Go.Proofs.YtlcaogiljiieaaaW.PrintWords

/-- May these bytes be a path's name? -/
def namedB (s : ByteArray) : Bool := nameB s && (s.toList != [46] && s.toList != [46, 46])

set_option maxHeartbeats 1000000 in
set_option maxRecDepth 100000 in
theorem named_calls (s : ByteArray) (w : World) :
    Calls Try.prog 75 #[.string s] w fun e w' => e = .returned (.bool (namedB s)) ∧ Below w.heap.size w w' := by
  unfold namedB
  have hwi : withinB 1 1 16777215 = true := by decide
  cases h1 : nameB s
  · go_enter Try.func75, Try.ntmps75
    go_wp2_with (go_at_call 94; refine (check_4 _ _ _ _ _).mono ?_; rintro e w' ⟨rfl, hw⟩; rw [hwi, h1, show fin (true && false) ⟨#[]⟩ ⟨#[]⟩ 0 0 = 1 from by simp [fin]])
    go_ret
    exact ⟨by simp, hw⟩
  · by_cases h2 : s.toList = [46]
    · have hb : (s.toList == [46]) = true := beq_iff_eq.2 h2
      go_enter Try.func75, Try.ntmps75
      go_wp2_with (go_at_call 94; refine (check_4 _ _ _ _ _).mono ?_; rintro e w' ⟨rfl, hw⟩; rw [hwi, h1, show fin (true && true) ⟨#[]⟩ ⟨#[]⟩ 0 0 = 0 from by simp [fin]])
      all_goals (go_ret; exact ⟨by first | (simp [h2]; done) | (simp [h2]; rfl), hw⟩)
    · go_enter Try.func75, Try.ntmps75
      go_wp2_with (go_at_call 94; refine (check_4 _ _ _ _ _).mono ?_; rintro e w' ⟨rfl, hw⟩; rw [hwi, h1, show fin (true && true) ⟨#[]⟩ ⟨#[]⟩ 0 0 = 0 from by simp [fin]])
      all_goals (go_ret; exact ⟨by first | (simp [h2]; done) | (simp [h2]; rfl), hw⟩)

/-- A text ahead of its first slash, behind it, and whether there is one. -/
def cutB (s : ByteArray) : ByteArray × ByteArray × Bool :=
  if 0 ≤ Lib.indexByte s.data.toList 47 then (s.extract 0 (Lib.indexByte s.data.toList 47).toNat, s.extract ((Lib.indexByte s.data.toList 47).toNat + 1) s.size, true) else (s, ⟨#[]⟩, false)

theorem idx_cases (s : ByteArray) : Lib.indexByte s.data.toList 47 = -1 ∨ ∃ i : Nat, Lib.indexByte s.data.toList 47 = (i : Int) ∧ i < s.size := by
  have hg := Lib.indexByte_ge s.data.toList 47
  by_cases h : Lib.indexByte s.data.toList 47 = -1
  · exact .inl h
  · refine .inr ⟨(Lib.indexByte s.data.toList 47).toNat, by omega, ?_⟩
    have h2 := (Lib.indexByte_some (l := s.data.toList) (c := 47) (o := (Lib.indexByte s.data.toList 47).toNat) (by omega)).1
    have := (List.getElem?_eq_some_iff.1 h2).1
    rw [Array.length_toList] at this
    exact this
theorem Index_slash (s : ByteArray) (w : World) :
    Calls Try.prog 90 #[.string s, .string ⟨#[47]⟩] w fun e w' => e = .returned (.int .i64 (Lib.indexByte s.data.toList 47)) ∧ w' = w := Index_one s ⟨#[47]⟩ w rfl
theorem cut_none {s : ByteArray} (h : Lib.indexByte s.data.toList 47 = -1) : cutB s = (s, ⟨#[]⟩, false) := by
  unfold cutB
  rw [h]
  rfl
theorem cut_some {s : ByteArray} {i : Nat} (h : Lib.indexByte s.data.toList 47 = (i : Int)) : cutB s = (s.extract 0 i, s.extract (i + 1) s.size, true) := by
  unfold cutB
  rw [h, if_pos (by omega)]
  rfl

set_option maxHeartbeats 1000000 in
set_option maxRecDepth 100000 in
theorem lcut_calls (s : ByteArray) (w : World) (hs : s.size ≤ 140737488355328) :
    Calls Try.prog 106 #[.string s, .string ⟨#[47]⟩] w fun e w' => e = .returned (.tuple #[.string (cutB s).1, .string (cutB s).2.1, .bool (cutB s).2.2]) ∧ ∃ n, w' = w.drewN n := by
  rcases idx_cases s with hix | ⟨i, hix, hlt⟩
  · rw [cut_none hix]
    go_enter Try.func106, Try.ntmps106
    go_wp2_with (go_at_call 90; refine (Index_slash _ _).mono ?_; rintro e w' ⟨rfl, rfl⟩; rw [hix])
    go_ret3
    exact ⟨rfl, 0, rfl⟩
  · rw [cut_some hix]
    have c1 : (0 : Int) ≤ ↑i := by omega
    have c2 : (↑i : Int) ≤ ↑s.size := by omega
    have c3 : (0 : Int) ≤ ↑i + 1 := by omega
    have c4 : (↑i + 1 : Int) ≤ ↑s.size := by omega
    have c5 : IntKind.i64.wrap (↑i + 1) = ↑i + 1 := by rw [IntKind.wrap_i64]; omega
    have hmx : Try.prog.follows .mixedOrders = true := by kernel_rfl
    have c6 : ((i : Int) + 1).toNat = i + 1 := by omega
    go_enter Try.func106, Try.ntmps106
    go_wp2_with (go_at_call 90; refine (Index_slash _ _).mono ?_; rintro e w' ⟨rfl, rfl⟩; rw [hix])
    go_region_o
    go_wp2
    go_ret3
    exact ⟨rfl, 1, rfl⟩

set_option maxHeartbeats 1000000 in
set_option maxRecDepth 100000 in
theorem cut_calls (s : ByteArray) (w : World) (hs : s.size ≤ 140737488355328) :
    Calls Try.prog 93 #[.string s, .string ⟨#[47]⟩] w fun e w' => e = .returned (.tuple #[.string (cutB s).1, .string (cutB s).2.1, .bool (cutB s).2.2]) ∧ ∃ n, w' = w.drewN n := by
  go_enter Try.func93, Try.ntmps93
  go_wp2_with (go_at_call 106; refine (lcut_calls _ _ hs).mono ?_; rintro e w' ⟨rfl, n, rfl⟩)
  go_ret3
  exact ⟨rfl, n, rfl⟩

/-- The parts of a text between its slashes, as texts. -/
def ba (l : List UInt8) : ByteArray := ⟨l.toArray⟩
theorem ba_of (s : ByteArray) : ba s.data.toList = s := rfl
def piecesB (s : ByteArray) : List ByteArray := (parts s.data.toList).map ba
theorem pieces_none {s : ByteArray} (h : Lib.indexByte s.data.toList 47 = -1) : piecesB s = [s] := by
  have hn : (47 : UInt8) ∉ s.data.toList := by
    intro hm
    obtain ⟨k, hk⟩ := List.getElem?_of_mem hm
    exact Lib.indexByte_none h k hk
  unfold piecesB
  rw [parts_noslash _ hn]
  rfl
theorem pieces_some {s : ByteArray} {i : Nat} (h : Lib.indexByte s.data.toList 47 = (i : Int)) : piecesB s = s.extract 0 i :: piecesB (s.extract (i + 1) s.size) := by
  obtain ⟨h1, h2⟩ := Lib.indexByte_some h
  obtain ⟨hlt, hi⟩ := List.getElem?_eq_some_iff.1 h1
  have e : s.data.toList = s.data.toList.take i ++ 47 :: s.data.toList.drop (i + 1) := by
    conv => lhs; rw [← List.take_append_drop i s.data.toList, List.drop_eq_getElem_cons hlt, hi]
  have hn : (47 : UInt8) ∉ s.data.toList.take i := by
    intro hm
    obtain ⟨k, hk⟩ := List.getElem?_of_mem hm
    rw [List.getElem?_take] at hk
    split at hk
    · exact h2 k (by assumption) hk
    · cases hk
  have hp : parts s.data.toList = s.data.toList.take i :: parts (s.data.toList.drop (i + 1)) := by
    conv => lhs; rw [e]
    exact parts_split _ _ hn
  unfold piecesB
  rw [hp, List.map_cons]
  have hlen : s.data.toList.length = s.size := by rw [Array.length_toList]; rfl
  congr 1
  · show ByteArray.mk _ = _
    have : (s.extract 0 i).data.toList = s.data.toList.take i := by simp [ByteArray.data_extract, Array.toList_extract, List.extract_eq_take_drop]
    rw [← this]
  · have : (s.extract (i + 1) s.size).data.toList = s.data.toList.drop (i + 1) := by
      simp only [ByteArray.data_extract, Array.toList_extract, List.extract_eq_take_drop]
      rw [List.take_of_length_le]
      rw [List.length_drop, hlen]
      omega
    rw [this]
end Go.Proofs.YtlcaogiljiieaaaX
