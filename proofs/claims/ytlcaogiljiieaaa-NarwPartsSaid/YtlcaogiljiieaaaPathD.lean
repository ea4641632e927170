import Derived.Test.YtlcaogiljiieaaaIndexAny
import Derived.Test.YtlcaogiljiieaaaKeysCheck4
import Derived.Test.YtlcaogiljiieaaaParts
import Derived.Lib.IndexLaws
import Derived.Test.YtlcaogiljiieaaaWWords
import Derived.RangeFuncNested
import Derived.RangeFuncBound
import Derived.RangeFuncCalls
import Derived.RangeFuncLeaves
import Derived.RangeFuncBox
import Derived.Shelf.Abstract
import Derived.Shelf.RegionOpen
import Derived.WalkKit
import Derived.OwnWalkIn
import Derived.TacticsInMore
import Derived.LoopNIn
import Derived.LoopIn
import Derived.Maps.AppendAt
set_option linter.unusedVariables false
set_option linter.unusedSimpArgs false
/- fsys.named, strings.Cut at a slash, fsys.names, fsys.Path: a range over a function that keeps the rest of the path in a variable of its own: the walks. -/
namespace Go.Proofs.YtlcaogiljiieaaaX
open Go.RowKit Go.Shelf Go.Proofs.YtlcaogiljiieaaaW.PrintWords
/-- May these bytes be a path's name? -/
def namedB (s : ByteArray) : Bool := nameB s && (s.toList != [46] && s.toList != [46, 46])
set_option maxHeartbeats 1000000 in
set_option maxRecDepth 100000 in
theorem named_calls (s : ByteArray) (w : World) :
    Calls Try.prog 75 #[.string s] w fun e w' => e = .returned (.bool (namedB s)) ∧ Below w.heap.size w w' := by
  unfold namedB
  have hwi : withinB 1 1 16777215 = true := by decide
  cases h1 : nameB s
  · go_enter Try.func75, Try.ntmps75
    go_wp2_with (go_at_call 94; refine (check_4 _ _ _ _ _).mono ?_; rintro e w' ⟨rfl, hw⟩; rw [hwi, h1, show fin (true && false) ⟨#[]⟩ ⟨#[]⟩ 0 0 = 1 from by simp [fin]])
    go_ret
    exact ⟨by simp, hw⟩
  · by_cases h2 : s.toList = [46]
    · have hb : (s.toList == [46]) = true := beq_iff_eq.2 h2
      go_enter Try.func75, Try.ntmps75
      go_wp2_with (go_at_call 94; refine (check_4 _ _ _ _ _).mono ?_; rintro e w' ⟨rfl, hw⟩; rw [hwi, h1, show fin (true && true) ⟨#[]⟩ ⟨#[]⟩ 0 0 = 0 from by simp [fin]])
      all_goals (go_ret; exact ⟨by first | (simp [h2]; done) | (simp [h2]; rfl), hw⟩)
    · go_enter Try.func75, Try.ntmps75
      go_wp2_with (go_at_call 94; refine (check_4 _ _ _ _ _).mono ?_; rintro e w' ⟨rfl, hw⟩; rw [hwi, h1, show fin (true && true) ⟨#[]⟩ ⟨#[]⟩ 0 0 = 0 from by simp [fin]])
      all_goals (go_ret; exact ⟨by first | (simp [h2]; done) | (simp [h2]; rfl), hw⟩)
/-- A text ahead of its first slash, behind it, and whether there is one. -/
def cutB (s : ByteArray) : ByteArray × ByteArray × Bool :=
  if 0 ≤ Lib.indexByte s.data.toList 47 then (s.extract 0 (Lib.indexByte s.data.toList 47).toNat, s.extract ((Lib.indexByte s.data.toList 47).toNat + 1) s.size, true) else (s, ⟨#[]⟩, false)
theorem idx_cases (s : ByteArray) : Lib.indexByte s.data.toList 47 = -1 ∨ ∃ i : Nat, Lib.indexByte s.data.toList 47 = (i : Int) ∧ i < s.size := by
  have hg := Lib.indexByte_ge s.data.toList 47
  by_cases h : Lib.indexByte s.data.toList 47 = -1
  · exact .inl h
  · refine .inr ⟨(Lib.indexByte s.data.toList 47).toNat, by omega, ?_⟩
    have h2 := (Lib.indexByte_some (l := s.data.toList) (c := 47) (o := (Lib.indexByte s.data.toList 47).toNat) (by omega)).1
    have := (List.getElem?_eq_some_iff.1 h2).1
    rw [Array.length_toList] at this
    exact this
theorem Index_slash (s : ByteArray) (w : World) :
    Calls Try.prog 90 #[.string s, .string ⟨#[47]⟩] w fun e w' => e = .returned (.int .i64 (Lib.indexByte s.data.toList 47)) ∧ w' = w := Index_one s ⟨#[47]⟩ w rfl
theorem cut_none {s : ByteArray} (h : Lib.indexByte s.data.toList 47 = -1) : cutB s = (s, ⟨#[]⟩, false) := by
  unfold cutB
  rw [h]
  rfl
theorem cut_some {s : ByteArray} {i : Nat} (h : Lib.indexByte s.data.toList 47 = (i : Int)) : cutB s = (s.extract 0 i, s.extract (i + 1) s.size, true) := by
  unfold cutB
  rw [h, if_pos (by omega)]
  rfl
set_option maxHeartbeats 1000000 in
set_option maxRecDepth 100000 in
theorem lcut_calls (s : ByteArray) (w : World) (hs : s.size ≤ 140737488355328) :
    Calls Try.prog 106 #[.string s, .string ⟨#[47]⟩] w fun e w' => e = .returned (.tuple #[.string (cutB s).1, .string (cutB s).2.1, .bool (cutB s).2.2]) ∧ ∃ n, w' = w.drewN n := by
  rcases idx_cases s with hix | ⟨i, hix, hlt⟩
  · rw [cut_none hix]
    go_enter Try.func106, Try.ntmps106
    go_wp2_with (go_at_call 90; refine (Index_slash _ _).mono ?_; rintro e w' ⟨rfl, rfl⟩; rw [hix])
    go_ret3
    exact ⟨rfl, 0, rfl⟩
  · rw [cut_some hix]
    have c1 : (0 : Int) ≤ ↑i := by omega
    have c2 : (↑i : Int) ≤ ↑s.size := by omega
    have c3 : (0 : Int) ≤ ↑i + 1 := by omega
    have c4 : (↑i + 1 : Int) ≤ ↑s.size := by omega
    have c5 : IntKind.i64.wrap (↑i + 1) = ↑i + 1 := by rw [IntKind.wrap_i64]; omega
    have hmx : Try.prog.follows .mixedOrders = true := by kernel_rfl
    have c6 : ((i : Int) + 1).toNat = i + 1 := by omega
    go_enter Try.func106, Try.ntmps106
    go_wp2_with (go_at_call 90; refine (Index_slash _ _).mono ?_; rintro e w' ⟨rfl, rfl⟩; rw [hix])
    go_region_o
    go_wp2
    go_ret3
    exact ⟨rfl, 1, rfl⟩
set_option maxHeartbeats 1000000 in
set_option maxRecDepth 100000 in
theorem cut_calls (s : ByteArray) (w : World) (hs : s.size ≤ 140737488355328) :
    Calls Try.prog 93 #[.string s, .string ⟨#[47]⟩] w fun e w' => e = .returned (.tuple #[.string (cutB s).1, .string (cutB s).2.1, .bool (cutB s).2.2]) ∧ ∃ n, w' = w.drewN n := by
  go_enter Try.func93, Try.ntmps93
  go_wp2_with (go_at_call 106; refine (lcut_calls _ _ hs).mono ?_; rintro e w' ⟨rfl, n, rfl⟩)
  go_ret3
  exact ⟨rfl, n, rfl⟩
/-- The parts of a text between its slashes, as texts. -/
def ba (l : List UInt8) : ByteArray := ⟨l.toArray⟩
def piecesB (s : ByteArray) : List ByteArray := (parts s.data.toList).map ba
theorem pieces_none {s : ByteArray} (h : Lib.indexByte s.data.toList 47 = -1) : piecesB s = [s] := by
  have hn : (47 : UInt8) ∉ s.data.toList := by
    intro hm
    obtain ⟨k, hk⟩ := List.getElem?_of_mem hm
    exact Lib.indexByte_none h k hk
  unfold piecesB
  rw [parts_noslash _ hn]
  rfl
theorem pieces_some {s : ByteArray} {i : Nat} (h : Lib.indexByte s.data.toList 47 = (i : Int)) : piecesB s = s.extract 0 i :: piecesB (s.extract (i + 1) s.size) := by
  obtain ⟨h1, h2⟩ := Lib.indexByte_some h
  obtain ⟨hlt, hi⟩ := List.getElem?_eq_some_iff.1 h1
  have e : s.data.toList = s.data.toList.take i ++ 47 :: s.data.toList.drop (i + 1) := by
    conv => lhs; rw [← List.take_append_drop i s.data.toList, List.drop_eq_getElem_cons hlt, hi]
  have hn : (47 : UInt8) ∉ s.data.toList.take i := by
    intro hm
    obtain ⟨k, hk⟩ := List.getElem?_of_mem hm
    rw [List.getElem?_take] at hk
    split at hk
    · exact h2 k (by assumption) hk
    · cases hk
  have hp : parts s.data.toList = s.data.toList.take i :: parts (s.data.toList.drop (i + 1)) := by
    conv => lhs; rw [e]
    exact parts_split _ _ hn
  unfold piecesB
  rw [hp, List.map_cons]
  have hlen : s.data.toList.length = s.size := by rw [Array.length_toList]; rfl
  congr 1
  · show ByteArray.mk _ = _
    have : (s.extract 0 i).data.toList = s.data.toList.take i := by simp [ByteArray.data_extract, Array.toList_extract, List.extract_eq_take_drop]
    rw [← this]
  · have : (s.extract (i + 1) s.size).data.toList = s.data.toList.drop (i + 1) := by
      simp only [ByteArray.data_extract, Array.toList_extract, List.extract_eq_take_drop]
      rw [List.take_of_length_le]
      rw [List.length_drop, hlen]
      omega
    rw [this]
end Go.Proofs.YtlcaogiljiieaaaX
/- fsys.names, fsys.Path: a range over a function that keeps the rest of the path in a variable of its own: the walks. -/
namespace Go.Proofs.YtlcaogiljiieaaaX
open Go.RowKit Go.Shelf Go.Proofs.YtlcaogiljiieaaaW.PrintWords
attribute [local go_sem] Oper.semAt_some
/-- How far the rest of the path goes: for the loop's measure. -/
def left (W : World) (B : Nat) (m : Value) : Nat :=
  match m with
  | .bool true => match W.cell? ⟨B, 0, none⟩ with
    | some (.string s) => s.size + 1
    | _ => 0
  | _ => 0
theorem left_go {W : World} {B : Nat} {s : ByteArray} (h : W.cell? ⟨B, 0, none⟩ = some (.string s)) : left W B (.bool true) = s.size + 1 := by
  unfold left
  rw [h]
theorem left_end (W : World) (B : Nat) : left W B (.bool false) = 0 := rfl
theorem grownBy_drewN (W : World) (n : Nat) : W.grownBy (W.drewN n) none := ⟨rfl, rfl, rfl, Nat.le_refl _, fun _ _ _ => rfl⟩
set_option maxRecDepth 100000 in
set_option maxHeartbeats 1000000 in
theorem names1_in (F : Fence) (n : Nat) (hw : F = Fence.wide) (hn : 1 ≤ n) (l B : Nat) (s0 : ByteArray) (hs : s0.size ≤ 140737488355328) (A : List ByteArray) (hA : (if s0.toList = [] then [] else piecesB s0) = A) (J Jx : List ByteArray → World → Prop)
    (hJ : ∀ pre W W' row, J pre W → W.grownBy W' row → (row = none ∨ row = some B) → J pre W')
    (hY : ∀ pre x W, pre ++ [x] <+: A → J pre W → YieldAt F (n - 1) Try.prog l #[.string x] W fun e W' =>
      (e = .returned (.bool true) ∧ J (pre ++ [x]) W' ∧ W'.heap[B]? = W.heap[B]?) ∨ (e = .returned (.bool false) ∧ Jx (pre ++ [x]) W'))
    (W : World) (hB : Boxed W B 9 (.string s0)) (h0 : J [] W) :
    CallsIn F n Try.prog 92 #[.func (.yield l) #[] #[], .pointer (some ⟨B, 0, none⟩)] W fun e W' => (∃ v, e = .returned v) ∧
      (J A W' ∨ (∃ pre, pre <+: A ∧ Jx pre W')) := by
  subst hw
  have HA0 := Aside0.mk hA
  clear hA
  refine callsIn_of_wp Try.func92 rfl trivial ?_ rfl
  simp only [Try.ntmps92, List.size_toArray, List.length_cons, List.length_nil, Nat.reduceAdd, Nat.reduceSub, Array.replicate_succ, Array.replicate_zero, List.push_toArray, List.append_toArray, List.nil_append, List.cons_append]
  have hc := hB.cell
  gi_wp2
  gi_loopw [3] (fun m wr => ∃ (b : Bool) (pre rest : List ByteArray) (s : ByteArray), m = .bool b ∧ Boxed wr B 9 (.string s) ∧ s.size ≤ 140737488355328 ∧ A = pre ++ rest ∧ rest = (if b = true then piecesB s else []) ∧ J pre wr)
    (fun m wr => left wr B m)
  case atStart =>
    by_cases he : s0.toList = []
    · exact ⟨false, [], [], s0, by simp [he], hB, hs, by rw [← HA0.out]; simp [he], rfl, h0⟩
    · exact ⟨true, [], piecesB s0, s0, by simp [he], hB, hs, by rw [← HA0.out]; simp [he], rfl, h0⟩
  case round =>
    obtain ⟨b, pre, rest, s, rfl, hbx, hss, hall, hrest, hJs⟩ := hrel
    have hc1 := hbx.cell
    have hf1 := hbx.frozen
    have HA := Aside0.mk hall
    clear hall
    cases b
    · gi_wp2
      go_end0
      exact ⟨⟨_, rfl⟩, .inl (by rw [HA.out, hrest]; simpa using hJs)⟩
    · rw [if_pos rfl] at hrest
      subst hrest
      have hleft := left_go hc1
      rcases idx_cases s with hix | ⟨i, hix, hlt⟩
      · have hcut := cut_none hix
        have HA : Aside0 (A = pre ++ [s]) := Aside0.mk (by rw [HA.out, pieces_none hix])
        gi_wp2_with (refine ⟨trivial, ?_⟩; gi_at_call 93; refine (callsIn_wide.2 (cut_calls _ _ hss)).mono ?_; rintro e w' ⟨rfl, n1, rfl⟩; rw [hcut]; have hb1 : Boxed (wr.drewN n1) B 9 (.string s) := hbx; have hj1 : J pre (wr.drewN n1) := hJ _ _ _ none hJs (grownBy_drewN _ _) (.inl rfl); generalize wr.drewN n1 = W1 at hb1 hj1 ⊢; have hc2 := hb1.cell; have hf2 := hb1.frozen; have hj2 := hJ _ _ _ (some B) hj1 (grownBy_setCell' W1 B (.string ⟨#[]⟩)) (.inr rfl); obtain ⟨fn, tmps, assign, body, hy, hR⟩ := hY pre s _ (by rw [HA.out]; exact List.prefix_refl _) hj2)
        refine hR.mono ?_
        rintro e W3 (⟨rfl, hJ3, hk3⟩ | ⟨rfl, hJx3⟩)
        · have hb3 : Boxed W3 B 9 (.string ⟨#[]⟩) := hk3.trans (hb1.set _)
          gi_wp2
          go_roundw
          case rel => exact ⟨false, pre ++ [s], [], ⟨#[]⟩, rfl, hb3, by decide, by rw [HA.out]; simp, rfl, hJ3⟩
          case measure => rw [left_end, hleft]; omega
        · gi_wp2
          refine bodyPost_ret (results_none rfl _ _ _) rfl ?_
          exact ⟨⟨_, rfl⟩, .inr ⟨pre ++ [s], by rw [HA.out]; exact List.prefix_refl _, hJx3⟩⟩
      · have hcut := cut_some hix
        have HA : Aside0 (A = pre ++ s.extract 0 i :: piecesB (s.extract (i + 1) s.size)) := Aside0.mk (by rw [HA.out, pieces_some hix])
        gi_wp2_with (refine ⟨trivial, ?_⟩; gi_at_call 93; refine (callsIn_wide.2 (cut_calls _ _ hss)).mono ?_; rintro e w' ⟨rfl, n1, rfl⟩; rw [hcut]; have hb1 : Boxed (wr.drewN n1) B 9 (.string s) := hbx; have hj1 : J pre (wr.drewN n1) := hJ _ _ _ none hJs (grownBy_drewN _ _) (.inl rfl); generalize wr.drewN n1 = W1 at hb1 hj1 ⊢; have hc2 := hb1.cell; have hf2 := hb1.frozen; have hj2 := hJ _ _ _ (some B) hj1 (grownBy_setCell' W1 B (.string (s.extract (i + 1) s.size))) (.inr rfl); obtain ⟨fn, tmps, assign, body, hy, hR⟩ := hY pre (s.extract 0 i) _ (by rw [HA.out]; exact ⟨piecesB (s.extract (i + 1) s.size), by simp⟩) hj2)
        refine hR.mono ?_
        have hsz : (s.extract (i + 1) s.size).size = s.size - (i + 1) := by rw [ByteArray.size_extract]; omega
        rintro e W3 (⟨rfl, hJ3, hk3⟩ | ⟨rfl, hJx3⟩)
        · have hb3 : Boxed W3 B 9 (.string (s.extract (i + 1) s.size)) := hk3.trans (hb1.set _)
          have hl3 := left_go hb3.cell
          gi_wp2
          go_roundw
          case rel => exact ⟨true, pre ++ [s.extract 0 i], piecesB (s.extract (i + 1) s.size), s.extract (i + 1) s.size, rfl, hb3, by omega, by rw [HA.out]; simp, rfl, hJ3⟩
          case measure => rw [hl3, hleft]; omega
        · gi_wp2
          refine bodyPost_ret (results_none rfl _ _ _) rfl ?_
          exact ⟨⟨_, rfl⟩, .inr ⟨pre ++ [s.extract 0 i], by rw [HA.out]; exact ⟨piecesB (s.extract (i + 1) s.size), by simp⟩, hJx3⟩⟩
end Go.Proofs.YtlcaogiljiieaaaX
/- fsys.names, fsys.Path: the walks. -/
namespace Go.Proofs.YtlcaogiljiieaaaX
open Go.RowKit Go.Shelf Go.Proofs.YtlcaogiljiieaaaW.PrintWords
attribute [local go_sem] Oper.semAt_some
set_option maxHeartbeats 1000000 in
theorem names_in (n : Nat) (s : ByteArray) (w : World) :
    CallsIn Fence.wide n Try.prog 74 #[.string s] w fun e w' => e = .returned (.func (.func 92) #[] #[.pointer (some ⟨w.heap.size, 0, none⟩)]) ∧ w' = w.alloc (.cells #[.string s] 9) := by
  refine callsIn_of_wp Try.func74 rfl trivial ?_ rfl
  simp only [Try.ntmps74, List.size_toArray, List.length_cons, List.length_nil, Nat.reduceAdd, Nat.reduceSub, Array.replicate_succ, Array.replicate_zero, List.push_toArray, List.append_toArray, List.nil_append, List.cons_append]
  gi_wp2
  go_ret
  exact ⟨rfl, rfl⟩
/-- One call of yield: the record is ready; the assignment; the body, which goes off its end or returns. -/
theorem yield_box {m l : Nat} {r : Loop} {args : Array Value} {W : World} {a₁ : Act} {R : Ending → World → Prop} (h : W.heap[l]? = some (.loop r)) (hr : r.state = .ready) (hs : args.size = r.params.size)
    (hass : ∀ K : Act → World → Prop, K a₁ W → r.assign.wpIn (Fence.wide.inRound l) m Try.prog (Exit.then K fun _ _ _ => False) { tmps := (r.params.zip args).foldl (fun t (p, v) => t.setIfInBounds p v) r.tmps, defers := [] } W)
    (hbody : r.body.wpIn (Fence.wide.inRound l) m Try.prog (fun e _ W' => W'.heap[l]? = some (.loop { r with state := .busy }) ∧ (match e with
      | .normal => R (.returned (.bool true)) (W'.putObj l (.loop { r with state := .ready, pending := none }))
      | .ret => R (.returned (.bool false)) (W'.putObj l (.loop { r with state := .done, pending := some .ret }))
      | _ => False)) a₁ (W.putObj l (.loop { r with state := .busy }))) :
    YieldAt Fence.wide m Try.prog l args W R := by
  refine ⟨r.fn, _, r.assign, r.body, run_yield h hs, roundIn_of_wpIn trivial (hass _ ⟨_, run_beginRound h hr, wpIn_mono hbody ?_⟩)⟩
  rintro e a3 W3 ⟨hl, he⟩
  cases e with
  | normal => exact ⟨_, _, run_endRound none hl, he⟩
  | ret => exact ⟨_, _, run_endRound (some .ret) hl, he⟩
  | exit id => exact he.elim
  | goto t => exact he.elim
  | panic ch => exact he.elim
  | outgrown => exact he.elim
/-- 'for name := range names(s)': what the body keeps between two rounds stands at the end; where it returns, what it has left. -/
theorem range_names {n : Nat} (hn : 3 ≤ n) {Q : Exit → Act → World → Prop} {a : Act} {w0 : World} {assign body : Code} {B : Nat} {s : ByteArray} {A : List ByteArray} (hs : s.size ≤ 140737488355328) (hA : (if s.toList = [] then [] else piecesB s) = A)
    (hg : a.eval (.tmp 7) = .func (.func 92) #[] #[.pointer (some ⟨B, 0, none⟩)]) (hB : Boxed w0 B 9 (.string s)) (I Ix : List ByteArray → World → Prop)
    (hI : ∀ pre W W' row, I pre W → W.grownBy W' row → (row = none ∨ row = some B ∨ ∃ r o, row = some r ∧ w0.heap.size ≤ r ∧ W.heap[r]? = some o ∧ o.isCells = false) → I pre W')
    (hIx : ∀ pre W W' r o, Ix pre W → W.grownBy W' (some r) → w0.heap.size ≤ r → W.heap[r]? = some o → o.isCells = false → Ix pre W')
    (h0 : I [] w0) (a₁ : ByteArray → Act)
    (hassign : ∀ (l : Nat) (x : ByteArray) (W : World) (K : Act → World → Prop), K (a₁ x) W → assign.wpIn (Fence.wide.inRound l) (n - 1 - 1) Try.prog (Exit.then K fun _ _ _ => False) { tmps := a.tmps.setIfInBounds 8 (.string x), defers := [] } W)
    (hbody : ∀ (l : Nat) (pre : List ByteArray) (x : ByteArray) (W : World), pre ++ [x] <+: A → I pre W → body.wpIn (Fence.wide.inRound l) (n - 1 - 1) Try.prog (fun e _ W' => KeepsFrom w0.heap.size W W' ∧ W'.heap[B]? = W.heap[B]? ∧ (match e with
      | .normal => I (pre ++ [x]) W'
      | .ret => Ix (pre ++ [x]) W'
      | _ => False)) (a₁ x) W)
    (hdone : ∀ (D : Nat) (W : World), w0.heap.size ≤ D → I A W → W.heap[D]? = some (.deferred (some [])) → Q .normal { a with defers := { target := .collected D, args := #[] } :: a.defers } W)
    (hstop : ∀ (D : Nat) (pre : List ByteArray) (W : World), w0.heap.size ≤ D → pre <+: A → Ix pre W → W.heap[D]? = some (.deferred (some [])) → Code.ret.wpIn Fence.wide n Try.prog Q { a with defers := { target := .collected D, args := #[] } :: a.defers } W) :
    (Code.rangeFunc (.tmp 7) #[8] assign body).wpIn Fence.wide n Try.prog Q a w0 := by
  refine wpIn_rangeFunc fun fn hfn => ?_
  obtain ⟨r0, hr0⟩ : ∃ r0 : Loop, r0 = { state := .ready, pending := none, fn := fn, tmps := a.tmps, params := #[8], assign := assign, body := body, defers := w0.heap.size } := ⟨_, rfl⟩
  have hB1 : B < w0.heap.size := hB.lt
  have hnew := World.alloc_heap_new w0 (.deferred (some []))
  have hnew2 := World.alloc_heap_new (w0.alloc (.deferred (some []))) (.loop r0)
  rw [World.size_alloc] at hnew2
  have hkD : ((w0.alloc (.deferred (some []))).alloc (.loop r0)).heap[w0.heap.size]? = some (.deferred (some [])) := (Below.heap_alloc _ _ _ (by simp)).trans hnew
  have hbx := (hB.alloc (.deferred (some []))).alloc (.loop r0)
  have hi0 : I [] ((w0.alloc (.deferred (some []))).alloc (.loop r0)) := hI _ _ _ none (hI _ _ _ none h0 (World.grownBy_alloc _ _ none) (.inl rfl)) (World.grownBy_alloc _ _ none) (.inl rfl)
  have hent := run_enterLoop_outer (P := Try.prog) (w := w0) fn a.tmps #[8] assign body
  rw [← hr0] at hent
  refine ⟨_, _, (w0.alloc (.deferred (some []))).alloc (.loop r0), { target := .fn (.func 92) #[.pointer (some ⟨B, 0, none⟩)], args := #[.func (.yield (w0.heap.size + 1)) #[] #[]] }, (w0.alloc (.deferred (some []))).alloc (.loop r0), 92, #[.func (.yield (w0.heap.size + 1)) #[] #[], .pointer (some ⟨B, 0, none⟩)], (w0.alloc (.deferred (some []))).alloc (.loop r0), hent, ?_, fun _ _ => trivial, ?_, fun _ => by omega, ?_⟩
  · simp only [resolve, hg]
    simp [go_sem]
  · have eg := enters_of Try.func92 (by kernel_rfl) rfl
    simp [invoke, go_sem, eg]
  · have hD0 : w0.heap.size ≠ B := by omega
    have hD1 : w0.heap.size + 1 ≠ B := by omega
    refine (names1_in Fence.wide (n - 1) rfl (by omega) (w0.heap.size + 1) B s hs A hA
      (fun pre W => I pre W ∧ W.heap[w0.heap.size + 1]? = some (.loop r0) ∧ W.heap[w0.heap.size]? = some (.deferred (some [])))
      (fun pre W => Ix pre W ∧ W.heap[w0.heap.size + 1]? = some (.loop { r0 with state := .done, pending := some .ret }) ∧ W.heap[w0.heap.size]? = some (.deferred (some []))) ?_ ?_ _ hbx ⟨hi0, hnew2, hkD⟩).mono ?_
    · rintro pre W W' row ⟨hi, hl, hd⟩ hgr hrow
      have hne : ∀ k, k ≠ B → some k ≠ row := by
        intro k hk e
        rcases hrow with rfl | rfl
        · cases e
        · exact hk (Option.some.inj e)
      exact ⟨hI _ _ _ row hi hgr (hrow.imp id .inl), (hgr.block _ (Array.getElem?_eq_some_iff.1 hl).1 (hne _ hD1)).trans hl, (hgr.block _ (Array.getElem?_eq_some_iff.1 hd).1 (hne _ hD0)).trans hd⟩
    · rintro pre x W hpre ⟨hi, hl, hd⟩
      have hlt : w0.heap.size + 1 < W.heap.size := (Array.getElem?_eq_some_iff.1 hl).1
      refine yield_box hl (by rw [hr0]) (by rw [hr0]; rfl) (a₁ := a₁ x) (by rw [hr0]; intro K hK; have h8 := hassign (w0.heap.size + 1) x W K hK; simpa using h8) ?_
      have hl2 : (W.putObj (w0.heap.size + 1) (.loop { r0 with state := .busy })).heap[w0.heap.size + 1]? = some (.loop { r0 with state := .busy }) := World.putObj_heap_same hlt
      have hd2 : (W.putObj (w0.heap.size + 1) (.loop { r0 with state := .busy })).heap[w0.heap.size]? = some (.deferred (some [])) := (World.putObj_heap_other (by omega)).trans hd
      have hB2 : (W.putObj (w0.heap.size + 1) (.loop { r0 with state := .busy })).heap[B]? = W.heap[B]? := World.putObj_heap_other (by omega)
      have hi2 := hI _ _ _ _ hi (grownBy_putObj' W (w0.heap.size + 1) (.loop { r0 with state := .busy })) (.inr (.inr ⟨_, _, rfl, by omega, hl, rfl⟩))
      have hb := hbody (w0.heap.size + 1) pre x _ hpre hi2
      rw [show body = r0.body by rw [hr0]] at hb
      refine wpIn_mono hb ?_
      rintro e a3 W3 ⟨hk, hB3, he⟩
      have hl3 := hk.same _ _ (by omega) hl2 rfl
      have hd3 := hk.same _ _ (Nat.le_refl _) hd2 rfl
      refine ⟨hl3, ?_⟩
      have hlt3 : w0.heap.size + 1 < W3.heap.size := (Array.getElem?_eq_some_iff.1 hl3).1
      cases e with
      | normal => exact .inl ⟨rfl, ⟨hI _ _ _ _ he (grownBy_putObj' W3 _ _) (.inr (.inr ⟨_, _, rfl, by omega, hl3, rfl⟩)), by rw [World.putObj_heap_same hlt3, hr0], (World.putObj_heap_other (by omega)).trans hd3⟩, ((World.putObj_heap_other (by omega)).trans hB3).trans hB2⟩
      | ret => exact .inr ⟨rfl, hIx _ _ _ _ _ he (grownBy_putObj' W3 _ _) (by omega) hl3 rfl, World.putObj_heap_same hlt3, (World.putObj_heap_other (by omega)).trans hd3⟩
      | exit id => exact he.elim
      | goto t => exact he.elim
      | panic ch => exact he.elim
      | outgrown => exact he.elim
    · rintro e W2 ⟨⟨v, rfl⟩, (⟨hi, hl, hd⟩ | ⟨pre, hpre, hi, hl, hd⟩)⟩
      · have hend := run_endLoop (P := Try.prog) hl (by rw [hr0]; simp)
        refine ⟨_, _, hend, ?_⟩
        rw [show r0.pending = none by rw [hr0]]
        exact hdone _ _ (Nat.le_refl _) (hI _ _ _ _ hi (grownBy_putObj' W2 _ _) (.inr (.inr ⟨_, _, rfl, by omega, hl, rfl⟩))) ((World.putObj_heap_other (by omega)).trans hd)
      · have hend := run_endLoop (P := Try.prog) hl (by simp)
        refine ⟨_, _, hend, ?_⟩
        exact hstop _ pre _ (Nat.le_refl _) hpre (hIx _ _ _ _ _ hi (grownBy_putObj' W2 _ _) (by omega) hl rfl) ((World.putObj_heap_other (by omega)).trans hd)
end Go.Proofs.YtlcaogiljiieaaaX
/- fsys.Path: the walk. -/
namespace Go.Proofs.YtlcaogiljiieaaaX
open Go.RowKit Go.Shelf Go.Proofs.YtlcaogiljiieaaaW.PrintWords
attribute [local go_sem] Oper.semAt_some
def pathNames (s : ByteArray) : List ByteArray := if s.toList = [] then [] else piecesB s
def pathF (s : ByteArray) : List ByteArray × Int := if (pathNames s).all namedB = true ∧ (s.toList = [] ∨ s.size ≤ 1000) then (pathNames s, 0) else ([], 1)
theorem infoStr : (Try.prog.info? 9).map (fun i => (i.zero, i.size, i.bytes)) = some (some (.string ⟨#[]⟩), 1, 16) := by kernel_rfl
theorem parts_le : ∀ l : List UInt8, (parts l).length ≤ l.length + 1
  | [] => by simp [parts]
  | c :: l => by
    have ih := parts_le l
    rw [parts]
    split
    · simp only [List.length_cons]; omega
    · split
      · simp
      · rename_i h; rw [h] at ih; simp only [List.length_cons] at *; omega
theorem pathNames_le (s : ByteArray) : (pathNames s).length ≤ s.size + 1 := by
  unfold pathNames
  split
  · simp
  · unfold piecesB
    rw [List.length_map]
    have := parts_le s.data.toList
    rw [Array.length_toList] at this
    exact this
/-- Between two rounds: the boxes of the path, of the two results, of the names so far. -/
structure PathI (w : World) (s : ByteArray) (pre : List ByteArray) (W : World) : Prop where
  path : Boxed W w.heap.size 9 (.string s)
  r1 : Boxed W (w.heap.size + 1) 30 (.slice none 0 0)
  r2 : Boxed W (w.heap.size + 1 + 1) 24 (.int .i64 0)
  out : ∃ v, Boxed W (w.heap.size + 1 + 1 + 1) 30 v ∧ W.ownsRow (w.heap.size + 5) 9 1 v pre.length (pre.map Value.string)
  below : Below w.heap.size w W
  ok : ∀ x ∈ pre, namedB x = true
  short : pre ≠ [] → s.size ≤ 1000
  room : w.heap.size + 5 ≤ W.heap.size
/-- A round has returned. -/
structure PathX (w : World) (s : ByteArray) (pre : List ByteArray) (W : World) : Prop where
  r1 : Boxed W (w.heap.size + 1) 30 (.slice none 0 0)
  r2 : Boxed W (w.heap.size + 1 + 1) 24 (.int .i64 1)
  below : Below w.heap.size w W
  bad : (∃ x ∈ pre, namedB x = false) ∨ 1000 < s.size
theorem PathI.kept {w : World} {s : ByteArray} {pre : List ByteArray} {W W' : World} {row : Option Nat} (h : PathI w s pre W) (hg : W.grownBy W' row)
    (hr : row = none ∨ row = some (w.heap.size + 4) ∨ ∃ r o, row = some r ∧ w.heap.size + 5 ≤ r ∧ W.heap[r]? = some o ∧ o.isCells = false) : PathI w s pre W' := by
  have hne : ∀ k, k < w.heap.size + 4 → some k ≠ row := by
    intro k hk e
    rcases hr with rfl | rfl | ⟨r, o, rfl, hr, _, _⟩
    · cases e
    · injection e with e; omega
    · injection e with e; omega
  obtain ⟨h1, h2, h3, ⟨v, h4, h5⟩, h6, h7, h8, h10⟩ := h
  refine ⟨h1.kept hg (hne _ (by omega)), h2.kept hg (hne _ (by omega)), h3.kept hg (hne _ (by omega)), ⟨v, h4.kept hg (hne _ (by omega)), h5.kept hg ?_⟩, h6.grown hg h6.size (fun k e => ?_), h7, h8, Nat.le_trans h10 hg.size⟩
  · rcases h5.2 with ⟨rfl, _⟩ | ⟨g, cap, cur, rfl, hb, hgb, _⟩
    · exact .inl rfl
    · refine .inr fun e => ?_
      rcases hr with rfl | rfl | ⟨r, o, rfl, hr, ho, hc⟩
      · simp [Value.ownBlock] at e
      · have : g = w.heap.size + 4 := by simpa [Value.ownBlock] using e
        omega
      · have : g = r := by simpa [Value.ownBlock] using e
        subst this
        rw [hgb] at ho
        injection ho with ho
        subst ho
        cases hc
  · rcases Nat.lt_or_ge k w.heap.size with hk | hk
    · exact absurd e.symm (hne k (by omega))
    · exact hk
theorem PathX.kept {w : World} {s : ByteArray} {pre : List ByteArray} {W W' : World} {r : Nat} (h : PathX w s pre W) (hg : W.grownBy W' (some r)) (hr : w.heap.size + 5 ≤ r) : PathX w s pre W' :=
  ⟨h.r1.kept hg (by simp; omega), h.r2.kept hg (by simp; omega), h.below.grown hg h.below.size (fun k e => by injection e with e; omega), h.bad⟩
theorem below_boxed {W W' : World} {B t : Nat} {v : Value} (h : Boxed W B t v) (hb : Below W.heap.size W W') : Boxed W' B t v := (hb.block _ h.lt).trans h
theorem below_keeps {W W' : World} (hb : Below W.heap.size W W') (B : Nat) : KeepsFrom B W W' := ⟨hb.size, fun k o _ hk _ => (hb.block k (Array.getElem?_eq_some_iff.1 hk).1).trans hk⟩
set_option maxRecDepth 100000 in
set_option maxHeartbeats 4000000 in
theorem path_calls (s : ByteArray) (w : World) (hs : s.size ≤ 1000000) :
    Calls Try.prog 62 #[.string s] w fun e w' => ∃ v, e = .returned (.tuple #[v, .int .i64 (pathF s).2]) ∧ Kd.R Kd.string 9 w' w.heap.size (fun _ => True) v (pathF s).1 ∧ Below w.heap.size w w' := by
  refine (callsIn_wide (n := 5)).1 ?_
  refine callsIn_of_wp_marks Try.func62 rfl trivial ?_ rfl
  simp only [Try.ntmps62, List.size_toArray, List.length_cons, List.length_nil, Nat.reduceAdd, Nat.reduceSub, Array.replicate_succ, Array.replicate_zero, List.push_toArray, List.append_toArray, List.nil_append, List.cons_append]
  gi_wp2_with (refine ⟨trivial, ?_⟩; gi_at_call 74; refine (names_in _ _ _).mono ?_; rintro e w' ⟨rfl, rfl⟩)
  have b0 := ((((Boxed.new w 9 (.string s)).alloc (.cells #[.slice none 0 0] 30)).alloc (.cells #[.int .i64 0] 24)).alloc (.cells #[.slice none 0 0] 30)).alloc (.cells #[.string s] 9)
  have b1 := (((Boxed.new (w.alloc (.cells #[.string s] 9)) 30 (.slice none 0 0)).alloc (.cells #[.int .i64 0] 24)).alloc (.cells #[.slice none 0 0] 30)).alloc (.cells #[.string s] 9)
  have b2 := ((Boxed.new ((w.alloc (.cells #[.string s] 9)).alloc (.cells #[.slice none 0 0] 30)) 24 (.int .i64 0)).alloc (.cells #[.slice none 0 0] 30)).alloc (.cells #[.string s] 9)
  have b3 := (Boxed.new (((w.alloc (.cells #[.string s] 9)).alloc (.cells #[.slice none 0 0] 30)).alloc (.cells #[.int .i64 0] 24)) 30 (.slice none 0 0)).alloc (.cells #[.string s] 9)
  have b4 := Boxed.new ((((w.alloc (.cells #[.string s] 9)).alloc (.cells #[.slice none 0 0] 30)).alloc (.cells #[.int .i64 0] 24)).alloc (.cells #[.slice none 0 0] 30)) 9 (.string s)
  have hB : Below w.heap.size w (((((w.alloc (.cells #[.string s] 9)).alloc (.cells #[.slice none 0 0] 30)).alloc (.cells #[.int .i64 0] 24)).alloc (.cells #[.slice none 0 0] 30)).alloc (.cells #[.string s] 9)) :=
    (((((Below.refl _ w).alloc (Nat.le_refl _) _).alloc (by simp) _).alloc (by simp; omega) _).alloc (by simp; omega) _).alloc (by simp; omega) _
  have hsz : (((((w.alloc (.cells #[.string s] 9)).alloc (.cells #[.slice none 0 0] 30)).alloc (.cells #[.int .i64 0] 24)).alloc (.cells #[.slice none 0 0] 30)).alloc (.cells #[.string s] 9)).heap.size = w.heap.size + 5 := by simp
  simp only [World.size_alloc] at b1 b2 b3 b4
  generalize (((((w.alloc (.cells #[.string s] 9)).alloc (.cells #[.slice none 0 0] 30)).alloc (.cells #[.int .i64 0] 24)).alloc (.cells #[.slice none 0 0] 30)).alloc (.cells #[.string s] 9)) = w0 at b0 b1 b2 b3 b4 hB hsz ⊢
  refine range_names (B := w.heap.size + 1 + 1 + 1 + 1) (s := s) (A := pathNames s) (by omega) (by omega) rfl rfl b4 (PathI w s) (PathX w s)
    (fun pre W W' row hi hg hr => hi.kept hg (by rw [hsz] at hr; exact hr)) (fun pre W W' r o hx hg hr _ _ => hx.kept hg (by omega))
    ⟨b0, b1, b2, ⟨_, b3, World.ownsRow_nil _ _ _ _⟩, hB, by simp, by simp, by omega⟩
    (fun x => { tmps := #[.string s, .pointer (some ⟨w.heap.size, 0, none⟩), .pointer (some ⟨w.heap.size + 1, 0, none⟩), .pointer (some ⟨w.heap.size + 1 + 1, 0, none⟩), .pointer (some ⟨w.heap.size + 1 + 1 + 1, 0, none⟩), .string x, .string s, .func (.func 92) #[] #[.pointer (some ⟨w.heap.size + 1 + 1 + 1 + 1, 0, none⟩)], .string x, undef, undef, undef, undef, undef, undef, undef, undef, undef, undef, undef, undef, undef], defers := [] }) ?assign ?body ?done ?stop
  case assign =>
    intro l x W K hK
    gi_wp2
    exact hK
  case body =>
    rintro l pre x W hpre ⟨h1, h2, h3, ⟨v, h4, h5⟩, h6, h7, h8, h10⟩
    have c0 := h1.cell
    have c1 := h2.cell
    have f1 := h2.frozen
    have c2 := h3.cell
    have f2 := h3.frozen
    have hws := h6.size
    have h6' := Aside0.mk h6
    have hpl : pre.length < s.size + 2 := by
      have h := hpre.length_le
      have := pathNames_le s
      simp only [List.length_append, List.length_singleton] at h
      omega
    obtain ⟨i0, hi0, hz0, hz1, hz2⟩ := info_parts infoStr
    by_cases h9 : (1000 : Int) < (s.size : Int)
    · clear h6
      gi_wp2
      refine ⟨trivial, ?_⟩
      gi_wp2
      refine ⟨((KeepsOthers.setCell _ _ _).trans (KeepsOthers.setCell _ _ _)).from _, ?_, ?_⟩
      · exact (Below.heap_setCell _ _ _ _ (by show w.heap.size + 1 + 1 + 1 + 1 ≠ w.heap.size + 1 + 1; omega)).trans (Below.heap_setCell _ _ _ _ (by show w.heap.size + 1 + 1 + 1 + 1 ≠ w.heap.size + 1; omega))
      · exact ⟨(h2.set _).kept (grownBy_setCell' _ _ _) (by simp), (h3.kept (grownBy_setCell' _ _ _) (by simp)).set _, (h6'.out.setCell (p := ⟨w.heap.size + 1, 0, none⟩) (by simp) _).setCell (p := ⟨w.heap.size + 1 + 1, 0, none⟩) (by simp; omega) _, .inr (by omega)⟩
    · cases hx : namedB x
      · clear h6
        gi_wp2_with (refine ⟨trivial, ?_⟩; gi_at_call 75; refine (CallsIn.inRound l (callsIn_wide.2 (named_calls _ _))).mono ?_; rintro e w' ⟨rfl, hw⟩; have g1 := below_boxed h2 hw; have g2 := below_boxed h3 hw; have d1 := g1.cell; have e1 := g1.frozen; have d2 := g2.cell; have e2 := g2.frozen; have hw' := Aside0.mk hw; clear hw; rw [hx])
        have hlt : w.heap.size + 1 + 1 + 1 + 1 < W.heap.size := by omega
        refine ⟨(below_keeps hw'.out _).trans (((KeepsOthers.setCell _ _ _).trans (KeepsOthers.setCell _ _ _)).from _), ?_, ?_⟩
        · exact ((Below.heap_setCell _ _ _ _ (by show w.heap.size + 1 + 1 + 1 + 1 ≠ w.heap.size + 1 + 1; omega)).trans (Below.heap_setCell _ _ _ _ (by show w.heap.size + 1 + 1 + 1 + 1 ≠ w.heap.size + 1; omega))).trans (hw'.out.block _ hlt)
        · exact ⟨(g1.set _).kept (grownBy_setCell' _ _ _) (by simp), (g2.kept (grownBy_setCell' _ _ _) (by simp)).set _, ((h6'.out.trans (hw'.out.mono h6'.out.size)).setCell (p := ⟨w.heap.size + 1, 0, none⟩) (by simp) _).setCell (p := ⟨w.heap.size + 1 + 1, 0, none⟩) (by simp; omega) _, .inl ⟨x, by simp, hx⟩⟩
      · clear h6
        gi_wp2_with (first | (refine ⟨trivial, ?_⟩; gi_at_call 75; refine (CallsIn.inRound l (callsIn_wide.2 (named_calls _ _))).mono ?_; rintro e w' ⟨rfl, hw⟩; have g4 := below_boxed h4 hw; have d4 := g4.cell; have g5 := Aside0.mk (h5.kept (row := none) ⟨hw.os, hw.tape, hw.output, hw.size, fun k hk _ => hw.block k hk⟩ (by cases hob : v.ownBlock; exact .inl rfl; exact .inr (by simp))); have hw' := Aside0.mk hw; clear hw; rw [hx]) | (gi_at_builtin; refine wpListIn_append_own _ rfl _ _ 30 rfl (w.heap.size + 5) 9 i0 (.string ⟨#[]⟩) 1 16 Try.underlying30 hi0 hz0 hz1 hz2 rfl (by decide) _ _ _ rfl (g5.out.alloc _) ⟨w'.heap.size, 0, none⟩ 1 1 [.string x] rfl rfl (cell_one_new _ _ _) (by simp [Value.oneCell']) (by simp only [maxLen]; omega) (by omega) (by have := hw'.out.size; simp; omega) ?_; intro v' w1 hown' hgrow _; obtain ⟨g', cap', rfl⟩ := ownsRow_succ hown'; obtain ⟨hv1, hv2, hr2, hk2, hb2⟩ := g4.appended (by decide) (own_weaken (base' := w.heap.size) g5.out (by omega)) (by have := hw'.out.size; omega) (by omega) (own_weaken (base' := w.heap.size) hown' (by omega)) hgrow; have hc1 := hv1.cell; have hf1 := hv1.frozen; have hv1' := Aside0.mk hv1; have hv2' := Aside0.mk hv2; have hk2' := Aside0.mk hk2; have hb2' := Aside0.mk hb2; have hr2' := Aside0.mk hown'; have hg2' := Aside0.mk hgrow; clear hv1 hv2 hk2 hb2 hown' hgrow hr2))
        have hlt : w.heap.size + 1 + 1 + 1 + 1 < W.heap.size := by omega
        have hlt2 : w.heap.size + 1 + 1 + 1 + 1 < w'.heap.size := by have := hw'.out.size; omega
        have hv := hv1'.out
        have hnr := hv.not_row (by decide) hr2'.out
        have hown2 := hr2'.out.kept (grownBy_setCell' w1 (w.heap.size + 1 + 1 + 1) (.slice (some ⟨g', 0, none⟩) (pre.length + 1) cap')) (.inr hnr.symm)
        refine ⟨(below_keeps hw'.out _).trans (hk2'.out.from _), ?_, ?_⟩
        · refine (((Below.heap_setCell _ _ _ _ (by show w.heap.size + 1 + 1 + 1 + 1 ≠ w.heap.size + 1 + 1 + 1; omega)).trans (hg2'.out.block _ (by simp; omega) ?_)).trans (Below.heap_alloc _ _ _ hlt2)).trans (hw'.out.block _ hlt)
          intro e
          have := own_base h5 _ e.symm
          omega
        · have keep : ∀ {B' ty : Nat} {u : Value}, B' < w.heap.size + 1 + 1 + 1 → Boxed W B' ty u → Boxed (w1.setCell ⟨w.heap.size + 1 + 1 + 1, 0, none⟩ (.slice (some ⟨g', 0, none⟩) (pre.length + 1) cap')) B' ty u := fun hb hx =>
            (((below_boxed hx hw'.out).alloc _).kept hg2'.out (fun e => by have := own_base h5 _ e.symm; omega)).kept (grownBy_setCell' _ _ _) (by simp; omega)
          refine ⟨keep (by omega) h1, keep (by omega) h2, keep (by omega) h3, ⟨_, hv2'.out, by simpa using hown2⟩, (h6'.out.trans (hw'.out.mono h6'.out.size)).trans hb2'.out, ?_, fun _ => by omega, ?_⟩
          · intro y hy
            rcases List.mem_append.1 hy with hy | hy
            · exact h7 y hy
            · rw [List.mem_singleton.1 hy]; exact hx
          · exact Nat.le_trans (Nat.le_trans h10 hw'.out.size) hb2'.out.size
  case done =>
    rintro D W hD ⟨h1, h2, h3, ⟨v, h4, h5⟩, h6, h7, h8, h10⟩ hK
    have c1 := h2.cell
    have f1 := h2.frozen
    have c2 := h3.cell
    have f2 := h3.frozen
    have c4 := h4.cell
    obtain ⟨A0, n0, k0, rfl⟩ : ∃ A0 n0 k0, v = .slice A0 n0 k0 := by
      rcases h5.2 with ⟨rfl, _⟩ | ⟨g, cap, cur, rfl, _⟩
      · exact ⟨_, _, _, rfl⟩
      · exact ⟨_, _, _, rfl⟩
    have hsh : s.toList = [] ∨ s.size ≤ 1000 := by
      by_cases he : s.toList = []
      · exact .inl he
      · refine .inr (h8 ?_)
        unfold pathNames
        rw [if_neg he]
        unfold piecesB
        simp [parts_ne]
    have hF : pathF s = (pathNames s, 0) := by
      unfold pathF
      rw [if_pos ⟨List.all_eq_true.2 h7, hsh⟩]
    have HF := Aside0.mk hF
    have hne := h2.not_row (by decide) h5
    have hne2 := h3.not_row (by decide) h5
    have h6' := Aside0.mk h6
    have h5' := Aside0.mk h5
    have h2' := h2
    have h3' := h3
    clear h5 h6 h7 hF hsh
    gi_wp2
    have k1 := h2'.set (.slice A0 n0 k0)
    have k2 := (h3'.kept (grownBy_setCell' W (w.heap.size + 1) (.slice A0 n0 k0)) (by simp)).set (.int .i64 0)
    have k1' := k1.kept (grownBy_setCell' _ (w.heap.size + 1 + 1) (.int .i64 0)) (by simp)
    have hK' := ((KeepsOthers.setCell W ⟨w.heap.size + 1, 0, none⟩ (.slice A0 n0 k0)).trans (KeepsOthers.setCell _ ⟨w.heap.size + 1 + 1, 0, none⟩ (.int .i64 0))).same D _ hK rfl
    refine ⟨by simp, .inl ⟨_, _, rfl, run_takeDeferred hK', ?_⟩⟩
    have hc1 := (k1'.kept (grownBy_putObj' _ D (.deferred none)) (by simp; omega)).cell
    have hc2 := (k2.kept (grownBy_putObj' _ D (.deferred none)) (by simp; omega)).cell
    rw [HF.out]
    refine ⟨.tuple #[.slice A0 n0 k0, .int .i64 0], ?_, .slice A0 n0 k0, rfl, ?_, ?_⟩
    · simp [results, Try.f62, go_sem, hc1, hc2]
    · have q1 := (h5'.out.kept (grownBy_setCell' W (w.heap.size + 1) (.slice A0 n0 k0)) (.inr hne.symm)).kept (grownBy_setCell' _ (w.heap.size + 1 + 1) (.int .i64 0)) (.inr hne2.symm)
      exact Kd.R_of_own (own_weaken (ownsRow_putObj q1 _ hK' rfl) (by omega)) (fun _ _ => trivial)
    · have q2 := (h6'.out.setCell (p := ⟨w.heap.size + 1, 0, none⟩) (by simp) (.slice A0 n0 k0)).setCell (p := ⟨w.heap.size + 1 + 1, 0, none⟩) (by simp; omega) (.int .i64 0)
      exact q2.grown (grownBy_putObj' _ D _) q2.size (fun k e => by injection e with e; omega)
  case stop =>
    rintro D pre W hD hpre ⟨h1, h2, h3, h4⟩ hK
    have c1 := h1.cell
    have f1 := h1.frozen
    have c2 := h2.cell
    have f2 := h2.frozen
    have hF : pathF s = ([], 1) := by
      unfold pathF
      rw [if_neg]
      rintro ⟨q1, q2⟩
      rcases h4 with ⟨x, hx, hb⟩ | h4
      · have := List.all_eq_true.1 q1 x (hpre.subset hx)
        rw [hb] at this
        cases this
      · rcases q2 with q2 | q2
        · have : s.size = 0 := by
            have h := congrArg List.length q2
            rw [ByteArray.toList_eq, Array.length_toList] at h
            exact h
          omega
        · omega
    have HF := Aside0.mk hF
    clear h4 hF
    have h3' := Aside0.mk h3
    have h1' := h1
    have h2' := h2
    clear h3
    gi_wp2
    refine ⟨by simp, .inl ⟨_, _, rfl, run_takeDeferred hK, ?_⟩⟩
    have hc1 := (h1'.kept (grownBy_putObj' _ D (.deferred none)) (by simp; omega)).cell
    have hc2 := (h2'.kept (grownBy_putObj' _ D (.deferred none)) (by simp; omega)).cell
    rw [HF.out]
    refine ⟨.tuple #[.slice none 0 0, .int .i64 1], ?_, .slice none 0 0, rfl, Kd.R_nil _ _ _ _ _, ?_⟩
    · simp [results, Try.f62, go_sem, hc1, hc2]
    · exact h3'.out.grown (grownBy_putObj' _ D _) h3'.out.size (fun k e => by injection e with e; omega)
end Go.Proofs.YtlcaogiljiieaaaX
