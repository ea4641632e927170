/- keys.Check at the kinds that write outside its closures; Check as a whole. -/
import Derived.Test.YtcohfhclcoiigaaKeysCheck
set_option linter.unusedVariables false
set_option linter.unusedSimpArgs false
namespace Go.Proofs.YtcohfhclcoiigaaX
open Go.RowKit

theorem two_sets {b : Nat} {w W : World} (h : Below b w W) (x y : Value) (i : Nat) : Below b w ((W.setCell ⟨b + 1 + 1, 0, none⟩ x).setCell ⟨b + 1, i, none⟩ y) :=
  (h.setCell (by show b ≤ b + 1 + 1; omega) _).setCell (by show b ≤ b + 1; omega) _

set_option maxHeartbeats 4000000 in
set_option maxRecDepth 100000 in
theorem check_3 (A B : ByteArray) (N M : Int) (w : World) :
    Calls Try.prog 10 #[.agg (keyV 3 A B N M)] w fun e w' => e = .returned (.int .i64 (fin (withinB N 1 16777215 && withinB M 0 65535) A B 0 0)) ∧ Below w.heap.size w w' := by
  have hmf : ∀ (fn : Fn) (first cap : Array Value) (w : World), (Instr.makeFunc fn first cap).run Try.prog w = .ok (.func fn first cap) w := fun _ _ _ _ => rfl
  cases h1 : withinB N 1 16777215
  · go_enter Try.func10, Try.ntmps10
    go_wp2_with (go_at_call 22; refine (n_calls _ w.heap.size 1 3 A B N M _ _ _ _ _ (box0 w 3 A B N M true)).mono ?_; rintro e W1 ⟨rfl, hw1, hb1⟩; rw [h1] at hb1; simp only [Bool.true_and, Bool.and_true, Bool.and_false, Bool.false_and] at hb1; obtain ⟨l0, l1, l2, l3, l4, t0, t1, t2, t3, t4, p0, gr, go⟩ := hb1.seen)
    all_goals (go_ret; refine ⟨?_, (two_sets ((alloc3_below _ _ _ _).trans hw1) _ _ _)⟩; first | (show Ending.returned (Value.int IntKind.i64 1) = _; simp [fin, *]; done) | (show Ending.returned (Value.int IntKind.i64 0) = _; simp [fin, *]; done))
  · cases h2 : withinB M 0 65535
    · go_enter Try.func10, Try.ntmps10
      go_wp2_with (first | (go_at_call 22; refine (n_calls _ w.heap.size 1 3 A B N M _ _ _ _ _ (box0 w 3 A B N M true)).mono ?_; rintro e W1 ⟨rfl, hw1, hb1⟩; rw [h1] at hb1; simp only [Bool.true_and, Bool.and_true, Bool.and_false, Bool.false_and] at hb1; obtain ⟨l0, l1, l2, l3, l4, t0, t1, t2, t3, t4, p0, gr, go⟩ := hb1.seen) | (go_at_call 23; refine (within_calls _ _ _ _).mono ?_; rintro e W2 ⟨rfl, rfl⟩; rw [h2]))
      all_goals (go_ret; refine ⟨?_, (two_sets ((alloc3_below _ _ _ _).trans hw1) _ _ _)⟩; first | (show Ending.returned (Value.int IntKind.i64 1) = _; simp [fin, *]; done) | (show Ending.returned (Value.int IntKind.i64 0) = _; simp [fin, *]; done))
    · go_enter Try.func10, Try.ntmps10
      go_wp2_with (first | (go_at_call 22; refine (n_calls _ w.heap.size 1 3 A B N M _ _ _ _ _ (box0 w 3 A B N M true)).mono ?_; rintro e W1 ⟨rfl, hw1, hb1⟩; rw [h1] at hb1; simp only [Bool.true_and, Bool.and_true, Bool.and_false, Bool.false_and] at hb1; obtain ⟨l0, l1, l2, l3, l4, t0, t1, t2, t3, t4, p0, gr, go⟩ := hb1.seen) | (go_at_call 23; refine (within_calls _ _ _ _).mono ?_; rintro e W2 ⟨rfl, rfl⟩; rw [h2]))
      all_goals (go_ret; refine ⟨?_, (two_sets ((alloc3_below _ _ _ _).trans hw1) _ _ _)⟩; first | (show Ending.returned (Value.int IntKind.i64 1) = _; simp [fin, *]; done) | (show Ending.returned (Value.int IntKind.i64 0) = _; simp [fin, *]; done))

set_option maxHeartbeats 4000000 in
set_option maxRecDepth 100000 in
theorem check_6 (A B : ByteArray) (N M : Int) (w : World) :
    Calls Try.prog 10 #[.agg (keyV 6 A B N M)] w fun e w' => e = .returned (.int .i64 (fin (nameB A && nameB B) ⟨#[]⟩ ⟨#[]⟩ N M)) ∧ Below w.heap.size w w' := by
  have hmf : ∀ (fn : Fn) (first cap : Array Value) (w : World), (Instr.makeFunc fn first cap).run Try.prog w = .ok (.func fn first cap) w := fun _ _ _ _ => rfl
  cases h1 : nameB A
  · go_enter Try.func10, Try.ntmps10
    go_wp2_with (go_at_call 20; refine (a_calls _ w.heap.size 6 A B N M _ _ _ _ _ (box0 w 6 A B N M true)).mono ?_; rintro e W1 ⟨rfl, hw1, hb1⟩; rw [h1] at hb1; simp only [Bool.true_and, Bool.and_true, Bool.and_false, Bool.false_and] at hb1; obtain ⟨l0, l1, l2, l3, l4, t0, t1, t2, t3, t4, p0, gr, go⟩ := hb1.seen)
    all_goals (go_ret; refine ⟨?_, (two_sets ((alloc3_below _ _ _ _).trans hw1) _ _ _)⟩; first | (show Ending.returned (Value.int IntKind.i64 1) = _; simp [fin, *]; done) | (show Ending.returned (Value.int IntKind.i64 0) = _; simp [fin, *]; done))
  · cases h2 : nameB B
    · go_enter Try.func10, Try.ntmps10
      go_wp2_with (first | (go_at_call 20; refine (a_calls _ w.heap.size 6 A B N M _ _ _ _ _ (box0 w 6 A B N M true)).mono ?_; rintro e W1 ⟨rfl, hw1, hb1⟩; rw [h1] at hb1; simp only [Bool.true_and, Bool.and_true, Bool.and_false, Bool.false_and] at hb1; obtain ⟨l0, l1, l2, l3, l4, t0, t1, t2, t3, t4, p0, gr, go⟩ := hb1.seen) | (go_at_call 21; refine (name_calls _ _).mono ?_; rintro e W2 ⟨rfl, hw2⟩; rw [h2]; have hb2 := hb1.below hw2; obtain ⟨l0, l1, l2, l3, l4, t0, t1, t2, t3, t4, p0, gr, go⟩ := hb2.seen))
      all_goals (go_ret; refine ⟨?_, (two_sets ((((alloc3_below _ _ _ _).trans hw1).trans (hw2.mono hb1.lt))) _ _ _)⟩; first | (show Ending.returned (Value.int IntKind.i64 1) = _; simp [fin, *]; done) | (show Ending.returned (Value.int IntKind.i64 0) = _; simp [fin, *]; done))
    · go_enter Try.func10, Try.ntmps10
      go_wp2_with (first | (go_at_call 20; refine (a_calls _ w.heap.size 6 A B N M _ _ _ _ _ (box0 w 6 A B N M true)).mono ?_; rintro e W1 ⟨rfl, hw1, hb1⟩; rw [h1] at hb1; simp only [Bool.true_and, Bool.and_true, Bool.and_false, Bool.false_and] at hb1; obtain ⟨l0, l1, l2, l3, l4, t0, t1, t2, t3, t4, p0, gr, go⟩ := hb1.seen) | (go_at_call 21; refine (name_calls _ _).mono ?_; rintro e W2 ⟨rfl, hw2⟩; rw [h2]; have hb2 := hb1.below hw2; obtain ⟨l0, l1, l2, l3, l4, t0, t1, t2, t3, t4, p0, gr, go⟩ := hb2.seen))
      all_goals (go_ret; refine ⟨?_, (two_sets ((((alloc3_below _ _ _ _).trans hw1).trans (hw2.mono hb1.lt))) _ _ _)⟩; first | (show Ending.returned (Value.int IntKind.i64 1) = _; simp [fin, *]; done) | (show Ending.returned (Value.int IntKind.i64 0) = _; simp [fin, *]; done))

set_option maxHeartbeats 4000000 in
set_option maxRecDepth 100000 in
theorem check_7 (A B : ByteArray) (N M : Int) (w : World) :
    Calls Try.prog 10 #[.agg (keyV 7 A B N M)] w fun e w' => e = .returned (.int .i64 (fin (nameB A && nameB B) ⟨#[]⟩ ⟨#[]⟩ N M)) ∧ Below w.heap.size w w' := by
  have hmf : ∀ (fn : Fn) (first cap : Array Value) (w : World), (Instr.makeFunc fn first cap).run Try.prog w = .ok (.func fn first cap) w := fun _ _ _ _ => rfl
  cases h1 : nameB A
  · go_enter Try.func10, Try.ntmps10
    go_wp2_with (go_at_call 20; refine (a_calls _ w.heap.size 7 A B N M _ _ _ _ _ (box0 w 7 A B N M true)).mono ?_; rintro e W1 ⟨rfl, hw1, hb1⟩; rw [h1] at hb1; simp only [Bool.true_and, Bool.and_true, Bool.and_false, Bool.false_and] at hb1; obtain ⟨l0, l1, l2, l3, l4, t0, t1, t2, t3, t4, p0, gr, go⟩ := hb1.seen)
    all_goals (go_ret; refine ⟨?_, (two_sets ((alloc3_below _ _ _ _).trans hw1) _ _ _)⟩; first | (show Ending.returned (Value.int IntKind.i64 1) = _; simp [fin, *]; done) | (show Ending.returned (Value.int IntKind.i64 0) = _; simp [fin, *]; done))
  · cases h2 : nameB B
    · go_enter Try.func10, Try.ntmps10
      go_wp2_with (first | (go_at_call 20; refine (a_calls _ w.heap.size 7 A B N M _ _ _ _ _ (box0 w 7 A B N M true)).mono ?_; rintro e W1 ⟨rfl, hw1, hb1⟩; rw [h1] at hb1; simp only [Bool.true_and, Bool.and_true, Bool.and_false, Bool.false_and] at hb1; obtain ⟨l0, l1, l2, l3, l4, t0, t1, t2, t3, t4, p0, gr, go⟩ := hb1.seen) | (go_at_call 21; refine (name_calls _ _).mono ?_; rintro e W2 ⟨rfl, hw2⟩; rw [h2]; have hb2 := hb1.below hw2; obtain ⟨l0, l1, l2, l3, l4, t0, t1, t2, t3, t4, p0, gr, go⟩ := hb2.seen))
      all_goals (go_ret; refine ⟨?_, (two_sets ((((alloc3_below _ _ _ _).trans hw1).trans (hw2.mono hb1.lt))) _ _ _)⟩; first | (show Ending.returned (Value.int IntKind.i64 1) = _; simp [fin, *]; done) | (show Ending.returned (Value.int IntKind.i64 0) = _; simp [fin, *]; done))
    · go_enter Try.func10, Try.ntmps10
      go_wp2_with (first | (go_at_call 20; refine (a_calls _ w.heap.size 7 A B N M _ _ _ _ _ (box0 w 7 A B N M true)).mono ?_; rintro e W1 ⟨rfl, hw1, hb1⟩; rw [h1] at hb1; simp only [Bool.true_and, Bool.and_true, Bool.and_false, Bool.false_and] at hb1; obtain ⟨l0, l1, l2, l3, l4, t0, t1, t2, t3, t4, p0, gr, go⟩ := hb1.seen) | (go_at_call 21; refine (name_calls _ _).mono ?_; rintro e W2 ⟨rfl, hw2⟩; rw [h2]; have hb2 := hb1.below hw2; obtain ⟨l0, l1, l2, l3, l4, t0, t1, t2, t3, t4, p0, gr, go⟩ := hb2.seen))
      all_goals (go_ret; refine ⟨?_, (two_sets ((((alloc3_below _ _ _ _).trans hw1).trans (hw2.mono hb1.lt))) _ _ _)⟩; first | (show Ending.returned (Value.int IntKind.i64 1) = _; simp [fin, *]; done) | (show Ending.returned (Value.int IntKind.i64 0) = _; simp [fin, *]; done))

/-- What Check answers. -/
def checkB (kind : Int) (A B : ByteArray) (N M : Int) : Int :=
  if kind = 1 then fin true A B N M
  else if kind = 2 then fin (withinB N 1 16777215) A B 0 M
  else if kind = 3 then fin (withinB N 1 16777215 && withinB M 0 65535) A B 0 0
  else if kind = 4 then fin (withinB N 1 16777215 && nameB A) ⟨#[]⟩ B 0 M
  else if kind = 5 ∨ kind = 8 ∨ kind = 10 then fin (nameB A) ⟨#[]⟩ B N M
  else if kind = 6 ∨ kind = 7 then fin (nameB A && nameB B) ⟨#[]⟩ ⟨#[]⟩ N M
  else if kind = 9 then fin (nameB A && withinB N 0 16777215) ⟨#[]⟩ B 0 M
  else fin false A B N M

theorem check_calls (kind : Int) (A B : ByteArray) (N M : Int) (w : World) :
    Calls Try.prog 10 #[.agg #[.int .i64 kind, .string A, .string B, .int .i64 N, .int .i64 M]] w fun e w' => e = .returned (.int .i64 (checkB kind A B N M)) ∧ Below w.heap.size w w' := by
  by_cases h : kind < 1 ∨ 10 < kind
  · have e : checkB kind A B N M = fin false A B N M := by
      unfold checkB
      rw [if_neg (by omega), if_neg (by omega), if_neg (by omega), if_neg (by omega), if_neg (by omega), if_neg (by omega), if_neg (by omega)]
    rw [e]
    exact check_0 kind h A B N M w
  · have hk : kind = 1 ∨ kind = 2 ∨ kind = 3 ∨ kind = 4 ∨ kind = 5 ∨ kind = 6 ∨ kind = 7 ∨ kind = 8 ∨ kind = 9 ∨ kind = 10 := by omega
    rcases hk with rfl | rfl | rfl | rfl | rfl | rfl | rfl | rfl | rfl | rfl
    · exact check_1 A B N M w
    · exact check_2 A B N M w
    · exact check_3 A B N M w
    · exact check_4 A B N M w
    · exact check_5 A B N M w
    · exact check_6 A B N M w
    · exact check_7 A B N M w
    · exact check_8 A B N M w
    · exact check_9 A B N M w
    · exact check_10 A B N M w
end Go.Proofs.YtcohfhclcoiigaaX
