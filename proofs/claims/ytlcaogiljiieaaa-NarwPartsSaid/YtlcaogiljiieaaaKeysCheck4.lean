/- keys.Check at the key of an entry: the walk. -/
import Derived.Test.YtlcaogiljiieaaaIndexAny
import Derived.OneCell
import Derived.Laws.Rows
set_option linter.unusedVariables false
set_option linter.unusedSimpArgs false
namespace Go.Proofs.YtlcaogiljiieaaaX
open Go.RowKit
/-- May these bytes be a name? -/
def nameB (s : ByteArray) : Bool := !(s.toList.isEmpty) && (decide ((s.size : Int) ≤ 64) && !(Lib.containsAny s.data.toList [0, 47]))
def withinB (n low high : Int) : Bool := decide (low ≤ n) && decide (n ≤ high)
set_option maxHeartbeats 1000000 in
set_option maxRecDepth 100000 in
theorem name_calls (s : ByteArray) (w : World) :
    Calls Try.prog 108 #[.string s] w fun e w' => e = .returned (.bool (nameB s)) ∧ Below w.heap.size w w' := by
  unfold nameB
  cases h1 : s.toList.isEmpty
  · by_cases h2 : (s.size : Int) ≤ 64
    · have h3 : s.size ≤ 1000000 := by omega
      have h2z := decide_eq_true h2
      go_enter Try.func108, Try.ntmps108
      go_wp2_with (go_at_call 114; refine (ContainsAny_two _ _ h3).mono ?_; rintro e w' ⟨rfl, hw⟩; rw [two_list])
      go_ret
      exact ⟨by rw [h2z]; simp, hw⟩
    · have h2z := decide_eq_false h2
      go_enter Try.func108, Try.ntmps108
      go_wp2
      go_ret
      exact ⟨rfl, Below.refl _ _⟩
  · go_enter Try.func108, Try.ntmps108
    go_wp2
    go_ret
    exact ⟨rfl, Below.refl _ _⟩
set_option maxHeartbeats 1000000 in
set_option maxRecDepth 100000 in
theorem within_calls (n low high : Int) (w : World) :
    Calls Try.prog 110 #[.int .i64 n, .int .i64 low, .int .i64 high] w fun e w' => e = .returned (.bool (withinB n low high)) ∧ w' = w := by
  unfold withinB
  by_cases h : low ≤ n
  · have hz := decide_eq_true h
    go_enter Try.func110, Try.ntmps110
    go_wp2
    go_ret
    exact ⟨by rw [hz]; rfl, rfl⟩
  · have hz := decide_eq_false h
    go_enter Try.func110, Try.ntmps110
    go_wp2
    go_ret
    exact ⟨rfl, rfl⟩
/-- The three boxes of Check: the key, the rest of it, and whether it holds so far. -/
structure Box (W : World) (b : Nat) (kind : Int) (A B : ByteArray) (N M : Int) (r1 r2 : ByteArray) (r3 r4 : Int) (ok : Bool) : Prop where
  k : W.heap[b]? = some (.cells #[.int .i64 kind, .string A, .string B, .int .i64 N, .int .i64 M] 107)
  r : W.heap[b + 1]? = some (.cells #[.int .i64 kind, .string r1, .string r2, .int .i64 r3, .int .i64 r4] 107)
  o : W.heap[b + 1 + 1]? = some (.cells #[.bool ok] 4)
section
variable {W W' : World} {b : Nat} {kind : Int} {A B : ByteArray} {N M : Int} {r1 r2 : ByteArray} {r3 r4 : Int} {ok : Bool}
theorem heap_set {b : Nat} {cs : Array Value} {t : TypeId} (h : W.heap[b]? = some (.cells cs t)) (i : Nat) (v : Value) :
    (W.setCell ⟨b, i, none⟩ v).heap[b]? = some (.cells (cs.setIfInBounds i v) t) := by
  have hlt := lt_of_block h
  have h' : W.heap[b] = .cells cs t := by simpa [Array.getElem?_eq_getElem hlt] using h
  show (W.heap.modify b _)[b]? = _
  rw [Array.getElem?_eq_getElem (by simpa using hlt), Array.getElem_modify_self, h']
  rfl
theorem Box.below (h : Box W b kind A B N M r1 r2 r3 r4 ok) (hB : Below W.heap.size W W') : Box W' b kind A B N M r1 r2 r3 r4 ok :=
  ⟨(hB.block _ (lt_of_block h.k)).trans h.k, (hB.block _ (lt_of_block h.r)).trans h.r, (hB.block _ (lt_of_block h.o)).trans h.o⟩
theorem Box.setOk (h : Box W b kind A B N M r1 r2 r3 r4 ok) (ok' : Bool) : Box (W.setCell ⟨b + 1 + 1, 0, none⟩ (.bool ok')) b kind A B N M r1 r2 r3 r4 ok' :=
  ⟨by rw [Below.heap_setCell _ _ _ _ (by show b ≠ b + 1 + 1; omega)]; exact h.k, by rw [Below.heap_setCell _ _ _ _ (by show b + 1 ≠ b + 1 + 1; omega)]; exact h.r, heap_set h.o 0 _⟩
theorem Box.set1 (h : Box W b kind A B N M r1 r2 r3 r4 ok) (x : ByteArray) : Box (W.setCell ⟨b + 1, 1, none⟩ (.string x)) b kind A B N M x r2 r3 r4 ok :=
  ⟨by rw [Below.heap_setCell _ _ _ _ (by show b ≠ b + 1; omega)]; exact h.k, heap_set h.r 1 _, by rw [Below.heap_setCell _ _ _ _ (by show b + 1 + 1 ≠ b + 1; omega)]; exact h.o⟩
theorem Box.set3 (h : Box W b kind A B N M r1 r2 r3 r4 ok) (x : Int) : Box (W.setCell ⟨b + 1, 3, none⟩ (.int .i64 x)) b kind A B N M r1 r2 x r4 ok :=
  ⟨by rw [Below.heap_setCell _ _ _ _ (by show b ≠ b + 1; omega)]; exact h.k, heap_set h.r 3 _, by rw [Below.heap_setCell _ _ _ _ (by show b + 1 + 1 ≠ b + 1; omega)]; exact h.o⟩
/-- What the walk reads of the boxes. -/
structure Seen (W : World) (b : Nat) (kind : Int) (A B : ByteArray) (N M : Int) (r1 r2 : ByteArray) (r3 r4 : Int) (ok : Bool) : Prop where
  k0 : W.cell? ⟨b, 0, none⟩ = some (.int .i64 kind)
  k1 : W.cell? ⟨b, 1, none⟩ = some (.string A)
  k2 : W.cell? ⟨b, 2, none⟩ = some (.string B)
  k3 : W.cell? ⟨b, 3, none⟩ = some (.int .i64 N)
  k4 : W.cell? ⟨b, 4, none⟩ = some (.int .i64 M)
  r0 : W.cell? ⟨b + 1, 0, none⟩ = some (.int .i64 kind)
  r1 : W.cell? ⟨b + 1, 1, none⟩ = some (.string r1)
  r2 : W.cell? ⟨b + 1, 2, none⟩ = some (.string r2)
  r3 : W.cell? ⟨b + 1, 3, none⟩ = some (.int .i64 r3)
  r4 : W.cell? ⟨b + 1, 4, none⟩ = some (.int .i64 r4)
  o0 : W.cell? ⟨b + 1 + 1, 0, none⟩ = some (.bool ok)
  fr : ∀ i, W.frozen? ⟨b + 1, i, none⟩ = false
  fo : W.frozen? ⟨b + 1 + 1, 0, none⟩ = false
theorem Box.seen (h : Box W b kind A B N M r1 r2 r3 r4 ok) : Seen W b kind A B N M r1 r2 r3 r4 ok := by
  obtain ⟨h1, h2, h3⟩ := h
  constructor
  all_goals first
    | (simp [World.cell?, h1]; done)
    | (simp [World.cell?, h2]; done)
    | (simp [World.cell?, h3]; done)
    | (intro i; simp [World.frozen?, h2]; done)
    | (simp [World.frozen?, h3]; done)
end
theorem Box.lt {W : World} {b : Nat} {kind : Int} {A B : ByteArray} {N M : Int} {r1 r2 : ByteArray} {r3 r4 : Int} {ok : Bool} (h : Box W b kind A B N M r1 r2 r3 r4 ok) : b ≤ W.heap.size := by
  have := lt_of_block h.k; omega
set_option maxHeartbeats 1000000 in
set_option maxRecDepth 100000 in
theorem a_calls (W : World) (b : Nat) (kind : Int) (A B : ByteArray) (N M : Int) (r1 r2 : ByteArray) (r3 r4 : Int) (ok : Bool) (hb : Box W b kind A B N M r1 r2 r3 r4 ok) :
    Calls Try.prog 107 #[.pointer (some ⟨b + 1 + 1, 0, none⟩), .pointer (some ⟨b, 0, none⟩), .pointer (some ⟨b + 1, 0, none⟩)] W fun e w' =>
      e = .returned (.tuple #[]) ∧ Below b W w' ∧ Box w' b kind A B N M ⟨#[]⟩ r2 r3 r4 (ok && nameB A) := by
  obtain ⟨k0, k1, k2, k3, k4, r0, s1, s2, s3, s4, o0, fr, fo⟩ := hb.seen
  have hb' := hb
  cases ok
  · go_enter Try.func107, Try.ntmps107
    go_wp2_with fail
    go_end0
    exact ⟨rfl, ((Below.refl _ _).setCell (by show b ≤ b + 1 + 1; omega) _).setCell (by show b ≤ b + 1; omega) _, (hb'.setOk false).set1 _⟩
  · go_enter Try.func107, Try.ntmps107
    go_wp2_with (go_at_call 108; refine (name_calls _ _).mono ?_; rintro e W2 ⟨rfl, hw⟩; have hb2 := hb'.below hw; obtain ⟨l0, l1, l2, l3, l4, t0, t1, t2, t3, t4, p0, gr, go⟩ := hb2.seen)
    go_end0
    exact ⟨rfl, ((hw.mono hb'.lt).setCell (by show b ≤ b + 1 + 1; omega) _).setCell (by show b ≤ b + 1; omega) _, (hb2.setOk (nameB A)).set1 _⟩
set_option maxHeartbeats 1000000 in
set_option maxRecDepth 100000 in
theorem n_calls (W : World) (b : Nat) (low kind : Int) (A B : ByteArray) (N M : Int) (r1 r2 : ByteArray) (r3 r4 : Int) (ok : Bool) (hb : Box W b kind A B N M r1 r2 r3 r4 ok) :
    Calls Try.prog 109 #[.int .i64 low, .pointer (some ⟨b + 1 + 1, 0, none⟩), .pointer (some ⟨b, 0, none⟩), .pointer (some ⟨b + 1, 0, none⟩)] W fun e w' =>
      e = .returned (.tuple #[]) ∧ Below b W w' ∧ Box w' b kind A B N M r1 r2 0 r4 (ok && withinB N low 16777215) := by
  obtain ⟨k0, k1, k2, k3, k4, r0, s1, s2, s3, s4, o0, fr, fo⟩ := hb.seen
  have hb' := hb
  cases ok
  · go_enter Try.func109, Try.ntmps109
    go_wp2_with fail
    go_end0
    exact ⟨rfl, ((Below.refl _ _).setCell (by show b ≤ b + 1 + 1; omega) _).setCell (by show b ≤ b + 1; omega) _, (hb'.setOk false).set3 _⟩
  · go_enter Try.func109, Try.ntmps109
    go_wp2_with (go_at_call 110; refine (within_calls _ _ _ _).mono ?_; rintro e W2 ⟨rfl, rfl⟩)
    go_end0
    exact ⟨rfl, ((Below.refl _ _).setCell (by show b ≤ b + 1 + 1; omega) _).setCell (by show b ≤ b + 1; omega) _, (hb'.setOk (withinB N low 16777215)).set3 _⟩
/-- The key as Check takes it. -/
abbrev keyV (kind : Int) (A B : ByteArray) (N M : Int) : Array Value := #[.int .i64 kind, .string A, .string B, .int .i64 N, .int .i64 M]
theorem box0 (w : World) (kind : Int) (A B : ByteArray) (N M : Int) (ok : Bool) :
    Box (((w.alloc (.cells (keyV kind A B N M) 107)).alloc (.cells (keyV kind A B N M) 107)).alloc (.cells #[.bool ok] 4)) w.heap.size kind A B N M A B N M ok := by
  have hn : ∀ (w : World) (o : Obj), (w.alloc o).heap[w.heap.size]? = some o := fun w o => by
    show (w.heap.push o)[w.heap.size]? = _
    simp
  have hs : ∀ (w : World) (o : Obj), (w.alloc o).heap.size = w.heap.size + 1 := fun w o => by
    show (w.heap.push o).size = _
    simp
  refine ⟨?_, ?_, ?_⟩
  · rw [Below.heap_alloc _ _ _ (by rw [hs, hs]; omega), Below.heap_alloc _ _ _ (by rw [hs]; omega)]
    exact hn _ _
  · rw [Below.heap_alloc _ _ _ (by rw [hs, hs]; omega), ← hs w (.cells (keyV kind A B N M) 107)]
    exact hn _ _
  · rw [← hs w (.cells (keyV kind A B N M) 107), ← hs _ (.cells (keyV kind A B N M) 107)]
    exact hn _ _
/-- What Check answers, with the rest of the key as it is left. -/
def fin (ok : Bool) (r1 r2 : ByteArray) (r3 r4 : Int) : Int := if ok = true ∧ r1.toList = [] ∧ r2.toList = [] ∧ r3 = 0 ∧ r4 = 0 then 0 else 1
theorem alloc3_below (w : World) (o1 o2 o3 : Obj) : Below w.heap.size w (((w.alloc o1).alloc o2).alloc o3) :=
  (((Below.refl _ _).alloc (Nat.le_refl _) o1).alloc (by simp) o2).alloc (by simp; omega) o3
set_option maxHeartbeats 4000000 in
set_option maxRecDepth 100000 in
theorem check_4 (A B : ByteArray) (N M : Int) (w : World) :
    Calls Try.prog 94 #[.agg (keyV 4 A B N M)] w fun e w' => e = .returned (.int .i64 (fin (withinB N 1 16777215 && nameB A) ⟨#[]⟩ B 0 M)) ∧ Below w.heap.size w w' := by
  have hmf : ∀ (fn : Fn) (first cap : Array Value) (w : World), (Instr.makeFunc fn first cap).run Try.prog w = .ok (.func fn first cap) w := fun _ _ _ _ => rfl
  cases h1 : withinB N 1 16777215 <;> cases h2 : nameB A
  · go_enter Try.func94, Try.ntmps94
    go_wp2_with (first | (go_at_call 109; refine (n_calls _ w.heap.size 1 4 A B N M _ _ _ _ _ (box0 w 4 A B N M true)).mono ?_; rintro e W1 ⟨rfl, hw1, hb1⟩; rw [h1] at hb1; simp only [Bool.true_and, Bool.and_true, Bool.and_false, Bool.false_and] at hb1; obtain ⟨l0, l1, l2, l3, l4, t0, t1, t2, t3, t4, p0, gr, go⟩ := hb1.seen) | (go_at_call 107; refine (a_calls _ w.heap.size 4 A B N M _ _ _ _ _ hb1).mono ?_; rintro e W2 ⟨rfl, hw2, hb2⟩; rw [h2] at hb2; simp only [Bool.true_and, Bool.and_true, Bool.and_false, Bool.false_and] at hb2; obtain ⟨l0, l1, l2, l3, l4, t0, t1, t2, t3, t4, p0, gr, go⟩ := hb2.seen))
    all_goals (go_ret; refine ⟨?_, (((alloc3_below _ _ _ _).trans hw1).trans hw2)⟩; first | (show Ending.returned (Value.int IntKind.i64 1) = _; simp [fin, *]; done) | (show Ending.returned (Value.int IntKind.i64 0) = _; simp [fin, *]; done))
  · go_enter Try.func94, Try.ntmps94
    go_wp2_with (first | (go_at_call 109; refine (n_calls _ w.heap.size 1 4 A B N M _ _ _ _ _ (box0 w 4 A B N M true)).mono ?_; rintro e W1 ⟨rfl, hw1, hb1⟩; rw [h1] at hb1; simp only [Bool.true_and, Bool.and_true, Bool.and_false, Bool.false_and] at hb1; obtain ⟨l0, l1, l2, l3, l4, t0, t1, t2, t3, t4, p0, gr, go⟩ := hb1.seen) | (go_at_call 107; refine (a_calls _ w.heap.size 4 A B N M _ _ _ _ _ hb1).mono ?_; rintro e W2 ⟨rfl, hw2, hb2⟩; rw [h2] at hb2; simp only [Bool.true_and, Bool.and_true, Bool.and_false, Bool.false_and] at hb2; obtain ⟨l0, l1, l2, l3, l4, t0, t1, t2, t3, t4, p0, gr, go⟩ := hb2.seen))
    all_goals (go_ret; refine ⟨?_, (((alloc3_below _ _ _ _).trans hw1).trans hw2)⟩; first | (show Ending.returned (Value.int IntKind.i64 1) = _; simp [fin, *]; done) | (show Ending.returned (Value.int IntKind.i64 0) = _; simp [fin, *]; done))
  · go_enter Try.func94, Try.ntmps94
    go_wp2_with (first | (go_at_call 109; refine (n_calls _ w.heap.size 1 4 A B N M _ _ _ _ _ (box0 w 4 A B N M true)).mono ?_; rintro e W1 ⟨rfl, hw1, hb1⟩; rw [h1] at hb1; simp only [Bool.true_and, Bool.and_true, Bool.and_false, Bool.false_and] at hb1; obtain ⟨l0, l1, l2, l3, l4, t0, t1, t2, t3, t4, p0, gr, go⟩ := hb1.seen) | (go_at_call 107; refine (a_calls _ w.heap.size 4 A B N M _ _ _ _ _ hb1).mono ?_; rintro e W2 ⟨rfl, hw2, hb2⟩; rw [h2] at hb2; simp only [Bool.true_and, Bool.and_true, Bool.and_false, Bool.false_and] at hb2; obtain ⟨l0, l1, l2, l3, l4, t0, t1, t2, t3, t4, p0, gr, go⟩ := hb2.seen))
    all_goals (go_ret; refine ⟨?_, (((alloc3_below _ _ _ _).trans hw1).trans hw2)⟩; first | (show Ending.returned (Value.int IntKind.i64 1) = _; simp [fin, *]; done) | (show Ending.returned (Value.int IntKind.i64 0) = _; simp [fin, *]; done))
  · go_enter Try.func94, Try.ntmps94
    go_wp2_with (first | (go_at_call 109; refine (n_calls _ w.heap.size 1 4 A B N M _ _ _ _ _ (box0 w 4 A B N M true)).mono ?_; rintro e W1 ⟨rfl, hw1, hb1⟩; rw [h1] at hb1; simp only [Bool.true_and, Bool.and_true, Bool.and_false, Bool.false_and] at hb1; obtain ⟨l0, l1, l2, l3, l4, t0, t1, t2, t3, t4, p0, gr, go⟩ := hb1.seen) | (go_at_call 107; refine (a_calls _ w.heap.size 4 A B N M _ _ _ _ _ hb1).mono ?_; rintro e W2 ⟨rfl, hw2, hb2⟩; rw [h2] at hb2; simp only [Bool.true_and, Bool.and_true, Bool.and_false, Bool.false_and] at hb2; obtain ⟨l0, l1, l2, l3, l4, t0, t1, t2, t3, t4, p0, gr, go⟩ := hb2.seen))
    all_goals (go_ret; refine ⟨?_, (((alloc3_below _ _ _ _).trans hw1).trans hw2)⟩; first | (show Ending.returned (Value.int IntKind.i64 1) = _; simp [fin, *]; done) | (show Ending.returned (Value.int IntKind.i64 0) = _; simp [fin, *]; done))
end Go.Proofs.YtlcaogiljiieaaaX
