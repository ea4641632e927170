import Derived.Test.YthnchdbkgenjhaaDoorProg
import Derived.Test.YthnchdbkgenjhaaDoorShelf
import Derived.WalkKit
import Derived.WalkSpells
import Derived.Outline
import Derived.Lib.Hide
import Derived.Laws.Strings
import Derived.Laws.Runes
import Derived.Laws.RangeAny
import Derived.WalkMore
import Derived.BigQuiet
import Derived.Deep.QuietTactic
import Derived.Deep.LoopGhost
import Derived.Lib.OthersKept
import Derived.KernelRfl
import Derived.Lib.IndexAny
set_option linter.unusedVariables false
/- strings.IndexRune among the six bytes that a base may hold beside letters and digits; names.may: the walks. -/
namespace Go.Proofs.YthnchdbkgenjhaaDoorX
open Go.RowKit
/-- The six bytes. -/
def six : ByteArray := ⟨#[43, 45, 46, 95, 63, 61]⟩
theorem six_size : six.size = 6 := rfl
theorem six_low (i : Nat) (hi : i < six.size) : (six[i]'hi).toNat < 128 := by
  have : i = 0 ∨ i = 1 ∨ i = 2 ∨ i = 3 ∨ i = 4 ∨ i = 5 := by rw [six_size] at hi; omega
  rcases this with rfl | rfl | rfl | rfl | rfl | rfl
  · exact (by decide : (six[0]'(by decide)).toNat < 128)
  · exact (by decide : (six[1]'(by decide)).toNat < 128)
  · exact (by decide : (six[2]'(by decide)).toNat < 128)
  · exact (by decide : (six[3]'(by decide)).toNat < 128)
  · exact (by decide : (six[4]'(by decide)).toNat < 128)
  · exact (by decide : (six[5]'(by decide)).toNat < 128)
theorem drew_below {B : Nat} {a w : World} (h : Below B a w) (n : Nat) : Below B a (w.drewN n) := h.trans ⟨rfl, rfl, rfl, Nat.le_refl _, fun _ _ => rfl⟩
theorem index_not : ∀ (l : List UInt8) (c : UInt8), (∀ x ∈ l, x ≠ c) → Lib.indexByte l c = -1
  | [], c, _ => rfl
  | x :: l, c, h => by
    have h1 := index_not l c fun y hy => h y (List.mem_cons_of_mem _ hy)
    have h2 : (x == c) = false := beq_eq_false_iff_ne.2 (h x List.mem_cons_self)
    rw [Lib.indexByte, h2, h1]
    rfl
theorem six_not (c : UInt8) (hc : 128 ≤ c.toNat) (a b : Nat) : Lib.indexByte (six.extract a b).data.toList c = -1 := by
  refine index_not _ _ fun x hx he => ?_
  rw [ByteArray.data_extract, Array.toList_extract, List.extract_eq_take_drop] at hx
  have hx2 : x ∈ ([43, 45, 46, 95, 63, 61] : List UInt8) := List.mem_of_mem_drop (List.mem_of_mem_take hx)
  rw [← he] at hc
  simp only [List.mem_cons, List.not_mem_nil, or_false] at hx2
  rcases hx2 with rfl | rfl | rfl | rfl | rfl | rfl <;> revert hc <;> decide
theorem six_not2 (c : UInt8) (hc : 128 ≤ c.toNat) (a b : Nat) : Lib.indexByte (List.take a (List.drop b six.data.toList)) c = -1 := by
  refine index_not _ _ fun x hx he => ?_
  have hx2 : x ∈ ([43, 45, 46, 95, 63, 61] : List UInt8) := List.mem_of_mem_drop (List.mem_of_mem_take hx)
  rw [← he] at hc
  simp only [List.mem_cons, List.not_mem_nil, or_false] at hx2
  rcases hx2 with rfl | rfl | rfl | rfl | rfl | rfl <;> revert hc <;> decide
set_option maxHeartbeats 2000000 in
set_option maxRecDepth 100000 in
theorem IndexRune_bad6 (w : World) :
    Calls Tryd.prog 90 #[.string six, .int .i32 65533] w fun e w' => e = .returned (.int .i64 (-1)) ∧ Below w.heap.size w w' := by
  go_enter Tryd.func90, Tryd.ntmps90
  go_wp2_with fail
  go_loopg [5, 6] 6 (fun g _ _ wx => ∃ i : Nat, i + g = 6 ∧ wx = w.iter six i)
  case atStart => exact ⟨0, by omega, rfl⟩
  case round =>
    obtain ⟨i, hig, rfl⟩ := hrel
    cases gk with
    | zero =>
      obtain rfl : i = 6 := by omega
      have hnx := fun ty => run_next_end (P := Tryd.prog) w six 6 ty (by decide)
      go_wp2
      go_ret
      exact ⟨rfl, (Below.refl _ _).alloc (Nat.le_refl _) _⟩
    | succ g =>
      have hi : i < six.size := by rw [six_size]; omega
      have hx := six_low i hi
      have hnx := fun ty => run_next_ascii (P := Tryd.prog) w six i ty hi hx
      have hne : (((six[i]'hi).toNat : Int) == 65533) = false := beq_eq_false_iff_ne.2 (by omega)
      generalize (six[i]'hi).toNat = x at hnx hne
      clear hx
      go_wp2
      go_roundg g
      case measure => omega
      case rel => exact ⟨i + 1, by omega, rfl⟩
set_option maxHeartbeats 2000000 in
set_option maxRecDepth 100000 in
theorem IndexRune_six1 (r : Int) (w : World) (h0 : 128 ≤ r) (h1 : r ≤ 2147483647) (hb : r ≠ 65533) (hv : Lib.validRune r = true) (hs : (Utf8.encode r).size = 2) :
    Calls Tryd.prog 90 #[.string six, .int .i32 r] w fun e w' => e = .returned (.int .i64 (-1)) ∧ Below w.heap.size w w' := by
  have hne : (r == 65533) = false := beq_eq_false_iff_ne.2 hb
  have hlt : ¬ r < 128 := by omega
  have hge : 0 ≤ r := by omega
  clear hb
  obtain ⟨h2, h4, hl⟩ := encode_facts r (by rw [validRune_eq]; exact hv) h0
  obtain ⟨rs, hrs⟩ : ∃ rs, Utf8.encode r = rs := ⟨_, rfl⟩
  rw [hrs] at h2 h4 hl hs
  have hcv := fun W => run_convert_int_string (P := Tryd.prog) W 21 9 .i32 r (by kernel_rfl) Tryd.underlying9
  rw [hrs] at hcv
  have hsz : six.size = 6 := rfl
  have hw2 : IntKind.i64.wrap 2 = 2 := by decide
  have hx := hl (by omega)
  have e1 : rs[rs.size - 1]'(by omega) = rs[1]'(by omega) := by congr 1; omega
  rw [e1] at hx
  have h48 : six[1] = 45 := rfl
  obtain ⟨x, hxe⟩ : ∃ x, rs[1]'(by omega) = x := ⟨_, rfl⟩
  rw [hxe] at hx
  clear hl e1
  have hne3 : ((45 : Int) != (x.toNat : Int)) = true := by rw [bne_iff_ne]; omega
  have hne2 : ((45 : Int) == (x.toNat : Int)) = false := beq_eq_false_iff_ne.2 (by omega)
  have hib := six_not x hx
  have hib2 := six_not2 x hx 4 2
  have hlo : ((-1 : Int) < 0) := by decide
  have hback : ((x.toNat : Int)).toNat.toUInt8 = x := by simp
  go_enter Tryd.func90, Tryd.ntmps90
  go_wp2_with (go_at_call 98; refine (Tryd.utf8_ValidRune _ _).mono ?_; rintro e w' ⟨rfl, rfl⟩; rw [hv])
  go_step3
  go_wp2
  go_loop [9] (fun i => i = .int .i64 1) (fun _ => 0)
  case atStart => simp
  case round =>
    subst hrel
    go_wp2
    go_step3
    go_wp2
    go_quiet (fail)
    have hB := drew_below (Below.refl w'.heap.size w') nq
    go_wp2
    generalize w'.drewN nq = W at hB ⊢
    go_quiet (first | (go_at_call 51; refine Calls.quiet_of_same (Tryd.strings_IndexByte _ _ _)))
    go_wp2
    simp (config := {zetaDelta := true}) only [Exit.noGoto, Exit.inBlock, Exit.then]
    go_ret
    exact ⟨rfl, drew_below hB _⟩
set_option maxHeartbeats 2000000 in
set_option maxRecDepth 100000 in
theorem IndexRune_six2 (r : Int) (w : World) (h0 : 128 ≤ r) (h1 : r ≤ 2147483647) (hb : r ≠ 65533) (hv : Lib.validRune r = true) (hs : (Utf8.encode r).size = 3) :
    Calls Tryd.prog 90 #[.string six, .int .i32 r] w fun e w' => e = .returned (.int .i64 (-1)) ∧ Below w.heap.size w w' := by
  have hne : (r == 65533) = false := beq_eq_false_iff_ne.2 hb
  have hlt : ¬ r < 128 := by omega
  have hge : 0 ≤ r := by omega
  clear hb
  obtain ⟨h2, h4, hl⟩ := encode_facts r (by rw [validRune_eq]; exact hv) h0
  obtain ⟨rs, hrs⟩ : ∃ rs, Utf8.encode r = rs := ⟨_, rfl⟩
  rw [hrs] at h2 h4 hl hs
  have hcv := fun W => run_convert_int_string (P := Tryd.prog) W 21 9 .i32 r (by kernel_rfl) Tryd.underlying9
  rw [hrs] at hcv
  have hsz : six.size = 6 := rfl
  have hw2 : IntKind.i64.wrap 3 = 3 := by decide
  have hx := hl (by omega)
  have e1 : rs[rs.size - 1]'(by omega) = rs[2]'(by omega) := by congr 1; omega
  rw [e1] at hx
  have h48 : six[2] = 46 := rfl
  obtain ⟨x, hxe⟩ : ∃ x, rs[2]'(by omega) = x := ⟨_, rfl⟩
  rw [hxe] at hx
  clear hl e1
  have hne3 : ((46 : Int) != (x.toNat : Int)) = true := by rw [bne_iff_ne]; omega
  have hne2 : ((46 : Int) == (x.toNat : Int)) = false := beq_eq_false_iff_ne.2 (by omega)
  have hib := six_not x hx
  have hib2 := six_not2 x hx 3 3
  have hlo : ((-1 : Int) < 0) := by decide
  have hback : ((x.toNat : Int)).toNat.toUInt8 = x := by simp
  go_enter Tryd.func90, Tryd.ntmps90
  go_wp2_with (go_at_call 98; refine (Tryd.utf8_ValidRune _ _).mono ?_; rintro e w' ⟨rfl, rfl⟩; rw [hv])
  go_step3
  go_wp2
  go_loop [9] (fun i => i = .int .i64 2) (fun _ => 0)
  case atStart => simp
  case round =>
    subst hrel
    go_wp2
    go_step3
    go_wp2
    go_quiet (fail)
    have hB := drew_below (Below.refl w'.heap.size w') nq
    go_wp2
    generalize w'.drewN nq = W at hB ⊢
    go_quiet (first | (go_at_call 51; refine Calls.quiet_of_same (Tryd.strings_IndexByte _ _ _)))
    go_wp2
    simp (config := {zetaDelta := true}) only [Exit.noGoto, Exit.inBlock, Exit.then]
    go_ret
    exact ⟨rfl, drew_below hB _⟩
set_option maxHeartbeats 2000000 in
set_option maxRecDepth 100000 in
theorem IndexRune_six3 (r : Int) (w : World) (h0 : 128 ≤ r) (h1 : r ≤ 2147483647) (hb : r ≠ 65533) (hv : Lib.validRune r = true) (hs : (Utf8.encode r).size = 4) :
    Calls Tryd.prog 90 #[.string six, .int .i32 r] w fun e w' => e = .returned (.int .i64 (-1)) ∧ Below w.heap.size w w' := by
  have hne : (r == 65533) = false := beq_eq_false_iff_ne.2 hb
  have hlt : ¬ r < 128 := by omega
  have hge : 0 ≤ r := by omega
  clear hb
  obtain ⟨h2, h4, hl⟩ := encode_facts r (by rw [validRune_eq]; exact hv) h0
  obtain ⟨rs, hrs⟩ : ∃ rs, Utf8.encode r = rs := ⟨_, rfl⟩
  rw [hrs] at h2 h4 hl hs
  have hcv := fun W => run_convert_int_string (P := Tryd.prog) W 21 9 .i32 r (by kernel_rfl) Tryd.underlying9
  rw [hrs] at hcv
  have hsz : six.size = 6 := rfl
  have hw2 : IntKind.i64.wrap 4 = 4 := by decide
  have hx := hl (by omega)
  have e1 : rs[rs.size - 1]'(by omega) = rs[3]'(by omega) := by congr 1; omega
  rw [e1] at hx
  have h48 : six[3] = 95 := rfl
  obtain ⟨x, hxe⟩ : ∃ x, rs[3]'(by omega) = x := ⟨_, rfl⟩
  rw [hxe] at hx
  clear hl e1
  have hne3 : ((95 : Int) != (x.toNat : Int)) = true := by rw [bne_iff_ne]; omega
  have hne2 : ((95 : Int) == (x.toNat : Int)) = false := beq_eq_false_iff_ne.2 (by omega)
  have hib := six_not x hx
  have hib2 := six_not2 x hx 2 4
  have hlo : ((-1 : Int) < 0) := by decide
  have hback : ((x.toNat : Int)).toNat.toUInt8 = x := by simp
  go_enter Tryd.func90, Tryd.ntmps90
  go_wp2_with (go_at_call 98; refine (Tryd.utf8_ValidRune _ _).mono ?_; rintro e w' ⟨rfl, rfl⟩; rw [hv])
  go_step3
  go_wp2
  go_loop [9] (fun i => i = .int .i64 3) (fun _ => 0)
  case atStart => simp
  case round =>
    subst hrel
    go_wp2
    go_step3
    go_wp2
    go_quiet (fail)
    have hB := drew_below (Below.refl w'.heap.size w') nq
    go_wp2
    generalize w'.drewN nq = W at hB ⊢
    go_quiet (first | (go_at_call 51; refine Calls.quiet_of_same (Tryd.strings_IndexByte _ _ _)))
    go_wp2
    simp (config := {zetaDelta := true}) only [Exit.noGoto, Exit.inBlock, Exit.then]
    go_ret
    exact ⟨rfl, drew_below hB _⟩
set_option maxHeartbeats 2000000 in
set_option maxRecDepth 100000 in
theorem IndexRune_six (r : Int) (w : World) (h0 : 128 ≤ r) (h1 : r ≤ 2147483647) :
    Calls Tryd.prog 90 #[.string six, .int .i32 r] w fun e w' => e = .returned (.int .i64 (-1)) ∧ Below w.heap.size w w' := by
  by_cases hb : r = 65533
  · subst hb; exact IndexRune_bad6 w
  cases hv : Lib.validRune r
  · have hne : (r == 65533) = false := beq_eq_false_iff_ne.2 hb
    have hlt : ¬ r < 128 := by omega
    have hge : 0 ≤ r := by omega
    clear hb
    go_enter Tryd.func90, Tryd.ntmps90
    go_wp2_with (go_at_call 98; refine (Tryd.utf8_ValidRune _ _).mono ?_; rintro e w' ⟨rfl, rfl⟩; rw [hv])
    go_ret
    exact ⟨rfl, Below.refl _ _⟩
  · obtain ⟨h2, h4, hl⟩ := encode_facts r (by rw [validRune_eq]; exact hv) h0
    have : (Utf8.encode r).size = 2 ∨ (Utf8.encode r).size = 3 ∨ (Utf8.encode r).size = 4 := by omega
    rcases this with h | h | h
    · exact IndexRune_six1 r w h0 h1 hb hv h
    · exact IndexRune_six2 r w h0 h1 hb hv h
    · exact IndexRune_six3 r w h0 h1 hb hv h
set_option maxHeartbeats 2000000 in
set_option maxRecDepth 100000 in
theorem ContainsRune_six (r : Int) (w : World) (h0 : 128 ≤ r) (h1 : r ≤ 2147483647) :
    Calls Tryd.prog 75 #[.string six, .int .i32 r] w fun e w' => e = .returned (.bool false) ∧ Below w.heap.size w w' := by
  go_enter Tryd.func75, Tryd.ntmps75
  go_wp2_with (go_at_call 90; refine (IndexRune_six _ _ h0 h1).mono ?_; rintro e w' ⟨rfl, hw⟩)
  go_ret
  exact ⟨rfl, hw⟩
/-- May a rune stand in a base? -/
def mayI (c : Int) : Bool := decide (97 ≤ c ∧ c ≤ 122) || decide (65 ≤ c ∧ c ≤ 90) || decide (48 ≤ c ∧ c ≤ 57) || decide (c < 128 ∧ 0 ≤ Lib.indexByte six.data.toList c.toNat.toUInt8)
set_option maxHeartbeats 2000000 in
set_option maxRecDepth 100000 in
theorem may_calls (c : Int) (w : World) (h0 : 0 ≤ c) (h1 : c ≤ 2147483647) :
    Calls Tryd.prog 67 #[.int .i32 c] w fun e w' => e = .returned (.bool (mayI c)) ∧ Below w.heap.size w w' := by
  have hsix : (⟨#[43, 45, 46, 95, 63, 61]⟩ : ByteArray) = six := rfl
  unfold mayI
  by_cases a1 : 97 ≤ c ∧ c ≤ 122
  · obtain ⟨b1, b2⟩ := a1
    rw [decide_eq_true (And.intro b1 b2)]
    go_enter Tryd.func67, Tryd.ntmps67
    go_wp2
    go_ret
    exact ⟨rfl, Below.refl _ _⟩
  rw [decide_eq_false a1]
  by_cases a2 : 65 ≤ c ∧ c ≤ 90
  · obtain ⟨b1, b2⟩ := a2
    rw [decide_eq_true (And.intro b1 b2)]
    have b3 : ¬ 97 ≤ c := by omega
    clear a1
    go_enter Tryd.func67, Tryd.ntmps67
    go_wp2
    go_ret
    exact ⟨rfl, Below.refl _ _⟩
  rw [decide_eq_false a2]
  by_cases a3 : 48 ≤ c ∧ c ≤ 57
  · obtain ⟨b1, b2⟩ := a3
    rw [decide_eq_true (And.intro b1 b2)]
    have b3 : ¬ 97 ≤ c := by omega
    have b4 : ¬ 65 ≤ c := by omega
    clear a1 a2
    go_enter Tryd.func67, Tryd.ntmps67
    go_wp2
    go_ret
    exact ⟨rfl, Below.refl _ _⟩
  rw [decide_eq_false a3]
  have p1 : decide (97 ≤ c) = false ∨ decide (97 ≤ c) = true ∧ decide (c ≤ 122) = false := by
    by_cases h : 97 ≤ c
    · exact .inr ⟨decide_eq_true h, decide_eq_false (by omega)⟩
    · exact .inl (decide_eq_false h)
  have p2 : decide (65 ≤ c) = false ∨ decide (65 ≤ c) = true ∧ decide (c ≤ 90) = false := by
    by_cases h : 65 ≤ c
    · exact .inr ⟨decide_eq_true h, decide_eq_false (by omega)⟩
    · exact .inl (decide_eq_false h)
  have p3 : decide (48 ≤ c) = false ∨ decide (48 ≤ c) = true ∧ decide (c ≤ 57) = false := by
    by_cases h : 48 ≤ c
    · exact .inr ⟨decide_eq_true h, decide_eq_false (by omega)⟩
    · exact .inl (decide_eq_false h)
  by_cases a4 : c < 128
  · have e : (false || false || false || decide (c < 128 ∧ 0 ≤ Lib.indexByte six.data.toList c.toNat.toUInt8)) = decide (0 ≤ Lib.indexByte six.data.toList c.toNat.toUInt8) := by simp [a4]
    rw [e]
    have hc := Tryd.strings_ContainsRune_ascii six c
    generalize decide (0 ≤ Lib.indexByte six.data.toList c.toNat.toUInt8) = v at hc ⊢
    clear e
    rcases p1 with p1 | ⟨p1, q1⟩ <;> rcases p2 with p2 | ⟨p2, q2⟩ <;> rcases p3 with p3 | ⟨p3, q3⟩
    all_goals simp only [decide_eq_true_eq, decide_eq_false_iff_not] at *
    all_goals first
      | omega
      | (clear a1 a2 a3
         go_enter Tryd.func67, Tryd.ntmps67
         go_wp2_with (go_at_call 75; refine (hc _ h0 a4).mono ?_; rintro e w' ⟨rfl, rfl⟩)
         go_ret
         exact ⟨rfl, Below.refl _ _⟩)
  · have e : (false || false || false || decide (c < 128 ∧ 0 ≤ Lib.indexByte six.data.toList c.toNat.toUInt8)) = false := by simp [a4]
    rw [e]
    have c1 : 97 ≤ c := by omega
    have c2 : ¬ c ≤ 122 := by omega
    have c3 : 65 ≤ c := by omega
    have c4 : ¬ c ≤ 90 := by omega
    have c5 : 48 ≤ c := by omega
    have c6 : ¬ c ≤ 57 := by omega
    clear a1 a2 a3 p1 p2 p3 e
    go_enter Tryd.func67, Tryd.ntmps67
    go_wp2_with (go_at_call 75; refine (ContainsRune_six c _ (by omega) h1).mono ?_; rintro e w' ⟨rfl, hw⟩)
    go_ret
    exact ⟨rfl, hw⟩
end Go.Proofs.YthnchdbkgenjhaaDoorX
/- names.Base: the walk. -/
namespace Go.Proofs.YthnchdbkgenjhaaDoorX
open Go.RowKit
def byteOK (b : UInt8) : Bool := decide (b.toNat < 128) && mayI (b.toNat : Int)
/-- Is it a base? -/
def baseB (s : ByteArray) : Bool := decide (1 ≤ s.size) && decide (s.size ≤ 31) && !(s.data.toList.head? == some 46) && s.data.toList.all byteOK
theorem iterPos_of {w : World} {k : Nat} {s : ByteArray} {p : Nat} (h : w.heap[k]? = some (.stringIter s p)) : w.iterPos k = p := by simp [World.iterPos, h]
theorem may_high (c : Int) (h : 128 ≤ c) : mayI c = false := by
  unfold mayI
  rw [decide_eq_false (by omega), decide_eq_false (by omega), decide_eq_false (by omega), decide_eq_false (by omega)]
  rfl
theorem all_take {l : List UInt8} {p : UInt8 → Bool} (h : (l.take l.length).all p = true) : l.all p = true := by rwa [List.take_length] at h
theorem take_next {l : List UInt8} {p : UInt8 → Bool} {i : Nat} {x : UInt8} (h : (l.take i).all p = true) (hx : l[i]? = some x) (hp : p x = true) : (l.take (i + 1)).all p = true := by
  rw [List.take_add_one, hx, List.all_append, h]
  simp [hp]
theorem not_all {l : List UInt8} {p : UInt8 → Bool} {i : Nat} {x : UInt8} (hx : l[i]? = some x) (hp : p x = false) : l.all p = false := by
  rw [List.all_eq_false]
  exact ⟨x, List.mem_of_getElem? hx, by rw [hp]; exact Bool.false_ne_true⟩
set_option maxHeartbeats 4000000 in
set_option maxRecDepth 100000 in
theorem Base_calls (s : ByteArray) (w : World) (hs : s.size ≤ 1000000) :
    Calls Tryd.prog 52 #[.string s] w fun e w' => e = .returned (.int .i64 (if baseB s = true then 0 else 190)) ∧ Below w.heap.size w w' := by
  unfold baseB
  by_cases a0 : s.size = 0
  · have h0 : s = ByteArray.empty := by
      cases s with
      | mk d => congr 1; exact Array.eq_empty_of_size_eq_zero a0
    subst h0
    go_enter Tryd.func52, Tryd.ntmps52
    go_wp2
    go_ret
    exact ⟨rfl, Below.refl _ _⟩
  have hemp : s.toList.isEmpty = false := by
    rw [ByteArray.toList_eq]
    cases hl : s.data.toList with
    | nil =>
      have : s.data.toList.length = 0 := by rw [hl]; rfl
      rw [Array.length_toList] at this
      exact absurd this a0
    | cons a l => rfl
  have a1 : 1 ≤ s.size := by omega
  rw [decide_eq_true a1]
  by_cases a2 : s.size ≤ 31
  case neg =>
    rw [decide_eq_false a2]
    have b1 : (31 : Int) < (s.size : Int) := by omega
    clear a1 a2 a0
    go_enter Tryd.func52, Tryd.ntmps52
    go_wp2
    go_ret
    exact ⟨rfl, Below.refl _ _⟩
  rw [decide_eq_true a2]
  have b1 : ¬ (31 : Int) < (s.size : Int) := by omega
  have hsz0 : 0 < s.size := by omega
  obtain ⟨x, hx⟩ : ∃ x : UInt8, s[0]'hsz0 = x := ⟨_, rfl⟩
  have hxl : s.data.toList.head? = some x := by
    rw [List.head?_eq_getElem?, ← hx]
    exact Lib.data_getElem? s 0 hsz0
  rw [hxl]
  by_cases a3 : x = 46
  · subst a3
    have b2 : (((46 : UInt8).toNat : Int) == 46) = true := by decide
    clear a0 a2 hxl
    go_enter Tryd.func52, Tryd.ntmps52
    go_wp2
    go_ret
    exact ⟨rfl, Below.refl _ _⟩
  have e3 : ((some x == some (46 : UInt8))) = false := by simpa using a3
  rw [e3]
  have b2 : ((x.toNat : Int) == 46) = false := beq_eq_false_iff_ne.2 fun h => a3 (UInt8.toNat_inj.1 (by show x.toNat = 46; omega))
  show Calls _ _ _ _ fun e w' => e = .returned (.int .i64 (if s.data.toList.all byteOK = true then 0 else 190)) ∧ Below w.heap.size w w'
  clear e3 a3 hxl a0 a2
  have hlen : s.data.toList.length = s.size := Array.length_toList
  obtain ⟨v, hv⟩ : ∃ v, (if s.data.toList.all byteOK = true then (0 : Int) else 190) = v := ⟨_, rfl⟩
  rw [hv]
  have HV : Aside ((if s.data.toList.all byteOK = true then (0 : Int) else 190) = v) := hv
  clear hv
  go_enter Tryd.func52, Tryd.ntmps52
  go_wp2
  go_loopw [4] (fun _ wx => ∃ i : Nat, wx.heap[w.heap.size]? = some (.stringIter s i) ∧ Below w.heap.size w wx ∧ i ≤ s.size ∧ Aside ((s.data.toList.take i).all byteOK = true)) (fun _ wx => s.size - wx.iterPos w.heap.size)
  case atStart => exact ⟨0, World.iter_heap w s 0, (Below.refl _ _).alloc (Nat.le_refl _) _, Nat.zero_le _, rfl⟩
  case round =>
    obtain ⟨i, hit, hbw, hle, HN⟩ := hrel
    have hpos0 := iterPos_of hit
    by_cases hp : i < s.size
    · obtain ⟨y, hy⟩ : ∃ y : UInt8, s[i]'hp = y := ⟨_, rfl⟩
      have hyl : s.data.toList[i]? = some y := by rw [← hy]; exact Lib.data_getElem? s i hp
      by_cases hy128 : y.toNat < 128
      · have hnx := fun ty => Lib.run_next_ascii_at (P := Tryd.prog) wr w.heap.size s i ty hit hp (by rw [hy]; exact hy128)
        rw [hy] at hnx
        have hit2 := Lib.iterAt_heap wr w.heap.size s i (i + 1) hit
        have hbw2 := Lib.below_iterAt hbw (k := w.heap.size) (Nat.le_refl _) s (i + 1)
        generalize wr.iterAt w.heap.size s (i + 1) = W1 at hnx hit2 hbw2
        have hlt1 : w.heap.size < W1.heap.size := (Array.getElem?_eq_some_iff.1 hit2).1
        have Hy : Aside (s.data.toList[i]? = some y) := hyl
        clear hyl hy
        cases hin : mayI (y.toNat : Int)
        · go_wp2_with (go_at_call 67; refine (may_calls _ _ (by omega) (by omega)).mono ?_; rintro e W2 ⟨rfl, hB2⟩; rw [hin]; have hbw3 : Below w.heap.size w W2 := hbw2.trans (hB2.mono (by omega)))
          go_ret
          refine ⟨?_, hbw3⟩
          have HV' : (if s.data.toList.all byteOK = true then (0 : Int) else 190) = v := HV
          have hb : byteOK y = false := by unfold byteOK; rw [hin, Bool.and_false]
          rw [not_all Hy hb, if_neg Bool.false_ne_true] at HV'
          rw [← HV']
          rfl
        · go_wp2_with (go_at_call 67; refine (may_calls _ _ (by omega) (by omega)).mono ?_; rintro e W2 ⟨rfl, hB2⟩; rw [hin]; have hit3 := (hB2.block w.heap.size hlt1).trans hit2; have hbw3 : Below w.heap.size w W2 := hbw2.trans (hB2.mono (by omega)))
          go_roundw
          case rel => exact ⟨i + 1, hit3, hbw3, by omega, take_next HN Hy (by unfold byteOK; rw [hin, Bool.and_true]; exact decide_eq_true hy128)⟩
          case measure => rw [iterPos_of hit3, hpos0]; omega
      · have hnx := fun ty => Lib.run_next_any_at (P := Tryd.prog) wr w.heap.size s i ty hit hp
        have hge128 : 128 ≤ (s[i]'hp).toNat := by rw [hy]; omega
        obtain ⟨hd1, hd2⟩ := decode_high s i hp hge128
        have hd3 := decode_le s i
        have hit2 := Lib.iterAt_heap wr w.heap.size s i (i + (Utf8.decode s i).2) hit
        have hbw2 := Lib.below_iterAt hbw (k := w.heap.size) (Nat.le_refl _) s (i + (Utf8.decode s i).2)
        generalize wr.iterAt w.heap.size s (i + (Utf8.decode s i).2) = W1 at hnx hit2 hbw2
        have hlt1 : w.heap.size < W1.heap.size := (Array.getElem?_eq_some_iff.1 hit2).1
        generalize (Utf8.decode s i).2 = dn at *
        generalize (Utf8.decode s i).1 = dr at *
        have hin := may_high (dr : Int) (by omega)
        have Hy : Aside (s.data.toList[i]? = some y) := hyl
        have Hb : Aside (byteOK y = false) := by
          show byteOK y = false
          unfold byteOK
          rw [decide_eq_false hy128, Bool.false_and]
        clear hyl hy hge128
        go_wp2_with (go_at_call 67; refine (may_calls _ _ (by omega) (by omega)).mono ?_; rintro e W2 ⟨rfl, hB2⟩; rw [hin]; have hbw3 : Below w.heap.size w W2 := hbw2.trans (hB2.mono (by omega)))
        go_ret
        refine ⟨?_, hbw3⟩
        have HV' : (if s.data.toList.all byteOK = true then (0 : Int) else 190) = v := HV
        rw [not_all Hy Hb, if_neg Bool.false_ne_true] at HV'
        rw [← HV']
        rfl
    · have hnx := fun ty => Lib.run_next_end_at (P := Tryd.prog) wr w.heap.size s i ty hit hp
      obtain rfl : i = s.size := by omega
      go_wp2
      go_ret
      refine ⟨?_, hbw⟩
      have HV' : (if s.data.toList.all byteOK = true then (0 : Int) else 190) = v := HV
      rw [if_pos (all_take (by rw [hlen]; exact HN))] at HV'
      rw [← HV']
      rfl
end Go.Proofs.YthnchdbkgenjhaaDoorX
