import Derived.Test.YtlcaogiljiieaaaProg
import Derived.Test.YtlcaogiljiieaaaShelf
import Derived.WalkKit
import Derived.WalkSpells
import Derived.Outline
import Derived.Lib.Hide
import Derived.Laws.Strings
import Derived.KernelRfl
import Derived.Laws.Runes
import Derived.Laws.RangeAny
import Derived.WalkMore
import Derived.BigQuiet
import Derived.Deep.QuietTactic
import Derived.Deep.LoopGhost
import Derived.Lib.OthersKept
set_option linter.unusedVariables false
/- internal/stringslite.Index at a text of one byte. -/
namespace Go.Proofs.YtlcaogiljiieaaaX
open Go.RowKit
set_option maxHeartbeats 1000000 in
set_option maxRecDepth 100000 in
theorem Index_one (s t : ByteArray) (w : World) (h1 : t.size = 1) :
    Calls Try.prog 90 #[.string s, .string t] w fun e w' => e = .returned (.int .i64 (Lib.indexByte s.data.toList (t[0]'(by omega)))) ∧ w' = w := by
  have hn0 : ((t.size : Int) == 0) = false := beq_eq_false_iff_ne.2 (by omega)
  have hn1 : ((t.size : Int) == 1) = true := beq_iff_eq.2 (by omega)
  have hlt : (0 : Int) < (t.size : Int) := by omega
  have hlt2 : 0 < t.size := by omega
  by_cases he : t.toList = s.toList
  · have hb : (t.toList == s.toList) = true := beq_iff_eq.2 he
    have hs : s.data.toList = [t[0]] := by
      rw [← ByteArray.toList_eq, ← he, ByteArray.toList_eq]
      have hl : t.data.toList.length = 1 := by rw [Array.length_toList]; exact h1
      obtain ⟨x, hx⟩ := List.length_eq_one_iff.1 hl
      have : t[0] = x := by
        show t.data[0] = x
        have e : t.data = #[x] := by rw [← Array.toArray_toList (xs := t.data), hx]
        simp [e]
      rw [hx, this]
    have hfin : Lib.indexByte s.data.toList (t[0]'(by omega)) = 0 := by rw [hs]; simp [Lib.indexByte]
    have HF := Lib.hid hfin
    clear hfin hs he
    go_enter Try.func90, Try.ntmps90
    go_wp2_with fail
    go_ret
    exact ⟨by rw [HF.out]; rfl, rfl⟩
  · have hb : (t.toList == s.toList) = false := beq_eq_false_iff_ne.2 he
    clear he
    go_enter Try.func90, Try.ntmps90
    go_wp2_with (go_at_call 102; refine (Try.stringslite_IndexByte _ _ _).mono ?_; rintro e w' ⟨rfl, rfl⟩)
    go_ret
    exact ⟨by simp, rfl⟩
end Go.Proofs.YtlcaogiljiieaaaX
/- strings.IndexRune, IndexAny, ContainsAny at the two bytes 0 and '/': the walks. -/
namespace Go.Proofs.YtlcaogiljiieaaaX
open Go.RowKit
/-- The two bytes. -/
def two : ByteArray := ⟨#[0, 47]⟩
theorem two_size : two.size = 2 := rfl
theorem two_list : two.data.toList = [0, 47] := rfl
theorem drew_below {B : Nat} {a w : World} (h : Below B a w) (n : Nat) : Below B a (w.drewN n) := h.trans ⟨rfl, rfl, rfl, Nat.le_refl _, fun _ _ => rfl⟩
set_option maxHeartbeats 2000000 in
set_option maxRecDepth 100000 in
theorem IndexRune_bad (w : World) :
    Calls Try.prog 116 #[.string two, .int .i32 65533] w fun e w' => e = .returned (.int .i64 (-1)) ∧ Below w.heap.size w w' := by
  go_enter Try.func116, Try.ntmps116
  go_wp2_with fail
  go_loopg [5, 6] 2 (fun g _ _ wx => ∃ i : Nat, i + g = 2 ∧ wx = w.iter two i)
  case atStart => exact ⟨0, by omega, rfl⟩
  case round =>
    obtain ⟨i, hig, rfl⟩ := hrel
    cases gk with
    | zero =>
      obtain rfl : i = 2 := by omega
      have hnx := fun ty => run_next_end (P := Try.prog) w two 2 ty (by decide)
      go_wp2
      go_ret
      exact ⟨rfl, (Below.refl _ _).alloc (Nat.le_refl _) _⟩
    | succ g =>
      have hi : i < two.size := by rw [two_size]; omega
      have hx : (two[i]'hi).toNat < 128 := by
        have : i = 0 ∨ i = 1 := by rw [two_size] at hi; omega
        rcases this with rfl | rfl
        · exact (by decide : (two[0]'(by decide)).toNat < 128)
        · exact (by decide : (two[1]'(by decide)).toNat < 128)
      have hnx := fun ty => run_next_ascii (P := Try.prog) w two i ty hi hx
      have hne : (((two[i]'hi).toNat : Int) == 65533) = false := beq_eq_false_iff_ne.2 (by omega)
      generalize (two[i]'hi).toNat = x at hnx hne
      clear hx
      go_wp2
      go_roundg g
      case measure => omega
      case rel => exact ⟨i + 1, by omega, rfl⟩
set_option maxHeartbeats 2000000 in
set_option maxRecDepth 100000 in
theorem IndexRune_none (r : Int) (w : World) (h0 : 128 ≤ r) (h1 : r ≤ 2147483647) :
    Calls Try.prog 116 #[.string two, .int .i32 r] w fun e w' => e = .returned (.int .i64 (-1)) ∧ Below w.heap.size w w' := by
  by_cases hb : r = 65533
  · subst hb; exact IndexRune_bad w
  have hne : (r == 65533) = false := beq_eq_false_iff_ne.2 hb
  have hlt : ¬ r < 128 := by omega
  have hge : 0 ≤ r := by omega
  clear hb
  cases hv : Lib.validRune r
  · go_enter Try.func116, Try.ntmps116
    go_wp2_with (go_at_call 121; refine (Try.utf8_ValidRune _ _).mono ?_; rintro e w' ⟨rfl, rfl⟩; rw [hv])
    go_ret
    exact ⟨rfl, Below.refl _ _⟩
  · obtain ⟨h2, h4, hl⟩ := encode_facts r (by rw [validRune_eq]; exact hv) h0
    obtain ⟨rs, hrs⟩ : ∃ rs, Utf8.encode r = rs := ⟨_, rfl⟩
    rw [hrs] at h2 h4 hl
    have hcv := fun W => run_convert_int_string (P := Try.prog) W 21 9 .i32 r (by kernel_rfl) Try.underlying9
    rw [hrs] at hcv
    have hsz : two.size = 2 := rfl
    have hw2 : IntKind.i64.wrap 2 = 2 := by decide
    have hib : ∀ c : UInt8, Lib.indexByte [] c = -1 := fun _ => rfl
    by_cases h22 : rs.size = 2
    · have hx := hl (by omega)
      have e1 : rs[rs.size - 1]'(by omega) = rs[1]'(by omega) := by congr 1; omega
      rw [e1] at hx
      have h48 : two[1] = 47 := rfl
      obtain ⟨x, hxe⟩ : ∃ x, rs[1]'(by omega) = x := ⟨_, rfl⟩
      rw [hxe] at hx
      clear hl e1
      have hne3 : ((47 : Int) != (x.toNat : Int)) = true := by rw [bne_iff_ne]; omega
      have hne2 : ((47 : Int) == (x.toNat : Int)) = false := beq_eq_false_iff_ne.2 (by omega)
      go_enter Try.func116, Try.ntmps116
      go_wp2_with (go_at_call 121; refine (Try.utf8_ValidRune _ _).mono ?_; rintro e w' ⟨rfl, rfl⟩; rw [hv])
      go_step3
      go_wp2
      go_loop [9] (fun i => i = .int .i64 1) (fun _ => 0)
      case atStart => simp
      case round =>
        subst hrel
        go_wp2
        go_step3
        go_wp2
        go_quiet (fail)
        have hB := drew_below (Below.refl w'.heap.size w') nq
        go_wp2
        generalize w'.drewN nq = W at hB ⊢
        go_quiet (first | (go_at_call 120; refine Calls.quiet_of_same (Try.strings_IndexByte _ _ _)))
        go_wp2
        simp (config := {zetaDelta := true}) only [Exit.noGoto, Exit.inBlock, Exit.then]
        go_ret
        exact ⟨rfl, drew_below hB _⟩
    · have hi : ¬ ((rs.size : Int) - 1 < 2) := by omega
      have hwr : IntKind.i64.wrap ((rs.size : Int) - 1) = (rs.size : Int) - 1 := by rw [IntKind.wrap_i64]; omega
      clear hl h22
      go_enter Try.func116, Try.ntmps116
      go_wp2_with (go_at_call 121; refine (Try.utf8_ValidRune _ _).mono ?_; rintro e w' ⟨rfl, rfl⟩; rw [hv])
      go_step3
      go_wp2
      go_loop [9] (fun i => i = .int .i64 ((rs.size : Int) - 1)) (fun _ => 0)
      case atStart => simp
      case round =>
        subst hrel
        go_wp2
        go_ret
        exact ⟨rfl, Below.refl _ _⟩
theorem get_of {s : ByteArray} {j : Nat} {b : UInt8} (h : s.data.toList[j]? = some b) : s.get! j = b ∧ j < s.size := by
  obtain ⟨hj, hb⟩ := List.getElem?_eq_some_iff.1 h
  rw [Array.length_toList] at hj
  have hj2 : j < s.size := hj
  refine ⟨?_, hj2⟩
  have := get_at s j hj2
  rw [Nat.add_zero] at this
  rw [this, ← hb]
  rfl
theorem decode_cov (s : ByteArray) (pos : Nat) (h : pos < s.size) (ha : 128 ≤ (s[pos]'h).toNat) :
    pos + (Utf8.decode s pos).2 ≤ s.size ∧ ∀ (j : Nat) b, pos ≤ j → j < pos + (Utf8.decode s pos).2 → s.data.toList[j]? = some b → 128 ≤ b.toNat := by
  have hn : ¬ (s[pos]'h).toNat < 128 := by omega
  have h0 : 128 ≤ (s.get! (pos + 0)).toNat := by rw [get_at s pos h]; exact ha
  have key : ∀ n : Nat, 1 ≤ n → (∀ k, 1 ≤ k → k < n → pos + k < s.size ∧ 128 ≤ (s.get! (pos + k)).toNat) →
      pos + n ≤ s.size ∧ ∀ (j : Nat) b, pos ≤ j → j < pos + n → s.data.toList[j]? = some b → 128 ≤ b.toNat := by
    intro n hn1 hk
    refine ⟨?_, ?_⟩
    · by_cases h1 : n = 1
      · omega
      · have := (hk (n - 1) (by omega) (by omega)).1; omega
    · intro j b h1 h2 h3
      obtain ⟨hg, hj⟩ := get_of h3
      by_cases hz : j = pos
      · subst hz; rw [← hg]; exact h0
      · have := (hk (j - pos) (by omega) (by omega)).2
        rw [show pos + (j - pos) = j by omega, hg] at this
        exact this
  simp only [Utf8.decode, get_at s pos h, hn, if_false]
  repeat' split
  all_goals refine key _ (by simp) ?_
  all_goals intro k hk1 hk2
  all_goals try dsimp only at hk2
  all_goals simp only [Bool.and_eq_true, decide_eq_true_eq, beq_iff_eq] at *
  all_goals have hk : k = 1 ∨ k = 2 ∨ k = 3 := by omega
  all_goals rcases hk with rfl | rfl | rfl
  all_goals first
    | omega
    | trace_state
theorem noAny_run {s chars : List UInt8} {i n : Nat} (h : Lib.NoAny s chars i) (hc : ∀ b : UInt8, 128 ≤ b.toNat → chars.contains b = false)
    (hr : ∀ (j : Nat) b, i ≤ j → j < i + n → s[j]? = some b → 128 ≤ b.toNat) : Lib.NoAny s chars (i + n) := fun j b hj hb => by
  by_cases hl : j < i
  · exact h j b hl hb
  · exact hc b (hr j b (by omega) hj hb)
theorem two_high (b : UInt8) (h : 128 ≤ b.toNat) : ([0, 47] : List UInt8).contains b = false := by
  have h0 : b ≠ 0 := fun e => by subst e; revert h; decide
  have h1 : b ≠ 47 := fun e => by subst e; revert h; decide
  simp [h0, h1]
theorem iterPos_of {w : World} {k : Nat} {s : ByteArray} {p : Nat} (h : w.heap[k]? = some (.stringIter s p)) : w.iterPos k = p := by simp [World.iterPos, h]
set_option maxHeartbeats 4000000 in
set_option maxRecDepth 100000 in
theorem IndexAny_short2 (s : ByteArray) (w : World) (h8 : s.size ≤ 8) :
    Calls Try.prog 115 #[.string s, .string two] w fun e w' => e = .returned (.int .i64 (Lib.indexAny s.data.toList two.data.toList)) ∧ Below w.heap.size w w' := by
  have hemp : two.toList.isEmpty = false := by rw [ByteArray.toList_eq]; rfl
  have hn1 : ((two.size : Int) == 1) = false := by decide
  have h8z : decide ((8 : Int) < (s.size : Int)) = false := decide_eq_false (by omega)
  go_enter Try.func115, Try.ntmps115
  go_wp2_with (go_at_call 117; refine (Try.strings_shouldUseASCIISet _ _).mono ?_; rintro e w' ⟨rfl, hw⟩; rw [hw, h8z])
  go_loopw [9] (fun _ wx => ∃ i : Nat, wx.heap[w.heap.size]? = some (.stringIter s i) ∧ Below w.heap.size w wx ∧ i ≤ s.size ∧ Lib.NoAny s.data.toList two.data.toList i) (fun _ wx => s.size - wx.iterPos w.heap.size)
  case atStart => exact ⟨0, World.iter_heap w s 0, (Below.refl _ _).alloc (Nat.le_refl _) _, Nat.zero_le _, Lib.NoAny.zero _ _⟩
  case round =>
    obtain ⟨i, hit, hbw, hle, hno⟩ := hrel
    have hpos0 := iterPos_of hit
    have HN : Aside (Lib.NoAny s.data.toList two.data.toList i) := hno
    clear hno
    by_cases hp : i < s.size
    · obtain ⟨x, hx⟩ : ∃ x : UInt8, s[i]'hp = x := ⟨_, rfl⟩
      have hxl : s.data.toList[i]? = some x := by rw [← hx]; exact Lib.data_getElem? s i hp
      by_cases hx128 : x.toNat < 128
      · have hnx := fun ty => Lib.run_next_ascii_at (P := Try.prog) wr w.heap.size s i ty hit hp (by rw [hx]; exact hx128)
        rw [hx] at hnx
        have hit2 := Lib.iterAt_heap wr w.heap.size s i (i + 1) hit
        have hbw2 := Lib.below_iterAt hbw (k := w.heap.size) (Nat.le_refl _) s (i + 1)
        generalize wr.iterAt w.heap.size s (i + 1) = W1 at hnx hit2 hbw2
        have Hx : Aside (s.data.toList[i]? = some x) := hxl
        clear hxl hx
        have hcon := Lib.contains_iff_indexByte two.data.toList x
        have hback : ((x.toNat : Int)).toNat.toUInt8 = x := by simp
        cases hin : two.data.toList.contains x
        · rw [hin] at hcon
          have hlt : ¬ ((0 : Int) ≤ Lib.indexByte two.data.toList x) := of_decide_eq_false hcon.symm
          clear hcon
          go_wp2_with (go_at_call 116; refine (Try.strings_IndexRune_ascii _ _ _ (by omega) (by omega)).mono ?_; rintro e w' ⟨rfl, hw⟩; rw [hw, hback])
          go_roundw
          case rel => exact ⟨i + 1, hit2, hbw2, by omega, HN.out.succ Hx.out hin⟩
          case measure => rw [iterPos_of hit2, hpos0]; omega
        · rw [hin] at hcon
          have hge : (0 : Int) ≤ Lib.indexByte two.data.toList x := of_decide_eq_true hcon.symm
          clear hcon
          go_wp2_with (go_at_call 116; refine (Try.strings_IndexRune_ascii _ _ _ (by omega) (by omega)).mono ?_; rintro e w' ⟨rfl, hw⟩; rw [hw, hback])
          go_ret
          exact ⟨by rw [Lib.indexAny_hit HN.out Hx.out hin]; rfl, hbw2⟩
      · have hnx := fun ty => Lib.run_next_any_at (P := Try.prog) wr w.heap.size s i ty hit hp
        have hge128 : 128 ≤ (s[i]'hp).toNat := by rw [hx]; omega
        obtain ⟨hd1, hd2⟩ := decode_high s i hp hge128
        have hd3 := decode_le s i
        obtain ⟨hd4, hd5⟩ := decode_cov s i hp hge128
        have HN2 : Aside (Lib.NoAny s.data.toList two.data.toList (i + (Utf8.decode s i).2)) := noAny_run HN.out two_high hd5
        have hit2 := Lib.iterAt_heap wr w.heap.size s i (i + (Utf8.decode s i).2) hit
        have hbw2 := Lib.below_iterAt hbw (k := w.heap.size) (Nat.le_refl _) s (i + (Utf8.decode s i).2)
        generalize wr.iterAt w.heap.size s (i + (Utf8.decode s i).2) = W1 at hnx hit2 hbw2
        have hlt1 : w.heap.size < W1.heap.size := (Array.getElem?_eq_some_iff.1 hit2).1
        generalize (Utf8.decode s i).2 = dn at *
        generalize (Utf8.decode s i).1 = dr at *
        clear hxl hx hd5 hge128
        go_wp2_with (go_at_call 116; refine (IndexRune_none _ _ (by omega) (by omega)).mono ?_; rintro e W2 ⟨rfl, hB2⟩; have hit3 := (hB2.block w.heap.size hlt1).trans hit2; have hbw3 : Below w.heap.size w W2 := hbw2.trans (hB2.mono (by omega)))
        go_roundw
        case rel => exact ⟨i + dn, hit3, hbw3, hd4, HN2.out⟩
        case measure => rw [iterPos_of hit3, hpos0]; omega
    · have hnx := fun ty => Lib.run_next_end_at (P := Try.prog) wr w.heap.size s i ty hit hp
      obtain rfl : i = s.size := by omega
      go_wp2
      go_ret
      exact ⟨by rw [Lib.indexAny_none (by rw [← Lib.size_eq]; exact HN.out)]; rfl, hbw⟩
theorem zero_set : (∀ w, (zeroValue 123).run Try.prog w = .ok (.agg (Array.replicate 256 (.bool false))) w) ∧ (Try.prog.info? 123).map (·.size) = some 256 :=
  zero_of_info (P := Try.prog) (by kernel_rfl)
theorem IndexAny_two (s : ByteArray) (w : World) (hs : s.size ≤ 1000000) :
    Calls Try.prog 115 #[.string s, .string two] w fun e w' => e = .returned (.int .i64 (Lib.indexAny s.data.toList two.data.toList)) ∧ Below w.heap.size w w' := by
  by_cases h8 : s.size ≤ 8
  · exact IndexAny_short2 s w h8
  · refine (Any.strings_IndexAny_long Try.lays153 zero_set.1 zero_set.2 s two w (by decide) (by omega) (by omega) (by decide) ?_).mono ?_
    · intro j b hb
      rw [two_list] at hb
      have hm : b ∈ ([0, 47] : List UInt8) := List.mem_of_getElem? hb
      have : b = 0 ∨ b = 47 := by simpa using hm
      rcases this with rfl | rfl <;> decide
    · rintro e w' ⟨he, rfl⟩
      exact ⟨he, ((Below.refl _ _).alloc (Nat.le_refl _) _).alloc (by simp) _⟩
set_option maxHeartbeats 1000000 in
set_option maxRecDepth 100000 in
theorem ContainsAny_two (s : ByteArray) (w : World) (hs : s.size ≤ 1000000) :
    Calls Try.prog 114 #[.string s, .string two] w fun e w' => e = .returned (.bool (Lib.containsAny s.data.toList two.data.toList)) ∧ Below w.heap.size w w' := by
  go_enter Try.func114, Try.ntmps114
  go_wp2_with (go_at_call 115; refine (IndexAny_two _ _ hs).mono ?_; rintro e w' ⟨rfl, hw⟩)
  go_ret
  exact ⟨rfl, hw⟩
end Go.Proofs.YtlcaogiljiieaaaX
