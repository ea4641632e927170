/- node.Place: cmp.Compare at texts, the closure, slices.BinarySearchFunc at pairs whose keys part at one place. -/
import Derived.Test.YtjhenmegcgnkgaaNodeStr
import Derived.Test.YtjhenmegcgnkgaaNodeLeaf
set_option linter.unusedVariables false
set_option linter.unusedSimpArgs false
namespace Go.Proofs.YtjhenmegcgnkgaaX
open Go.RowKit Go.Proofs.YtjhenmegcgnkgaaW.PrintWords Go.Proofs.YtjhenmegcgnkgaaW.PrintLast Go.Proofs.YtjhenmegcgnkgaaW.PrintMore

def lessB (a b : ByteArray) : Bool := Op.bytesLess a.toList b.toList
def cmpS (a b : ByteArray) : Int := if lessB a b = true then -1 else if lessB b a = true then 1 else 0
theorem isNaN_calls (a : ByteArray) (w : World) : Calls Try.prog 43 #[.string a] w fun e w' => e = .returned (.bool false) ∧ w' = w := by
  go_enter Try.func43, Try.ntmps43
  go_wp2
  go_ret
  exact ⟨by simp, rfl⟩
theorem compare_calls (a b : ByteArray) (w : World) : Calls Try.prog 33 #[.string a, .string b] w fun e w' => e = .returned (.int .i64 (cmpS a b)) ∧ w' = w := by
  have hgt := str_gtr
  obtain ⟨code, hcode⟩ : ∃ c, c = cmpS a b := ⟨_, rfl⟩
  rw [← hcode]
  have HC := Aside0.mk hcode
  clear hcode
  go_enter Try.func33, Try.ntmps33
  cases h1 : Op.bytesLess a.toList b.toList
  · cases h2 : Op.bytesLess b.toList a.toList
    · go_wp2_with (go_at_call 43; refine (isNaN_calls _ _).mono ?_; rintro e w' ⟨rfl, rfl⟩)
      go_ret
      exact ⟨by rw [HC.out]; simp [cmpS, lessB, h1, h2], rfl⟩
    · go_wp2_with (go_at_call 43; refine (isNaN_calls _ _).mono ?_; rintro e w' ⟨rfl, rfl⟩)
      go_ret
      exact ⟨by rw [HC.out]; simp [cmpS, lessB, h1, h2], rfl⟩
  · go_wp2_with (go_at_call 43; refine (isNaN_calls _ _).mono ?_; rintro e w' ⟨rfl, rfl⟩)
    go_ret
    exact ⟨by rw [HC.out]; simp [cmpS, lessB, h1], rfl⟩
theorem one_calls (a v key : ByteArray) (w : World) : Calls Try.prog 32 #[.agg #[.string a, .string v], .string key] w fun e w' => e = .returned (.int .i64 (cmpS a key)) ∧ Below w.heap.size w w' := by
  go_enter Try.func32, Try.ntmps32
  go_wp2_with (first
    | ((with_reducible refine gate_dst (N := 2) rfl ?_); refine box_event ?hg (N := 2) ?hd (cs := #[.string a, .string v]) (t := 42) ?hr ?_; (case hd => rfl); (case hg => rfl); (case hr => first | (go_simp; done) | (go_simp; rfl)); intro b hb0 W0 hbx hbb; have BB0 := Aside0.mk hbb; have s0 : W0.cell? ⟨b, 0, none⟩ = some (.string a) := (blk_cell hbx 0).trans rfl; clear hbx hbb hb0)
    | (go_at_call 33; refine (compare_calls _ _ _).mono ?_; rintro e w' ⟨rfl, rfl⟩))
  go_ret
  exact ⟨rfl, BB0.out⟩
theorem cmp_neg (a b : ByteArray) : decide (cmpS a b < 0) = lessB a b := by
  unfold cmpS
  cases lessB a b
  · cases lessB b a <;> simp
  · simp

theorem mid_facts (x y n : Int) (h0 : 0 ≤ x) (hlt : x < y) (hj : y ≤ n) (hn : n ≤ 1000000) : ∃ h : Int, x ≤ h ∧ h < y ∧ wrap64 ((IntKind.u64.wrap (wrap64 (x + y))) / 2) = h ∧ IntKind.i64.wrap ((IntKind.u64.wrap (wrap64 (x + y))) / 2) = h ∧ wrap64 (h + 1) = h + 1 := by
  have e1 : wrap64 (x + y) = x + y := w64 (by omega) (by omega)
  have e2 : IntKind.u64.wrap (x + y) = x + y := by rw [IntKind.wrap_u64]; omega
  have e3 : wrap64 ((x + y) / 2) = (x + y) / 2 := w64 (by omega) (by omega)
  refine ⟨(x + y) / 2, by omega, by omega, ?_, ?_, w64 (by omega) (by omega)⟩
  · rw [e1, e2, e3]
  · rw [e1, e2]
    exact (i64_w _).trans e3

theorem pairs_at {w W : World} {A : Option Addr} {ps : List (ByteArray × ByteArray)} (hP : PairsAt w A ps) (hb : Below w.heap.size w W) (h : Nat) (hh : h < ps.length) : ∃ ad, A = some ad ∧ W.cell? (ad.add (h * 2)) = some (.string ps[h].1) ∧ W.cell? { block := (ad.add (h * 2)).block, off := (ad.add (h * 2)).off + 1 } = some (.string ps[h].2) := by
  obtain ⟨ad, hA, q0, q1⟩ := hP h hh
  have r0 := (hb.cell (p := ad.add (h * 2)) (cell_lt q0)).trans q0
  have r1 := (hb.cell (p := ad.add (h * 2 + 1)) (cell_lt q1)).trans q1
  exact ⟨ad, hA, r0, (congrArg W.cell? (addr_next ad (h * 2))).trans r1⟩

set_option maxHeartbeats 4000000 in
set_option maxRecDepth 100000 in
theorem bsearch_calls (A : Option Addr) (c : Nat) (ps : List (ByteArray × ByteArray)) (key : ByteArray) (w : World) (hP0 : PairsAt w A ps) (hp : ps.length ≤ c) (hpb : ps.length ≤ 1000000)
    (i0 : Nat) (hi0 : i0 ≤ ps.length) (hl0 : ∀ (m : Nat) (h : m < ps.length), lessB ps[m].1 key = decide (m < i0)) (found : Bool) (hf0 : ∀ h : i0 < ps.length, (cmpS ps[i0].1 key == 0) = found) (hf1 : ps.length ≤ i0 → found = false) :
    Calls Try.prog 31 #[.slice A ps.length c, .string key, .func (.func 32) #[] #[]] w fun e w' => e = .returned (.tuple #[.int .i64 i0, .bool found]) ∧ Below w.heap.size w w' := by
  have hP := Aside0.mk hP0
  have hL := Aside0.mk hl0
  have hF0 := Aside0.mk hf0
  have hF1 := Aside0.mk hf1
  have hI := Aside0.mk hi0
  have hB := Aside0.mk hpb
  obtain ⟨z, hz⟩ : ∃ z : Int, z = (i0 : Int) := ⟨_, rfl⟩
  have HZ := Aside0.mk hz
  rw [← hz]
  clear hP0 hl0 hf0 hf1 hi0 hpb hz
  go_enter Try.func31, Try.ntmps31
  go_wp2
  go_loopw [9, 10, 11, 15, 16, 17, 18, 19, 20, 21, 22, 23, 24, 25, 26, 27, 28, 29, 30, 31, 32, 33, 34] (fun v9 v10 _ _ _ _ _ _ _ _ _ _ _ _ _ _ _ _ _ _ _ _ _ wx => ∃ x y : Int, v9 = .int .i64 x ∧ v10 = .int .i64 y ∧ Aside0 (0 ≤ x ∧ x ≤ z ∧ z ≤ y ∧ y ≤ ps.length) ∧ Aside0 (Below w.heap.size w wx)) (fun v9 v10 _ _ _ _ _ _ _ _ _ _ _ _ _ _ _ _ _ _ _ _ _ wx => (intOf v10).toNat - (intOf v9).toNat)
  case atStart => exact ⟨0, ps.length, rfl, rfl, ⟨by have := HZ.out; have := hI.out; omega⟩, ⟨Below.refl _ _⟩⟩
  case round =>
    obtain ⟨x, y, rfl, rfl, HX, HBB⟩ := hrel
    by_cases hlt : x < y
    · have hd : decide (x < y) = true := decide_eq_true hlt
      obtain ⟨h, hh1, hh2, w1, w2, w5⟩ := mid_facts x y ps.length HX.out.1 hlt HX.out.2.2.2 (by have := hB.out; omega)
      have hh0 : 0 ≤ h := by have := HX.out.1; omega
      have hhl : h < (ps.length : Int) := by have := HX.out.2.2.2; omega
      have hhn : h.toNat < ps.length := by omega
      obtain ⟨ad, hA, r0, r2⟩ := pairs_at hP.out HBB.out h.toNat hhn
      obtain ⟨K, hKe⟩ : ∃ K, ps[h.toNat].1 = K := ⟨_, rfl⟩
      obtain ⟨V, hVe⟩ : ∃ V, ps[h.toNat].2 = V := ⟨_, rfl⟩
      rw [hKe] at r0
      rw [hVe] at r2
      have hle := hL.out h.toNat hhn
      rw [hKe] at hle
      have hcn := (cmp_neg K key).trans hle
      have H12 := Aside0.mk (And.intro hh1 hh2)
      have p0 := eq_true hh0
      have p1 := eq_true hhl
      have pd0 : decide (0 ≤ h) = true := decide_eq_true hh0
      have pd1 : decide (h < (ps.length : Int)) = true := decide_eq_true hhl
      have HIT := Aside0.mk (And.intro hh0 hhl)
      subst hA
      clear hKe hVe hle hh1 hh2 hh0 hhl hhn hlt
      by_cases hlo : h.toNat < i0
      · have HLO := Aside0.mk hlo
        rw [decide_eq_true hlo] at hcn
        clear hlo
        go_wp2_with (go_at_call 32; refine (one_calls _ _ _ _).mono ?_; rintro e W1 ⟨rfl, h4⟩; have HB1 := Aside0.mk (below_step HBB.out h4); clear h4)
        go_roundw
        case rel => exact ⟨h + 1, y, by first | rfl | (rw [w5]), rfl, ⟨by have := HX.out; have := H12.out; have := HLO.out; have := HZ.out; omega⟩, HB1⟩
        case measure => have h1_ := H12.out; have h2_ := HIT.out; simp [intOf]; omega
      · have HLO := Aside0.mk hlo
        rw [decide_eq_false hlo] at hcn
        clear hlo
        go_wp2_with (go_at_call 32; refine (one_calls _ _ _ _).mono ?_; rintro e W1 ⟨rfl, h4⟩; have HB1 := Aside0.mk (below_step HBB.out h4); clear h4)
        go_roundw
        case rel => exact ⟨x, h, rfl, rfl, ⟨by have := HX.out; have := H12.out; have := HLO.out; have := HZ.out; have := HIT.out; omega⟩, HB1⟩
        case measure => have h1_ := H12.out; have h2_ := HIT.out; have h3_ := HX.out; simp [intOf]; omega
    · have hd : decide (x < y) = false := decide_eq_false hlt
      have hxz : x = z := by have := HX.out; omega
      subst hxz
      by_cases hin : i0 < ps.length
      · have hx0 : 0 ≤ x := HX.out.1
        have hx1 : x < (ps.length : Int) := by have := HZ.out; omega
        have hd2 : decide (x < (ps.length : Int)) = true := decide_eq_true hx1
        have hd3 : decide (0 ≤ x) = true := decide_eq_true hx0
        have p0 := eq_true hx0
        have p1 := eq_true hx1
        have hxn : x.toNat = i0 := by have := HZ.out; omega
        obtain ⟨ad, hA, r0, r2⟩ := pairs_at hP.out HBB.out i0 hin
        obtain ⟨K, hKe⟩ : ∃ K, ps[i0].1 = K := ⟨_, rfl⟩
        obtain ⟨V, hVe⟩ : ∃ V, ps[i0].2 = V := ⟨_, rfl⟩
        rw [hKe, ← hxn] at r0
        rw [hVe, ← hxn] at r2
        have hff := hF0.out hin
        rw [hKe] at hff
        subst hA
        clear hKe hVe hx0 hx1 hxn hlt hin
        go_wp2_with (go_at_call 32; refine (one_calls _ _ _ _).mono ?_; rintro e W1 ⟨rfl, h4⟩; have HB1 := Aside0.mk (below_step HBB.out h4); clear h4)
        go_ret2
        exact ⟨rfl, HB1.out⟩
      · have hd2 : decide (x < (ps.length : Int)) = false := decide_eq_false (by have := HZ.out; omega)
        have hff := hF1.out (by omega)
        subst hff
        clear hlt hin
        go_wp2
        go_ret2
        exact ⟨rfl, HBB.out⟩

/-! where a row parts -/
def headIs (c : ByteArray → Bool) : List ByteArray → Bool
  | [] => false
  | x :: _ => c x
theorem place_parts (p : ByteArray → Bool) : ∀ (ks : List ByteArray), (ks.dropWhile p).all (fun x => !p x) = true → ∀ (m : Nat) (h : m < ks.length), p ks[m] = decide (m < (ks.takeWhile p).length)
  | [], _, m, h => absurd h (Nat.not_lt_zero m)
  | a :: l, hok, m, h => by
    by_cases ha : p a = true
    · have e1 : (a :: l).takeWhile p = a :: l.takeWhile p := by simp [ha]
      have e2 : (a :: l).dropWhile p = l.dropWhile p := by simp [ha]
      rw [e2] at hok
      rw [e1]
      match m, h with
      | 0, _ => simp [ha]
      | m + 1, h =>
        have := place_parts p l hok m (by simpa using h)
        simpa using this
    · have e1 : (a :: l).takeWhile p = [] := by simp [ha]
      have e2 : (a :: l).dropWhile p = a :: l := by simp [ha]
      rw [e2] at hok
      rw [e1]
      have := List.all_eq_true.1 hok _ (List.getElem_mem h)
      simpa using this
theorem place_found (p c : ByteArray → Bool) : ∀ (ks : List ByteArray), (∀ (n : Nat) (h : n < ks.length), n = (ks.takeWhile p).length → c ks[n] = headIs c (ks.dropWhile p)) ∧ (ks.length ≤ (ks.takeWhile p).length → headIs c (ks.dropWhile p) = false)
  | [] => ⟨fun n h _ => absurd h (Nat.not_lt_zero n), fun _ => rfl⟩
  | a :: l => by
    by_cases ha : p a = true
    · have e1 : (a :: l).takeWhile p = a :: l.takeWhile p := by simp [ha]
      have e2 : (a :: l).dropWhile p = l.dropWhile p := by simp [ha]
      rw [e1, e2]
      have ih := place_found p c l
      refine ⟨fun n h hn => ?_, fun h => ih.2 (by simpa using h)⟩
      match n, h, hn with
      | n + 1, h, hn => exact ih.1 n (by simpa using h) (by simpa using hn)
    · have e1 : (a :: l).takeWhile p = [] := by simp [ha]
      have e2 : (a :: l).dropWhile p = a :: l := by simp [ha]
      rw [e1, e2]
      refine ⟨fun n h hn => ?_, fun h => by simp at h⟩
      have : n = 0 := hn
      subst this
      rfl
theorem takeWhile_le (p : ByteArray → Bool) : ∀ (ks : List ByteArray), (ks.takeWhile p).length ≤ ks.length
  | [] => Nat.le_refl _
  | a :: l => by
    by_cases ha : p a = true
    · have e1 : (a :: l).takeWhile p = a :: l.takeWhile p := by simp [ha]
      rw [e1]
      exact Nat.succ_le_succ (takeWhile_le p l)
    · have e1 : (a :: l).takeWhile p = [] := by simp [ha]
      rw [e1]
      exact Nat.zero_le _

/-- node.Place of a leaf; of another node. -/
theorem place_leaf (A1 : Option Addr) (n1 c1 : Nat) (A2 : Option Addr) (n2 c2 : Nat) (A3 : Option Addr) (n3 c3 : Nat) (key : ByteArray) (w : World) (r : Int) (is : Bool)
    (h : ∀ W, Below w.heap.size w W → Calls Try.prog 31 #[.slice A1 n1 c1, .string key, .func (.func 32) #[] #[]] W fun e w' => e = .returned (.tuple #[.int .i64 r, .bool is]) ∧ Below W.heap.size W w') :
    Calls Try.prog 19 #[nodeV true A1 n1 c1 A2 n2 c2 A3 n3 c3, .string key] w fun e w' => e = .returned (.tuple #[.int .i64 r, .bool is]) ∧ Below w.heap.size w w' := by
  unfold nodeV
  go_enter Try.func19, Try.ntmps19
  go_wp2_with (first
    | ((with_reducible refine gate_dst (N := 2) rfl ?_); refine box_event ?hg (N := 2) ?hd (cs := #[.bool true, .slice A1 n1 c1, .slice A2 n2 c2, .slice A3 n3 c3]) (t := 26) ?hr ?_; (case hd => rfl); (case hg => rfl); (case hr => first | (go_simp; done) | (go_simp; rfl)); intro b hb0 W0 hbx hbb; have BB0 := Aside0.mk hbb; have s0 : W0.cell? ⟨b, 0, none⟩ = some (.bool true) := (blk_cell hbx 0).trans rfl; have s1 : W0.cell? ⟨b, 1, none⟩ = some (.slice A1 n1 c1) := (blk_cell hbx 1).trans rfl; clear hbx hbb hb0)
    | (go_at_call 31; refine (h _ BB0.out).mono ?_; rintro e W1 ⟨rfl, h4⟩; have HB1 := Aside0.mk (below_step BB0.out h4); clear h4))
  go_ret2
  exact ⟨rfl, HB1.out⟩
theorem place_inner (A1 : Option Addr) (n1 c1 : Nat) (A2 : Option Addr) (n2 c2 : Nat) (A3 : Option Addr) (n3 c3 : Nat) (key : ByteArray) (w : World) (r : Int) (is : Bool)
    (h : ∀ W, Below w.heap.size w W → Calls Try.prog 34 #[.slice A2 n2 c2, .string key] W fun e w' => e = .returned (.tuple #[.int .i64 r, .bool is]) ∧ Below W.heap.size W w') :
    Calls Try.prog 19 #[nodeV false A1 n1 c1 A2 n2 c2 A3 n3 c3, .string key] w fun e w' => e = .returned (.tuple #[.int .i64 (if is = true then wrap64 (r + 1) else r), .bool is]) ∧ Below w.heap.size w w' := by
  unfold nodeV
  cases is
  · go_enter Try.func19, Try.ntmps19
    go_wp2_with (first
      | ((with_reducible refine gate_dst (N := 2) rfl ?_); refine box_event ?hg (N := 2) ?hd (cs := #[.bool false, .slice A1 n1 c1, .slice A2 n2 c2, .slice A3 n3 c3]) (t := 26) ?hr ?_; (case hd => rfl); (case hg => rfl); (case hr => first | (go_simp; done) | (go_simp; rfl)); intro b hb0 W0 hbx hbb; have BB0 := Aside0.mk hbb; have s0 : W0.cell? ⟨b, 0, none⟩ = some (.bool false) := (blk_cell hbx 0).trans rfl; have s1 : W0.cell? ⟨b, 2, none⟩ = some (.slice A2 n2 c2) := (blk_cell hbx 2).trans rfl; clear hbx hbb hb0)
      | (go_at_call 34; refine (h _ BB0.out).mono ?_; rintro e W1 ⟨rfl, h4⟩; have HB1 := Aside0.mk (below_step BB0.out h4); clear h4))
    go_ret2
    exact ⟨rfl, HB1.out⟩
  · go_enter Try.func19, Try.ntmps19
    go_wp2_with (first
      | ((with_reducible refine gate_dst (N := 2) rfl ?_); refine box_event ?hg (N := 2) ?hd (cs := #[.bool false, .slice A1 n1 c1, .slice A2 n2 c2, .slice A3 n3 c3]) (t := 26) ?hr ?_; (case hd => rfl); (case hg => rfl); (case hr => first | (go_simp; done) | (go_simp; rfl)); intro b hb0 W0 hbx hbb; have BB0 := Aside0.mk hbb; have s0 : W0.cell? ⟨b, 0, none⟩ = some (.bool false) := (blk_cell hbx 0).trans rfl; have s1 : W0.cell? ⟨b, 2, none⟩ = some (.slice A2 n2 c2) := (blk_cell hbx 2).trans rfl; clear hbx hbb hb0)
      | (go_at_call 34; refine (h _ BB0.out).mono ?_; rintro e W1 ⟨rfl, h4⟩; have HB1 := Aside0.mk (below_step BB0.out h4); clear h4))
    go_ret2
    exact ⟨rfl, HB1.out⟩
end Go.Proofs.YtjhenmegcgnkgaaX
