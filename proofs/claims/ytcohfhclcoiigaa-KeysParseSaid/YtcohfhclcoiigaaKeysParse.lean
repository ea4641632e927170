/- keys.Parse: the walk, over what Cut and Bytes answer. -/
import Derived.Test.YtcohfhclcoiigaaKeysCheck
import Derived.Test.YtcohfhclcoiigaaKeysValue
import Derived.OrdersHeld
import Derived.Deep.RegionHeld3
import Derived.Deep.DeepCutAuto
import Derived.Deep.Draws
import Derived.Test.YtcohfhclcoiigaaWWords
import Derived.Test.YtcohfhclcoiigaaWLast
import Derived.Test.YtcohfhclcoiigaaWMore
import Derived.Test.YtcohfhclcoiigaaWTab
set_option linter.unusedVariables false
set_option linter.unusedSimpArgs false
namespace Go.Proofs.YtcohfhclcoiigaaX
open Go.RowKit Go.Proofs.YtcohfhclcoiigaaW.PrintWords Go.Proofs.YtcohfhclcoiigaaW.PrintLast Go.Proofs.YtcohfhclcoiigaaW.PrintMore

def CutIs (a c1 c2 : ByteArray) (c3 : Bool) : Prop := ∀ W : World, Calls Try.prog 31 #[.string a, .string ⟨#[0]⟩] W fun e w' => e = .returned (.tuple #[.string c1, .string c2, .bool c3]) ∧ Below W.heap.size W w'
def BytesIs (k : Int) (A B : ByteArray) (N M : Int) (b : ByteArray) (eo : Int) : Prop := ∀ W : World, Calls Try.prog 11 #[.agg #[.int .i64 k, .string A, .string B, .int .i64 N, .int .i64 M]] W fun e w' => e = .returned (.tuple #[.string b, .int .i64 eo]) ∧ Below W.heap.size W w'

/-- Two boxes, one behind the other. -/
structure Two (W : World) (b : Nat) (r k : Array Value) : Prop where
  r : W.heap[b]? = some (.cells r 23)
  k : W.heap[b + 1]? = some (.cells k 23)
section
variable {W W' : World} {b : Nat} {r k : Array Value}
theorem Two.below (h : Two W b r k) (hB : Below W.heap.size W W') : Two W' b r k := ⟨(hB.block _ (lt_of_block h.r)).trans h.r, (hB.block _ (lt_of_block h.k)).trans h.k⟩
theorem Two.setK (h : Two W b r k) (i : Nat) (v : Value) : Two (W.setCell ⟨b + 1, i, none⟩ v) b r (k.setIfInBounds i v) :=
  ⟨by rw [Below.heap_setCell _ _ _ _ (by show b ≠ b + 1; omega)]; exact h.r, heap_set h.k i v⟩
theorem Two.setR (h : Two W b r k) (i : Nat) (v : Value) : Two (W.setCell ⟨b, i, none⟩ v) b (r.setIfInBounds i v) k :=
  ⟨heap_set h.r i v, by rw [Below.heap_setCell _ _ _ _ (by show b + 1 ≠ b; omega)]; exact h.k⟩
theorem Two.lt (h : Two W b r k) : b ≤ W.heap.size := by have := lt_of_block h.r; omega
theorem two0 (w : World) (r k : Array Value) : Two ((w.alloc (.cells r 23)).alloc (.cells k 23)) w.heap.size r k := by
  have hn : ∀ (w : World) (o : Obj), (w.alloc o).heap[w.heap.size]? = some o := fun w o => by
    show (w.heap.push o)[w.heap.size]? = _
    simp
  have hs : ∀ (w : World) (o : Obj), (w.alloc o).heap.size = w.heap.size + 1 := fun w o => by
    show (w.heap.push o).size = _
    simp
  refine ⟨?_, ?_⟩
  · rw [Below.heap_alloc _ _ _ (by rw [hs]; omega)]
    exact hn _ _
  · rw [← hs w (.cells r 23)]
    exact hn _ _
structure TSeen (W : World) (b : Nat) (r0 r1 r2 r3 r4 k0 k1 k2 k3 k4 : Value) : Prop where
  r0 : W.cell? ⟨b, 0, none⟩ = some r0
  r1 : W.cell? ⟨b, 1, none⟩ = some r1
  r2 : W.cell? ⟨b, 2, none⟩ = some r2
  r3 : W.cell? ⟨b, 3, none⟩ = some r3
  r4 : W.cell? ⟨b, 4, none⟩ = some r4
  k0 : W.cell? ⟨b + 1, 0, none⟩ = some k0
  k1 : W.cell? ⟨b + 1, 1, none⟩ = some k1
  k2 : W.cell? ⟨b + 1, 2, none⟩ = some k2
  k3 : W.cell? ⟨b + 1, 3, none⟩ = some k3
  k4 : W.cell? ⟨b + 1, 4, none⟩ = some k4
  fk : ∀ i, W.frozen? ⟨b + 1, i, none⟩ = false
  fr : ∀ i, W.frozen? ⟨b, i, none⟩ = false
theorem Two.seen {r0 r1 r2 r3 r4 k0 k1 k2 k3 k4 : Value} (h : Two W b #[r0, r1, r2, r3, r4] #[k0, k1, k2, k3, k4]) : TSeen W b r0 r1 r2 r3 r4 k0 k1 k2 k3 k4 := by
  obtain ⟨h1, h2⟩ := h
  constructor
  all_goals first
    | (simp [World.cell?, h2]; done)
    | (simp [World.cell?, h1]; done)
    | (intro i; simp [World.frozen?, h2]; done)
    | (intro i; simp [World.frozen?, h1]; done)
theorem setR5 {w W : World} {b : Nat} (h : Below b w W) (v0 v1 v2 v3 v4 : Value) :
    Below b w (((((W.setCell ⟨b, 0, none⟩ v0).setCell ⟨b, 1, none⟩ v1).setCell ⟨b, 2, none⟩ v2).setCell ⟨b, 3, none⟩ v3).setCell ⟨b, 4, none⟩ v4) :=
  ((((h.setCell (Nat.le_refl _) _).setCell (Nat.le_refl _) _).setCell (Nat.le_refl _) _).setCell (Nat.le_refl _) _).setCell (Nat.le_refl _) _
theorem setK1 {w W : World} {b : Nat} (h : Below b w W) (i : Nat) (v : Value) : Below b w (W.setCell ⟨b + 1, i, none⟩ v) := h.setCell (by show b ≤ b + 1; omega) _
theorem alloc2_below (w : World) (o1 o2 : Obj) : Below w.heap.size w ((w.alloc o1).alloc o2) := ((Below.refl _ _).alloc (Nat.le_refl _) o1).alloc (by simp) o2
end
theorem ext_le (a : ByteArray) (i j : Nat) : (a.extract i j).size ≤ a.size := by rw [ByteArray.size_extract]; omega
theorem bytes_ne {s : ByteArray} (h : 0 < s.size) : s.toList.isEmpty = false := by
  rw [ByteArray.toList_eq]
  cases h2 : s.data.toList with
  | nil => have := Lib.size_eq s; rw [h2, List.length_nil] at this; omega
  | cons _ _ => rfl

def parse_T13 : Bool × List (List Nat × List Nat) := (true, [([], []), ([0], [0]), ([], []), ([], []), ([3], [3]), ([4], [4]), ([2, 5], [2, 5]), ([6, 1], [6]), ([0, 1], []), ([8, 1, 7, 0, 1], [1, 8]), ([0, 1, 2, 3, 4, 5, 6, 7, 8, 9], []), ([10, 7, 9, 0, 1, 2, 3, 4, 5, 6, 7, 8, 9], [7, 10])])
def parse_B13 : List Nat := [0, 1, 0, 0, 8, 24, 60, 127, 3, 511, 1023, 2047]
theorem parse_tab13 : rtab .any (opsOf Try.f17 13) = parse_T13 := by kernel_rfl
theorem parse_bits13 : waitsOk parse_T13.2 parse_B13 = true := by kernel_rfl

/-- What Parse answers, over what Bytes answers of the key that was read. -/
def parsed (s : ByteArray) (k : Int) (A B : ByteArray) (N M : Int) (b : ByteArray) (eo : Int) : Value :=
  if eo = 0 ∧ b.toList = s.toList then .tuple #[.agg #[.int .i64 k, .string A, .string B, .int .i64 N, .int .i64 M], .int .i64 0]
  else .tuple #[.agg #[.int .i64 0, .string ⟨#[]⟩, .string ⟨#[]⟩, .int .i64 0, .int .i64 0], .int .i64 4]

set_option maxHeartbeats 4000000 in
set_option maxRecDepth 100000 in
theorem parse_2 (s : ByteArray) (w : World) (hs0 : 0 < s.size) (hs : s.size ≤ 1000000) (rest : ByteArray) (hr : s.extract 1 s.size = rest) (c1 c2 : ByteArray) (c3 : Bool) (hcut : CutIs rest c1 c2 c3)
    (hkd : wrap64 ((1 : Int) + Lib.indexByte [110, 105, 99, 100, 112, 114, 117, 102, 103, 116] (s[0]'hs0)) = 2) (ah bh : ByteArray) (hah : rest.extract 0 (min 3 (rest.size : Int)).toNat = ah) (hbh : rest.extract ah.size rest.size = bh)
    (a4 : ByteArray) (h4 : rest.extract 0 (min 4 (rest.size : Int)).toNat = a4)
    (b : ByteArray) (eo : Int) (hb : BytesIs 2 ⟨#[]⟩ ⟨#[]⟩ (valB a4.data.toList) 0 b eo) :
    Calls Try.prog 17 #[.string s] w fun e w' => e = .returned (parsed s 2 ⟨#[]⟩ ⟨#[]⟩ (valB a4.data.toList) 0 b eo) ∧ Below w.heap.size w w' := by
  have hemp := bytes_ne hs0
  have hrs : rest.size ≤ 1000000 := by rw [← hr]; exact Nat.le_trans (ext_le _ _ _) hs
  have hal : ah.size ≤ rest.size := by rw [← hah]; exact ext_le _ _ _
  have hbl : bh.size ≤ 1000000 := by rw [← hbh]; exact Nat.le_trans (ext_le _ _ _) hrs
  have ha4 : a4.size ≤ 1000000 := by rw [← h4]; exact Nat.le_trans (ext_le _ _ _) hrs
  go_enter Try.func17, Try.ntmps17
  go_wp2_with (first
    | (go_at_call 30; refine (Try.strings_IndexByte _ _ _).mono ?_; rintro e w' ⟨rfl, hw⟩; rw [hw])
    | (go_at_call 31; refine (hcut _).mono ?_; rintro e W1 ⟨rfl, hB1⟩; have T1 := (two0 w #[.int .i64 0, .string ⟨#[]⟩, .string ⟨#[]⟩, .int .i64 0, .int .i64 0] _).below hB1; have B1 := (alloc2_below w _ _).trans (hB1.mono (by first | (simp; done) | (simp; omega))); obtain ⟨m0, m1, m2, m3, m4, l0, l1, l2, l3, l4, gk, gr⟩ := T1.seen)
    | (go_at_call 32; refine (value_calls _ _ (by omega)).mono ?_; rintro e W2 ⟨rfl, hB2⟩; have T2 := T1.below hB2; have B2 := B1.trans (hB2.mono T1.lt); obtain ⟨m0, m1, m2, m3, m4, l0, l1, l2, l3, l4, gk, gr⟩ := T2.seen)
    | (go_at_call 11; refine (hb _).mono ?_; rintro e W9 ⟨rfl, hB9⟩; have T9 : Two W9 w.heap.size #[.int .i64 0, .string ⟨#[]⟩, .string ⟨#[]⟩, .int .i64 0, .int .i64 0] #[.int .i64 2, .string ⟨#[]⟩, .string ⟨#[]⟩, .int .i64 (valB a4.data.toList), .int .i64 0] := (T2.setK 3 _).below hB9; have B9 := (setK1 B2 3 _).trans (hB9.mono (T2.setK 3 _).lt); obtain ⟨m0, m1, m2, m3, m4, l0, l1, l2, l3, l4, gk, gr⟩ := T9.seen))
  all_goals first
    | (refine bodyPost_ret (results_ct rfl _ _ w.heap.size 23 #[.int .i64 2, .string ⟨#[]⟩, .string ⟨#[]⟩, .int .i64 (valB a4.data.toList), .int .i64 0] (0, 0) _ rfl (((((T9.setR 0 _).setR 1 _).setR 2 _).setR 3 _).setR 4 _).r Try.underlying23 rfl (by kernel_rfl)) rfl ?_
       refine ⟨?_, setR5 B9 _ _ _ _ _⟩
       unfold parsed
       rw [if_pos (by first | (simp [*]; done) | exact ⟨by assumption, by simpa using ‹(!b.toList == s.toList) = false›⟩)]
       rfl)
    | (refine bodyPost_ret (results_ct rfl _ _ w.heap.size 23 #[.int .i64 0, .string ⟨#[]⟩, .string ⟨#[]⟩, .int .i64 0, .int .i64 0] (0, 0) _ rfl (((((T9.setR 0 _).setR 1 _).setR 2 _).setR 3 _).setR 4 _).r Try.underlying23 rfl (by kernel_rfl)) rfl ?_
       refine ⟨?_, setR5 B9 _ _ _ _ _⟩
       unfold parsed
       rw [if_neg (by first | (simp [*]; done) | exact fun hc => by have h9 := ‹(!b.toList == s.toList) = true›; rw [hc.2] at h9; simp at h9)]
       rfl)

set_option maxHeartbeats 4000000 in
set_option maxRecDepth 100000 in
theorem parse_3 (s : ByteArray) (w : World) (hs0 : 0 < s.size) (hs : s.size ≤ 1000000) (rest : ByteArray) (hr : s.extract 1 s.size = rest) (c1 c2 : ByteArray) (c3 : Bool) (hcut : CutIs rest c1 c2 c3)
    (hkd : wrap64 ((1 : Int) + Lib.indexByte [110, 105, 99, 100, 112, 114, 117, 102, 103, 116] (s[0]'hs0)) = 3) (ah bh : ByteArray) (hah : rest.extract 0 (min 3 (rest.size : Int)).toNat = ah) (hbh : rest.extract ah.size rest.size = bh)
    (b2 : ByteArray) (h2 : bh.extract 0 (min 2 (bh.size : Int)).toNat = b2)
    (b : ByteArray) (eo : Int) (hb : BytesIs 3 ⟨#[]⟩ ⟨#[]⟩ (valB ah.data.toList) (valB b2.data.toList) b eo) :
    Calls Try.prog 17 #[.string s] w fun e w' => e = .returned (parsed s 3 ⟨#[]⟩ ⟨#[]⟩ (valB ah.data.toList) (valB b2.data.toList) b eo) ∧ Below w.heap.size w w' := by
  have hemp := bytes_ne hs0
  have hrs : rest.size ≤ 1000000 := by rw [← hr]; exact Nat.le_trans (ext_le _ _ _) hs
  have hal : ah.size ≤ rest.size := by rw [← hah]; exact ext_le _ _ _
  have hbl : bh.size ≤ 1000000 := by rw [← hbh]; exact Nat.le_trans (ext_le _ _ _) hrs
  have hb2 : b2.size ≤ 1000000 := by rw [← h2]; exact Nat.le_trans (ext_le _ _ _) hbl
  go_enter Try.func17, Try.ntmps17
  go_wp2_with (first
    | (go_at_call 30; refine (Try.strings_IndexByte _ _ _).mono ?_; rintro e w' ⟨rfl, hw⟩; rw [hw])
    | (go_at_call 31; refine (hcut _).mono ?_; rintro e W1 ⟨rfl, hB1⟩; have T1 := (two0 w #[.int .i64 0, .string ⟨#[]⟩, .string ⟨#[]⟩, .int .i64 0, .int .i64 0] _).below hB1; have B1 := (alloc2_below w _ _).trans (hB1.mono (by first | (simp; done) | (simp; omega))); obtain ⟨m0, m1, m2, m3, m4, l0, l1, l2, l3, l4, gk, gr⟩ := T1.seen))
  have hm1 : 0 ≤ min 2 (bh.size : Int) := by omega
  have hm2 : min 2 (bh.size : Int) ≤ (bh.size : Int) := by omega
  refine start_ (n := 12) (S := fun w' => True) (ds := []) #[false, false, false, false, false, false, false, false, false, false, false, false] (by kernel_rfl) rfl rfl trivial (fun hHeld => ?_)
  refine with_tabW parse_tab13 parse_bits13 (fun HT_ HW_ => ?_)
  replace T1 : Two W1.drew w.heap.size #[.int .i64 0, .string ⟨#[]⟩, .string ⟨#[]⟩, .int .i64 0, .int .i64 0] #[.int .i64 3, .string ⟨#[]⟩, .string ⟨#[]⟩, .int .i64 0, .int .i64 0] := ⟨T1.r, T1.k⟩
  replace B1 := B1.drew
  clear m0 m1 m2 m3 m4 l0 l1 l2 l3 l4 gk gr
  generalize W1.drew = W1 at T1 B1 hHeld ⊢
  refine pure_ (i := 0) (N := some 53) (v := ?_) (a' := ?_) #[true, false, false, false, false, false, false, false, false, false, false, false] rfl rfl (any_of HT_.out (by kernel_rfl)) (fun _ _ _ h => h) (Or.inl ⟨by rfl, ?_⟩) ?_ ?_
  rotate_left
  · intro w'
    go_simp
    with_reducible rfl
  rotate_left
  · simp only [Act.put, List.setIfInBounds_toArray, List.set_cons_zero, List.set_cons_succ, i64_w, i32_w]
    rfl
  refine pure_ (i := 2) (N := some 55) (v := ?_) (a' := ?_) #[true, false, true, false, false, false, false, false, false, false, false, false] rfl rfl (any_of HT_.out (by kernel_rfl)) (fun _ _ _ h => h) (Or.inl ⟨by rfl, ?_⟩) ?_ ?_
  rotate_left
  · intro w'
    go_simp
    with_reducible rfl
  rotate_left
  · simp only [Act.put, List.setIfInBounds_toArray, List.set_cons_zero, List.set_cons_succ, i64_w, i32_w]
    rfl
  refine pure_ (i := 3) (N := some 56) (v := ?_) (a' := ?_) #[true, false, true, true, false, false, false, false, false, false, false, false] rfl rfl (any_of HT_.out (by kernel_rfl)) (fun _ _ _ h => h) (Or.inl ⟨by rfl, ?_⟩) ?_ ?_
  rotate_left
  · intro w'
    go_simp
    with_reducible rfl
  rotate_left
  · simp only [Act.put, List.setIfInBounds_toArray, List.set_cons_zero, List.set_cons_succ, i64_w, i32_w]
    rfl
  refine pure_ (i := 4) (N := some 57) (v := ?_) (a' := ?_) #[true, false, true, true, true, false, false, false, false, false, false, false] rfl rfl (any_of HT_.out (by kernel_rfl)) (fun _ _ _ h => h) (Or.inl ⟨by rfl, ?_⟩) ?_ ?_
  rotate_left
  · intro w'
    go_simp
    with_reducible rfl
  rotate_left
  · simp only [Act.put, List.setIfInBounds_toArray, List.set_cons_zero, List.set_cons_succ, i64_w, i32_w]
    rfl
  refine pure_ (i := 5) (N := some 58) (v := ?_) (a' := ?_) #[true, false, true, true, true, true, false, false, false, false, false, false] rfl rfl (any_of HT_.out (by kernel_rfl)) (fun _ _ _ h => h) (Or.inl ⟨by rfl, ?_⟩) ?_ ?_
  rotate_left
  · intro w'
    go_simp
    with_reducible rfl
  rotate_left
  · simp only [Act.put, List.setIfInBounds_toArray, List.set_cons_zero, List.set_cons_succ, i64_w, i32_w]
    rfl
  refine pure_ (i := 6) (N := some 59) (v := ?_) (a' := ?_) #[true, false, true, true, true, true, true, false, false, false, false, false] rfl rfl (any_of HT_.out (by kernel_rfl)) (fun _ _ _ h => h) (Or.inl ⟨by rfl, ?_⟩) ?_ ?_
  rotate_left
  · intro w'
    go_simp
    with_reducible rfl
  rotate_left
  · simp only [Act.put, List.setIfInBounds_toArray, List.set_cons_zero, List.set_cons_succ, i64_w, i32_w]
    rfl
  refine one_ (i := 1) (N := some 54) #[true, true, true, true, true, true, true, false, false, false, false, false] rfl rfl (one_of HT_.out (by kernel_rfl)) (by decide) (fun K hK => ?_)
  refine goes_ Try.func32 (by kernel_rfl) rfl #[.string ah] (by rfl) rfl rfl (by (try simp only [List.map_toArray, List.map_cons, List.map_nil]); first | done | rfl) ?_
  refine (value_calls ah _ (by omega)).mono ?_
  rintro e W2 ⟨rfl, hb⟩
  refine ⟨_, rfl, ?_⟩
  have T2 := T1.below hb
  have B2 := B1.trans (hb.mono T1.lt)
  clear hb
  refine hK.out _ _ trivial (fun hHeld => ?_)
  clear hK K
  refine norm_ (a' := ?_) ?_ ?_
  rotate_left
  · show Act.put _ (some 54) _ = _
    simp only [Act.put, List.setIfInBounds_toArray, List.set_cons_zero, List.set_cons_succ, i64_w, i32_w]
    rfl
  refine pure_ (i := 8) (N := some 61) (v := ?_) (a' := ?_) #[true, true, true, true, true, true, true, false, true, false, false, false] rfl rfl (any_of HT_.out (by kernel_rfl)) (fun _ _ _ h => h) (Or.inl ⟨by rfl, ?_⟩) ?_ ?_
  rotate_left
  · intro w'
    go_simp
    with_reducible rfl
  rotate_left
  · simp only [Act.put, List.setIfInBounds_toArray, List.set_cons_zero, List.set_cons_succ, i64_w, i32_w]
    rfl
  refine one_ (i := 7) (N := some 60) #[true, true, true, true, true, true, true, true, true, false, false, false] rfl rfl (one_of HT_.out (by kernel_rfl)) (by decide) (fun K hK => ?_)
  refine goes_ Try.func32 (by kernel_rfl) rfl #[.string b2] (by rfl) rfl rfl (by (try simp only [List.map_toArray, List.map_cons, List.map_nil]); first | done | rfl) ?_
  refine (value_calls b2 _ (by omega)).mono ?_
  rintro e W3 ⟨rfl, hb⟩
  refine ⟨_, rfl, ?_⟩
  have T3 := T2.below hb
  have B3 := B2.trans (hb.mono T2.lt)
  clear hb
  refine hK.out _ _ trivial (fun hHeld => ?_)
  clear hK K
  refine norm_ (a' := ?_) ?_ ?_
  rotate_left
  · show Act.put _ (some 60) _ = _
    simp only [Act.put, List.setIfInBounds_toArray, List.set_cons_zero, List.set_cons_succ, i64_w, i32_w]
    rfl
  obtain ⟨m0, m1, m2, m3, m4, l0, l1, l2, l3, l4, gk, gr⟩ := T3.seen
  refine one_ (i := 9) (N := none) #[true, true, true, true, true, true, true, true, true, true, false, false] rfl rfl (one_of HT_.out (by kernel_rfl)) (by decide) (fun K hK => ?_)
  refine skip_ (w1 := ?_) (by rfl) rfl ?_ ?_
  rotate_left
  · go_simp
    rfl
  refine hK.out _ _ trivial (fun hHeld => ?_)
  clear hK K
  refine pure_ (i := 10) (N := some 62) (v := ?_) (a' := ?_) #[true, true, true, true, true, true, true, true, true, true, true, false] rfl rfl (any_of HT_.out (by kernel_rfl)) (fun _ _ _ h => h) (Or.inl ⟨by rfl, ?_⟩) ?_ ?_
  rotate_left
  · intro w'
    go_simp
    with_reducible rfl
  rotate_left
  · simp only [Act.put, List.setIfInBounds_toArray, List.set_cons_zero, List.set_cons_succ, i64_w, i32_w]
    rfl
  refine one_ (i := 11) (N := none) #[true, true, true, true, true, true, true, true, true, true, true, true] rfl rfl (one_of HT_.out (by kernel_rfl)) (by decide) (fun K hK => ?_)
  refine skip_ (w1 := ?_) (by rfl) rfl ?_ ?_
  rotate_left
  · go_simp
    rfl
  refine hK.out _ _ trivial (fun hHeld => ?_)
  clear hK K
  refine done_ (done_of HT_.out (by kernel_rfl)) ?_
  go_wp2_with (first
    | (go_at_call 11; refine (hb _).mono ?_; rintro e W9 ⟨rfl, hB9⟩; have T9 : Two W9 w.heap.size #[.int .i64 0, .string ⟨#[]⟩, .string ⟨#[]⟩, .int .i64 0, .int .i64 0] #[.int .i64 3, .string ⟨#[]⟩, .string ⟨#[]⟩, .int .i64 (valB ah.data.toList), .int .i64 (valB b2.data.toList)] := ((T3.setK 3 _).setK 4 _).below hB9; have B9 := (setK1 (setK1 B3 3 _) 4 _).trans (hB9.mono ((T3.setK 3 _).setK 4 _).lt); obtain ⟨m0, m1, m2, m3, m4, l0, l1, l2, l3, l4, gk, gr⟩ := T9.seen))
  all_goals first
    | (refine bodyPost_ret (results_ct rfl _ _ w.heap.size 23 #[.int .i64 3, .string ⟨#[]⟩, .string ⟨#[]⟩, .int .i64 (valB ah.data.toList), .int .i64 (valB b2.data.toList)] (0, 0) _ rfl (((((T9.setR 0 _).setR 1 _).setR 2 _).setR 3 _).setR 4 _).r Try.underlying23 rfl (by kernel_rfl)) rfl ?_
       refine ⟨?_, setR5 B9 _ _ _ _ _⟩
       unfold parsed
       rw [if_pos (by first | (simp [*]; done) | exact ⟨by assumption, by simpa using ‹(!b.toList == s.toList) = false›⟩)]
       rfl)
    | (refine bodyPost_ret (results_ct rfl _ _ w.heap.size 23 #[.int .i64 0, .string ⟨#[]⟩, .string ⟨#[]⟩, .int .i64 0, .int .i64 0] (0, 0) _ rfl (((((T9.setR 0 _).setR 1 _).setR 2 _).setR 3 _).setR 4 _).r Try.underlying23 rfl (by kernel_rfl)) rfl ?_
       refine ⟨?_, setR5 B9 _ _ _ _ _⟩
       unfold parsed
       rw [if_neg (by first | (simp [*]; done) | exact fun hc => by have h9 := ‹(!b.toList == s.toList) = true›; rw [hc.2] at h9; simp at h9)]
       rfl)

set_option maxHeartbeats 4000000 in
set_option maxRecDepth 100000 in
theorem parse_4 (s : ByteArray) (w : World) (hs0 : 0 < s.size) (hs : s.size ≤ 1000000) (rest : ByteArray) (hr : s.extract 1 s.size = rest) (c1 c2 : ByteArray) (c3 : Bool) (hcut : CutIs rest c1 c2 c3)
    (hkd : wrap64 ((1 : Int) + Lib.indexByte [110, 105, 99, 100, 112, 114, 117, 102, 103, 116] (s[0]'hs0)) = 4) (ah bh : ByteArray) (hah : rest.extract 0 (min 3 (rest.size : Int)).toNat = ah) (hbh : rest.extract ah.size rest.size = bh)
    (b : ByteArray) (eo : Int) (hb : BytesIs 4 bh ⟨#[]⟩ (valB ah.data.toList) 0 b eo) :
    Calls Try.prog 17 #[.string s] w fun e w' => e = .returned (parsed s 4 bh ⟨#[]⟩ (valB ah.data.toList) 0 b eo) ∧ Below w.heap.size w w' := by
  have hemp := bytes_ne hs0
  have hrs : rest.size ≤ 1000000 := by rw [← hr]; exact Nat.le_trans (ext_le _ _ _) hs
  have hal : ah.size ≤ rest.size := by rw [← hah]; exact ext_le _ _ _
  have hbl : bh.size ≤ 1000000 := by rw [← hbh]; exact Nat.le_trans (ext_le _ _ _) hrs
  go_enter Try.func17, Try.ntmps17
  go_wp2_with (first
    | (go_at_call 30; refine (Try.strings_IndexByte _ _ _).mono ?_; rintro e w' ⟨rfl, hw⟩; rw [hw])
    | (go_at_call 31; refine (hcut _).mono ?_; rintro e W1 ⟨rfl, hB1⟩; have T1 := (two0 w #[.int .i64 0, .string ⟨#[]⟩, .string ⟨#[]⟩, .int .i64 0, .int .i64 0] _).below hB1; have B1 := (alloc2_below w _ _).trans (hB1.mono (by first | (simp; done) | (simp; omega))); obtain ⟨m0, m1, m2, m3, m4, l0, l1, l2, l3, l4, gk, gr⟩ := T1.seen)
    | (go_at_call 32; refine (value_calls _ _ (by omega)).mono ?_; rintro e W2 ⟨rfl, hB2⟩; have T2 := T1.below hB2; have B2 := B1.trans (hB2.mono T1.lt); obtain ⟨m0, m1, m2, m3, m4, l0, l1, l2, l3, l4, gk, gr⟩ := T2.seen)
    | (go_at_call 11; refine (hb _).mono ?_; rintro e W9 ⟨rfl, hB9⟩; have T9 : Two W9 w.heap.size #[.int .i64 0, .string ⟨#[]⟩, .string ⟨#[]⟩, .int .i64 0, .int .i64 0] #[.int .i64 4, .string bh, .string ⟨#[]⟩, .int .i64 (valB ah.data.toList), .int .i64 0] := ((T2.setK 3 _).setK 1 _).below hB9; have B9 := (setK1 (setK1 B2 3 _) 1 _).trans (hB9.mono ((T2.setK 3 _).setK 1 _).lt); obtain ⟨m0, m1, m2, m3, m4, l0, l1, l2, l3, l4, gk, gr⟩ := T9.seen))
  all_goals first
    | (refine bodyPost_ret (results_ct rfl _ _ w.heap.size 23 #[.int .i64 4, .string bh, .string ⟨#[]⟩, .int .i64 (valB ah.data.toList), .int .i64 0] (0, 0) _ rfl (((((T9.setR 0 _).setR 1 _).setR 2 _).setR 3 _).setR 4 _).r Try.underlying23 rfl (by kernel_rfl)) rfl ?_
       refine ⟨?_, setR5 B9 _ _ _ _ _⟩
       unfold parsed
       rw [if_pos (by first | (simp [*]; done) | exact ⟨by assumption, by simpa using ‹(!b.toList == s.toList) = false›⟩)]
       rfl)
    | (refine bodyPost_ret (results_ct rfl _ _ w.heap.size 23 #[.int .i64 0, .string ⟨#[]⟩, .string ⟨#[]⟩, .int .i64 0, .int .i64 0] (0, 0) _ rfl (((((T9.setR 0 _).setR 1 _).setR 2 _).setR 3 _).setR 4 _).r Try.underlying23 rfl (by kernel_rfl)) rfl ?_
       refine ⟨?_, setR5 B9 _ _ _ _ _⟩
       unfold parsed
       rw [if_neg (by first | (simp [*]; done) | exact fun hc => by have h9 := ‹(!b.toList == s.toList) = true›; rw [hc.2] at h9; simp at h9)]
       rfl)

set_option maxHeartbeats 4000000 in
set_option maxRecDepth 100000 in
theorem parse_6 (s : ByteArray) (w : World) (hs0 : 0 < s.size) (hs : s.size ≤ 1000000) (rest : ByteArray) (hr : s.extract 1 s.size = rest) (c1 c2 : ByteArray) (c3 : Bool) (hcut : CutIs rest c1 c2 c3)
    (hkd : wrap64 ((1 : Int) + Lib.indexByte [110, 105, 99, 100, 112, 114, 117, 102, 103, 116] (s[0]'hs0)) = 6) (ah bh : ByteArray) (hah : rest.extract 0 (min 3 (rest.size : Int)).toNat = ah) (hbh : rest.extract ah.size rest.size = bh)
    (b : ByteArray) (eo : Int) (hb : BytesIs 6 c1 c2 0 0 b eo) :
    Calls Try.prog 17 #[.string s] w fun e w' => e = .returned (parsed s 6 c1 c2 0 0 b eo) ∧ Below w.heap.size w w' := by
  have hemp := bytes_ne hs0
  have hrs : rest.size ≤ 1000000 := by rw [← hr]; exact Nat.le_trans (ext_le _ _ _) hs
  have hal : ah.size ≤ rest.size := by rw [← hah]; exact ext_le _ _ _
  have hbl : bh.size ≤ 1000000 := by rw [← hbh]; exact Nat.le_trans (ext_le _ _ _) hrs
  go_enter Try.func17, Try.ntmps17
  go_wp2_with (first
    | (go_at_call 30; refine (Try.strings_IndexByte _ _ _).mono ?_; rintro e w' ⟨rfl, hw⟩; rw [hw])
    | (go_at_call 31; refine (hcut _).mono ?_; rintro e W1 ⟨rfl, hB1⟩; have T1 := (two0 w #[.int .i64 0, .string ⟨#[]⟩, .string ⟨#[]⟩, .int .i64 0, .int .i64 0] _).below hB1; have B1 := (alloc2_below w _ _).trans (hB1.mono (by first | (simp; done) | (simp; omega))); obtain ⟨m0, m1, m2, m3, m4, l0, l1, l2, l3, l4, gk, gr⟩ := T1.seen)
    | (go_at_call 11; refine (hb _).mono ?_; rintro e W9 ⟨rfl, hB9⟩; have T9 : Two W9 w.heap.size #[.int .i64 0, .string ⟨#[]⟩, .string ⟨#[]⟩, .int .i64 0, .int .i64 0] #[.int .i64 6, .string c1, .string c2, .int .i64 0, .int .i64 0] := ((T1.setK 1 _).setK 2 _).below hB9; have B9 := (setK1 (setK1 B1 1 _) 2 _).trans (hB9.mono ((T1.setK 1 _).setK 2 _).lt); obtain ⟨m0, m1, m2, m3, m4, l0, l1, l2, l3, l4, gk, gr⟩ := T9.seen))
  all_goals first
    | (refine bodyPost_ret (results_ct rfl _ _ w.heap.size 23 #[.int .i64 6, .string c1, .string c2, .int .i64 0, .int .i64 0] (0, 0) _ rfl (((((T9.setR 0 _).setR 1 _).setR 2 _).setR 3 _).setR 4 _).r Try.underlying23 rfl (by kernel_rfl)) rfl ?_
       refine ⟨?_, setR5 B9 _ _ _ _ _⟩
       unfold parsed
       rw [if_pos (by first | (simp [*]; done) | exact ⟨by assumption, by simpa using ‹(!b.toList == s.toList) = false›⟩)]
       rfl)
    | (refine bodyPost_ret (results_ct rfl _ _ w.heap.size 23 #[.int .i64 0, .string ⟨#[]⟩, .string ⟨#[]⟩, .int .i64 0, .int .i64 0] (0, 0) _ rfl (((((T9.setR 0 _).setR 1 _).setR 2 _).setR 3 _).setR 4 _).r Try.underlying23 rfl (by kernel_rfl)) rfl ?_
       refine ⟨?_, setR5 B9 _ _ _ _ _⟩
       unfold parsed
       rw [if_neg (by first | (simp [*]; done) | exact fun hc => by have h9 := ‹(!b.toList == s.toList) = true›; rw [hc.2] at h9; simp at h9)]
       rfl)

set_option maxHeartbeats 4000000 in
set_option maxRecDepth 100000 in
theorem parse_7 (s : ByteArray) (w : World) (hs0 : 0 < s.size) (hs : s.size ≤ 1000000) (rest : ByteArray) (hr : s.extract 1 s.size = rest) (c1 c2 : ByteArray) (c3 : Bool) (hcut : CutIs rest c1 c2 c3)
    (hkd : wrap64 ((1 : Int) + Lib.indexByte [110, 105, 99, 100, 112, 114, 117, 102, 103, 116] (s[0]'hs0)) = 7) (ah bh : ByteArray) (hah : rest.extract 0 (min 3 (rest.size : Int)).toNat = ah) (hbh : rest.extract ah.size rest.size = bh)
    (b : ByteArray) (eo : Int) (hb : BytesIs 7 c1 c2 0 0 b eo) :
    Calls Try.prog 17 #[.string s] w fun e w' => e = .returned (parsed s 7 c1 c2 0 0 b eo) ∧ Below w.heap.size w w' := by
  have hemp := bytes_ne hs0
  have hrs : rest.size ≤ 1000000 := by rw [← hr]; exact Nat.le_trans (ext_le _ _ _) hs
  have hal : ah.size ≤ rest.size := by rw [← hah]; exact ext_le _ _ _
  have hbl : bh.size ≤ 1000000 := by rw [← hbh]; exact Nat.le_trans (ext_le _ _ _) hrs
  go_enter Try.func17, Try.ntmps17
  go_wp2_with (first
    | (go_at_call 30; refine (Try.strings_IndexByte _ _ _).mono ?_; rintro e w' ⟨rfl, hw⟩; rw [hw])
    | (go_at_call 31; refine (hcut _).mono ?_; rintro e W1 ⟨rfl, hB1⟩; have T1 := (two0 w #[.int .i64 0, .string ⟨#[]⟩, .string ⟨#[]⟩, .int .i64 0, .int .i64 0] _).below hB1; have B1 := (alloc2_below w _ _).trans (hB1.mono (by first | (simp; done) | (simp; omega))); obtain ⟨m0, m1, m2, m3, m4, l0, l1, l2, l3, l4, gk, gr⟩ := T1.seen)
    | (go_at_call 11; refine (hb _).mono ?_; rintro e W9 ⟨rfl, hB9⟩; have T9 : Two W9 w.heap.size #[.int .i64 0, .string ⟨#[]⟩, .string ⟨#[]⟩, .int .i64 0, .int .i64 0] #[.int .i64 7, .string c1, .string c2, .int .i64 0, .int .i64 0] := ((T1.setK 1 _).setK 2 _).below hB9; have B9 := (setK1 (setK1 B1 1 _) 2 _).trans (hB9.mono ((T1.setK 1 _).setK 2 _).lt); obtain ⟨m0, m1, m2, m3, m4, l0, l1, l2, l3, l4, gk, gr⟩ := T9.seen))
  all_goals first
    | (refine bodyPost_ret (results_ct rfl _ _ w.heap.size 23 #[.int .i64 7, .string c1, .string c2, .int .i64 0, .int .i64 0] (0, 0) _ rfl (((((T9.setR 0 _).setR 1 _).setR 2 _).setR 3 _).setR 4 _).r Try.underlying23 rfl (by kernel_rfl)) rfl ?_
       refine ⟨?_, setR5 B9 _ _ _ _ _⟩
       unfold parsed
       rw [if_pos (by first | (simp [*]; done) | exact ⟨by assumption, by simpa using ‹(!b.toList == s.toList) = false›⟩)]
       rfl)
    | (refine bodyPost_ret (results_ct rfl _ _ w.heap.size 23 #[.int .i64 0, .string ⟨#[]⟩, .string ⟨#[]⟩, .int .i64 0, .int .i64 0] (0, 0) _ rfl (((((T9.setR 0 _).setR 1 _).setR 2 _).setR 3 _).setR 4 _).r Try.underlying23 rfl (by kernel_rfl)) rfl ?_
       refine ⟨?_, setR5 B9 _ _ _ _ _⟩
       unfold parsed
       rw [if_neg (by first | (simp [*]; done) | exact fun hc => by have h9 := ‹(!b.toList == s.toList) = true›; rw [hc.2] at h9; simp at h9)]
       rfl)

set_option maxHeartbeats 4000000 in
set_option maxRecDepth 100000 in
theorem parse_9 (s : ByteArray) (w : World) (hs0 : 0 < s.size) (hs : s.size ≤ 1000000) (rest : ByteArray) (hr : s.extract 1 s.size = rest) (c1 c2 : ByteArray) (c3 : Bool) (hcut : CutIs rest c1 c2 c3)
    (hkd : wrap64 ((1 : Int) + Lib.indexByte [110, 105, 99, 100, 112, 114, 117, 102, 103, 116] (s[0]'hs0)) = 9) (ah bh : ByteArray) (hah : rest.extract 0 (min 3 (rest.size : Int)).toNat = ah) (hbh : rest.extract ah.size rest.size = bh)
    (hc2 : c2.size ≤ 1000000) (a4 : ByteArray) (h4 : c2.extract 0 (min 3 (c2.size : Int)).toNat = a4)
    (b : ByteArray) (eo : Int) (hb : BytesIs 9 c1 ⟨#[]⟩ (valB a4.data.toList) 0 b eo) :
    Calls Try.prog 17 #[.string s] w fun e w' => e = .returned (parsed s 9 c1 ⟨#[]⟩ (valB a4.data.toList) 0 b eo) ∧ Below w.heap.size w w' := by
  have hemp := bytes_ne hs0
  have hrs : rest.size ≤ 1000000 := by rw [← hr]; exact Nat.le_trans (ext_le _ _ _) hs
  have hal : ah.size ≤ rest.size := by rw [← hah]; exact ext_le _ _ _
  have hbl : bh.size ≤ 1000000 := by rw [← hbh]; exact Nat.le_trans (ext_le _ _ _) hrs
  have ha4 : a4.size ≤ 1000000 := by rw [← h4]; exact Nat.le_trans (ext_le _ _ _) hc2
  go_enter Try.func17, Try.ntmps17
  go_wp2_with (first
    | (go_at_call 30; refine (Try.strings_IndexByte _ _ _).mono ?_; rintro e w' ⟨rfl, hw⟩; rw [hw])
    | (go_at_call 31; refine (hcut _).mono ?_; rintro e W1 ⟨rfl, hB1⟩; have T1 := (two0 w #[.int .i64 0, .string ⟨#[]⟩, .string ⟨#[]⟩, .int .i64 0, .int .i64 0] _).below hB1; have B1 := (alloc2_below w _ _).trans (hB1.mono (by first | (simp; done) | (simp; omega))); obtain ⟨m0, m1, m2, m3, m4, l0, l1, l2, l3, l4, gk, gr⟩ := T1.seen)
    | (go_at_call 32; refine (value_calls _ _ (by omega)).mono ?_; rintro e W2 ⟨rfl, hB2⟩; have T2 := T1.below hB2; have B2 := B1.trans (hB2.mono T1.lt); obtain ⟨m0, m1, m2, m3, m4, l0, l1, l2, l3, l4, gk, gr⟩ := T2.seen)
    | (go_at_call 11; refine (hb _).mono ?_; rintro e W9 ⟨rfl, hB9⟩; have T9 : Two W9 w.heap.size #[.int .i64 0, .string ⟨#[]⟩, .string ⟨#[]⟩, .int .i64 0, .int .i64 0] #[.int .i64 9, .string c1, .string ⟨#[]⟩, .int .i64 (valB a4.data.toList), .int .i64 0] := ((T2.setK 1 _).setK 3 _).below hB9; have B9 := (setK1 (setK1 B2 1 _) 3 _).trans (hB9.mono ((T2.setK 1 _).setK 3 _).lt); obtain ⟨m0, m1, m2, m3, m4, l0, l1, l2, l3, l4, gk, gr⟩ := T9.seen))
  all_goals first
    | (refine bodyPost_ret (results_ct rfl _ _ w.heap.size 23 #[.int .i64 9, .string c1, .string ⟨#[]⟩, .int .i64 (valB a4.data.toList), .int .i64 0] (0, 0) _ rfl (((((T9.setR 0 _).setR 1 _).setR 2 _).setR 3 _).setR 4 _).r Try.underlying23 rfl (by kernel_rfl)) rfl ?_
       refine ⟨?_, setR5 B9 _ _ _ _ _⟩
       unfold parsed
       rw [if_pos (by first | (simp [*]; done) | exact ⟨by assumption, by simpa using ‹(!b.toList == s.toList) = false›⟩)]
       rfl)
    | (refine bodyPost_ret (results_ct rfl _ _ w.heap.size 23 #[.int .i64 0, .string ⟨#[]⟩, .string ⟨#[]⟩, .int .i64 0, .int .i64 0] (0, 0) _ rfl (((((T9.setR 0 _).setR 1 _).setR 2 _).setR 3 _).setR 4 _).r Try.underlying23 rfl (by kernel_rfl)) rfl ?_
       refine ⟨?_, setR5 B9 _ _ _ _ _⟩
       unfold parsed
       rw [if_neg (by first | (simp [*]; done) | exact fun hc => by have h9 := ‹(!b.toList == s.toList) = true›; rw [hc.2] at h9; simp at h9)]
       rfl)

set_option maxHeartbeats 4000000 in
set_option maxRecDepth 100000 in
theorem parse_0 (kd : Int) (hk : kd ≠ 2 ∧ kd ≠ 3 ∧ kd ≠ 4 ∧ kd ≠ 6 ∧ kd ≠ 7 ∧ kd ≠ 9) (s : ByteArray) (w : World) (hs0 : 0 < s.size) (hs : s.size ≤ 1000000) (rest : ByteArray) (hr : s.extract 1 s.size = rest) (c1 c2 : ByteArray) (c3 : Bool) (hcut : CutIs rest c1 c2 c3)
    (hkd : wrap64 ((1 : Int) + Lib.indexByte [110, 105, 99, 100, 112, 114, 117, 102, 103, 116] (s[0]'hs0)) = kd) (ah bh : ByteArray) (hah : rest.extract 0 (min 3 (rest.size : Int)).toNat = ah) (hbh : rest.extract ah.size rest.size = bh)
    (b : ByteArray) (eo : Int) (hb : BytesIs kd rest ⟨#[]⟩ 0 0 b eo) :
    Calls Try.prog 17 #[.string s] w fun e w' => e = .returned (parsed s kd rest ⟨#[]⟩ 0 0 b eo) ∧ Below w.heap.size w w' := by
  have hk2 : (kd == 2) = false := beq_eq_false_iff_ne.2 (by omega)
  have hk3 : (kd == 3) = false := beq_eq_false_iff_ne.2 (by omega)
  have hk4 : (kd == 4) = false := beq_eq_false_iff_ne.2 (by omega)
  have hk6 : (kd == 6) = false := beq_eq_false_iff_ne.2 (by omega)
  have hk7 : (kd == 7) = false := beq_eq_false_iff_ne.2 (by omega)
  have hk9 : (kd == 9) = false := beq_eq_false_iff_ne.2 (by omega)
  clear hk
  have hemp := bytes_ne hs0
  have hrs : rest.size ≤ 1000000 := by rw [← hr]; exact Nat.le_trans (ext_le _ _ _) hs
  have hal : ah.size ≤ rest.size := by rw [← hah]; exact ext_le _ _ _
  have hbl : bh.size ≤ 1000000 := by rw [← hbh]; exact Nat.le_trans (ext_le _ _ _) hrs
  go_enter Try.func17, Try.ntmps17
  go_wp2_with (first
    | (go_at_call 30; refine (Try.strings_IndexByte _ _ _).mono ?_; rintro e w' ⟨rfl, hw⟩; rw [hw])
    | (go_at_call 31; refine (hcut _).mono ?_; rintro e W1 ⟨rfl, hB1⟩; have T1 := (two0 w #[.int .i64 0, .string ⟨#[]⟩, .string ⟨#[]⟩, .int .i64 0, .int .i64 0] _).below hB1; have B1 := (alloc2_below w _ _).trans (hB1.mono (by first | (simp; done) | (simp; omega))); obtain ⟨m0, m1, m2, m3, m4, l0, l1, l2, l3, l4, gk, gr⟩ := T1.seen)
    | (go_at_call 11; refine (hb _).mono ?_; rintro e W9 ⟨rfl, hB9⟩; have T9 : Two W9 w.heap.size #[.int .i64 0, .string ⟨#[]⟩, .string ⟨#[]⟩, .int .i64 0, .int .i64 0] #[.int .i64 kd, .string rest, .string ⟨#[]⟩, .int .i64 0, .int .i64 0] := (T1.setK 1 _).below hB9; have B9 := (setK1 B1 1 _).trans (hB9.mono (T1.setK 1 _).lt); obtain ⟨m0, m1, m2, m3, m4, l0, l1, l2, l3, l4, gk, gr⟩ := T9.seen))
  all_goals first
    | (refine bodyPost_ret (results_ct rfl _ _ w.heap.size 23 #[.int .i64 kd, .string rest, .string ⟨#[]⟩, .int .i64 0, .int .i64 0] (0, 0) _ rfl (((((T9.setR 0 _).setR 1 _).setR 2 _).setR 3 _).setR 4 _).r Try.underlying23 rfl (by kernel_rfl)) rfl ?_
       refine ⟨?_, setR5 B9 _ _ _ _ _⟩
       unfold parsed
       rw [if_pos (by first | (simp [*]; done) | exact ⟨by assumption, by simpa using ‹(!b.toList == s.toList) = false›⟩)]
       rfl)
    | (refine bodyPost_ret (results_ct rfl _ _ w.heap.size 23 #[.int .i64 0, .string ⟨#[]⟩, .string ⟨#[]⟩, .int .i64 0, .int .i64 0] (0, 0) _ rfl (((((T9.setR 0 _).setR 1 _).setR 2 _).setR 3 _).setR 4 _).r Try.underlying23 rfl (by kernel_rfl)) rfl ?_
       refine ⟨?_, setR5 B9 _ _ _ _ _⟩
       unfold parsed
       rw [if_neg (by first | (simp [*]; done) | exact fun hc => by have h9 := ‹(!b.toList == s.toList) = true›; rw [hc.2] at h9; simp at h9)]
       rfl)


/-- The key that some bytes tell, over what Cut answers. -/
def kindOf (s : ByteArray) : Int := wrap64 ((1 : Int) + Lib.indexByte [110, 105, 99, 100, 112, 114, 117, 102, 103, 116] (s.data.toList.headD 0))
def aheadOf (r : ByteArray) : ByteArray := r.extract 0 (min 3 (r.size : Int)).toNat
def behindOf (r : ByteArray) : ByteArray := r.extract (aheadOf r).size r.size
def readKey (s c1 c2 : ByteArray) : Int × ByteArray × ByteArray × Int × Int :=
  if kindOf s = 2 then (2, ⟨#[]⟩, ⟨#[]⟩, valB ((s.extract 1 s.size).extract 0 (min 4 ((s.extract 1 s.size).size : Int)).toNat).data.toList, 0)
  else if kindOf s = 3 then (3, ⟨#[]⟩, ⟨#[]⟩, valB (aheadOf (s.extract 1 s.size)).data.toList, valB ((behindOf (s.extract 1 s.size)).extract 0 (min 2 ((behindOf (s.extract 1 s.size)).size : Int)).toNat).data.toList)
  else if kindOf s = 4 then (4, behindOf (s.extract 1 s.size), ⟨#[]⟩, valB (aheadOf (s.extract 1 s.size)).data.toList, 0)
  else if kindOf s = 6 then (6, c1, c2, 0, 0)
  else if kindOf s = 7 then (7, c1, c2, 0, 0)
  else if kindOf s = 9 then (9, c1, ⟨#[]⟩, valB (c2.extract 0 (min 3 (c2.size : Int)).toNat).data.toList, 0)
  else (kindOf s, s.extract 1 s.size, ⟨#[]⟩, 0, 0)

theorem head_at (s : ByteArray) (h : 0 < s.size) : s.data.toList.headD 0 = s[0]'h := by
  have h0 := Lib.data_getElem? s 0 h
  cases hl : s.data.toList with
  | nil => rw [hl] at h0; cases h0
  | cons x t => rw [hl] at h0; simpa using h0

theorem parse_any (s : ByteArray) (w : World) (hs0 : 0 < s.size) (hs : s.size ≤ 1000000) (c1 c2 : ByteArray) (c3 : Bool) (hcut : CutIs (s.extract 1 s.size) c1 c2 c3) (hc2 : c2.size ≤ 1000000)
    (b : ByteArray) (eo : Int) (hb : BytesIs (readKey s c1 c2).1 (readKey s c1 c2).2.1 (readKey s c1 c2).2.2.1 (readKey s c1 c2).2.2.2.1 (readKey s c1 c2).2.2.2.2 b eo) :
    Calls Try.prog 17 #[.string s] w fun e w' => e = .returned (parsed s (readKey s c1 c2).1 (readKey s c1 c2).2.1 (readKey s c1 c2).2.2.1 (readKey s c1 c2).2.2.2.1 (readKey s c1 c2).2.2.2.2 b eo) ∧ Below w.heap.size w w' := by
  have hkd : wrap64 ((1 : Int) + Lib.indexByte [110, 105, 99, 100, 112, 114, 117, 102, 103, 116] (s[0]'hs0)) = kindOf s := by unfold kindOf; rw [head_at s hs0]
  by_cases k2 : kindOf s = 2
  · have e : readKey s c1 c2 = (2, ⟨#[]⟩, ⟨#[]⟩, valB ((s.extract 1 s.size).extract 0 (min 4 ((s.extract 1 s.size).size : Int)).toNat).data.toList, 0) := by unfold readKey; rw [if_pos k2]
    rw [e] at hb ⊢
    dsimp only at hb ⊢
    exact parse_2 s w hs0 hs _ rfl c1 c2 c3 hcut (hkd.trans k2) (aheadOf (s.extract 1 s.size)) (behindOf (s.extract 1 s.size)) rfl rfl _ rfl b eo hb
  by_cases k3 : kindOf s = 3
  · have e : readKey s c1 c2 = (3, ⟨#[]⟩, ⟨#[]⟩, valB (aheadOf (s.extract 1 s.size)).data.toList, valB ((behindOf (s.extract 1 s.size)).extract 0 (min 2 ((behindOf (s.extract 1 s.size)).size : Int)).toNat).data.toList) := by unfold readKey; rw [if_neg k2, if_pos k3]
    rw [e] at hb ⊢
    dsimp only at hb ⊢
    exact parse_3 s w hs0 hs _ rfl c1 c2 c3 hcut (hkd.trans k3) (aheadOf (s.extract 1 s.size)) (behindOf (s.extract 1 s.size)) rfl rfl _ rfl b eo hb
  by_cases k4 : kindOf s = 4
  · have e : readKey s c1 c2 = (4, behindOf (s.extract 1 s.size), ⟨#[]⟩, valB (aheadOf (s.extract 1 s.size)).data.toList, 0) := by unfold readKey; rw [if_neg k2, if_neg k3, if_pos k4]
    rw [e] at hb ⊢
    dsimp only at hb ⊢
    exact parse_4 s w hs0 hs _ rfl c1 c2 c3 hcut (hkd.trans k4) (aheadOf (s.extract 1 s.size)) (behindOf (s.extract 1 s.size)) rfl rfl b eo hb
  by_cases k6 : kindOf s = 6
  · have e : readKey s c1 c2 = (6, c1, c2, 0, 0) := by unfold readKey; rw [if_neg k2, if_neg k3, if_neg k4, if_pos k6]
    rw [e] at hb ⊢
    dsimp only at hb ⊢
    exact parse_6 s w hs0 hs _ rfl c1 c2 c3 hcut (hkd.trans k6) (aheadOf (s.extract 1 s.size)) (behindOf (s.extract 1 s.size)) rfl rfl b eo hb
  by_cases k7 : kindOf s = 7
  · have e : readKey s c1 c2 = (7, c1, c2, 0, 0) := by unfold readKey; rw [if_neg k2, if_neg k3, if_neg k4, if_neg k6, if_pos k7]
    rw [e] at hb ⊢
    dsimp only at hb ⊢
    exact parse_7 s w hs0 hs _ rfl c1 c2 c3 hcut (hkd.trans k7) (aheadOf (s.extract 1 s.size)) (behindOf (s.extract 1 s.size)) rfl rfl b eo hb
  by_cases k9 : kindOf s = 9
  · have e : readKey s c1 c2 = (9, c1, ⟨#[]⟩, valB (c2.extract 0 (min 3 (c2.size : Int)).toNat).data.toList, 0) := by unfold readKey; rw [if_neg k2, if_neg k3, if_neg k4, if_neg k6, if_neg k7, if_pos k9]
    rw [e] at hb ⊢
    dsimp only at hb ⊢
    exact parse_9 s w hs0 hs _ rfl c1 c2 c3 hcut (hkd.trans k9) (aheadOf (s.extract 1 s.size)) (behindOf (s.extract 1 s.size)) rfl rfl hc2 _ rfl b eo hb
  have e : readKey s c1 c2 = (kindOf s, s.extract 1 s.size, ⟨#[]⟩, 0, 0) := by unfold readKey; rw [if_neg k2, if_neg k3, if_neg k4, if_neg k6, if_neg k7, if_neg k9]
  rw [e] at hb ⊢
  dsimp only at hb ⊢
  exact parse_0 (kindOf s) ⟨k2, k3, k4, k6, k7, k9⟩ s w hs0 hs _ rfl c1 c2 c3 hcut hkd (aheadOf (s.extract 1 s.size)) (behindOf (s.extract 1 s.size)) rfl rfl b eo hb

set_option maxHeartbeats 4000000 in
set_option maxRecDepth 100000 in
theorem parse_nil (s : ByteArray) (w : World) (h : s.toList = []) :
    Calls Try.prog 17 #[.string s] w fun e w' => e = .returned (.tuple #[.agg #[.int .i64 0, .string ⟨#[]⟩, .string ⟨#[]⟩, .int .i64 0, .int .i64 0], .int .i64 4]) ∧ Below w.heap.size w w' := by
  have hemp : s.toList.isEmpty = true := by rw [h]; rfl
  go_enter Try.func17, Try.ntmps17
  go_wp2_with fail
  refine bodyPost_ret (results_ct rfl _ _ w.heap.size 23 #[.int .i64 0, .string ⟨#[]⟩, .string ⟨#[]⟩, .int .i64 0, .int .i64 0] (0, 0) _ rfl (blk_new w _) Try.underlying23 rfl (by kernel_rfl)) rfl ?_
  exact ⟨rfl, (Below.refl _ _).alloc (Nat.le_refl _) _⟩
end Go.Proofs.YtcohfhclcoiigaaX
