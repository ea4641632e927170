/- node's reader: take, text, child. -/
import Derived.Test.YtjhenmegcgnkgaaNodeFind
import Derived.Test.YtjhenmegcgnkgaaPlain
import Derived.Test.YtjhenmegcgnkgaaWLast
set_option linter.unusedVariables false
set_option linter.unusedSimpArgs false
namespace Go.Proofs.YtjhenmegcgnkgaaX
open Go.RowKit Go.Proofs.YtjhenmegcgnkgaaW.PrintWords Go.Proofs.YtjhenmegcgnkgaaW.PrintLast Go.Proofs.YtjhenmegcgnkgaaW.PrintMore

theorem info_u8 : (Try.prog.info? 5).map (fun i => (i.zero, i.size, i.bytes)) = some (some (.int .u8 0), 1, 1) := by kernel_rfl

/-- A reader: what is left of the bytes (read in the world W0 ahead of the call), and whether they ended too soon. -/
structure Rd (W0 w : World) (rb : Nat) (xs : List Int) (bad : Bool) : Prop where
  r : ∃ A c, w.heap[rb]? = some (.cells #[.slice A xs.length c, .bool bad] 67 (0, 0)) ∧ ReadsInt W0 .u8 A xs.length xs ∧ xs.length ≤ c
theorem rd_grown {W0 w w' : World} {rb : Nat} {xs : List Int} {bad : Bool} {row : Option Nat} (h : Rd W0 w rb xs bad) (hg : w.grownBy w' row) (hne : some rb ≠ row) : Rd W0 w' rb xs bad := by
  obtain ⟨A, c, h1, h2, h3⟩ := h.r
  exact ⟨A, c, (hg.block rb (blk_lt h1) hne).trans h1, h2, h3⟩
theorem rd_same {W0 w w' : World} {rb : Nat} {xs : List Int} {bad : Bool} (h : Rd W0 w rb xs bad) (he : w'.heap[rb]? = w.heap[rb]?) : Rd W0 w' rb xs bad := by
  obtain ⟨A, c, h1, h2, h3⟩ := h.r
  exact ⟨A, c, he.trans h1, h2, h3⟩
theorem rd_drew {W0 w : World} {rb : Nat} {xs : List Int} {bad : Bool} (h : Rd W0 w rb xs bad) : Rd W0 w.drew rb xs bad := rd_same h rfl
theorem rd_lt {W0 w : World} {rb : Nat} {xs : List Int} {bad : Bool} (h : Rd W0 w rb xs bad) : rb < w.heap.size := by
  obtain ⟨A, c, h1, h2, h3⟩ := h.r
  exact blk_lt h1
theorem rd_drewN {W0 w : World} {rb : Nat} {xs : List Int} {bad : Bool} (h : Rd W0 w rb xs bad) (n : Nat) : Rd W0 (w.drewN n) rb xs bad := rd_same h rfl
theorem grown_drewN {w w1 : World} {row : Option Nat} (h : w.grownBy w1 row) (n : Nat) : w.grownBy (w1.drewN n) row := ⟨h.os, h.tape, h.output, h.size, h.block⟩
theorem grown_set {w w1 : World} {rb : Nat} (hg : w.grownBy w1 (some rb)) (i : Nat) (u : Value) : w.grownBy (w1.setCell ⟨rb, i, none⟩ u) (some rb) := by
  have hs : (w1.setCell ⟨rb, i, none⟩ u).heap.size = w1.heap.size := by simp [World.setCell]
  refine ⟨?_, ?_, ?_, by rw [hs]; exact hg.size, fun k hk hne => ?_⟩
  · rw [← hg.os]; simp [World.setCell]
  · rw [← hg.tape]; simp [World.setCell]
  · rw [← hg.output]; simp [World.setCell]
  · have hkr : k ≠ rb := fun e => hne (by rw [e])
    rw [Below.heap_setCell w1 ⟨rb, i, none⟩ u k hkr]
    exact hg.block k hk hne

theorem below_of_grown {W0 w w1 : World} {rb : Nat} (h : Below W0.heap.size W0 w) (hrb : W0.heap.size ≤ rb) (hg : w.grownBy w1 (some rb)) : Below W0.heap.size W0 w1 :=
  h.grown hg h.size (fun k hk => by injection hk with hk; omega)

def takeR (xs : List Int) (bad : Bool) (m : Int) : List Int × List Int × Bool := if m > (xs.length : Int) then (List.replicate m.toNat 0, [], true) else (xs.take m.toNat, xs.drop m.toNat, bad)
theorem takeR_len (xs : List Int) (bad : Bool) (m : Int) (h0 : 0 ≤ m) : ((takeR xs bad m).1.length : Int) = m := by
  unfold takeR
  by_cases h : m > (xs.length : Int)
  · rw [if_pos h]
    show ((List.replicate m.toNat (0 : Int)).length : Int) = m
    rw [List.length_replicate]
    omega
  · rw [if_neg h]
    show ((xs.take m.toNat).length : Int) = m
    rw [List.length_take]
    omega

set_option maxHeartbeats 1000000 in
theorem take_calls (rb : Nat) (xs : List Int) (bad : Bool) (m : Int) (W0 w : World) (hB0 : Below W0.heap.size W0 w) (hrb : W0.heap.size ≤ rb) (h : Rd W0 w rb xs bad) (h0 : 0 ≤ m) (h1 : m ≤ 255) :
    Calls Try.prog 50 #[.pointer (some ⟨rb, 0, none⟩), .int .i64 m] w fun e w' => (∃ A c, e = .returned (.slice A (takeR xs bad m).1.length c) ∧ ReadsInt w' .u8 A (takeR xs bad m).1.length (takeR xs bad m).1 ∧ (takeR xs bad m).1.length ≤ c) ∧ Rd W0 w' rb (takeR xs bad m).2.1 (takeR xs bad m).2.2 ∧ w.grownBy w' (some rb) := by
  obtain ⟨A, c, hb, hr, hc⟩ := h.r
  have HR := Aside0.mk hr
  have HB := Aside0.mk hb
  have HB0 := Aside0.mk hB0
  have HRB := Aside0.mk hrb
  have c0 : w.cell? ⟨rb, 0, none⟩ = some (.slice A xs.length c) := (blk_cell hb 0).trans rfl
  have c1 : w.cell? ⟨rb, 1, none⟩ = some (.bool bad) := (blk_cell hb 1).trans rfl
  have f0 := blk_frozen hb 0
  have f1 := blk_frozen hb 1
  have HC := Aside0.mk hc
  clear hr hb h hB0 hrb
  unfold takeR
  by_cases hgt : m > (xs.length : Int)
  · rw [if_pos hgt]
    have hd : decide (m > (xs.length : Int)) = true := decide_eq_true hgt
    obtain ⟨n, rfl⟩ := Int.eq_ofNat_of_zero_le h0
    have hmk := print_make (P := Try.prog) 30 5 .u8 1 Try.underlying30 info_u8 (by decide) n (by omega)
    have hd2 : decide (xs.length < n) = true := decide_eq_true (by omega)
    have hn0 : n ≤ 255 := by omega
    have H1 := Aside0.mk hn0
    clear hn0
    clear hgt h0 h1 hc
    go_enter Try.func50, Try.ntmps50
    go_wp2
    go_ret
    have b2 := blk_set (blk_set HB.out 0 (.slice none 0 0)) 1 (.bool true)
    have hb3 : ∀ o, (((w.setCell ⟨rb, 0, none⟩ (.slice none 0 0)).setCell ⟨rb, 1, none⟩ (.bool true)).alloc o).heap[rb]? = some (.cells #[.slice none 0 0, .bool true] 67 (0, 0)) := fun o => (heap_alloc_old _ o (blk_lt b2)).trans b2
    have hl : (List.replicate ((n : Int)).toNat (0 : Int)).length = n := by rw [List.length_replicate]; omega
    refine ⟨⟨some ⟨w.heap.size, 0, none⟩, n, ?_, ?_, Nat.le_of_eq hl⟩, ⟨none, 0, hb3 _, ⟨rfl, by decide, fun h => absurd h (Nat.lt_irrefl 0)⟩, Nat.le_refl _⟩, World.grownBy.trans (grown_set (grown_set (World.grownBy.refl w _) 0 _) 1 _) (World.grownBy_alloc _ _ _)⟩
    · exact congrArg (fun z => Ending.returned (Value.slice (some ⟨w.heap.size, 0, none⟩) z n)) hl.symm
    show ReadsInt _ .u8 _ (List.replicate ((n : Int)).toNat (0 : Int)).length (List.replicate ((n : Int)).toNat (0 : Int))
    rw [hl]
    have hmd := own_reads' (own_made ((w.setCell ⟨rb, 0, none⟩ (.slice none 0 0)).setCell ⟨rb, 1, none⟩ (.bool true)) 0 5 .u8 n (Nat.zero_le _) (by have := H1.out; omega))
    have hsz : ((w.setCell ⟨rb, 0, none⟩ (.slice none 0 0)).setCell ⟨rb, 1, none⟩ (.bool true)).heap.size = w.heap.size := by simp [World.setCell]
    rw [hsz] at hmd
    exact hmd
  · rw [if_neg hgt]
    have hd : decide (m > (xs.length : Int)) = false := decide_eq_false hgt
    obtain ⟨i0, hi0, _, hsz, _⟩ := info_parts info_u8
    obtain ⟨hcut, hA, hC⟩ := print_take_of (P := Try.prog) (Value.int .u8) 0 30 5 .i64 Try.underlying30 hi0 hsz A c xs m h0 (by omega) hc
    obtain ⟨A2, hcut2, hA2, hC2⟩ := print_drop_of (P := Try.prog) (Value.int .u8) 0 30 5 .i64 Try.underlying30 hi0 hsz A c xs m h0 (by omega) hc
    obtain ⟨n1, hn1⟩ : ∃ n1, (xs.take m.toNat).length = n1 := ⟨_, rfl⟩
    obtain ⟨n2, hn2⟩ : ∃ n2, (xs.drop m.toNat).length = n2 := ⟨_, rfl⟩
    have N1 := Aside0.mk hn1
    have N2 := Aside0.mk hn2
    have HA := Aside0.mk hA
    have HC := Aside0.mk hC
    rw [hn1] at hcut
    rw [hn2] at hcut2
    have HA2 := Aside0.mk hA2
    have HC2 := Aside0.mk hC2
    clear hA hC hA2 hC2 hgt h0 h1 hc hi0 hsz hn1 hn2
    go_enter Try.func50, Try.ntmps50
    go_wp2
    go_ret
    have b2 := blk_set HB.out 0 (.slice A2 n2 (c - m.toNat))
    have hg : w.grownBy (w.setCell ⟨rb, 0, none⟩ (.slice A2 n2 (c - m.toNat))) (some rb) := grown_set (World.grownBy.refl w _) 0 _
    have r1 := HA.out W0 HR.out
    have r2 := HA2.out W0 HR.out
    have hb0 : Below W0.heap.size W0 (w.setCell ⟨rb, 0, none⟩ (.slice A2 n2 (c - m.toNat))) := below_set HB0.out HRB.out
    have b3 : (w.setCell ⟨rb, 0, none⟩ (.slice A2 n2 (c - m.toNat))).heap[rb]? = some (.cells #[.slice A2 (xs.drop m.toNat).length (c - m.toNat), .bool bad] 67 (0, 0)) := by
      rw [N2.out]
      exact b2
    refine ⟨⟨A, c, ?_, ?_, HC.out⟩, ⟨A2, c - m.toNat, b3, ?_, HC2.out⟩, hg⟩
    · exact congrArg (fun z => Ending.returned (Value.slice A z c)) N1.out.symm
    · exact ReadsInt.below r1 hb0
    · exact r2

def textR (xs : List Int) (bad : Bool) : ByteArray × List Int × Bool := (strOfNums (takeR (takeR xs bad 1).2.1 (takeR xs bad 1).2.2 (rd (takeR xs bad 1).1 0)).1, (takeR (takeR xs bad 1).2.1 (takeR xs bad 1).2.2 (rd (takeR xs bad 1).1 0)).2)
def childR (xs : List Int) (bad : Bool) : Int × List Int × Bool := (rd (takeR xs bad 3).1 0 * 65536 + rd (takeR xs bad 3).1 1 * 256 + rd (takeR xs bad 3).1 2, (takeR xs bad 3).2)
/-- Bytes, as numbers. -/
def Oct (xs : List Int) : Prop := ∀ x ∈ xs, 0 ≤ x ∧ x ≤ 255
theorem oct_rd {xs : List Int} (h : Oct xs) (i : Int) : 0 ≤ rd xs i ∧ rd xs i ≤ 255 := by
  unfold rd
  rw [List.getD_eq_getElem?_getD]
  rcases Nat.lt_or_ge i.toNat xs.length with hl | hl
  · rw [List.getElem?_eq_getElem hl]
    exact h _ (List.getElem_mem hl)
  · rw [List.getElem?_eq_none hl]
    exact ⟨Int.le_refl _, by decide⟩
theorem oct_take {xs : List Int} (h : Oct xs) (bad : Bool) (m : Int) : Oct (takeR xs bad m).1 ∧ Oct (takeR xs bad m).2.1 := by
  unfold takeR
  by_cases hm : m > (xs.length : Int)
  · rw [if_pos hm]
    exact ⟨fun x hx => by rw [(List.mem_replicate.1 hx).2]; decide, fun x hx => by cases hx⟩
  · rw [if_neg hm]
    exact ⟨fun x hx => h x (List.mem_of_mem_take hx), fun x hx => h x (List.mem_of_mem_drop hx)⟩

theorem one_cell {w : World} {A : Option Addr} {v : Int} (h : ReadsInt w .u8 A [v].length [v]) : ∃ ad, A = some ad ∧ w.cell? ad = some (.int .u8 v) := by
  obtain ⟨ad, hA, hc⟩ := h.2.2 (by show 0 < 1; decide)
  refine ⟨ad, hA, ?_⟩
  have := hc 0 (by show 0 < 1; decide)
  have e : ad.add 0 = ad := by unfold Addr.add; simp
  rw [e] at this
  exact this

set_option maxHeartbeats 1000000 in
theorem text_reads (rb : Nat) (xs : List Int) (bad : Bool) (W0 w : World) (hB0 : Below W0.heap.size W0 w) (hrb : W0.heap.size ≤ rb) (h : Rd W0 w rb xs bad) (ho : Oct xs) :
    Calls Try.prog 47 #[.pointer (some ⟨rb, 0, none⟩)] w fun e w' => e = .returned (.string (textR xs bad).1) ∧ Rd W0 w' rb (textR xs bad).2.1 (textR xs bad).2.2 ∧ w.grownBy w' (some rb) := by
  have o1 := oct_take ho bad 1
  have n0 := oct_rd o1.1 0
  have hl1 := takeR_len xs bad 1 (by decide)
  have T := take_calls rb xs bad 1 W0 w hB0 hrb h (by decide) (by decide)
  unfold textR
  generalize takeR xs bad 1 = T1 at *
  obtain ⟨a1, s1, bad1⟩ := T1
  dsimp only at o1 n0 hl1 T ⊢
  obtain ⟨v, rfl⟩ : ∃ v, a1 = [v] := by
    match a1, hl1 with
    | [v], _ => exact ⟨v, rfl⟩
    | [], hl => exact absurd hl (by show ¬ ((0 : Nat) : Int) = 1; decide)
    | _ :: _ :: l, hl => exact absurd hl (by rw [List.length_cons, List.length_cons]; omega)
  have n1 : 0 ≤ v ∧ v ≤ 255 := n0
  have hwv : wrap64 v = v := w64 (by omega) (by omega)
  have U : ∀ W, Below W0.heap.size W0 W → Rd W0 W rb s1 bad1 → _ := fun W hW0 hW => take_calls rb s1 bad1 v W0 W hW0 hrb hW n1.1 n1.2
  show Calls Try.prog 47 #[.pointer (some ⟨rb, 0, none⟩)] w fun e w' => e = .returned (.string (strOfNums (takeR s1 bad1 v).1)) ∧ Rd W0 w' rb (takeR s1 bad1 v).2.1 (takeR s1 bad1 v).2.2 ∧ w.grownBy w' (some rb)
  generalize takeR s1 bad1 v = T2 at *
  obtain ⟨a2, s2, bad2⟩ := T2
  dsimp only at U ⊢
  have HT := Aside0.mk T
  have HU := Aside0.mk U
  have HB0 := Aside0.mk hB0
  have HRB := Aside0.mk hrb
  clear T U n0 o1 hl1 n1 h ho
  go_enter Try.func47, Try.ntmps47
  go_wp2_with (first
    | (go_at_call 50; (with_reducible refine HT.out.mono ?_); rintro e w1 ⟨⟨A, c, rfl, r1, l1⟩, d1, g1⟩; obtain ⟨ad, hA, hc1⟩ := one_cell r1; subst hA; have HD1 := Aside0.mk d1; have HG1 := Aside0.mk g1; clear r1 l1 d1 g1)
    | (go_at_call 50; refine (HU.out _ (below_of_grown HB0.out HRB.out HG1.out) HD1.out).mono ?_; rintro e w2 ⟨⟨A2, c2, rfl, r2, l2⟩, d2, g2⟩; have hcv := Kd.C_string (P := Try.prog) (A := A2) (c := c2) Try.underlying30 Try.underlying5 Try.underlying9 (Kd.C_of_reads (h1 := fun _ => rfl) (d := (0 : Int)) (enc := Value.int .u8) r2); have HD2 := Aside0.mk d2; have HG2 := Aside0.mk g2; clear r2 l2 d2 g2))
  go_ret
  exact ⟨rfl, HD2.out, HG1.out.trans HG2.out⟩

theorem cells3 {w : World} {A : Option Addr} {x y z : Int} (h : ReadsInt w .u8 A [x, y, z].length [x, y, z]) : ∃ ad, A = some ad ∧ w.cell? ad = some (.int .u8 x) ∧ w.cell? { block := ad.block, off := ad.off + 1 } = some (.int .u8 y) ∧ w.cell? { block := ad.block, off := ad.off + 2 } = some (.int .u8 z) := by
  obtain ⟨ad, hA, hc⟩ := h.2.2 (by show 0 < 3; decide)
  have h0 := hc 0 (by show 0 < 3; decide)
  have e : ad.add 0 = ad := by unfold Addr.add; simp
  rw [e] at h0
  have e1 : ad.add 1 = { block := ad.block, off := ad.off + 1 } := by unfold Addr.add; simp
  have e2 : ad.add 2 = { block := ad.block, off := ad.off + 2 } := by unfold Addr.add; simp
  exact ⟨ad, hA, h0, by rw [← e1]; exact hc 1 (by show 1 < 3; decide), by rw [← e2]; exact hc 2 (by show 2 < 3; decide)⟩

set_option maxHeartbeats 1000000 in
theorem child_reads (rb : Nat) (xs : List Int) (bad : Bool) (W0 w : World) (hB0 : Below W0.heap.size W0 w) (hrb : W0.heap.size ≤ rb) (h : Rd W0 w rb xs bad) (ho : Oct xs) :
    Calls Try.prog 49 #[.pointer (some ⟨rb, 0, none⟩)] w fun e w' => e = .returned (.int .i64 (childR xs bad).1) ∧ Rd W0 w' rb (childR xs bad).2.1 (childR xs bad).2.2 ∧ w.grownBy w' (some rb) := by
  have o1 := oct_take ho bad 3
  have n0 := oct_rd o1.1 0
  have n1 := oct_rd o1.1 1
  have n2 := oct_rd o1.1 2
  have hl1 := takeR_len xs bad 3 (by decide)
  have T := take_calls rb xs bad 3 W0 w hB0 hrb h (by decide) (by decide)
  unfold childR
  generalize takeR xs bad 3 = T1 at *
  obtain ⟨a1, s1, bad1⟩ := T1
  dsimp only at o1 n0 n1 n2 hl1 T ⊢
  obtain ⟨x, y, z, rfl⟩ : ∃ x y z, a1 = [x, y, z] := by
    match a1, hl1 with
    | [x, y, z], _ => exact ⟨x, y, z, rfl⟩
    | [], hl => exact absurd hl (by show ¬ ((0 : Nat) : Int) = 3; decide)
    | [_], hl => exact absurd hl (by show ¬ ((1 : Nat) : Int) = 3; decide)
    | [_, _], hl => exact absurd hl (by show ¬ ((2 : Nat) : Int) = 3; decide)
    | _ :: _ :: _ :: _ :: l, hl => exact absurd hl (by rw [List.length_cons, List.length_cons, List.length_cons, List.length_cons]; omega)
  have m0 : 0 ≤ x ∧ x ≤ 255 := n0
  have m1 : 0 ≤ y ∧ y ≤ 255 := n1
  have m2 : 0 ≤ z ∧ z ≤ 255 := n2
  have i1 : IntKind.i64.wrap x = x := wraps_i64 x m0.1 (by omega)
  have i2 : IntKind.i64.wrap y = y := wraps_i64 y m1.1 (by omega)
  have i3 : IntKind.i64.wrap z = z := wraps_i64 z m2.1 (by omega)
  have i4 : IntKind.i64.wrap (x * 65536) = x * 65536 := wraps_i64 _ (by omega) (by omega)
  have i5 : IntKind.i64.wrap (y * 256) = y * 256 := wraps_i64 _ (by omega) (by omega)
  have i6 : Go.bits .or .i64 (x * 65536) (y * 256) = x * 65536 + y * 256 := or64 16 (by omega) (by omega) (by omega) (by omega) (by omega) (by omega)
  have i7 : Go.bits .or .i64 (x * 65536 + y * 256) z = x * 65536 + y * 256 + z := or64 8 (by omega) (by omega) (by omega) (by omega) (by omega) (by omega)
  have HT := Aside0.mk T
  clear T n0 n1 n2 m0 m1 m2 o1 hl1 h ho
  go_enter Try.func49, Try.ntmps49
  go_wp2_with (first
    | (go_at_call 50; (with_reducible refine HT.out.mono ?_); rintro e w1 ⟨⟨A, c, rfl, r1, l1⟩, d1, g1⟩; obtain ⟨ad, hA, hc1, hc2, hc3⟩ := cells3 r1; subst hA; have HD1 := Aside0.mk d1; have HG1 := Aside0.mk g1; clear r1 l1 d1 g1))
  go_quiet (fail)
  go_wp2
  go_ret
  exact ⟨rfl, rd_drewN HD1.out nq, grown_drewN HG1.out nq⟩
end Go.Proofs.YtjhenmegcgnkgaaX
