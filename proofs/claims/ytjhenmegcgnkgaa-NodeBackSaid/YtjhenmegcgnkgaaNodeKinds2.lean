/- node.kinds: its second closure (printed by genkinds.py). -/
import Derived.Test.YtjhenmegcgnkgaaQNodex0
import Derived.Test.YtjhenmegcgnkgaaNodeRead
import Derived.Test.YtjhenmegcgnkgaaNodeKinds
import Derived.Test.YtjhenmegcgnkgaaWTab
set_option linter.unusedVariables false
set_option linter.unusedSimpArgs false
namespace Go.Proofs.YtjhenmegcgnkgaaX
open Go.RowKit Go.Proofs.YtjhenmegcgnkgaaW.PrintWords Go.Proofs.YtjhenmegcgnkgaaW.PrintLast Go.Proofs.YtjhenmegcgnkgaaW.PrintMore Go.Proofs.Ytjhenmegcgnkgaa

theorem kinds_tab48_3 : rtab .any (opsOf Try.f48 3) = (true, [([], []), ([], []), ([1], [1]), ([2], [2]), ([3], [3]), ([], []), ([5], [5]), ([6], [6]), ([4, 7, 6], [4, 7]), ([0, 0, 1, 2, 3, 4, 5, 6, 7, 8], [0]), ([9, 0, 1, 2, 3, 4, 5, 6, 7, 8], [9]), ([10, 8, 8, 0, 1, 2, 3, 4, 5, 6, 7, 8], [8, 10])]) := by kernel_rfl
theorem kinds_bits48_3 : waitsOk [([], []), ([], []), ([1], [1]), ([2], [2]), ([3], [3]), ([], []), ([5], [5]), ([6], [6]), ([4, 7, 6], [4, 7]), ([0, 0, 1, 2, 3, 4, 5, 6, 7, 8], [0]), ([9, 0, 1, 2, 3, 4, 5, 6, 7, 8], [9]), ([10, 8, 8, 0, 1, 2, 3, 4, 5, 6, 7, 8], [8, 10])] [0, 0, 2, 6, 14, 0, 32, 96, 254, 511, 1023, 2047] = true := by kernel_rfl
theorem kinds_tab48_7 : rtab .any (opsOf Try.f48 7) = (true, [([], []), ([], []), ([1], [1]), ([2], [2]), ([3], [3]), ([], []), ([5], [5]), ([6], [6]), ([4, 7, 6], [4, 7]), ([0, 0, 1, 2, 3, 4, 5, 6, 7, 8], [0]), ([9, 0, 1, 2, 3, 4, 5, 6, 7, 8], [9]), ([10, 8, 8, 0, 1, 2, 3, 4, 5, 6, 7, 8], [8, 10])]) := by kernel_rfl
theorem kinds_bits48_7 : waitsOk [([], []), ([], []), ([1], [1]), ([2], [2]), ([3], [3]), ([], []), ([5], [5]), ([6], [6]), ([4, 7, 6], [4, 7]), ([0, 0, 1, 2, 3, 4, 5, 6, 7, 8], [0]), ([9, 0, 1, 2, 3, 4, 5, 6, 7, 8], [9]), ([10, 8, 8, 0, 1, 2, 3, 4, 5, 6, 7, 8], [8, 10])] [0, 0, 2, 6, 14, 0, 32, 96, 254, 511, 1023, 2047] = true := by kernel_rfl

def kidsR : Nat → List Int → Bool → List Int → List Int × List Int × Bool
  | 0, xs, bad, acc => (acc, xs, bad)
  | m + 1, xs, bad, acc => if bad = true then (acc, xs, bad) else kidsR m (childR xs bad).2.1 (childR xs bad).2.2 (acc ++ [(childR xs bad).1])
theorem kidsR_bad (m : Nat) (xs : List Int) (acc : List Int) : kidsR m xs true acc = (acc, xs, true) := by
  cases m with
  | zero => rfl
  | succ m => rw [kidsR, if_pos rfl]
theorem kidsR_go (m : Nat) (xs : List Int) (acc : List Int) : kidsR (m + 1) xs false acc = kidsR m (childR xs false).2.1 (childR xs false).2.2 (acc ++ [(childR xs false).1]) := by
  rw [kidsR, if_neg (by decide)]
def keysR : Nat → List Int → Bool → List ByteArray → List ByteArray × List Int × Bool
  | 0, xs, bad, acc => (acc, xs, bad)
  | m + 1, xs, bad, acc => if bad = true then (acc, xs, bad) else keysR m (textR xs bad).2.1 (textR xs bad).2.2 (acc ++ [(textR xs bad).1])
theorem keysR_bad (m : Nat) (xs : List Int) (acc : List ByteArray) : keysR m xs true acc = (acc, xs, true) := by
  cases m with
  | zero => rfl
  | succ m => rw [keysR, if_pos rfl]
theorem keysR_go (m : Nat) (xs : List Int) (acc : List ByteArray) : keysR (m + 1) xs false acc = keysR m (textR xs false).2.1 (textR xs false).2.2 (acc ++ [(textR xs false).1]) := by
  rw [keysR, if_neg (by decide)]
theorem oct_child {xs : List Int} (h : Oct xs) (bad : Bool) : Oct (childR xs bad).2.1 := (oct_take h bad 3).2
theorem info_i3 : (Try.prog.info? 3).map (fun i => (i.zero, i.size, i.bytes)) = some (some (.int .i64 0), 1, 8) := by kernel_rfl
theorem info_s9 : (Try.prog.info? 9).map (fun i => (i.zero, i.size, i.bytes)) = some (some (.string ⟨#[]⟩), 1, 16) := by kernel_rfl

set_option maxHeartbeats 4000000 in
set_option maxRecDepth 100000 in
theorem kinds2_calls (rb nb : Nat) (xs : List Int) (cnt : Int) (hc0 : 0 ≤ cnt) (hc1 : cnt ≤ 65535) (W0 w : World) (hB0 : Below W0.heap.size W0 w) (hrb : W0.heap.size ≤ rb) (hnb : W0.heap.size ≤ nb) (hne : rb ≠ nb) (h : Rd W0 w rb xs false) (ho : Oct xs) (hn : NodeAt w nb false (.slice none 0 0) (.slice none 0 0) (.slice none 0 0)) :
    Calls Try.prog 48 #[.pointer (some ⟨rb, 0, none⟩), .pointer (some ⟨nb, 0, none⟩), .int .i64 cnt] w fun e w' => e = .returned (.tuple #[]) ∧ ∃ v2 v3, NodeAt w' nb false (.slice none 0 0) v2 v3 ∧ Kd.string.R 9 w' W0.heap.size (fun k => k ≠ rb ∧ k ≠ nb) v2 (keysR cnt.toNat (kidsR (cnt.toNat + 1) xs false []).2.1 (kidsR (cnt.toNat + 1) xs false []).2.2 []).1 ∧ (Kd.int .i64).R 3 w' W0.heap.size (fun k => k ≠ rb ∧ k ≠ nb) v3 (kidsR (cnt.toNat + 1) xs false []).1 ∧
      Rd W0 w' rb (keysR cnt.toNat (kidsR (cnt.toNat + 1) xs false []).2.1 (kidsR (cnt.toNat + 1) xs false []).2.2 []).2.1 (keysR cnt.toNat (kidsR (cnt.toNat + 1) xs false []).2.1 (kidsR (cnt.toNat + 1) xs false []).2.2 []).2.2 ∧ Below W0.heap.size W0 w' := by
  have HRB := Aside0.mk hrb
  have HNB := Aside0.mk hnb
  have HNE := Aside0.mk hne
  have HN0 := Aside0.mk hn
  have HD0 := Aside0.mk h
  have HO0 := Aside0.mk ho
  have HBB := Aside0.mk hB0
  have HC := Aside0.mk (And.intro hc0 hc1)
  obtain ⟨RES, hres⟩ : ∃ R, kidsR (cnt.toNat + 1) xs false [] = R := ⟨_, rfl⟩
  rw [hres]
  have HRES := Aside0.mk hres
  obtain ⟨RES2, hres2⟩ : ∃ R, keysR cnt.toNat RES.2.1 RES.2.2 [] = R := ⟨_, rfl⟩
  rw [hres2]
  have HRES2 := Aside0.mk hres2
  clear hrb hnb hne hn h ho hB0 hres hc0 hc1 hres2
  go_enter Try.func48, Try.ntmps48
  go_wp2
  go_loopw [6, 8, 9, 10, 11, 12, 13, 14, 15, 16, 17, 18, 19, 20, 21, 22, 23, 24, 25, 26, 27, 28, 29, 30] (fun v6 _ _ _ _ _ _ _ _ _ _ _ _ _ _ _ _ _ _ _ _ _ _ _ wx => ∃ (i : Int) (ys : List Int) (bad : Bool) (acc : List Int) (v1 : Value), v6 = .int .i64 i ∧ Aside0 (0 ≤ i ∧ i ≤ cnt + 1 ∧ (acc.length : Int) = i) ∧ Aside0 (kidsR (cnt + 1 - i).toNat ys bad acc = RES) ∧ Aside0 (Oct ys) ∧ Aside0 (Rd W0 wx rb ys bad) ∧ Aside0 (NodeAt wx nb false (.slice none 0 0) (.slice none 0 0) v1) ∧ Aside0 ((Kd.int .i64).R 3 wx W0.heap.size (fun k => k ≠ rb ∧ k ≠ nb) v1 acc) ∧ Aside0 (Below W0.heap.size W0 wx)) (fun v6 _ _ _ _ _ _ _ _ _ _ _ _ _ _ _ _ _ _ _ _ _ _ _ wx => (cnt + 1 - intOf v6).toNat)
  case atStart => exact ⟨0, xs, false, [], .slice none 0 0, rfl, ⟨by have := HC.out; refine ⟨by omega, by omega, rfl⟩⟩, ⟨by have := HC.out; rw [show (cnt + 1 - 0).toNat = cnt.toNat + 1 by omega]; exact HRES.out⟩, HO0, HD0, HN0, ⟨Kd.R_nil _ _ _ _ _⟩, HBB⟩
  case round =>
    obtain ⟨i, ys, bad, acc, v1, rfl, HI, HL, HO, HD, BN, HR, HB⟩ := hrel
    have HNEs := Aside0.mk HNE.out.symm
    obtain ⟨A, c, hrd, hrr, hrc⟩ := HD.out.r
    have r0 : wr.cell? ⟨rb, 0, none⟩ = some (.slice A ys.length c) := (blk_cell hrd 0).trans rfl
    have r1 : wr.cell? ⟨rb, 1, none⟩ = some (.bool bad) := (blk_cell hrd 1).trans rfl
    clear hrd hrr hrc
    have second : ∀ W, Aside0 (Below W0.heap.size W0 W) → True := fun _ _ => trivial
    by_cases hlt : i ≤ cnt
    · have hd : decide (i ≤ cnt) = true := decide_eq_true hlt
      cases bad
      · have hm : (cnt + 1 - i).toNat = (cnt + 1 - (i + 1)).toNat + 1 := by omega
        have HL2 := Aside0.mk ((by rw [← kidsR_go, ← hm]; exact HL.out : kidsR (cnt + 1 - (i + 1)).toNat (childR ys false).2.1 (childR ys false).2.2 (acc ++ [(childR ys false).1]) = RES))
        have HO1 := Aside0.mk (oct_child HO.out false)
        have hwi : wrap64 (i + 1) = i + 1 := w64 (by have := HI.out; omega) (by have := HC.out; omega)
        have HLT := Aside0.mk hlt
        have HLM := Aside0.mk (show acc.length ≤ 65536 by have := HI.out; have := HC.out; omega)
        obtain ⟨T1, hT1⟩ : ∃ T, childR ys false = T := ⟨_, rfl⟩
        have HT1 := Aside0.mk hT1
        rw [hT1] at HL2 HO1
        obtain ⟨k1, ys1, bad1⟩ := T1
        dsimp only at HL2 HO1
        clear hlt HL hm hT1
        go_wp2
        clear r0 r1
        refine start_ (n := 12) (S := fun w' => w'.cell? ⟨nb, 3, none⟩ = some v1) (ds := [11]) #[false, false, false, false, false, false, false, false, false, false, false, false] (by kernel_rfl) rfl rfl ((blk_cell (blk_drew BN.out) 3).trans rfl) (fun hHeld => ?_); refine with_tabW (T := _) kinds_tab48_3 kinds_bits48_3 (fun HT_ HW_ => ?_)
        have n0_ := Aside0.mk (rd_drew HD.out)
        have n1_ := Aside0.mk (blk_drew BN.out)
        have n2_ := Aside0.mk (Kd.R_drew HR.out)
        have n3_ := Aside0.mk (below_drew1 HB.out)
        clear HD BN HR HB
        have HD := n0_
        have BN := n1_
        have HR := n2_
        have HB := n3_
        clear n0_ n1_ n2_ n3_
        generalize wr.drew = w4 at HD BN HR HB hHeld ⊢
        refine pure_ (i := 0) (N := some 20) (v := ?_) (a' := ?_) #[true, false, false, false, false, false, false, false, false, false, false, false] rfl rfl (any_of HT_.out (by kernel_rfl)) (fun _ _ _ h => h) (Or.inl ⟨by rfl, ?_⟩) ?_ ?_
        rotate_left
        · intro w'
          go_simp
          with_reducible rfl
        rotate_left
        · simp only [Act.put, List.setIfInBounds_toArray, List.set_cons_zero, List.set_cons_succ, i64_w, i32_w]
          rfl
        refine pure_ (i := 1) (N := some 21) (v := ?_) (a' := ?_) #[true, true, false, false, false, false, false, false, false, false, false, false] rfl rfl (any_of HT_.out (by kernel_rfl)) (fun _ _ _ h => h) (Or.inl ⟨by rfl, ?_⟩) ?_ ?_
        rotate_left
        · intro w'
          go_simp
          with_reducible rfl
        rotate_left
        · simp only [Act.put, List.setIfInBounds_toArray, List.set_cons_zero, List.set_cons_succ, i64_w, i32_w]
          rfl
        refine pure_ (i := 2) (N := some 22) (v := ?_) (a' := ?_) #[true, true, true, false, false, false, false, false, false, false, false, false] rfl rfl (any_of HT_.out (by kernel_rfl)) (fun _ _ _ h => h) (Or.inl ⟨by rfl, ?_⟩) ?_ ?_
        rotate_left
        · intro w'
          go_simp
          with_reducible rfl
        rotate_left
        · simp only [Act.put, List.setIfInBounds_toArray, List.set_cons_zero, List.set_cons_succ, i64_w, i32_w]
          rfl
        refine pure_ (i := 3) (N := some 23) (v := ?_) (a' := ?_) #[true, true, true, true, false, false, false, false, false, false, false, false] rfl rfl (any_of HT_.out (by kernel_rfl)) (fun _ _ _ h => h) (Or.inl ⟨by rfl, ?_⟩) ?_ ?_
        rotate_left
        · intro w'
          go_simp
          with_reducible rfl
        rotate_left
        · simp only [Act.put, List.setIfInBounds_toArray, List.set_cons_zero, List.set_cons_succ, i64_w, i32_w]
          rfl
        refine pure_ (i := 5) (N := some 25) (v := ?_) (a' := ?_) #[true, true, true, true, false, true, false, false, false, false, false, false] rfl rfl (any_of HT_.out (by kernel_rfl)) (fun _ _ _ h => h) (Or.inl ⟨by rfl, ?_⟩) ?_ ?_
        rotate_left
        · intro w'
          go_simp
          with_reducible rfl
        rotate_left
        · simp only [Act.put, List.setIfInBounds_toArray, List.set_cons_zero, List.set_cons_succ, i64_w, i32_w]
          rfl
        refine take_ (i := 4) (N := some 24) (v := ?_) (a' := ?_) #[true, true, true, true, true, true, false, false, false, false, false, false] rfl rfl (take_ofW HT_.out HW_.out (by kernel_rfl)) (fun _ _ _ h => h) (Or.inl ⟨by rfl, ?_⟩) hHeld ?_ ?_
        rotate_left
        · intro w' s0
          go_simp
          with_reducible rfl
        rotate_left
        · simp only [Act.put, List.setIfInBounds_toArray, List.set_cons_zero, List.set_cons_succ, i64_w, i32_w]
          rfl
        refine one_ (i := 6) (N := some 26) #[true, true, true, true, true, true, true, false, false, false, false, false] rfl rfl (one_of HT_.out (by kernel_rfl)) (by decide) (fun K hK => ?_)
        refine goes_ Try.func49 (by kernel_rfl) rfl #[.pointer (some ⟨rb, 0, none⟩)] (by rfl) rfl rfl (by (try simp only [List.map_toArray, List.map_cons, List.map_nil]); first | done | rfl) ?_
        have hx_ := child_reads rb ys false W0 w4 HB.out HRB.out HD.out HO.out
        rw [HT1.out] at hx_
        dsimp only at hx_
        refine hx_.mono ?_
        rintro e w5 ⟨rfl, d5, g5⟩
        refine ⟨_, rfl, ?_⟩
        have n0_ := Aside0.mk d5
        have n1_ := Aside0.mk (blk_grown BN.out g5 (fun e => HNE.out (Option.some.inj e).symm))
        have n2_ := Aside0.mk (Kd.R_grown HR.out g5 (fun k hk e => hk.1 (Option.some.inj e)))
        have n3_ := Aside0.mk (below_of_grown HB.out HRB.out g5)
        clear HD BN HR HB d5 g5
        have HD := n0_
        have BN := n1_
        have HR := n2_
        have HB := n3_
        clear n0_ n1_ n2_ n3_
        refine hK.out _ _ ((blk_cell BN.out 3).trans rfl) (fun hHeld => ?_)
        clear hK K
        refine norm_ (a' := ?_) ?_ ?_
        rotate_left
        · show Act.put _ (some 26) _ = _
          simp only [Act.put, List.setIfInBounds_toArray, List.set_cons_zero, List.set_cons_succ, i64_w, i32_w]
          rfl
        refine one_ (i := 7) (N := some 27) #[true, true, true, true, true, true, true, true, false, false, false, false] rfl rfl (one_of HT_.out (by kernel_rfl)) (by decide) (fun K hK => ?_)
        refine value_ (w1 := ?_) (v := ?_) (by rfl) rfl ?_ ?_
        rotate_left 2
        · go_simp
          constructor
          · rfl
          · rfl
        refine hK.out _ _ ((blk_cell (blk_alloc BN.out _) 3).trans rfl) (fun hHeld => ?_)
        clear hK K
        refine norm_ (a' := ?_) ?_ ?_
        rotate_left
        · show Act.put _ (some 27) _ = _
          simp only [Act.put, List.setIfInBounds_toArray, List.set_cons_zero, List.set_cons_succ, i64_w, i32_w]
          rfl
        refine one_ (i := 8) (N := some 28) #[true, true, true, true, true, true, true, true, true, false, false, false] rfl rfl (one_of HT_.out (by kernel_rfl)) (by decide) (fun K hK => ?_)
        refine Kd.R_append_step (Kd.int .i64) (w0 := W0) W0.heap.size (by rfl) (.tmp 24) (.tmp 27) 24 3 (.int .i64 0) 8 rfl Try.underlying24 info_i3 rfl (by decide) (by omega) v1 acc k1 [.int .i64 k1] (fun k => k ≠ rb ∧ k ≠ nb) (fun _ => False) rfl rfl ?aP (fun _ hk => hk.elim) ?aF ?aO ?aB ?aS ?aL ?_
        (case aP => exact rfl)
        (case aB => exact HB.out)
        (case aF => exact fun k hk => by have h1 := rd_lt HD.out; have h2 := blk_lt BN.out; omega)
        (case aO => exact HR.out)
        (case aS => exact HB.out.size)
        (case aL => have := HLM.out; omega)
        intro v2 w6 ho hb hg hat
        have n0_ := Aside0.mk (rd_grown HD.out hg (fun e => (HR.out.1 rb e.symm).1 rfl))
        have n1_ := Aside0.mk (blk_grown BN.out hg (fun e => (HR.out.1 nb e.symm).2 rfl))
        have n2_ := Aside0.mk ho
        have n3_ := Aside0.mk hb
        clear HD BN HR HB ho hb hg hat
        have HD := n0_
        have BN := n1_
        have HR := n2_
        have HB := n3_
        clear n0_ n1_ n2_ n3_
        obtain ⟨Ao, co, eo⟩ := Kd.R_slice HR.out
        subst eo
        refine hK.out _ _ ((blk_cell BN.out 3).trans rfl) (fun hHeld => ?_)
        clear hK K
        refine norm_ (a' := ?_) ?_ ?_
        rotate_left
        · show Act.put _ (some 28) _ = _
          simp only [Act.put, List.setIfInBounds_toArray, List.set_cons_zero, List.set_cons_succ, i64_w, i32_w]
          rfl
        refine pure_ (i := 9) (N := some 29) (v := ?_) (a' := ?_) #[true, true, true, true, true, true, true, true, true, true, false, false] rfl rfl (any_of HT_.out (by kernel_rfl)) (fun _ _ _ h => h) (Or.inl ⟨by rfl, ?_⟩) ?_ ?_
        rotate_left
        · intro w'
          go_simp
          with_reducible rfl
        rotate_left
        · simp only [Act.put, List.setIfInBounds_toArray, List.set_cons_zero, List.set_cons_succ, i64_w, i32_w]
          rfl
        refine pure_ (i := 10) (N := some 30) (v := ?_) (a' := ?_) #[true, true, true, true, true, true, true, true, true, true, true, false] rfl rfl (any_of HT_.out (by kernel_rfl)) (fun _ _ _ h => h) (Or.inl ⟨by rfl, ?_⟩) ?_ ?_
        rotate_left
        · intro w'
          go_simp
          with_reducible rfl
        rotate_left
        · simp only [Act.put, List.setIfInBounds_toArray, List.set_cons_zero, List.set_cons_succ, i64_w, i32_w]
          rfl
        refine last_ (i := 11) (N := none) #[true, true, true, true, true, true, true, true, true, true, true, true] rfl rfl (one_of HT_.out (by kernel_rfl)) (by decide) (fun K hK => ?_)
        have hs_ : w6.cell? ⟨nb, 3, none⟩ = some v1 := (blk_cell BN.out 3).trans rfl
        have hf_ := blk_frozen BN.out 3
        refine skip_ (w1 := ?_) (by rfl) rfl ?_ ?_
        rotate_left
        · go_simp
          rfl
        refine hK.out _ _ ?_
        clear hK K
        refine done_ (done_of HT_.out (by kernel_rfl)) ?_
        go_wp2
        go_roundw
        case rel =>
          have e9 : (acc ++ [k1]).length = acc.length + 1 := by rw [List.length_append]; rfl
          have HR9 := HR.out
          rw [e9] at HR9
          have hg := grown_set (World.grownBy.refl w6 (some nb)) 3 (.slice Ao (acc.length + 1) co)
          exact ⟨i + 1, ys1, bad1, acc ++ [k1], .slice Ao (acc.length + 1) co, by first | rfl | (rw [hwi]), ⟨by have := HI.out; have := HLT.out; refine ⟨by omega, by omega, by rw [List.length_append]; show ((acc.length + 1 : Nat) : Int) = _; omega⟩⟩, HL2, HO1, ⟨rd_grown HD.out hg (fun e => HNE.out (Option.some.inj e))⟩, ⟨blk_set BN.out 3 _⟩, ⟨Kd.R_far HR9 (fun k hk => hk.2) _⟩, ⟨below_set HB.out HNB.out⟩⟩
        case measure => have h1_ := HLT.out; have h2_ := HI.out; simp [intOf]; omega
      · have hl := HL.out
        rw [kidsR_bad] at hl
        have HRE := Aside0.mk hl
        subst hl
        have HC3 := HR
        clear HR HI HL HRE
        go_wp2
        clear r1 r0
        go_loopw [7, 31, 32, 33, 34, 35, 36, 37, 38, 39, 40, 41, 42, 43, 44, 45, 46, 47, 48, 49, 50, 51, 52, 53] (fun v7 _ _ _ _ _ _ _ _ _ _ _ _ _ _ _ _ _ _ _ _ _ _ _ wx => ∃ (j : Int) (zs : List Int) (bad2 : Bool) (acc2 : List ByteArray) (v2 : Value), v7 = .int .i64 j ∧ Aside0 (0 ≤ j ∧ j ≤ cnt ∧ (acc2.length : Int) = j) ∧ Aside0 (keysR (cnt - j).toNat zs bad2 acc2 = RES2) ∧ Aside0 (Oct zs) ∧ Aside0 (Rd W0 wx rb zs bad2) ∧ Aside0 (NodeAt wx nb false (.slice none 0 0) v2 v1) ∧ Aside0 (Kd.string.R 9 wx W0.heap.size (fun k => k ≠ rb ∧ k ≠ nb) v2 acc2) ∧ Aside0 ((Kd.int .i64).R 3 wx W0.heap.size (fun k => k ≠ rb ∧ k ≠ nb) v1 acc) ∧ Aside0 (Below W0.heap.size W0 wx)) (fun v7 _ _ _ _ _ _ _ _ _ _ _ _ _ _ _ _ _ _ _ _ _ _ _ wx => (cnt - intOf v7).toNat)
        case atStart => exact ⟨0, ys, true, [], .slice none 0 0, rfl, ⟨by have := HC.out; refine ⟨by omega, by omega, rfl⟩⟩, ⟨by rw [Int.sub_zero]; exact HRES2.out⟩, HO, HD, BN, ⟨Kd.R_nil _ _ _ _ _⟩, HC3, HB⟩
        case round =>
          clear HO HD BN HC3 HB
          obtain ⟨i, ys, bad, acc, v1, rfl, HI, HL, HO, HD, BN, HR, HC3, HB⟩ := hrel
          obtain ⟨A, c, hrd, hrr, hrc⟩ := HD.out.r
          have r0 : wr.cell? ⟨rb, 0, none⟩ = some (.slice A ys.length c) := (blk_cell hrd 0).trans rfl
          have r1 : wr.cell? ⟨rb, 1, none⟩ = some (.bool bad) := (blk_cell hrd 1).trans rfl
          clear hrd hrr hrc
          by_cases hlt : i < cnt
          · have hd : decide (i < cnt) = true := decide_eq_true hlt
            cases bad
            · have hm : (cnt - i).toNat = (cnt - (i + 1)).toNat + 1 := by omega
              have HL2 := Aside0.mk ((by rw [← keysR_go, ← hm]; exact HL.out : keysR (cnt - (i + 1)).toNat (textR ys false).2.1 (textR ys false).2.2 (acc ++ [(textR ys false).1]) = RES2))
              have HO1 := Aside0.mk (oct_text HO.out false)
              have hwi : wrap64 (i + 1) = i + 1 := w64 (by have := HI.out; omega) (by have := HC.out; omega)
              have HLT := Aside0.mk hlt
              have HLM := Aside0.mk (show acc.length ≤ 65536 by have := HI.out; have := HC.out; omega)
              obtain ⟨T1, hT1⟩ : ∃ T, textR ys false = T := ⟨_, rfl⟩
              have HT1 := Aside0.mk hT1
              rw [hT1] at HL2 HO1
              obtain ⟨k1, ys1, bad1⟩ := T1
              dsimp only at HL2 HO1
              clear hlt HL hm hT1
              go_wp2
              clear r0 r1
              refine start_ (n := 12) (S := fun w' => w'.cell? ⟨nb, 2, none⟩ = some v1) (ds := [11]) #[false, false, false, false, false, false, false, false, false, false, false, false] (by kernel_rfl) rfl rfl ((blk_cell (blk_drew BN.out) 2).trans rfl) (fun hHeld => ?_); refine with_tabW (T := _) kinds_tab48_7 kinds_bits48_7 (fun HT_ HW_ => ?_)
              have n0_ := Aside0.mk (rd_drew HD.out)
              have n1_ := Aside0.mk (blk_drew BN.out)
              have n2_ := Aside0.mk (Kd.R_drew HR.out)
              have n3_ := Aside0.mk (below_drew1 HB.out)
              have n4_ := Aside0.mk (Kd.R_drew HC3.out)
              clear HC3
              clear HD BN HR HB
              have HD := n0_
              have BN := n1_
              have HR := n2_
              have HB := n3_
              have HC3 := n4_
              clear n4_
              clear n0_ n1_ n2_ n3_
              generalize wr.drew = w4 at HD BN HR HB HC3 hHeld ⊢
              refine pure_ (i := 0) (N := some 43) (v := ?_) (a' := ?_) #[true, false, false, false, false, false, false, false, false, false, false, false] rfl rfl (any_of HT_.out (by kernel_rfl)) (fun _ _ _ h => h) (Or.inl ⟨by rfl, ?_⟩) ?_ ?_
              rotate_left
              · intro w'
                go_simp
                with_reducible rfl
              rotate_left
              · simp only [Act.put, List.setIfInBounds_toArray, List.set_cons_zero, List.set_cons_succ, i64_w, i32_w]
                rfl
              refine pure_ (i := 1) (N := some 44) (v := ?_) (a' := ?_) #[true, true, false, false, false, false, false, false, false, false, false, false] rfl rfl (any_of HT_.out (by kernel_rfl)) (fun _ _ _ h => h) (Or.inl ⟨by rfl, ?_⟩) ?_ ?_
              rotate_left
              · intro w'
                go_simp
                with_reducible rfl
              rotate_left
              · simp only [Act.put, List.setIfInBounds_toArray, List.set_cons_zero, List.set_cons_succ, i64_w, i32_w]
                rfl
              refine pure_ (i := 2) (N := some 45) (v := ?_) (a' := ?_) #[true, true, true, false, false, false, false, false, false, false, false, false] rfl rfl (any_of HT_.out (by kernel_rfl)) (fun _ _ _ h => h) (Or.inl ⟨by rfl, ?_⟩) ?_ ?_
              rotate_left
              · intro w'
                go_simp
                with_reducible rfl
              rotate_left
              · simp only [Act.put, List.setIfInBounds_toArray, List.set_cons_zero, List.set_cons_succ, i64_w, i32_w]
                rfl
              refine pure_ (i := 3) (N := some 46) (v := ?_) (a' := ?_) #[true, true, true, true, false, false, false, false, false, false, false, false] rfl rfl (any_of HT_.out (by kernel_rfl)) (fun _ _ _ h => h) (Or.inl ⟨by rfl, ?_⟩) ?_ ?_
              rotate_left
              · intro w'
                go_simp
                with_reducible rfl
              rotate_left
              · simp only [Act.put, List.setIfInBounds_toArray, List.set_cons_zero, List.set_cons_succ, i64_w, i32_w]
                rfl
              refine pure_ (i := 5) (N := some 48) (v := ?_) (a' := ?_) #[true, true, true, true, false, true, false, false, false, false, false, false] rfl rfl (any_of HT_.out (by kernel_rfl)) (fun _ _ _ h => h) (Or.inl ⟨by rfl, ?_⟩) ?_ ?_
              rotate_left
              · intro w'
                go_simp
                with_reducible rfl
              rotate_left
              · simp only [Act.put, List.setIfInBounds_toArray, List.set_cons_zero, List.set_cons_succ, i64_w, i32_w]
                rfl
              refine take_ (i := 4) (N := some 47) (v := ?_) (a' := ?_) #[true, true, true, true, true, true, false, false, false, false, false, false] rfl rfl (take_ofW HT_.out HW_.out (by kernel_rfl)) (fun _ _ _ h => h) (Or.inl ⟨by rfl, ?_⟩) hHeld ?_ ?_
              rotate_left
              · intro w' s0
                go_simp
                with_reducible rfl
              rotate_left
              · simp only [Act.put, List.setIfInBounds_toArray, List.set_cons_zero, List.set_cons_succ, i64_w, i32_w]
                rfl
              refine one_ (i := 6) (N := some 49) #[true, true, true, true, true, true, true, false, false, false, false, false] rfl rfl (one_of HT_.out (by kernel_rfl)) (by decide) (fun K hK => ?_)
              refine goes_ Try.func47 (by kernel_rfl) rfl #[.pointer (some ⟨rb, 0, none⟩)] (by rfl) rfl rfl (by (try simp only [List.map_toArray, List.map_cons, List.map_nil]); first | done | rfl) ?_
              have hx_ := text_reads rb ys false W0 w4 HB.out HRB.out HD.out HO.out
              rw [HT1.out] at hx_
              dsimp only at hx_
              refine hx_.mono ?_
              rintro e w5 ⟨rfl, d5, g5⟩
              refine ⟨_, rfl, ?_⟩
              have n0_ := Aside0.mk d5
              have n1_ := Aside0.mk (blk_grown BN.out g5 (fun e => HNE.out (Option.some.inj e).symm))
              have n2_ := Aside0.mk (Kd.R_grown HR.out g5 (fun k hk e => hk.1 (Option.some.inj e)))
              have n3_ := Aside0.mk (below_of_grown HB.out HRB.out g5)
              have n4_ := Aside0.mk (Kd.R_grown HC3.out g5 (fun k hk e => hk.1 (Option.some.inj e)))
              clear HC3
              clear HD BN HR HB d5 g5
              have HD := n0_
              have BN := n1_
              have HR := n2_
              have HB := n3_
              have HC3 := n4_
              clear n4_
              clear n0_ n1_ n2_ n3_
              refine hK.out _ _ ((blk_cell BN.out 2).trans rfl) (fun hHeld => ?_)
              clear hK K
              refine norm_ (a' := ?_) ?_ ?_
              rotate_left
              · show Act.put _ (some 49) _ = _
                simp only [Act.put, List.setIfInBounds_toArray, List.set_cons_zero, List.set_cons_succ, i64_w, i32_w]
                rfl
              refine one_ (i := 7) (N := some 50) #[true, true, true, true, true, true, true, true, false, false, false, false] rfl rfl (one_of HT_.out (by kernel_rfl)) (by decide) (fun K hK => ?_)
              refine value_ (w1 := ?_) (v := ?_) (by rfl) rfl ?_ ?_
              rotate_left 2
              · go_simp
                constructor
                · rfl
                · rfl
              refine hK.out _ _ ((blk_cell (blk_alloc BN.out _) 2).trans rfl) (fun hHeld => ?_)
              clear hK K
              refine norm_ (a' := ?_) ?_ ?_
              rotate_left
              · show Act.put _ (some 50) _ = _
                simp only [Act.put, List.setIfInBounds_toArray, List.set_cons_zero, List.set_cons_succ, i64_w, i32_w]
                rfl
              refine one_ (i := 8) (N := some 51) #[true, true, true, true, true, true, true, true, true, false, false, false] rfl rfl (one_of HT_.out (by kernel_rfl)) (by decide) (fun K hK => ?_)
              refine Kd.R_append_step Kd.string (w0 := W0) W0.heap.size (by rfl) (.tmp 47) (.tmp 50) 23 9 (.string ⟨#[]⟩) 16 rfl Try.underlying23 info_s9 rfl (by decide) (by omega) v1 acc k1 [.string k1] (fun k => k ≠ rb ∧ k ≠ nb) (fun _ => False) rfl rfl ?aP (fun _ hk => hk.elim) ?aF ?aO ?aB ?aS ?aL ?_
              (case aP => exact rfl)
              (case aB => exact HB.out)
              (case aF => exact fun k hk => by have h1 := rd_lt HD.out; have h2 := blk_lt BN.out; omega)
              (case aO => exact HR.out)
              (case aS => exact HB.out.size)
              (case aL => have := HLM.out; omega)
              intro v2 w6 ho hb hg hat
              have n0_ := Aside0.mk (rd_grown HD.out hg (fun e => (HR.out.1 rb e.symm).1 rfl))
              have n1_ := Aside0.mk (blk_grown BN.out hg (fun e => (HR.out.1 nb e.symm).2 rfl))
              have n2_ := Aside0.mk ho
              have n3_ := Aside0.mk hb
              have n4_ := Aside0.mk (Kd.R_over' HC3.out (Kd.R_typed HR.out) (by decide) hg)
              clear HC3
              clear HD BN HR HB ho hb hg hat
              have HD := n0_
              have BN := n1_
              have HR := n2_
              have HB := n3_
              have HC3 := n4_
              clear n4_
              clear n0_ n1_ n2_ n3_
              obtain ⟨Ao, co, eo⟩ := Kd.R_slice HR.out
              subst eo
              refine hK.out _ _ ((blk_cell BN.out 2).trans rfl) (fun hHeld => ?_)
              clear hK K
              refine norm_ (a' := ?_) ?_ ?_
              rotate_left
              · show Act.put _ (some 51) _ = _
                simp only [Act.put, List.setIfInBounds_toArray, List.set_cons_zero, List.set_cons_succ, i64_w, i32_w]
                rfl
              refine pure_ (i := 9) (N := some 52) (v := ?_) (a' := ?_) #[true, true, true, true, true, true, true, true, true, true, false, false] rfl rfl (any_of HT_.out (by kernel_rfl)) (fun _ _ _ h => h) (Or.inl ⟨by rfl, ?_⟩) ?_ ?_
              rotate_left
              · intro w'
                go_simp
                with_reducible rfl
              rotate_left
              · simp only [Act.put, List.setIfInBounds_toArray, List.set_cons_zero, List.set_cons_succ, i64_w, i32_w]
                rfl
              refine pure_ (i := 10) (N := some 53) (v := ?_) (a' := ?_) #[true, true, true, true, true, true, true, true, true, true, true, false] rfl rfl (any_of HT_.out (by kernel_rfl)) (fun _ _ _ h => h) (Or.inl ⟨by rfl, ?_⟩) ?_ ?_
              rotate_left
              · intro w'
                go_simp
                with_reducible rfl
              rotate_left
              · simp only [Act.put, List.setIfInBounds_toArray, List.set_cons_zero, List.set_cons_succ, i64_w, i32_w]
                rfl
              refine last_ (i := 11) (N := none) #[true, true, true, true, true, true, true, true, true, true, true, true] rfl rfl (one_of HT_.out (by kernel_rfl)) (by decide) (fun K hK => ?_)
              have hs_ : w6.cell? ⟨nb, 2, none⟩ = some v1 := (blk_cell BN.out 2).trans rfl
              have hf_ := blk_frozen BN.out 2
              refine skip_ (w1 := ?_) (by rfl) rfl ?_ ?_
              rotate_left
              · go_simp
                rfl
              refine hK.out _ _ ?_
              clear hK K
              refine done_ (done_of HT_.out (by kernel_rfl)) ?_
              go_wp2
              go_roundw
              case rel =>
                have e9 : (acc ++ [k1]).length = acc.length + 1 := by rw [List.length_append]; rfl
                have HR9 := HR.out
                rw [e9] at HR9
                have hg := grown_set (World.grownBy.refl w6 (some nb)) 2 (.slice Ao (acc.length + 1) co)
                exact ⟨i + 1, ys1, bad1, acc ++ [k1], .slice Ao (acc.length + 1) co, by first | rfl | (rw [hwi]), ⟨by have := HI.out; have := HLT.out; refine ⟨by omega, by omega, by rw [List.length_append]; show ((acc.length + 1 : Nat) : Int) = _; omega⟩⟩, HL2, HO1, ⟨rd_grown HD.out hg (fun e => HNE.out (Option.some.inj e))⟩, ⟨blk_set BN.out 2 _⟩, ⟨Kd.R_far HR9 (fun k hk => hk.2) _⟩, ⟨Kd.R_far HC3.out (fun k hk => hk.2) _⟩, ⟨below_set HB.out HNB.out⟩⟩
              case measure => have h1_ := HLT.out; have h2_ := HI.out; simp [intOf]; omega
            · have hl := HL.out
              rw [keysR_bad] at hl
              go_wp2
              refine bodyPost_end (results_none rfl _ _ _) rfl ?_
              refine ⟨rfl, v1, _, BN.out, ?_, HC3.out, ?_, HB.out⟩
              · rw [← hl]
                exact HR.out
              · rw [← hl]
                exact HD.out
          · have hd : decide (i < cnt) = false := decide_eq_false hlt
            have hl := HL.out
            rw [show (cnt - i).toNat = 0 by omega] at hl
            go_wp2
            refine bodyPost_end (results_none rfl _ _ _) rfl ?_
            refine ⟨rfl, v1, _, BN.out, ?_, HC3.out, ?_, HB.out⟩
            · rw [← hl]
              exact HR.out
            · rw [← hl]
              exact HD.out
    · have hd : decide (i ≤ cnt) = false := decide_eq_false hlt
      have hl := HL.out
      rw [show (cnt + 1 - i).toNat = 0 by omega] at hl
      have HRE := Aside0.mk hl
      subst hl
      have HC3 := HR
      clear HR HI HL HRE
      go_wp2
      clear r1 r0
      go_loopw [7, 31, 32, 33, 34, 35, 36, 37, 38, 39, 40, 41, 42, 43, 44, 45, 46, 47, 48, 49, 50, 51, 52, 53] (fun v7 _ _ _ _ _ _ _ _ _ _ _ _ _ _ _ _ _ _ _ _ _ _ _ wx => ∃ (j : Int) (zs : List Int) (bad2 : Bool) (acc2 : List ByteArray) (v2 : Value), v7 = .int .i64 j ∧ Aside0 (0 ≤ j ∧ j ≤ cnt ∧ (acc2.length : Int) = j) ∧ Aside0 (keysR (cnt - j).toNat zs bad2 acc2 = RES2) ∧ Aside0 (Oct zs) ∧ Aside0 (Rd W0 wx rb zs bad2) ∧ Aside0 (NodeAt wx nb false (.slice none 0 0) v2 v1) ∧ Aside0 (Kd.string.R 9 wx W0.heap.size (fun k => k ≠ rb ∧ k ≠ nb) v2 acc2) ∧ Aside0 ((Kd.int .i64).R 3 wx W0.heap.size (fun k => k ≠ rb ∧ k ≠ nb) v1 acc) ∧ Aside0 (Below W0.heap.size W0 wx)) (fun v7 _ _ _ _ _ _ _ _ _ _ _ _ _ _ _ _ _ _ _ _ _ _ _ wx => (cnt - intOf v7).toNat)
      case atStart => exact ⟨0, ys, bad, [], .slice none 0 0, rfl, ⟨by have := HC.out; refine ⟨by omega, by omega, rfl⟩⟩, ⟨by rw [Int.sub_zero]; exact HRES2.out⟩, HO, HD, BN, ⟨Kd.R_nil _ _ _ _ _⟩, HC3, HB⟩
      case round =>
        clear HO HD BN HC3 HB
        obtain ⟨i, ys, bad, acc, v1, rfl, HI, HL, HO, HD, BN, HR, HC3, HB⟩ := hrel
        obtain ⟨A, c, hrd, hrr, hrc⟩ := HD.out.r
        have r0 : wr.cell? ⟨rb, 0, none⟩ = some (.slice A ys.length c) := (blk_cell hrd 0).trans rfl
        have r1 : wr.cell? ⟨rb, 1, none⟩ = some (.bool bad) := (blk_cell hrd 1).trans rfl
        clear hrd hrr hrc
        by_cases hlt : i < cnt
        · have hd : decide (i < cnt) = true := decide_eq_true hlt
          cases bad
          · have hm : (cnt - i).toNat = (cnt - (i + 1)).toNat + 1 := by omega
            have HL2 := Aside0.mk ((by rw [← keysR_go, ← hm]; exact HL.out : keysR (cnt - (i + 1)).toNat (textR ys false).2.1 (textR ys false).2.2 (acc ++ [(textR ys false).1]) = RES2))
            have HO1 := Aside0.mk (oct_text HO.out false)
            have hwi : wrap64 (i + 1) = i + 1 := w64 (by have := HI.out; omega) (by have := HC.out; omega)
            have HLT := Aside0.mk hlt
            have HLM := Aside0.mk (show acc.length ≤ 65536 by have := HI.out; have := HC.out; omega)
            obtain ⟨T1, hT1⟩ : ∃ T, textR ys false = T := ⟨_, rfl⟩
            have HT1 := Aside0.mk hT1
            rw [hT1] at HL2 HO1
            obtain ⟨k1, ys1, bad1⟩ := T1
            dsimp only at HL2 HO1
            clear hlt HL hm hT1
            go_wp2
            clear r0 r1
            refine start_ (n := 12) (S := fun w' => w'.cell? ⟨nb, 2, none⟩ = some v1) (ds := [11]) #[false, false, false, false, false, false, false, false, false, false, false, false] (by kernel_rfl) rfl rfl ((blk_cell (blk_drew BN.out) 2).trans rfl) (fun hHeld => ?_); refine with_tabW (T := _) kinds_tab48_7 kinds_bits48_7 (fun HT_ HW_ => ?_)
            have n0_ := Aside0.mk (rd_drew HD.out)
            have n1_ := Aside0.mk (blk_drew BN.out)
            have n2_ := Aside0.mk (Kd.R_drew HR.out)
            have n3_ := Aside0.mk (below_drew1 HB.out)
            have n4_ := Aside0.mk (Kd.R_drew HC3.out)
            clear HC3
            clear HD BN HR HB
            have HD := n0_
            have BN := n1_
            have HR := n2_
            have HB := n3_
            have HC3 := n4_
            clear n4_
            clear n0_ n1_ n2_ n3_
            generalize wr.drew = w4 at HD BN HR HB HC3 hHeld ⊢
            refine pure_ (i := 0) (N := some 43) (v := ?_) (a' := ?_) #[true, false, false, false, false, false, false, false, false, false, false, false] rfl rfl (any_of HT_.out (by kernel_rfl)) (fun _ _ _ h => h) (Or.inl ⟨by rfl, ?_⟩) ?_ ?_
            rotate_left
            · intro w'
              go_simp
              with_reducible rfl
            rotate_left
            · simp only [Act.put, List.setIfInBounds_toArray, List.set_cons_zero, List.set_cons_succ, i64_w, i32_w]
              rfl
            refine pure_ (i := 1) (N := some 44) (v := ?_) (a' := ?_) #[true, true, false, false, false, false, false, false, false, false, false, false] rfl rfl (any_of HT_.out (by kernel_rfl)) (fun _ _ _ h => h) (Or.inl ⟨by rfl, ?_⟩) ?_ ?_
            rotate_left
            · intro w'
              go_simp
              with_reducible rfl
            rotate_left
            · simp only [Act.put, List.setIfInBounds_toArray, List.set_cons_zero, List.set_cons_succ, i64_w, i32_w]
              rfl
            refine pure_ (i := 2) (N := some 45) (v := ?_) (a' := ?_) #[true, true, true, false, false, false, false, false, false, false, false, false] rfl rfl (any_of HT_.out (by kernel_rfl)) (fun _ _ _ h => h) (Or.inl ⟨by rfl, ?_⟩) ?_ ?_
            rotate_left
            · intro w'
              go_simp
              with_reducible rfl
            rotate_left
            · simp only [Act.put, List.setIfInBounds_toArray, List.set_cons_zero, List.set_cons_succ, i64_w, i32_w]
              rfl
            refine pure_ (i := 3) (N := some 46) (v := ?_) (a' := ?_) #[true, true, true, true, false, false, false, false, false, false, false, false] rfl rfl (any_of HT_.out (by kernel_rfl)) (fun _ _ _ h => h) (Or.inl ⟨by rfl, ?_⟩) ?_ ?_
            rotate_left
            · intro w'
              go_simp
              with_reducible rfl
            rotate_left
            · simp only [Act.put, List.setIfInBounds_toArray, List.set_cons_zero, List.set_cons_succ, i64_w, i32_w]
              rfl
            refine pure_ (i := 5) (N := some 48) (v := ?_) (a' := ?_) #[true, true, true, true, false, true, false, false, false, false, false, false] rfl rfl (any_of HT_.out (by kernel_rfl)) (fun _ _ _ h => h) (Or.inl ⟨by rfl, ?_⟩) ?_ ?_
            rotate_left
            · intro w'
              go_simp
              with_reducible rfl
            rotate_left
            · simp only [Act.put, List.setIfInBounds_toArray, List.set_cons_zero, List.set_cons_succ, i64_w, i32_w]
              rfl
            refine take_ (i := 4) (N := some 47) (v := ?_) (a' := ?_) #[true, true, true, true, true, true, false, false, false, false, false, false] rfl rfl (take_ofW HT_.out HW_.out (by kernel_rfl)) (fun _ _ _ h => h) (Or.inl ⟨by rfl, ?_⟩) hHeld ?_ ?_
            rotate_left
            · intro w' s0
              go_simp
              with_reducible rfl
            rotate_left
            · simp only [Act.put, List.setIfInBounds_toArray, List.set_cons_zero, List.set_cons_succ, i64_w, i32_w]
              rfl
            refine one_ (i := 6) (N := some 49) #[true, true, true, true, true, true, true, false, false, false, false, false] rfl rfl (one_of HT_.out (by kernel_rfl)) (by decide) (fun K hK => ?_)
            refine goes_ Try.func47 (by kernel_rfl) rfl #[.pointer (some ⟨rb, 0, none⟩)] (by rfl) rfl rfl (by (try simp only [List.map_toArray, List.map_cons, List.map_nil]); first | done | rfl) ?_
            have hx_ := text_reads rb ys false W0 w4 HB.out HRB.out HD.out HO.out
            rw [HT1.out] at hx_
            dsimp only at hx_
            refine hx_.mono ?_
            rintro e w5 ⟨rfl, d5, g5⟩
            refine ⟨_, rfl, ?_⟩
            have n0_ := Aside0.mk d5
            have n1_ := Aside0.mk (blk_grown BN.out g5 (fun e => HNE.out (Option.some.inj e).symm))
            have n2_ := Aside0.mk (Kd.R_grown HR.out g5 (fun k hk e => hk.1 (Option.some.inj e)))
            have n3_ := Aside0.mk (below_of_grown HB.out HRB.out g5)
            have n4_ := Aside0.mk (Kd.R_grown HC3.out g5 (fun k hk e => hk.1 (Option.some.inj e)))
            clear HC3
            clear HD BN HR HB d5 g5
            have HD := n0_
            have BN := n1_
            have HR := n2_
            have HB := n3_
            have HC3 := n4_
            clear n4_
            clear n0_ n1_ n2_ n3_
            refine hK.out _ _ ((blk_cell BN.out 2).trans rfl) (fun hHeld => ?_)
            clear hK K
            refine norm_ (a' := ?_) ?_ ?_
            rotate_left
            · show Act.put _ (some 49) _ = _
              simp only [Act.put, List.setIfInBounds_toArray, List.set_cons_zero, List.set_cons_succ, i64_w, i32_w]
              rfl
            refine one_ (i := 7) (N := some 50) #[true, true, true, true, true, true, true, true, false, false, false, false] rfl rfl (one_of HT_.out (by kernel_rfl)) (by decide) (fun K hK => ?_)
            refine value_ (w1 := ?_) (v := ?_) (by rfl) rfl ?_ ?_
            rotate_left 2
            · go_simp
              constructor
              · rfl
              · rfl
            refine hK.out _ _ ((blk_cell (blk_alloc BN.out _) 2).trans rfl) (fun hHeld => ?_)
            clear hK K
            refine norm_ (a' := ?_) ?_ ?_
            rotate_left
            · show Act.put _ (some 50) _ = _
              simp only [Act.put, List.setIfInBounds_toArray, List.set_cons_zero, List.set_cons_succ, i64_w, i32_w]
              rfl
            refine one_ (i := 8) (N := some 51) #[true, true, true, true, true, true, true, true, true, false, false, false] rfl rfl (one_of HT_.out (by kernel_rfl)) (by decide) (fun K hK => ?_)
            refine Kd.R_append_step Kd.string (w0 := W0) W0.heap.size (by rfl) (.tmp 47) (.tmp 50) 23 9 (.string ⟨#[]⟩) 16 rfl Try.underlying23 info_s9 rfl (by decide) (by omega) v1 acc k1 [.string k1] (fun k => k ≠ rb ∧ k ≠ nb) (fun _ => False) rfl rfl ?aP (fun _ hk => hk.elim) ?aF ?aO ?aB ?aS ?aL ?_
            (case aP => exact rfl)
            (case aB => exact HB.out)
            (case aF => exact fun k hk => by have h1 := rd_lt HD.out; have h2 := blk_lt BN.out; omega)
            (case aO => exact HR.out)
            (case aS => exact HB.out.size)
            (case aL => have := HLM.out; omega)
            intro v2 w6 ho hb hg hat
            have n0_ := Aside0.mk (rd_grown HD.out hg (fun e => (HR.out.1 rb e.symm).1 rfl))
            have n1_ := Aside0.mk (blk_grown BN.out hg (fun e => (HR.out.1 nb e.symm).2 rfl))
            have n2_ := Aside0.mk ho
            have n3_ := Aside0.mk hb
            have n4_ := Aside0.mk (Kd.R_over' HC3.out (Kd.R_typed HR.out) (by decide) hg)
            clear HC3
            clear HD BN HR HB ho hb hg hat
            have HD := n0_
            have BN := n1_
            have HR := n2_
            have HB := n3_
            have HC3 := n4_
            clear n4_
            clear n0_ n1_ n2_ n3_
            obtain ⟨Ao, co, eo⟩ := Kd.R_slice HR.out
            subst eo
            refine hK.out _ _ ((blk_cell BN.out 2).trans rfl) (fun hHeld => ?_)
            clear hK K
            refine norm_ (a' := ?_) ?_ ?_
            rotate_left
            · show Act.put _ (some 51) _ = _
              simp only [Act.put, List.setIfInBounds_toArray, List.set_cons_zero, List.set_cons_succ, i64_w, i32_w]
              rfl
            refine pure_ (i := 9) (N := some 52) (v := ?_) (a' := ?_) #[true, true, true, true, true, true, true, true, true, true, false, false] rfl rfl (any_of HT_.out (by kernel_rfl)) (fun _ _ _ h => h) (Or.inl ⟨by rfl, ?_⟩) ?_ ?_
            rotate_left
            · intro w'
              go_simp
              with_reducible rfl
            rotate_left
            · simp only [Act.put, List.setIfInBounds_toArray, List.set_cons_zero, List.set_cons_succ, i64_w, i32_w]
              rfl
            refine pure_ (i := 10) (N := some 53) (v := ?_) (a' := ?_) #[true, true, true, true, true, true, true, true, true, true, true, false] rfl rfl (any_of HT_.out (by kernel_rfl)) (fun _ _ _ h => h) (Or.inl ⟨by rfl, ?_⟩) ?_ ?_
            rotate_left
            · intro w'
              go_simp
              with_reducible rfl
            rotate_left
            · simp only [Act.put, List.setIfInBounds_toArray, List.set_cons_zero, List.set_cons_succ, i64_w, i32_w]
              rfl
            refine last_ (i := 11) (N := none) #[true, true, true, true, true, true, true, true, true, true, true, true] rfl rfl (one_of HT_.out (by kernel_rfl)) (by decide) (fun K hK => ?_)
            have hs_ : w6.cell? ⟨nb, 2, none⟩ = some v1 := (blk_cell BN.out 2).trans rfl
            have hf_ := blk_frozen BN.out 2
            refine skip_ (w1 := ?_) (by rfl) rfl ?_ ?_
            rotate_left
            · go_simp
              rfl
            refine hK.out _ _ ?_
            clear hK K
            refine done_ (done_of HT_.out (by kernel_rfl)) ?_
            go_wp2
            go_roundw
            case rel =>
              have e9 : (acc ++ [k1]).length = acc.length + 1 := by rw [List.length_append]; rfl
              have HR9 := HR.out
              rw [e9] at HR9
              have hg := grown_set (World.grownBy.refl w6 (some nb)) 2 (.slice Ao (acc.length + 1) co)
              exact ⟨i + 1, ys1, bad1, acc ++ [k1], .slice Ao (acc.length + 1) co, by first | rfl | (rw [hwi]), ⟨by have := HI.out; have := HLT.out; refine ⟨by omega, by omega, by rw [List.length_append]; show ((acc.length + 1 : Nat) : Int) = _; omega⟩⟩, HL2, HO1, ⟨rd_grown HD.out hg (fun e => HNE.out (Option.some.inj e))⟩, ⟨blk_set BN.out 2 _⟩, ⟨Kd.R_far HR9 (fun k hk => hk.2) _⟩, ⟨Kd.R_far HC3.out (fun k hk => hk.2) _⟩, ⟨below_set HB.out HNB.out⟩⟩
            case measure => have h1_ := HLT.out; have h2_ := HI.out; simp [intOf]; omega
          · have hl := HL.out
            rw [keysR_bad] at hl
            go_wp2
            refine bodyPost_end (results_none rfl _ _ _) rfl ?_
            refine ⟨rfl, v1, _, BN.out, ?_, HC3.out, ?_, HB.out⟩
            · rw [← hl]
              exact HR.out
            · rw [← hl]
              exact HD.out
        · have hd : decide (i < cnt) = false := decide_eq_false hlt
          have hl := HL.out
          rw [show (cnt - i).toNat = 0 by omega] at hl
          go_wp2
          refine bodyPost_end (results_none rfl _ _ _) rfl ?_
          refine ⟨rfl, v1, _, BN.out, ?_, HC3.out, ?_, HB.out⟩
          · rw [← hl]
            exact HR.out
          · rw [← hl]
            exact HD.out
end Go.Proofs.YtjhenmegcgnkgaaX
