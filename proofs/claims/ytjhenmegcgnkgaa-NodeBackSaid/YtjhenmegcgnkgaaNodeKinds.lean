/- node.kinds: its two closures (printed by genkinds.py). -/
import Derived.Test.YtjhenmegcgnkgaaQNodex0
import Derived.Test.YtjhenmegcgnkgaaNodeRead
import Derived.Test.YtjhenmegcgnkgaaWTab
set_option linter.unusedVariables false
set_option linter.unusedSimpArgs false
namespace Go.Proofs.YtjhenmegcgnkgaaX
open Go.RowKit Go.Proofs.YtjhenmegcgnkgaaW.PrintWords Go.Proofs.YtjhenmegcgnkgaaW.PrintLast Go.Proofs.YtjhenmegcgnkgaaW.PrintMore Go.Proofs.Ytjhenmegcgnkgaa

theorem kinds_tab46_5 : rtab .any (opsOf Try.f46 5) = (true, [([], []), ([], []), ([1], [1]), ([2], [2]), ([3], [3]), ([], []), ([], []), ([6], [6]), ([5, 7], [5, 7]), ([8], [8]), ([4, 9, 7], [4, 9]), ([0, 0, 1, 2, 3, 4, 5, 6, 7, 8, 9, 10], [0]), ([11, 0, 1, 2, 3, 4, 5, 6, 7, 8, 9, 10], [11]), ([12, 10, 10, 0, 1, 2, 3, 4, 5, 6, 7, 8, 9, 10], [10, 12])]) := by kernel_rfl
theorem kinds_bits46_5 : waitsOk [([], []), ([], []), ([1], [1]), ([2], [2]), ([3], [3]), ([], []), ([], []), ([6], [6]), ([5, 7], [5, 7]), ([8], [8]), ([4, 9, 7], [4, 9]), ([0, 0, 1, 2, 3, 4, 5, 6, 7, 8, 9, 10], [0]), ([11, 0, 1, 2, 3, 4, 5, 6, 7, 8, 9, 10], [11]), ([12, 10, 10, 0, 1, 2, 3, 4, 5, 6, 7, 8, 9, 10], [10, 12])] [0, 0, 2, 6, 14, 0, 0, 64, 224, 480, 1022, 2047, 4095, 8191] = true := by kernel_rfl

theorem info_pair : (Try.prog.info? 42).map (fun i => (i.zero, i.size, i.bytes)) = some (some (.agg #[.string ⟨#[]⟩, .string ⟨#[]⟩]), 2, 32) := by kernel_rfl

open PNode in
def leafR : Nat → List Int → Bool → List S42 → List S42 × List Int × Bool
  | 0, xs, bad, acc => (acc, xs, bad)
  | m + 1, xs, bad, acc => if bad = true then (acc, xs, bad) else leafR m (textR (textR xs bad).2.1 (textR xs bad).2.2).2.1 (textR (textR xs bad).2.1 (textR xs bad).2.2).2.2 (acc ++ [⟨(textR xs bad).1, (textR (textR xs bad).2.1 (textR xs bad).2.2).1⟩])
theorem leafR_bad (m : Nat) (xs : List Int) (acc : List PNode.S42) : leafR m xs true acc = (acc, xs, true) := by
  cases m with
  | zero => rfl
  | succ m => rw [leafR, if_pos rfl]
theorem leafR_go (m : Nat) (xs : List Int) (acc : List PNode.S42) : leafR (m + 1) xs false acc = leafR m (textR (textR xs false).2.1 (textR xs false).2.2).2.1 (textR (textR xs false).2.1 (textR xs false).2.2).2.2 (acc ++ [⟨(textR xs false).1, (textR (textR xs false).2.1 (textR xs false).2.2).1⟩]) := by
  rw [leafR, if_neg (by decide)]
theorem oct_text {xs : List Int} (h : Oct xs) (bad : Bool) : Oct (textR xs bad).2.1 := (oct_take (oct_take h bad 1).2 _ _).2
def NodeAt (w : World) (nb : Nat) (leaf : Bool) (v1 v2 v3 : Value) : Prop := w.heap[nb]? = some (.cells #[.bool leaf, v1, v2, v3] 26 (0, 0))

set_option maxHeartbeats 4000000 in
set_option maxRecDepth 100000 in
theorem kinds1_calls (rb nb : Nat) (xs : List Int) (cnt : Int) (hc0 : 0 ≤ cnt) (hc1 : cnt ≤ 65535) (W0 w : World) (hB0 : Below W0.heap.size W0 w) (hrb : W0.heap.size ≤ rb) (hnb : W0.heap.size ≤ nb) (hne : rb ≠ nb) (h : Rd W0 w rb xs false) (ho : Oct xs) (hn : NodeAt w nb false (.slice none 0 0) (.slice none 0 0) (.slice none 0 0)) :
    Calls Try.prog 46 #[.pointer (some ⟨rb, 0, none⟩), .pointer (some ⟨nb, 0, none⟩), .int .i64 cnt] w fun e w' => e = .returned (.tuple #[]) ∧ ∃ v1, NodeAt w' nb true v1 (.slice none 0 0) (.slice none 0 0) ∧ PNode.k42.R 42 w' W0.heap.size (fun k => k ≠ rb ∧ k ≠ nb) v1 (leafR cnt.toNat xs false []).1 ∧ Rd W0 w' rb (leafR cnt.toNat xs false []).2.1 (leafR cnt.toNat xs false []).2.2 ∧ Below W0.heap.size W0 w' := by
  have HRB := Aside0.mk hrb
  have HNB := Aside0.mk hnb
  have HNE := Aside0.mk hne
  have HN0 := Aside0.mk hn
  have HD0 := Aside0.mk h
  have HO0 := Aside0.mk ho
  have HBB := Aside0.mk hB0
  have HC := Aside0.mk (And.intro hc0 hc1)
  obtain ⟨RES, hres⟩ : ∃ R, leafR cnt.toNat xs false [] = R := ⟨_, rfl⟩
  rw [hres]
  have HRES := Aside0.mk hres
  have s0 : w.cell? ⟨nb, 0, none⟩ = some (.bool false) := (blk_cell hn 0).trans rfl
  have f0 := blk_frozen hn 0
  clear hrb hnb hne hn h ho hB0 hres hc0 hc1
  go_enter Try.func46, Try.ntmps46
  go_wp2
  go_loopw [6, 7, 11, 12, 13, 14, 15, 16, 17, 18, 19, 20, 21, 22, 23, 24, 25, 26, 27, 28, 29, 30, 31, 32, 33, 34, 35, 36, 37] (fun v6 _ _ _ _ _ _ _ _ _ _ _ _ _ _ _ _ _ _ _ _ _ _ _ _ _ _ _ _ wx => ∃ (i : Int) (ys : List Int) (bad : Bool) (acc : List PNode.S42) (v1 : Value), v6 = .int .i64 i ∧ Aside0 (0 ≤ i ∧ i ≤ cnt ∧ (acc.length : Int) = i) ∧ Aside0 (leafR (cnt - i).toNat ys bad acc = RES) ∧ Aside0 (Oct ys) ∧ Aside0 (Rd W0 wx rb ys bad) ∧ Aside0 (NodeAt wx nb true v1 (.slice none 0 0) (.slice none 0 0)) ∧ Aside0 (PNode.k42.R 42 wx W0.heap.size (fun k => k ≠ rb ∧ k ≠ nb) v1 acc) ∧ Aside0 (Below W0.heap.size W0 wx)) (fun v6 _ _ _ _ _ _ _ _ _ _ _ _ _ _ _ _ _ _ _ _ _ _ _ _ _ _ _ _ wx => (cnt - intOf v6).toNat)
  case atStart =>
    have hg : w.grownBy (w.setCell ⟨nb, 0, none⟩ (.bool true)) (some nb) := grown_set (World.grownBy.refl w _) 0 _
    refine ⟨0, xs, false, [], .slice none 0 0, rfl, ⟨by have := HC.out; refine ⟨by omega, by omega, rfl⟩⟩, ⟨by rw [Int.sub_zero]; exact HRES.out⟩, HO0, ⟨rd_grown HD0.out hg (fun e => HNE.out (Option.some.inj e))⟩, ⟨blk_set HN0.out 0 (.bool true)⟩, ⟨Kd.R_nil _ _ _ _ _⟩, ⟨below_set HBB.out HNB.out⟩⟩
  case round =>
    obtain ⟨i, ys, bad, acc, v1, rfl, HI, HL, HO, HD, BN, HR, HB⟩ := hrel
    clear s0 f0
    have HNEs := Aside0.mk HNE.out.symm
    obtain ⟨A, c, hrd, hrr, hrc⟩ := HD.out.r
    have r0 : wr.cell? ⟨rb, 0, none⟩ = some (.slice A ys.length c) := (blk_cell hrd 0).trans rfl
    have r1 : wr.cell? ⟨rb, 1, none⟩ = some (.bool bad) := (blk_cell hrd 1).trans rfl
    clear hrd hrr hrc
    by_cases hlt : i < cnt
    · have hd : decide (i < cnt) = true := decide_eq_true hlt
      cases bad
      · have hm : (cnt - i).toNat = (cnt - (i + 1)).toNat + 1 := by omega
        have HL2 := Aside0.mk ((by rw [← leafR_go, ← hm]; exact HL.out : leafR (cnt - (i + 1)).toNat (textR (textR ys false).2.1 (textR ys false).2.2).2.1 (textR (textR ys false).2.1 (textR ys false).2.2).2.2 (acc ++ [⟨(textR ys false).1, (textR (textR ys false).2.1 (textR ys false).2.2).1⟩]) = RES))
        have HO1 := Aside0.mk (oct_text HO.out false)
        have HO2 := Aside0.mk (oct_text HO1.out (textR ys false).2.2)
        have hwi : wrap64 (i + 1) = i + 1 := w64 (by have := HI.out; omega) (by have := HC.out; omega)
        have HLT := Aside0.mk hlt
        have HLM := Aside0.mk (show acc.length ≤ 65535 by have := HI.out; have := HC.out; omega)
        obtain ⟨T1, hT1⟩ : ∃ T, textR ys false = T := ⟨_, rfl⟩
        have HT1 := Aside0.mk hT1
        rw [hT1] at HL2 HO1 HO2
        obtain ⟨k1, ys1, bad1⟩ := T1
        obtain ⟨T2, hT2⟩ : ∃ T, textR ys1 bad1 = T := ⟨_, rfl⟩
        have HT2 := Aside0.mk hT2
        dsimp only at HL2 HO1 HO2
        rw [hT2] at HL2 HO2
        obtain ⟨k2, ys2, bad2⟩ := T2
        dsimp only at HL2 HO2
        clear hlt HL hm hT1 hT2
        go_wp2_with (go_at_call 47; refine (text_reads rb ys false W0 wr HB.out HRB.out HD.out HO.out).mono ?_; rw [HT1.out]; dsimp only; rintro e w3 ⟨rfl, d3, g3⟩; clear r0 r1; have n0_ := Aside0.mk d3; have n1_ := Aside0.mk (blk_grown BN.out g3 (fun e => HNE.out (Option.some.inj e).symm)); have n2_ := Aside0.mk (Kd.R_grown HR.out g3 (fun k hk e => hk.1 (Option.some.inj e))); have n3_ := Aside0.mk (below_of_grown HB.out HRB.out g3); clear HD BN HR HB d3 g3; have HD := n0_; have BN := n1_; have HR := n2_; have HB := n3_; clear n0_ n1_ n2_ n3_)
        refine start_ (n := 14) (S := fun w' => w'.cell? ⟨nb, 1, none⟩ = some v1) (ds := [13]) #[false, false, false, false, false, false, false, false, false, false, false, false, false, false] (by kernel_rfl) rfl rfl ((blk_cell (blk_drew BN.out) 1).trans rfl) (fun hHeld => ?_); refine with_tabW (T := _) kinds_tab46_5 kinds_bits46_5 (fun HT_ HW_ => ?_)
        have n0_ := Aside0.mk (rd_drew HD.out)
        have n1_ := Aside0.mk (blk_drew BN.out)
        have n2_ := Aside0.mk (Kd.R_drew HR.out)
        have n3_ := Aside0.mk (below_drew1 HB.out)
        clear HD BN HR HB
        have HD := n0_
        have BN := n1_
        have HR := n2_
        have HB := n3_
        clear n0_ n1_ n2_ n3_
        generalize w3.drew = w4 at HD BN HR HB hHeld ⊢
        refine pure_ (i := 0) (N := some 25) (v := ?_) (a' := ?_) #[true, false, false, false, false, false, false, false, false, false, false, false, false, false] rfl rfl (any_of HT_.out (by kernel_rfl)) (fun _ _ _ h => h) (Or.inl ⟨by rfl, ?_⟩) ?_ ?_
        rotate_left
        · intro w'
          go_simp
          with_reducible rfl
        rotate_left
        · simp only [Act.put, List.setIfInBounds_toArray, List.set_cons_zero, List.set_cons_succ, i64_w, i32_w]
          rfl
        refine pure_ (i := 1) (N := some 26) (v := ?_) (a' := ?_) #[true, true, false, false, false, false, false, false, false, false, false, false, false, false] rfl rfl (any_of HT_.out (by kernel_rfl)) (fun _ _ _ h => h) (Or.inl ⟨by rfl, ?_⟩) ?_ ?_
        rotate_left
        · intro w'
          go_simp
          with_reducible rfl
        rotate_left
        · simp only [Act.put, List.setIfInBounds_toArray, List.set_cons_zero, List.set_cons_succ, i64_w, i32_w]
          rfl
        refine pure_ (i := 2) (N := some 27) (v := ?_) (a' := ?_) #[true, true, true, false, false, false, false, false, false, false, false, false, false, false] rfl rfl (any_of HT_.out (by kernel_rfl)) (fun _ _ _ h => h) (Or.inl ⟨by rfl, ?_⟩) ?_ ?_
        rotate_left
        · intro w'
          go_simp
          with_reducible rfl
        rotate_left
        · simp only [Act.put, List.setIfInBounds_toArray, List.set_cons_zero, List.set_cons_succ, i64_w, i32_w]
          rfl
        refine pure_ (i := 3) (N := some 28) (v := ?_) (a' := ?_) #[true, true, true, true, false, false, false, false, false, false, false, false, false, false] rfl rfl (any_of HT_.out (by kernel_rfl)) (fun _ _ _ h => h) (Or.inl ⟨by rfl, ?_⟩) ?_ ?_
        rotate_left
        · intro w'
          go_simp
          with_reducible rfl
        rotate_left
        · simp only [Act.put, List.setIfInBounds_toArray, List.set_cons_zero, List.set_cons_succ, i64_w, i32_w]
          rfl
        refine pure_ (i := 5) (N := some 30) (v := ?_) (a' := ?_) #[true, true, true, true, false, true, false, false, false, false, false, false, false, false] rfl rfl (any_of HT_.out (by kernel_rfl)) (fun _ _ _ h => h) (Or.inl ⟨by rfl, ?_⟩) ?_ ?_
        rotate_left
        · intro w'
          go_simp
          with_reducible rfl
        rotate_left
        · simp only [Act.put, List.setIfInBounds_toArray, List.set_cons_zero, List.set_cons_succ, i64_w, i32_w]
          rfl
        refine pure_ (i := 6) (N := some 31) (v := ?_) (a' := ?_) #[true, true, true, true, false, true, true, false, false, false, false, false, false, false] rfl rfl (any_of HT_.out (by kernel_rfl)) (fun _ _ _ h => h) (Or.inl ⟨by rfl, ?_⟩) ?_ ?_
        rotate_left
        · intro w'
          go_simp
          with_reducible rfl
        rotate_left
        · simp only [Act.put, List.setIfInBounds_toArray, List.set_cons_zero, List.set_cons_succ, i64_w, i32_w]
          rfl
        refine take_ (i := 4) (N := some 29) (v := ?_) (a' := ?_) #[true, true, true, true, true, true, true, false, false, false, false, false, false, false] rfl rfl (take_ofW HT_.out HW_.out (by kernel_rfl)) (fun _ _ _ h => h) (Or.inl ⟨by rfl, ?_⟩) hHeld ?_ ?_
        rotate_left
        · intro w' s0
          go_simp
          with_reducible rfl
        rotate_left
        · simp only [Act.put, List.setIfInBounds_toArray, List.set_cons_zero, List.set_cons_succ, i64_w, i32_w]
          rfl
        refine one_ (i := 7) (N := some 32) #[true, true, true, true, true, true, true, true, false, false, false, false, false, false] rfl rfl (one_of HT_.out (by kernel_rfl)) (by decide) (fun K hK => ?_)
        refine goes_ Try.func47 (by kernel_rfl) rfl #[.pointer (some ⟨rb, 0, none⟩)] (by rfl) rfl rfl (by (try simp only [List.map_toArray, List.map_cons, List.map_nil]); first | done | rfl) ?_
        have hx_ := text_reads rb ys1 bad1 W0 w4 HB.out HRB.out HD.out HO1.out
        rw [HT2.out] at hx_
        dsimp only at hx_
        refine hx_.mono ?_
        rintro e w5 ⟨rfl, d5, g5⟩
        refine ⟨_, rfl, ?_⟩
        have n0_ := Aside0.mk d5
        have n1_ := Aside0.mk (blk_grown BN.out g5 (fun e => HNE.out (Option.some.inj e).symm))
        have n2_ := Aside0.mk (Kd.R_grown HR.out g5 (fun k hk e => hk.1 (Option.some.inj e)))
        have n3_ := Aside0.mk (below_of_grown HB.out HRB.out g5)
        clear HD BN HR HB d5 g5
        have HD := n0_
        have BN := n1_
        have HR := n2_
        have HB := n3_
        clear n0_ n1_ n2_ n3_
        refine hK.out _ _ ((blk_cell BN.out 1).trans rfl) (fun hHeld => ?_)
        clear hK K
        refine norm_ (a' := ?_) ?_ ?_
        rotate_left
        · show Act.put _ (some 32) _ = _
          simp only [Act.put, List.setIfInBounds_toArray, List.set_cons_zero, List.set_cons_succ, i64_w, i32_w]
          rfl
        refine pure_ (i := 8) (N := some 33) (v := ?_) (a' := ?_) #[true, true, true, true, true, true, true, true, true, false, false, false, false, false] rfl rfl (any_of HT_.out (by kernel_rfl)) (fun _ _ _ h => h) (Or.inl ⟨by rfl, ?_⟩) ?_ ?_
        rotate_left
        · intro w'
          go_simp
          with_reducible rfl
        rotate_left
        · simp only [Act.put, List.setIfInBounds_toArray, List.set_cons_zero, List.set_cons_succ, i64_w, i32_w]
          rfl
        refine one_ (i := 9) (N := some 34) #[true, true, true, true, true, true, true, true, true, true, false, false, false, false] rfl rfl (one_of HT_.out (by kernel_rfl)) (by decide) (fun K hK => ?_)
        refine value_ (w1 := ?_) (v := ?_) (by rfl) rfl ?_ ?_
        rotate_left 2
        · go_simp
          constructor
          · rfl
          · rfl
        refine hK.out _ _ ((blk_cell (blk_alloc BN.out _) 1).trans rfl) (fun hHeld => ?_)
        clear hK K
        refine norm_ (a' := ?_) ?_ ?_
        rotate_left
        · show Act.put _ (some 34) _ = _
          simp only [Act.put, List.setIfInBounds_toArray, List.set_cons_zero, List.set_cons_succ, i64_w, i32_w]
          rfl
        refine one_ (i := 10) (N := some 35) #[true, true, true, true, true, true, true, true, true, true, true, false, false, false] rfl rfl (one_of HT_.out (by kernel_rfl)) (by decide) (fun K hK => ?_)
        refine Kd.R_append_step PNode.k42 (w0 := W0) W0.heap.size (by rfl) (.tmp 29) (.tmp 34) 22 42 (.agg #[.string ⟨#[]⟩, .string ⟨#[]⟩]) 32 rfl Try.underlying22 info_pair rfl (by decide) (by omega) v1 acc (⟨k1, k2⟩ : PNode.S42) [.string k1, .string k2] (fun k => k ≠ rb ∧ k ≠ nb) (fun _ => False) rfl rfl ?aP (fun _ hk => hk.elim) ?aF ?aO ?aB ?aS ?aL ?_
        (case aP => exact PNode.k42_mkM _ _ _ _)
        (case aB => exact HB.out)
        (case aF => exact fun k hk => by have h1 := rd_lt HD.out; have h2 := blk_lt BN.out; omega)
        (case aO => exact HR.out)
        (case aS => exact HB.out.size)
        (case aL => have := HLM.out; omega)
        intro v2 w6 ho hb hg hat
        have n0_ := Aside0.mk (rd_grown HD.out hg (fun e => (HR.out.1 rb e.symm).1 rfl))
        have n1_ := Aside0.mk (blk_grown BN.out hg (fun e => (HR.out.1 nb e.symm).2 rfl))
        have n2_ := Aside0.mk ho
        have n3_ := Aside0.mk hb
        clear HD BN HR HB ho hb hg hat
        have HD := n0_
        have BN := n1_
        have HR := n2_
        have HB := n3_
        clear n0_ n1_ n2_ n3_
        obtain ⟨Ao, co, eo⟩ := Kd.R_slice HR.out
        subst eo
        refine hK.out _ _ ((blk_cell BN.out 1).trans rfl) (fun hHeld => ?_)
        clear hK K
        refine norm_ (a' := ?_) ?_ ?_
        rotate_left
        · show Act.put _ (some 35) _ = _
          simp only [Act.put, List.setIfInBounds_toArray, List.set_cons_zero, List.set_cons_succ, i64_w, i32_w]
          rfl
        refine pure_ (i := 11) (N := some 36) (v := ?_) (a' := ?_) #[true, true, true, true, true, true, true, true, true, true, true, true, false, false] rfl rfl (any_of HT_.out (by kernel_rfl)) (fun _ _ _ h => h) (Or.inl ⟨by rfl, ?_⟩) ?_ ?_
        rotate_left
        · intro w'
          go_simp
          with_reducible rfl
        rotate_left
        · simp only [Act.put, List.setIfInBounds_toArray, List.set_cons_zero, List.set_cons_succ, i64_w, i32_w]
          rfl
        refine pure_ (i := 12) (N := some 37) (v := ?_) (a' := ?_) #[true, true, true, true, true, true, true, true, true, true, true, true, true, false] rfl rfl (any_of HT_.out (by kernel_rfl)) (fun _ _ _ h => h) (Or.inl ⟨by rfl, ?_⟩) ?_ ?_
        rotate_left
        · intro w'
          go_simp
          with_reducible rfl
        rotate_left
        · simp only [Act.put, List.setIfInBounds_toArray, List.set_cons_zero, List.set_cons_succ, i64_w, i32_w]
          rfl
        refine last_ (i := 13) (N := none) #[true, true, true, true, true, true, true, true, true, true, true, true, true, true] rfl rfl (one_of HT_.out (by kernel_rfl)) (by decide) (fun K hK => ?_)
        have hs_ : w6.cell? ⟨nb, 1, none⟩ = some v1 := (blk_cell BN.out 1).trans rfl
        have hf_ := blk_frozen BN.out 1
        refine skip_ (w1 := ?_) (by rfl) rfl ?_ ?_
        rotate_left
        · go_simp
          rfl
        refine hK.out _ _ ?_
        clear hK K
        refine done_ (done_of HT_.out (by kernel_rfl)) ?_
        go_wp2
        go_roundw
        case rel =>
          have e9 : (acc ++ [(⟨k1, k2⟩ : PNode.S42)]).length = acc.length + 1 := by rw [List.length_append]; rfl
          have HR9 := HR.out
          rw [e9] at HR9
          have hg := grown_set (World.grownBy.refl w6 (some nb)) 1 (.slice Ao (acc.length + 1) co)
          exact ⟨i + 1, ys2, bad2, acc ++ [⟨k1, k2⟩], .slice Ao (acc.length + 1) co, by first | rfl | (rw [hwi]), ⟨by have := HI.out; have := HLT.out; refine ⟨by omega, by omega, by rw [List.length_append]; show ((acc.length + 1 : Nat) : Int) = _; omega⟩⟩, HL2, HO2, ⟨rd_grown HD.out hg (fun e => HNE.out (Option.some.inj e))⟩, ⟨blk_set BN.out 1 _⟩, ⟨Kd.R_far HR9 (fun k hk => hk.2) _⟩, ⟨below_set HB.out HNB.out⟩⟩
        case measure => have h1_ := HLT.out; have h2_ := HI.out; simp [intOf]; omega
      · have hl := HL.out
        rw [leafR_bad] at hl
        go_wp2
        refine bodyPost_end (results_none rfl _ _ _) rfl ?_
        refine ⟨rfl, v1, BN.out, ?_, ?_, HB.out⟩
        · rw [← hl]
          exact HR.out
        · rw [← hl]
          exact HD.out
    · have hd : decide (i < cnt) = false := decide_eq_false hlt
      have hl := HL.out
      rw [show (cnt - i).toNat = 0 by omega] at hl
      go_wp2
      refine bodyPost_end (results_none rfl _ _ _) rfl ?_
      refine ⟨rfl, v1, BN.out, ?_, ?_, HB.out⟩
      · rw [← hl]
        exact HR.out
      · rw [← hl]
        exact HD.out
end Go.Proofs.YtjhenmegcgnkgaaX
