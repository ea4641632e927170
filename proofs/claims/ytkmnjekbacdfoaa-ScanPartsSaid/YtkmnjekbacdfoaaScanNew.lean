/- scan.New: the walk. -/
import Derived.Test.YtkmnjekbacdfoaaScanParts
import Derived.Test.YtkmnjekbacdfoaaScanGroups
import Derived.Test.YtkmnjekbacdfoaaQScanx1
set_option linter.unusedVariables false
set_option linter.unusedSimpArgs false
namespace Go.Proofs.YtkmnjekbacdfoaaX
open Go.RowKit Go.Maps Go.ChangeMaps Go.MapKept Go.Proofs.Ytkmnjekbacdfoaa.PScan Go.Proofs.YtkmnjekbacdfoaaW.PrintWords Go.Proofs.YtkmnjekbacdfoaaW.PrintLast Go.Proofs.YtkmnjekbacdfoaaW.PrintMore

/-- The names of given digits, in their order. -/
def groupsOf (l : List ByteArray) (d : ByteArray) : List ByteArray := l.filter fun s => decide (s.extract 0 32 = d)
/-- A scanner: its block, its map. -/
structure Scn (W : World) (B n : Nat) (l : List ByteArray) (rest found : Value) : Prop where
  blk : W.heap[B + 1]? = some (.cells #[.map (some B), rest, found] 44 (0, 0))
  grp : Grp W B (B + 2) n (groupsOf l)

theorem grp_zero {W : World} {mb base clock : Nat} (h : W.heap[mb]? = some (.map #[] clock)) (hb : mb < base) : Grp W mb base 0 (fun _ => []) :=
  ⟨⟨#[], clock, h, Nat.le_refl _, by simp, fun k h => absurd rfl h, by simp⟩, hb, fun _ => Nat.le_refl _⟩
theorem heap_alloc_was (w : World) (o : Obj) (k : Nat) (h : k < w.heap.size) : (w.alloc o).heap[k]? = w.heap[k]? := by
  show (w.heap.push o)[k]? = _
  rw [Array.getElem?_push_lt h, Array.getElem?_eq_getElem h]
theorem heap_two (w : World) (o p : Obj) : ((w.alloc o).alloc p).heap[w.heap.size + 1]? = some p := by
  have h := heap_alloc_new (w.alloc o) p
  rwa [show (w.alloc o).heap.size = w.heap.size + 1 by simp] at h
theorem heap_one (w : World) (o p : Obj) : ((w.alloc o).alloc p).heap[w.heap.size]? = some o := by
  exact (heap_alloc_was (w.alloc o) p w.heap.size (by simp)).trans (heap_alloc_new w o)
theorem grown_of_below {W W' : World} (h : Below W.heap.size W W') : W.grownBy W' none := ⟨h.os, h.tape, h.output, h.size, fun k hk _ => h.block k hk⟩
theorem Scn.below {W W' : World} {B n : Nat} {l : List ByteArray} {r f : Value} (h : Scn W B n l r f) (hb : Below W.heap.size W W') : Scn W' B n l r f :=
  ⟨(hb.block _ (Array.getElem?_eq_some_iff.1 h.blk).1).trans h.blk, h.grp.kept (grown_of_below hb) (by simp) (fun r h => by cases h)⟩
theorem rd_nat (l : List ByteArray) (i : Nat) (hi : i < l.length) : rdOf ByteArray.empty l (i : Int) = l[i] := by
  unfold rdOf
  rw [Int.toNat_natCast, List.getD_eq_getElem?_getD, List.getElem?_eq_getElem hi]
  rfl
set_option maxRecDepth 100000 in
theorem tab8 : rtab .any (opsOf Try.f13 8) = (true,[([],[]),([0],[0]),([1],[1]),([2],[2]),([],[]),([],[]),([5],[5]),([6],[6]),([7],[7]),([],[]),([8,9],[8,9]),([],[]),([11],[11]),([10,12],[10,12]),([3,4,13,13,0,1,2,3,4,5,6,7,8,9,10,11,12,13],[3,4,13])]) := by kernel_rfl
theorem bits8 : waitsOk (rtab .any (opsOf Try.f13 8)).2 [0,1,3,7,0,0,32,96,224,0,992,0,2048,8160,16383] = true := by rw [tab8]; kernel_rfl
set_option maxHeartbeats 4000000 in
set_option maxRecDepth 100000 in
theorem new_calls (A : Option Addr) (c : Nat) (l : List ByteArray) (w : World) (hl : l.length ≤ 1000) (hs : ∀ s ∈ l, s.size ≤ 1000) (hc : l.length ≤ c) (hA : Kd.C Kd.string w A l.length l) :
    Calls Try.prog 13 #[.slice A l.length c] w fun e w' => Below w.heap.size w w' ∧
      ((l.all nameB = true ∧ e = .returned (.tuple #[.pointer (some ⟨w.heap.size + 1, 0, none⟩), .int .i64 0]) ∧ Scn w' w.heap.size l.length l (.slice none 0 0) (.slice none 0 0)) ∨
        (l.all nameB = false ∧ e = .returned (.tuple #[.pointer none, .int .i64 190]))) := by
  have HA := Aside0.mk hA
  have HS := Aside0.mk hs
  clear hA hs
  have hmm := @run_makeMap Try.prog
  go_enter Try.func13, Try.ntmps13
  go_wp2
  go_loopw [15] (fun i wr => ∃ k : Nat, i = .int .i64 k ∧ k ≤ l.length ∧ Below w.heap.size w wr ∧ (∀ s ∈ l.take k, nameB s = true) ∧ Scn wr w.heap.size k (l.take k) (.slice none 0 0) (.slice none 0 0))
    (fun i wr => l.length - (intOf i).toNat)
  case atStart => exact ⟨0, rfl, Nat.zero_le _, ((Below.refl _ _).alloc (Nat.le_refl _) _).alloc (by simp) _, fun s h => by simp at h, ⟨heap_two _ _ _, grp_zero (heap_one _ _ _) (by omega)⟩⟩
  case round =>
    obtain ⟨k, rfl, hk, hB, hnm, hsc⟩ := hrel
    have HB := Aside0.mk hB
    have HN := Aside0.mk hnm
    have HC := Aside0.mk hsc
    clear hB hnm hsc
    by_cases hlt : k < l.length
    · have hd : decide ((k : Int) < (l.length : Int)) = true := decide_eq_true (by omega)
      have p0 : 0 ≤ (k : Int) := by omega
      have q0 : (k : Int) < (l.length : Int) := by omega
      obtain ⟨ad, eA, hx⟩ := Kd.at_string HA.out (k : Int) p0 q0
      cases eA
      obtain ⟨s, hsk⟩ : ∃ s, l[k] = s := ⟨_, rfl⟩
      have hrd : rdOf ByteArray.empty l (k : Int) = s := by rw [← hsk]; exact rd_nat l k hlt
      rw [hrd, Int.toNat_natCast] at hx
      replace hx := (HB.out.cell (World.block_lt_of_cell? w _ hx)).trans hx
      have hss : s.size ≤ 1000 := HS.out s (by rw [← hsk]; exact List.getElem_mem hlt)
      have HSK := Aside0.mk hsk
      clear hsk hrd
      have hwi : wrap64 ((k : Int) + 1) = ((k + 1 : Nat) : Int) := by rw [w64 (by omega) (by omega)]; omega
      cases hname : nameB s
      · have hpb : partsB s = (⟨#[]⟩, ⟨#[]⟩, 190) := by unfold partsB; rw [hname]; rfl
        have cP := fun W => Parts_calls s hss W
        rw [hpb] at cP
        go_wp2_with (go_at_call 18; refine (cP _).mono ?_; rintro e W1 ⟨rfl, hb1⟩)
        go_ret2
        refine ⟨below_step HB.out hb1, .inr ⟨?_, rfl⟩⟩
        rw [Bool.eq_false_iff]
        intro hall
        have := List.all_eq_true.1 hall s (by rw [← HSK.out]; exact List.getElem_mem hlt)
        rw [hname] at this
        cases this
      · have hpb : partsB s = (s.extract 0 32, s.extract 33 s.size, 0) := by unfold partsB; rw [hname]; rfl
        have cP := fun W => Parts_calls s hss W
        rw [hpb] at cP
        go_wp2_with (go_at_call 18; refine (cP _).mono ?_; rintro e W1 ⟨rfl, hb1⟩)
        have HP := Aside0.mk ((HC.out.below hb1).below (below_drew1 (Below.refl _ _)))
        have HB1 := Aside0.mk (below_drew1 (below_step HB.out hb1))
        have hq : W1.drew.heap[w.heap.size + 1]? = some (.cells #[.map (some w.heap.size), .slice none 0 0, .slice none 0 0] 44 (0, 0)) := HP.out.blk
        have hcell : ∀ w' : World, w'.heap[w.heap.size + 1]? = W1.drew.heap[w.heap.size + 1]? → w'.cell? ⟨w.heap.size + 1, 0, none⟩ = some (.map (some w.heap.size)) := fun w' h => by
          simp only [World.cell?, h, hq]
          rfl
        have hlt1 : w.heap.size + 1 < W1.drew.heap.size := (Array.getElem?_eq_some_iff.1 hq).1
        clear hb1
        have HD : (s.extract 0 32).size ≤ 1000 := by rw [ByteArray.size_extract]; omega
        obtain ⟨v, hown, hne, hrun, hback⟩ := HP.out.grp.look (s.extract 0 32) HD (by omega)
        generalize hdg : s.extract 0 32 = d at *
        have hlook := fun (w' : World) (h : w'.heap[w.heap.size]? = W1.drew.heap[w.heap.size]?) => hrun false w' h
        have hgl := HP.out.grp.few d
        refine start_ (n := 15) (S := fun w' => w'.cell? ⟨w.heap.size + 1, 0, none⟩ = some (.map (some w.heap.size)) ∧ (Instr.lookup 42 (.map (some w.heap.size)) (.string d) false).run Try.prog w' = .ok v w') (ds := [14]) #[false, false, false, false, false, false, false, false, false, false, false, false, false, false, false] (by kernel_rfl) rfl rfl ⟨hcell _ rfl, hlook _ rfl⟩ (fun hHeld => ?_); refine with_tabW tab8 bits8 (fun HT_ HW_ => ?_)
        generalize W1.drew = WD at *
        refine pure_ (i := 0) (N := some 28) (v := ?_) (a' := ?_) #[true, false, false, false, false, false, false, false, false, false, false, false, false, false, false] rfl rfl (any_of HT_.out (by kernel_rfl)) (fun _ _ _ h => h) (Or.inl ⟨by rfl, ?_⟩) ?_ ?_
        rotate_left
        · intro w'
          go_simp
          with_reducible rfl
        rotate_left
        · simp only [Act.put, List.setIfInBounds_toArray, List.set_cons_zero, List.set_cons_succ, i64_w, i32_w]
          rfl
        refine pure_ (i := 1) (N := some 29) (v := ?_) (a' := ?_) #[true, true, false, false, false, false, false, false, false, false, false, false, false, false, false] rfl rfl (any_of HT_.out (by kernel_rfl)) (fun _ _ _ h => h) (Or.inl ⟨by rfl, ?_⟩) ?_ ?_
        rotate_left
        · intro w'
          go_simp
          with_reducible rfl
        rotate_left
        · simp only [Act.put, List.setIfInBounds_toArray, List.set_cons_zero, List.set_cons_succ, i64_w, i32_w]
          rfl
        refine pure_ (i := 2) (N := some 30) (v := ?_) (a' := ?_) #[true, true, true, false, false, false, false, false, false, false, false, false, false, false, false] rfl rfl (any_of HT_.out (by kernel_rfl)) (fun _ _ _ h => h) (Or.inl ⟨by rfl, ?_⟩) ?_ ?_
        rotate_left
        · intro w'
          go_simp
          with_reducible rfl
        rotate_left
        · simp only [Act.put, List.setIfInBounds_toArray, List.set_cons_zero, List.set_cons_succ, i64_w, i32_w]
          rfl
        refine pure_ (i := 4) (N := some 32) (v := ?_) (a' := ?_) #[true, true, true, false, true, false, false, false, false, false, false, false, false, false, false] rfl rfl (any_of HT_.out (by kernel_rfl)) (fun _ _ _ h => h) (Or.inl ⟨by rfl, ?_⟩) ?_ ?_
        rotate_left
        · intro w'
          go_simp
          with_reducible rfl
        rotate_left
        · simp only [Act.put, List.setIfInBounds_toArray, List.set_cons_zero, List.set_cons_succ, i64_w, i32_w]
          rfl
        refine pure_ (i := 5) (N := some 33) (v := ?_) (a' := ?_) #[true, true, true, false, true, true, false, false, false, false, false, false, false, false, false] rfl rfl (any_of HT_.out (by kernel_rfl)) (fun _ _ _ h => h) (Or.inl ⟨by rfl, ?_⟩) ?_ ?_
        rotate_left
        · intro w'
          go_simp
          with_reducible rfl
        rotate_left
        · simp only [Act.put, List.setIfInBounds_toArray, List.set_cons_zero, List.set_cons_succ, i64_w, i32_w]
          rfl
        refine pure_ (i := 6) (N := some 34) (v := ?_) (a' := ?_) #[true, true, true, false, true, true, true, false, false, false, false, false, false, false, false] rfl rfl (any_of HT_.out (by kernel_rfl)) (fun _ _ _ h => h) (Or.inl ⟨by rfl, ?_⟩) ?_ ?_
        rotate_left
        · intro w'
          go_simp
          with_reducible rfl
        rotate_left
        · simp only [Act.put, List.setIfInBounds_toArray, List.set_cons_zero, List.set_cons_succ, i64_w, i32_w]
          rfl
        refine pure_ (i := 7) (N := some 35) (v := ?_) (a' := ?_) #[true, true, true, false, true, true, true, true, false, false, false, false, false, false, false] rfl rfl (any_of HT_.out (by kernel_rfl)) (fun _ _ _ h => h) (Or.inl ⟨by rfl, ?_⟩) ?_ ?_
        rotate_left
        · intro w'
          go_simp
          with_reducible rfl
        rotate_left
        · simp only [Act.put, List.setIfInBounds_toArray, List.set_cons_zero, List.set_cons_succ, i64_w, i32_w]
          rfl
        refine pure_ (i := 9) (N := some 37) (v := ?_) (a' := ?_) #[true, true, true, false, true, true, true, true, false, true, false, false, false, false, false] rfl rfl (any_of HT_.out (by kernel_rfl)) (fun _ _ _ h => h) (Or.inl ⟨by rfl, ?_⟩) ?_ ?_
        rotate_left
        · intro w'
          go_simp
          with_reducible rfl
        rotate_left
        · simp only [Act.put, List.setIfInBounds_toArray, List.set_cons_zero, List.set_cons_succ, i64_w, i32_w]
          rfl
        refine pure_ (i := 11) (N := some 39) (v := ?_) (a' := ?_) #[true, true, true, false, true, true, true, true, false, true, false, true, false, false, false] rfl rfl (any_of HT_.out (by kernel_rfl)) (fun _ _ _ h => h) (Or.inl ⟨by rfl, ?_⟩) ?_ ?_
        rotate_left
        · intro w'
          go_simp
          with_reducible rfl
        rotate_left
        · simp only [Act.put, List.setIfInBounds_toArray, List.set_cons_zero, List.set_cons_succ, i64_w, i32_w]
          rfl
        refine take_ (i := 3) (N := some 31) (v := ?_) (a' := ?_) #[true, true, true, true, true, true, true, true, false, true, false, true, false, false, false] rfl rfl (take_ofW HT_.out HW_.out (by kernel_rfl)) (fun _ _ _ h => h) (Or.inl ⟨by rfl, ?_⟩) hHeld ?_ ?_
        rotate_left
        · rintro w' ⟨s0, s1⟩
          go_simp
          with_reducible rfl
        rotate_left
        · simp only [Act.put, List.setIfInBounds_toArray, List.set_cons_zero, List.set_cons_succ, i64_w, i32_w]
          rfl
        refine take_ (i := 8) (N := some 36) (v := ?_) (a' := ?_) #[true, true, true, true, true, true, true, true, true, true, false, true, false, false, false] rfl rfl (take_ofW HT_.out HW_.out (by kernel_rfl)) (fun _ _ _ h => h) (Or.inl ⟨by rfl, ?_⟩) hHeld ?_ ?_
        rotate_left
        · rintro w' ⟨s0, s1⟩
          go_simp
          with_reducible rfl
        rotate_left
        · simp only [Act.put, List.setIfInBounds_toArray, List.set_cons_zero, List.set_cons_succ, i64_w, i32_w]
          rfl
        refine take_ (i := 10) (N := some 38) (v := ?_) (a' := ?_) #[true, true, true, true, true, true, true, true, true, true, true, true, false, false, false] rfl rfl (take_ofW HT_.out HW_.out (by kernel_rfl)) (fun _ _ _ h => h) (Or.inl ⟨by rfl, ?_⟩) hHeld ?_ ?_
        rotate_left
        · rintro w' ⟨s0, s1⟩
          go_simp
          with_reducible rfl
        rotate_left
        · simp only [Act.put, List.setIfInBounds_toArray, List.set_cons_zero, List.set_cons_succ, i64_w, i32_w]
          rfl
        refine one_ (i := 12) (N := some 40) #[true, true, true, true, true, true, true, true, true, true, true, true, true, false, false] rfl rfl (one_of HT_.out (by kernel_rfl)) (by decide) (fun K hK => ?_)
        refine value_ (v := .slice (some ⟨WD.heap.size, 0, none⟩) 1 1) (w1 := WD.alloc (.cells #[.string s] 9)) (by rfl) rfl (by go_simp) ?_
        refine hK.out _ _ ⟨hcell _ (heap_alloc_was WD _ _ hlt1), hlook _ (heap_alloc_was WD _ _ (Nat.lt_of_succ_lt hlt1))⟩ (fun hHeld => ?_)
        clear hK K
        refine norm_ (a' := ?_) ?_ ?_
        rotate_left
        · show Act.put _ (some 40) _ = _
          simp only [Act.put, List.setIfInBounds_toArray, List.set_cons_zero, List.set_cons_succ, i64_w, i32_w]
          rfl
        refine one_ (i := 13) (N := some 41) #[true, true, true, true, true, true, true, true, true, true, true, true, true, true, false] rfl rfl (one_of HT_.out (by kernel_rfl)) (by decide) (fun K hK => ?_)
        refine step_append_cells (W := WD) (w0 := WD) (w.heap.size + 2) (by rfl) (.tmp 38) (.tmp 40) 23 9 (.string ⟨#[]⟩) 1 16 rfl Try.underlying23 (by kernel_rfl) rfl (by decide) (by decide) v _ _ [.string s] (by rfl) (by rfl) rfl (by simp [Value.oneCell']) hown (Below.refl _ _) hlt1 (by omega) ?_
        intro v1 W2 ho2 hb2 hg2 hat2
        have hloc : v1.ownBlock = v.ownBlock ∨ ∃ g, v1.ownBlock = some g ∧ WD.heap.size ≤ g := hat2
        obtain ⟨W3, hup, hG3, hg3⟩ := hback W2 v1 (groupsOf (l.take k) d ++ [s]) (by simp) (by rw [List.length_append]; simp; omega) hg2 (by simpa using ho2) hloc
        have hne1 : some (w.heap.size + 1) ≠ v.ownBlock := fun h => by have := own_base hown _ h.symm; omega
        have e1 : W2.heap[w.heap.size + 1]? = WD.heap[w.heap.size + 1]? := hg2.block _ hlt1 hne1
        refine hK.out _ _ ⟨hcell _ e1, hlook _ (hg2.block _ (Nat.lt_of_succ_lt hlt1) (Ne.symm hne))⟩ (fun hHeld => ?_)
        clear hK K
        refine norm_ (a' := ?_) ?_ ?_
        rotate_left
        · show Act.put _ (some 41) _ = _
          simp only [Act.put, List.setIfInBounds_toArray, List.set_cons_zero, List.set_cons_succ, i64_w, i32_w]
          rfl
        refine last_ (i := 14) (N := none) #[true, true, true, true, true, true, true, true, true, true, true, true, true, true, true] rfl rfl (one_of HT_.out (by kernel_rfl)) (by decide) (fun K hK => ?_)
        refine skip_ (w1 := ?_) (by rfl) rfl ?_ ?_
        rotate_left
        · go_simp
          rfl
        refine hK.out _ _ ?_
        clear hK K
        refine done_ (done_of HT_.out (by kernel_rfl)) ?_
        have htk : l.take (k + 1) = l.take k ++ [s] := by rw [List.take_add_one, List.getElem?_eq_getElem hlt, HSK.out]; rfl
        have hGe : (fun q => if q = d then groupsOf (l.take k) d ++ [s] else groupsOf (l.take k) q) = groupsOf (l.take (k + 1)) := by
          funext q
          unfold groupsOf
          rw [htk, List.filter_append, List.filter_cons, List.filter_nil]
          by_cases hqd : q = d
          · subst hqd
            rw [if_pos rfl, hdg, if_pos (by simp)]
          · rw [if_neg hqd, hdg, if_neg (by simpa using Ne.symm hqd), List.append_nil]
        rw [hGe] at hG3
        have HS3 : Aside0 (Scn W3 w.heap.size (k + 1) (l.take (k + 1)) (.slice none 0 0) (.slice none 0 0)) := ⟨⟨(hg3.block _ (Nat.lt_of_lt_of_le hlt1 hg2.size) (by simp)).trans (e1.trans hq), hG3⟩⟩
        have HB3 := Aside0.mk (HB1.out.trans ((hb2.mono (show w.heap.size ≤ w.heap.size + 2 by omega)).grown hg3 (by have := hg2.size; omega) (fun j hj => by injection hj with hj; omega)))
        have HN3 : Aside0 (∀ x ∈ l.take (k + 1), nameB x = true) := ⟨fun x hx => by
          rw [htk] at hx
          rcases List.mem_append.1 hx with hx | hx
          · exact HN.out x hx
          · rw [List.mem_singleton.1 hx]; exact hname⟩
        go_wp2
        go_roundw
        case rel => exact ⟨k + 1, by first | rw [hwi] | simp, by omega, HB3.out, HN3.out, HS3.out⟩
        case measure => simp [intOf]; omega
    · obtain rfl : k = l.length := by omega
      have hd : decide ((l.length : Int) < (l.length : Int)) = false := decide_eq_false (by omega)
      go_wp2
      go_ret2
      refine ⟨HB.out, .inl ⟨?_, rfl, ?_⟩⟩
      · have := HN.out
        rw [List.take_length] at this
        exact List.all_eq_true.2 this
      · have := HC.out
        rwa [List.take_length] at this
end Go.Proofs.YtkmnjekbacdfoaaX
