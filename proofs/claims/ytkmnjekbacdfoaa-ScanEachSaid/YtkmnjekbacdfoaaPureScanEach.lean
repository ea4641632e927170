/- ScanEach: the law's walk (printed by wip/tools/geneach.py). -/
import Derived.Test.YtkmnjekbacdfoaaScanPartsRel
set_option linter.unusedVariables false
set_option linter.unusedSimpArgs false
namespace Go.Proofs.YtkmnjekbacdfoaaX
open Go.RowKit Go.Maps Go.Proofs.Ytkmnjekbacdfoaa.PScanL Go.Proofs.YtkmnjekbacdfoaaW.PrintWords Go.Proofs.YtkmnjekbacdfoaaW.PrintLast Go.Proofs.YtkmnjekbacdfoaaW.PrintMore
theorem own_empty (W : World) : Kd.R (Kd.int .u8) 5 (W.alloc (.cells #[] 5)) W.heap.size (fun _ => True) (.slice (some ⟨W.heap.size, 0, none⟩) ([] : List Int).length 0) [] :=
  Kd.R_of_own ⟨by simp [encs], .inr ⟨W.heap.size, 0, #[], rfl, Nat.le_refl _, heap_alloc_new W _, Nat.le_refl _, by simp [maxLen], by simp, by simp [encs]⟩⟩ (fun _ _ => trivial)
theorem conv_run (W : World) (a : Act) (oi : Oper) {s : ByteArray} {x : Operand} (ho : oi.op = .convert 9 22 x) (hx : a.eval x = .string s) : (execOp a.eval oi).run Try.prog W = .ok (.value (.slice (some ⟨W.heap.size, 0, none⟩) s.size (grownCap W s.size 0 5))) (Lib.bytesWorld W 5 s) := by
  have h := print_bytes (P := Try.prog) 9 22 5 Try.underlying9 Try.underlying22 Try.underlying5 s W
  unfold execOp
  simp only [ho, hx, Sem.run_bind, Sem.run_pure, Result.andThen_ok, h]
theorem conv_C (W : World) (s : ByteArray) (hs : s.size ≤ 1000) : Kd.C (Kd.int .u8) (Lib.bytesWorld W 5 s) (some ⟨W.heap.size, 0, none⟩) s.size (bytesOf s) := Kd.C_of_reads (d := (0 : Int)) (h1 := fun _ => rfl) (bytes_reads W 5 s (by omega))
theorem far_C {W W' : World} {g n : Nat} {xs : List Int} {row : Option Nat} (h : Kd.C (Kd.int .u8) W (some ⟨g, 0, none⟩) n xs) (hg : W.grownBy W' row) (hne : some g ≠ row) (hlt : g < W.heap.size) : Kd.C (Kd.int .u8) W' (some ⟨g, 0, none⟩) n xs :=
  C_block h (fun _ _ h => h) (fun ad e => by injection e with e; subst e; exact hg.block g hlt hne)
/-- What the two rows of noughts are while the law makes its rows. -/
structure Each (w0 W : World) (A9 A10 : Option Addr) (na nb : Nat) (ra rb : List Int) : Prop where
  below_ : Below w0.heap.size w0 W
  c9 : Kd.C (Kd.int .u8) W A9 na ra
  c10 : Kd.C (Kd.int .u8) W A10 nb rb
theorem Each.below {w0 W W' : World} {A9 A10 : Option Addr} {na nb : Nat} {ra rb : List Int} (h : Each w0 W A9 A10 na nb ra rb) (hb : Below W.heap.size W W') : Each w0 W' A9 A10 na nb ra rb :=
  ⟨h.below_.trans (hb.mono h.below_.size), Kd.C_below h.c9 hb, Kd.C_below h.c10 hb⟩
theorem Each.drew {w0 W : World} {A9 A10 : Option Addr} {na nb : Nat} {ra rb : List Int} (h : Each w0 W A9 A10 na nb ra rb) : Each w0 W.drew A9 A10 na nb ra rb := h.below (below_drew1 (Below.refl _ _))
theorem each_find (W : World) (A : Option Addr) (c : Nat) (al : List Int) (name : ByteArray) (hC : Kd.C (Kd.int .u8) W A al.length al) (hc : al.length ≤ c) (hal : al.length ≤ 1000) (hn : nameB name = true) (hs : name.size ≤ 1000) :
    Calls Try.prog 9 #[.slice A al.length c, .slice (some ⟨W.heap.size, 0, none⟩) 1 1] (W.alloc (.cells #[.string name] 9)) fun e w' => ∃ v, e = .returned (.tuple #[v, .int .i64 0]) ∧ Kd.R Kd.string 9 w' W.heap.size (fun _ => True) v (findB al [name]) ∧ Below W.heap.size W w' := by
  have hb : Below W.heap.size W (W.alloc (.cells #[.string name] 9)) := below_alloc (Below.refl _ _) _
  have h2 : Kd.C Kd.string (W.alloc (.cells #[.string name] 9)) (some ⟨W.heap.size, 0, none⟩) [name].length [name] := C_strs (heap_alloc_new W _) (by simp)
  refine (find_yes A (some ⟨W.heap.size, 0, none⟩) c 1 al [name] _ (by simp) (by simpa using hs) (by simp) h2 (Kd.C_below hC hb) hc (by omega) (find_hf _ _ (by simp) hal) (by simpa using hn)).mono fun e w' hh => ?_
  obtain ⟨v, he, hr, hbb⟩ := hh
  exact ⟨v, he, Kd.R_lower hr hb.size, hb.trans (hbb.mono hb.size)⟩
theorem each_none (W : World) (name : ByteArray) (hn : nameB name = false) (hs : name.size ≤ 1000) :
    Calls Try.prog 9 #[.slice none 0 0, .slice (some ⟨W.heap.size, 0, none⟩) 1 1] (W.alloc (.cells #[.string name] 9)) fun e w' => e = .returned (.tuple #[.slice none 0 0, .int .i64 190]) ∧ Below W.heap.size W w' := by
  have hb : Below W.heap.size W (W.alloc (.cells #[.string name] 9)) := below_alloc (Below.refl _ _) _
  have h2 : Kd.C Kd.string (W.alloc (.cells #[.string name] 9)) (some ⟨W.heap.size, 0, none⟩) [name].length [name] := C_strs (heap_alloc_new W _) (by simp)
  exact (find_no none (some ⟨W.heap.size, 0, none⟩) 0 1 [] [name] _ (by simp) (by simpa using hs) (by simp) h2 (by simpa using hn)).mono fun e w' hh => ⟨hh.1, hb.trans (hh.2.mono hb.size)⟩
/-! ### what is found -/
theorem name_size {s : ByteArray} (h : nameB s = true) : 33 < s.size := by
  unfold nameB at h
  simp only [Bool.and_eq_true, decide_eq_true_eq] at h
  exact h.1.1.1
theorem str_bytes (s : ByteArray) : strOfNums (bytesOf s) = s := by
  refine ba_ext ?_
  unfold strOfNums bytesOf
  show (List.toArray _).toList = _
  simp only [List.map_map]
  conv => rhs; rw [← List.map_id s.data.toList]
  exact List.map_congr_left fun c _ => by simp
theorem each_whole (ra rb : List Int) (name : ByteArray) (h : nameB name = true) : findB (ra ++ bytesOf (name.extract 0 32) ++ rb) [name] = [name] := by
  have hsz := name_size h
  have hl : (bytesOf (name.extract 0 32)).length = 32 := by rw [bytesOf_length, ByteArray.size_extract]; omega
  refine rise_ext bB_ord (find_rise _ _) (List.pairwise_singleton _ _) fun x => ?_
  rw [mem_find, List.mem_singleton]
  refine ⟨fun hx => hx.1, ?_⟩
  rintro rfl
  refine ⟨rfl, ra.length, by rw [List.length_append, List.length_append]; omega, ?_⟩
  unfold cutAt
  rw [List.take_append_of_le_length (by rw [List.length_append]; omega), List.take_of_length_le (by rw [List.length_append]; omega), List.drop_left, str_bytes]
theorem dig_nought (s : ByteArray) (h : allDig s = true) : ∀ x ∈ bytesOf s, x ≠ 0 := by
  intro x hx
  unfold bytesOf at hx
  obtain ⟨c, hc, rfl⟩ := List.mem_map.1 hx
  have := List.all_eq_true.1 h c hc
  intro h0
  have e : c = 0 := UInt8.toNat_inj.1 (by show c.toNat = 0; omega)
  rw [e] at this
  exact absurd this (by decide +kernel)
theorem nums_inj (l : List Int) (hl : ∀ x ∈ l, 0 ≤ x ∧ x ≤ 255) : bytesOf (strOfNums l) = l := by
  unfold strOfNums bytesOf
  show List.map _ (List.toArray _).toList = _
  simp only [List.map_map]
  conv => rhs; rw [← List.map_id l]
  refine List.map_congr_left fun x hx => ?_
  have := hl x hx
  simp
  omega
theorem each_part (na nb : Nat) (name : ByteArray) (h : nameB name = true) : findB (List.replicate na 0 ++ bytesOf (name.extract 0 31) ++ List.replicate nb 0) [name] = [] := by
  have hsz := name_size h
  have hl : (bytesOf (name.extract 0 31)).length = 31 := by rw [bytesOf_length, ByteArray.size_extract]; omega
  have hd : allDig (name.extract 0 32) = true := by
    unfold nameB at h
    simp only [Bool.and_eq_true] at h
    exact h.2
  refine List.eq_nil_iff_forall_not_mem.2 fun x hx => ?_
  obtain ⟨h1, i, hi, h2⟩ := mem_find.1 hx
  rw [List.mem_singleton.1 h1] at h2
  have hlen : (List.replicate na (0 : Int) ++ bytesOf (name.extract 0 31) ++ List.replicate nb 0).length = na + 31 + nb := by rw [List.length_append, List.length_append, hl, List.length_replicate, List.length_replicate]
  rw [hlen] at hi
  have hall : ∀ x ∈ List.replicate na (0 : Int) ++ bytesOf (name.extract 0 31) ++ List.replicate nb 0, 0 ≤ x ∧ x ≤ 255 := by
    intro x hx
    rw [List.mem_append, List.mem_append] at hx
    rcases hx with (hx | hx) | hx
    · rw [(List.mem_replicate.1 hx).2]; omega
    · unfold bytesOf at hx
      obtain ⟨c, _, rfl⟩ := List.mem_map.1 hx
      have := c.toNat_lt
      omega
    · rw [(List.mem_replicate.1 hx).2]; omega
  have hcut := congrArg bytesOf h2
  unfold cutAt at hcut
  rw [nums_inj _ (fun x hx => hall x (List.mem_of_mem_take (List.mem_of_mem_drop hx)))] at hcut
  have hz : ∀ j, i ≤ j → j < i + 32 → (List.replicate na (0 : Int) ++ bytesOf (name.extract 0 31) ++ List.replicate nb 0)[j]? = some 0 → False := by
    intro j h3 h4 h5
    refine dig_nought _ hd 0 ?_ rfl
    rw [hcut]
    refine List.mem_of_getElem? (i := j - i) ?_
    rw [List.getElem?_drop, List.getElem?_take, if_pos (by omega), show i + (j - i) = j by omega]
    exact h5
  rcases Nat.lt_or_ge i na with h3 | h3
  · refine hz i (Nat.le_refl _) (by omega) ?_
    rw [List.append_assoc, List.getElem?_append_left (by rw [List.length_replicate]; exact h3), List.getElem?_replicate, if_pos h3]
  · refine hz (i + 31) (by omega) (by omega) ?_
    rw [List.getElem?_append_right (by rw [List.length_append, List.length_replicate, hl]; omega), List.length_append, List.length_replicate, hl, List.getElem?_replicate, if_pos (by omega)]
set_option maxHeartbeats 4000000 in
set_option maxRecDepth 100000 in
theorem tabE10 : rtab .any (opsOf Try.f7 10) = (true, [([], []), ([], []), ([0, 1], [0, 1]), ([], []), ([3], [3]), ([4], [4]), ([2, 5, 2], [2, 5]), ([], []), ([6, 7, 6], [6, 7]), ([8, 8, 0, 1, 2, 3, 4, 5, 6, 7, 8], [8])]) := by kernel_rfl
theorem bitsE10 : waitsOk (rtab .any (opsOf Try.f7 10)).2 [0, 0, 3, 0, 8, 24, 63, 0, 255, 511] = true := by rw [tabE10]; kernel_rfl
set_option maxHeartbeats 4000000 in
set_option maxRecDepth 100000 in
theorem tabE11 : rtab .any (opsOf Try.f7 11) = (true, [([], []), ([], []), ([0, 1], [0, 1]), ([], []), ([3], [3]), ([4], [4]), ([2, 5, 2], [2, 5]), ([], []), ([6, 7, 6], [6, 7]), ([8, 8, 0, 1, 2, 3, 4, 5, 6, 7, 8], [8])]) := by kernel_rfl
theorem bitsE11 : waitsOk (rtab .any (opsOf Try.f7 11)).2 [0, 0, 3, 0, 8, 24, 63, 0, 255, 511] = true := by rw [tabE11]; kernel_rfl
set_option maxHeartbeats 8000000 in
set_option maxRecDepth 100000 in
theorem each_main (i0 i1 : Int) (name : ByteArray) (w : World) (h0 : 0 ≤ i0) (h1 : i0 ≤ 100) (h2 : 0 ≤ i1) (h3 : i1 ≤ 100) (h4 : name.size ≤ 100) (hn : nameB name = true) :
    Calls Try.prog 7 #[.int .i64 i0, .int .i64 i1, .string name] w fun e w' => e = .returned (.bool true) ∧ Below w.heap.size w w' := by
  have d0 : ¬ i0 < 0 := by omega
  have d1 : ¬ 100 < i0 := by omega
  have d2 : ¬ i1 < 0 := by omega
  have d3 : ¬ 100 < i1 := by omega
  have d4 : ¬ (100 : Int) < (name.size : Int) := by omega
  have d5 : ¬ (name.size : Int) < 34 := by have := name_size hn; omega
  have d6 : (32 : Int) ≤ (name.size : Int) := by omega
  have d7 : (31 : Int) ≤ (name.size : Int) := by omega
  have HSZ := Aside0.mk h4
  have HN := Aside0.mk hn
  have H0 := Aside0.mk h0
  have H1 := Aside0.mk h1
  have H2 := Aside0.mk h2
  have H3 := Aside0.mk h3
  have cF := each_find w none 0 [] name (Kd.C_nil _ _) (Nat.le_refl _) (by simp) hn (by omega)
  have HEW := Aside0.mk (fun a b : List Int => each_whole a b name hn)
  have HEP := Aside0.mk (fun a b : Nat => each_part a b name hn)
  clear hn h4
  go_enter Try.func7, Try.ntmps7
  go_wp2_with (first
    | (go_at_call 9; refine cF.mono ?_; rintro e w1 ⟨v1, rfl, hr1, hb1⟩; have HB1 := Aside0.mk hb1; clear hr1 hb1 cF)
    | ((with_reducible refine gate_dst (N := 53) rfl ?_); refine Kd.R_make (Kd.int .u8) w1.heap.size 5 rfl (N := 53) rfl 22 _ _ rfl i0 rfl rfl Try.underlying22 (.int .u8 0) 1 (by kernel_rfl) rfl (by decide) (by omega) 0 (ok := fun _ => True) (okp := fun _ => True) rfl (fun _ hk => hk) trivial H0.out (by have := H1.out; omega) (Below.refl _ _) (Nat.le_refl _) ?_; intro v9 w9 ho9 hb9 hg_ hnew_; clear hg_ hnew_; obtain ⟨A9, c9, e9⟩ := Kd.R_slice ho9; subst e9; obtain ⟨ra, hra⟩ : ∃ a, List.replicate i0.toNat (0 : Int) = a := ⟨_, rfl⟩; rw [hra] at ho9 ⊢; have HRA := Aside0.mk hra; obtain ⟨na, hna⟩ : ∃ n, ra.length = n := ⟨_, rfl⟩; rw [hna]; have HNA := Aside0.mk (show na ≤ 100 by rw [← hna, ← hra, List.length_replicate]; have := H1.out; omega); have HC9 := Aside0.mk (show Kd.C (Kd.int .u8) w9 A9 na ra by rw [← hna]; exact (Kd.R_reads' ho9).2.2); have HB9 := Aside0.mk (show Below w.heap.size w w9 from HB1.out.trans (hb9.mono HB1.out.size)); have HLA := Aside0.mk hna; clear ho9 hb9 hra hna)
    | ((with_reducible refine gate_dst (N := 55) rfl ?_); refine Kd.R_make (Kd.int .u8) w9.heap.size 5 rfl (N := 55) rfl 22 _ _ rfl i1 rfl rfl Try.underlying22 (.int .u8 0) 1 (by kernel_rfl) rfl (by decide) (by omega) 0 (ok := fun _ => True) (okp := fun _ => True) rfl (fun _ hk => hk) trivial H2.out (by have := H3.out; omega) (Below.refl _ _) (Nat.le_refl _) ?_; intro v10 w10 ho10 hb10 hg_ hnew_; clear hg_ hnew_; obtain ⟨A10, c10, e10⟩ := Kd.R_slice ho10; subst e10; obtain ⟨rb, hrb⟩ : ∃ a, List.replicate i1.toNat (0 : Int) = a := ⟨_, rfl⟩; rw [hrb] at ho10 ⊢; have HRB := Aside0.mk hrb; obtain ⟨nb, hnb⟩ : ∃ n, rb.length = n := ⟨_, rfl⟩; rw [hnb]; have HNB := Aside0.mk (show nb ≤ 100 by rw [← hnb, ← hrb, List.length_replicate]; have := H3.out; omega); have HE := Aside0.mk (show Each w w10 A9 A10 na nb ra rb from ⟨HB9.out.trans (hb10.mono HB9.out.size), Kd.C_below HC9.out hb10, by rw [← hnb]; exact (Kd.R_reads' ho10).2.2⟩); have HLB := Aside0.mk hnb; clear ho10 hb10 hrb hnb))
  have HLR := Aside0.mk (show ra.length ≤ 100 by rw [HLA.out]; exact HNA.out)
  refine start_ (n := 10) (S := fun w' => True) (ds := []) #[false, false, false, false, false, false, false, false, false, false] (by kernel_rfl) rfl rfl trivial (fun hHeld => ?_)
  refine with_tabW tabE10 bitsE10 (fun HT_ HW_ => ?_)
  have HE1 := Aside0.mk (HE.out.drew)
  generalize w10.drew = WD10 at *
  clear HE
  have HE := HE1
  clear HE1
  obtain ⟨HH, hHH⟩ : ∃ n, WD10.heap.size = n := ⟨_, rfl⟩
  refine pure_ (i := 1) (N := some 57) (v := ?_) (a' := ?_) #[false, true, false, false, false, false, false, false, false, false] rfl rfl (any_of HT_.out (by kernel_rfl)) (fun _ _ _ h => h) (Or.inl ⟨by rfl, ?_⟩) ?_ ?_
  rotate_left
  · intro w'
    go_simp
    with_reducible rfl
  rotate_left
  · simp only [Act.put, List.setIfInBounds_toArray, List.set_cons_zero, List.set_cons_succ, i64_w, i32_w]
    rfl
  refine pure_ (i := 3) (N := some 59) (v := ?_) (a' := ?_) #[false, true, false, true, false, false, false, false, false, false] rfl rfl (any_of HT_.out (by kernel_rfl)) (fun _ _ _ h => h) (Or.inl ⟨by rfl, ?_⟩) ?_ ?_
  rotate_left
  · intro w'
    go_simp
    with_reducible rfl
  rotate_left
  · simp only [Act.put, List.setIfInBounds_toArray, List.set_cons_zero, List.set_cons_succ, i64_w, i32_w]
    rfl
  refine pure_ (i := 4) (N := some 60) (v := ?_) (a' := ?_) #[false, true, false, true, true, false, false, false, false, false] rfl rfl (any_of HT_.out (by kernel_rfl)) (fun _ _ _ h => h) (Or.inl ⟨by rfl, ?_⟩) ?_ ?_
  rotate_left
  · intro w'
    go_simp
    with_reducible rfl
  rotate_left
  · simp only [Act.put, List.setIfInBounds_toArray, List.set_cons_zero, List.set_cons_succ, i64_w, i32_w]
    rfl
  refine pure_ (i := 7) (N := some 63) (v := ?_) (a' := ?_) #[false, true, false, true, true, false, false, true, false, false] rfl rfl (any_of HT_.out (by kernel_rfl)) (fun _ _ _ h => h) (Or.inl ⟨by rfl, ?_⟩) ?_ ?_
  rotate_left
  · intro w'
    go_simp
    with_reducible rfl
  rotate_left
  · simp only [Act.put, List.setIfInBounds_toArray, List.set_cons_zero, List.set_cons_succ, i64_w, i32_w]
    rfl
  refine join_ (σ := Value × Value × Option Addr × Nat) 3 #[true, true, true, true, true, true, false, true, false, false] (fun s_ => [(56, s_.1), (58, s_.2.1), (61, .slice s_.2.2.1 (name.extract 0 32).size s_.2.2.2)]) (fun s_ w' => Kd.R (Kd.int .u8) 5 w' HH (fun _ => True) s_.2.1 ra ∧ Kd.C (Kd.int .u8) w' s_.2.2.1 (name.extract 0 32).size (bytesOf (name.extract 0 32)) ∧ Below HH WD10 w') ?_ ?_
  rotate_left
  · intro hCont
    refine two_ (i := 0) (j := 5) (Ni := some 56) (Nj := some 61) #[true, true, false, true, true, false, false, true, false, false] #[false, true, false, true, true, true, false, true, false, false] rfl rfl rfl rfl (two_of HT_.out (by kernel_rfl)) (by decide) (by decide) (fun K hK => ?_) (fun K hK => ?_)
    · skip
      refine value_ (v := .slice (some ⟨WD10.heap.size, 0, none⟩) 0 0) (w1 := WD10.alloc (.cells #[] 5)) (by rfl) rfl (by go_simp) ?_
      refine hK.out _ _ trivial (fun hHeld => ?_)
      clear hK K
      have hR56 := own_empty WD10
      have hB56 : Below WD10.heap.size WD10 (WD10.alloc (.cells #[] 5)) := below_alloc (Below.refl _ _) _
      have hS56 : (WD10.alloc (.cells #[] 5)).heap.size = WD10.heap.size + 1 := by simp
      generalize hW56 : WD10.alloc (.cells #[] 5) = W1 at *
      clear hW56
      refine norm_ (a' := ?_) ?_ ?_
      rotate_left
      · show Act.put _ (some 56) _ = _
        simp only [Act.put, List.setIfInBounds_toArray, List.set_cons_zero, List.set_cons_succ, i64_w, i32_w]
        rfl
      refine two_ (i := 2) (j := 5) (Ni := some 58) (Nj := some 61) #[true, true, true, true, true, false, false, true, false, false] #[true, true, false, true, true, true, false, true, false, false] rfl rfl rfl rfl (two_of HT_.out (by kernel_rfl)) (by decide) (by decide) (fun K hK => ?_) (fun K hK => ?_)
      · skip
        refine Kd.R_append_rows_step (Kd.int .u8) (w0 := W1) HH (by rfl) (.tmp 56) (.tmp 57) 22 5 (.int .u8 0) 1 rfl Try.underlying22 (by kernel_rfl) rfl (by decide) (by omega) (.slice (some ⟨WD10.heap.size, 0, none⟩) ([] : List Int).length 0) ([] : List Int) ra A9 na c9 (fun _ => True) (fun _ => False) rfl rfl (by rw [← hHH]; exact hR56) (Kd.C_below (HE.out.c9) hB56) (fun _ _ h => h) (fun _ h => h.elim) (fun _ _ => trivial) (Below.refl _ _) (by omega) (by have := HNA.out; simp; omega) ?_
        intro v58 W2 ho58 hb58 hg58 hat58
        rw [List.nil_append] at ho58
        refine hK.out _ _ trivial (fun hHeld => ?_)
        clear hK K
        refine norm_ (a' := ?_) ?_ ?_
        rotate_left
        · show Act.put _ (some 58) _ = _
          simp only [Act.put, List.setIfInBounds_toArray, List.set_cons_zero, List.set_cons_succ, i64_w, i32_w]
          rfl
        refine one_ (i := 5) (N := some 61) #[true, true, true, true, true, true, false, true, false, false] rfl rfl (one_of HT_.out (by kernel_rfl)) (by decide) (fun K hK => ?_)
        refine value_ (v := .slice (some ⟨W2.heap.size, 0, none⟩) (name.extract 0 32).size (grownCap W2 (name.extract 0 32).size 0 5)) (w1 := Lib.bytesWorld W2 5 (name.extract 0 32)) (by rfl) rfl (conv_run W2 _ _ (by rfl) rfl) ?_
        refine hK.out _ _ trivial (fun hHeld => ?_)
        clear hK K
        have hC61 := conv_C W2 (name.extract 0 32) (by rw [ByteArray.size_extract]; have := HSZ.out; omega)
        have hB61 : Below W2.heap.size W2 (Lib.bytesWorld W2 5 (name.extract 0 32)) := bytes_below (Below.refl _ _) (Nat.le_refl _) 5 _
        have hS61 : (Lib.bytesWorld W2 5 (name.extract 0 32)).heap.size = W2.heap.size + 1 := Lib.bytesWorld_size _ _ _
        obtain ⟨c61, hc61⟩ : ∃ c, grownCap W2 (name.extract 0 32).size 0 5 = c := ⟨_, rfl⟩
        rw [hc61]
        generalize hW61 : Lib.bytesWorld W2 5 (name.extract 0 32) = W3 at *
        clear hW61 hc61
        refine norm_ (a' := ?_) ?_ ?_
        rotate_left
        · show Act.put _ (some 61) _ = _
          simp only [Act.put, List.setIfInBounds_toArray, List.set_cons_zero, List.set_cons_succ, i64_w, i32_w]
          rfl
        exact norm_ (by simp only [putAll, Act.put, List.setIfInBounds_toArray, List.set_cons_zero, List.set_cons_succ]) (hCont (.slice (some ⟨WD10.heap.size, 0, none⟩) 0 0, v58, some ⟨W2.heap.size, 0, none⟩, c61) _ ⟨Kd.R_below ho58 hB61, hC61, by rw [hHH] at hB56; exact (hB56.trans hb58).trans (hB61.mono (by have := hb58.size; omega))⟩)
      · skip
        refine value_ (v := .slice (some ⟨W1.heap.size, 0, none⟩) (name.extract 0 32).size (grownCap W1 (name.extract 0 32).size 0 5)) (w1 := Lib.bytesWorld W1 5 (name.extract 0 32)) (by rfl) rfl (conv_run W1 _ _ (by rfl) rfl) ?_
        refine hK.out _ _ trivial (fun hHeld => ?_)
        clear hK K
        have hC61 := conv_C W1 (name.extract 0 32) (by rw [ByteArray.size_extract]; have := HSZ.out; omega)
        have hB61 : Below W1.heap.size W1 (Lib.bytesWorld W1 5 (name.extract 0 32)) := bytes_below (Below.refl _ _) (Nat.le_refl _) 5 _
        have hS61 : (Lib.bytesWorld W1 5 (name.extract 0 32)).heap.size = W1.heap.size + 1 := Lib.bytesWorld_size _ _ _
        obtain ⟨c61, hc61⟩ : ∃ c, grownCap W1 (name.extract 0 32).size 0 5 = c := ⟨_, rfl⟩
        rw [hc61]
        generalize hW61 : Lib.bytesWorld W1 5 (name.extract 0 32) = W2 at *
        clear hW61 hc61
        refine norm_ (a' := ?_) ?_ ?_
        rotate_left
        · show Act.put _ (some 61) _ = _
          simp only [Act.put, List.setIfInBounds_toArray, List.set_cons_zero, List.set_cons_succ, i64_w, i32_w]
          rfl
        refine one_ (i := 2) (N := some 58) #[true, true, true, true, true, true, false, true, false, false] rfl rfl (one_of HT_.out (by kernel_rfl)) (by decide) (fun K hK => ?_)
        refine Kd.R_append_rows_step (Kd.int .u8) (w0 := W2) HH (by rfl) (.tmp 56) (.tmp 57) 22 5 (.int .u8 0) 1 rfl Try.underlying22 (by kernel_rfl) rfl (by decide) (by omega) (.slice (some ⟨WD10.heap.size, 0, none⟩) ([] : List Int).length 0) ([] : List Int) ra A9 na c9 (fun _ => True) (fun _ => False) rfl rfl (by rw [← hHH]; exact Kd.R_below hR56 hB61) (Kd.C_below (Kd.C_below (HE.out.c9) hB56) hB61) (fun _ _ h => h) (fun _ h => h.elim) (fun _ _ => trivial) (Below.refl _ _) (by omega) (by have := HNA.out; simp; omega) ?_
        intro v58 W3 ho58 hb58 hg58 hat58
        rw [List.nil_append] at ho58
        refine hK.out _ _ trivial (fun hHeld => ?_)
        clear hK K
        refine norm_ (a' := ?_) ?_ ?_
        rotate_left
        · show Act.put _ (some 58) _ = _
          simp only [Act.put, List.setIfInBounds_toArray, List.set_cons_zero, List.set_cons_succ, i64_w, i32_w]
          rfl
        exact norm_ (by simp only [putAll, Act.put, List.setIfInBounds_toArray, List.set_cons_zero, List.set_cons_succ]) (hCont (.slice (some ⟨WD10.heap.size, 0, none⟩) 0 0, v58, some ⟨W1.heap.size, 0, none⟩, c61) _ ⟨ho58, (far_C hC61 hg58 (by simp [Value.ownBlock]; omega) (by omega)), by rw [hHH] at hB56; exact (hB56.trans (hB61.mono (by omega))).trans hb58⟩)
    · skip
      refine value_ (v := .slice (some ⟨WD10.heap.size, 0, none⟩) (name.extract 0 32).size (grownCap WD10 (name.extract 0 32).size 0 5)) (w1 := Lib.bytesWorld WD10 5 (name.extract 0 32)) (by rfl) rfl (conv_run WD10 _ _ (by rfl) rfl) ?_
      refine hK.out _ _ trivial (fun hHeld => ?_)
      clear hK K
      have hC61 := conv_C WD10 (name.extract 0 32) (by rw [ByteArray.size_extract]; have := HSZ.out; omega)
      have hB61 : Below WD10.heap.size WD10 (Lib.bytesWorld WD10 5 (name.extract 0 32)) := bytes_below (Below.refl _ _) (Nat.le_refl _) 5 _
      have hS61 : (Lib.bytesWorld WD10 5 (name.extract 0 32)).heap.size = WD10.heap.size + 1 := Lib.bytesWorld_size _ _ _
      obtain ⟨c61, hc61⟩ : ∃ c, grownCap WD10 (name.extract 0 32).size 0 5 = c := ⟨_, rfl⟩
      rw [hc61]
      generalize hW61 : Lib.bytesWorld WD10 5 (name.extract 0 32) = W1 at *
      clear hW61 hc61
      refine norm_ (a' := ?_) ?_ ?_
      rotate_left
      · show Act.put _ (some 61) _ = _
        simp only [Act.put, List.setIfInBounds_toArray, List.set_cons_zero, List.set_cons_succ, i64_w, i32_w]
        rfl
      refine one_ (i := 0) (N := some 56) #[true, true, false, true, true, true, false, true, false, false] rfl rfl (one_of HT_.out (by kernel_rfl)) (by decide) (fun K hK => ?_)
      refine value_ (v := .slice (some ⟨W1.heap.size, 0, none⟩) 0 0) (w1 := W1.alloc (.cells #[] 5)) (by rfl) rfl (by go_simp) ?_
      refine hK.out _ _ trivial (fun hHeld => ?_)
      clear hK K
      have hR56 := own_empty W1
      have hB56 : Below W1.heap.size W1 (W1.alloc (.cells #[] 5)) := below_alloc (Below.refl _ _) _
      have hS56 : (W1.alloc (.cells #[] 5)).heap.size = W1.heap.size + 1 := by simp
      generalize hW56 : W1.alloc (.cells #[] 5) = W2 at *
      clear hW56
      refine norm_ (a' := ?_) ?_ ?_
      rotate_left
      · show Act.put _ (some 56) _ = _
        simp only [Act.put, List.setIfInBounds_toArray, List.set_cons_zero, List.set_cons_succ, i64_w, i32_w]
        rfl
      refine one_ (i := 2) (N := some 58) #[true, true, true, true, true, true, false, true, false, false] rfl rfl (one_of HT_.out (by kernel_rfl)) (by decide) (fun K hK => ?_)
      refine Kd.R_append_rows_step (Kd.int .u8) (w0 := W2) HH (by rfl) (.tmp 56) (.tmp 57) 22 5 (.int .u8 0) 1 rfl Try.underlying22 (by kernel_rfl) rfl (by decide) (by omega) (.slice (some ⟨W1.heap.size, 0, none⟩) ([] : List Int).length 0) ([] : List Int) ra A9 na c9 (fun _ => True) (fun _ => False) rfl rfl (Kd.R_lower hR56 (by omega)) (Kd.C_below (Kd.C_below (HE.out.c9) hB61) hB56) (fun _ _ h => h) (fun _ h => h.elim) (fun _ _ => trivial) (Below.refl _ _) (by omega) (by have := HNA.out; simp; omega) ?_
      intro v58 W3 ho58 hb58 hg58 hat58
      rw [List.nil_append] at ho58
      refine hK.out _ _ trivial (fun hHeld => ?_)
      clear hK K
      refine norm_ (a' := ?_) ?_ ?_
      rotate_left
      · show Act.put _ (some 58) _ = _
        simp only [Act.put, List.setIfInBounds_toArray, List.set_cons_zero, List.set_cons_succ, i64_w, i32_w]
        rfl
      exact norm_ (by simp only [putAll, Act.put, List.setIfInBounds_toArray, List.set_cons_zero, List.set_cons_succ]) (hCont (.slice (some ⟨W1.heap.size, 0, none⟩) 0 0, v58, some ⟨WD10.heap.size, 0, none⟩, c61) _ ⟨ho58, (far_C (Kd.C_below hC61 hB56) hg58 (by simp [Value.ownBlock]; omega) (by omega)), by rw [hHH] at hB61; exact (hB61.trans (hB56.mono (by omega))).trans hb58⟩)
  rintro ⟨v56, v58, A61, c61⟩ WJ ⟨hj1, hj2, hj3⟩
  dsimp only at hj1 hj2
  refine norm_ (a' := ?_) ?_ ?_
  rotate_left
  · show putAll _ _ = _
    simp only [putAll, Act.put, List.setIfInBounds_toArray, List.set_cons_zero, List.set_cons_succ]
    rfl
  refine one_ (i := 6) (N := some 62) #[true, true, true, true, true, true, true, true, false, false] rfl rfl (one_of HT_.out (by kernel_rfl)) (by decide) (fun K hK => ?_)
  refine Kd.R_append_rows_step (Kd.int .u8) (w0 := WJ) HH (by rfl) (.tmp 58) (.tmp 61) 22 5 (.int .u8 0) 1 rfl Try.underlying22 (by kernel_rfl) rfl (by decide) (by omega) v58 ra (bytesOf (name.extract 0 32)) A61 (name.extract 0 32).size c61 (fun _ => True) (fun _ => False) rfl rfl hj1 hj2 (fun _ _ h => h) (fun _ h => h.elim) (fun _ _ => trivial) (Below.refl _ _) (by have := hj3.size; omega) (by have := HNA.out; have := HLR.out; rw [ByteArray.size_extract]; have := HSZ.out; omega) ?_
  intro v62 WK ho62 hb62 hg62 hat62
  refine hK.out _ _ trivial (fun hHeld => ?_)
  clear hK K
  refine norm_ (a' := ?_) ?_ ?_
  rotate_left
  · show Act.put _ (some 62) _ = _
    simp only [Act.put, List.setIfInBounds_toArray, List.set_cons_zero, List.set_cons_succ, i64_w, i32_w]
    rfl
  refine one_ (i := 8) (N := some 64) #[true, true, true, true, true, true, true, true, true, false] rfl rfl (one_of HT_.out (by kernel_rfl)) (by decide) (fun K hK => ?_)
  refine Kd.R_append_rows_step (Kd.int .u8) (w0 := WK) HH (by rfl) (.tmp 62) (.tmp 63) 22 5 (.int .u8 0) 1 rfl Try.underlying22 (by kernel_rfl) rfl (by decide) (by omega) v62 (ra ++ bytesOf (name.extract 0 32)) rb A10 nb c10 (fun _ => True) (fun _ => False) rfl rfl ho62 (Kd.C_below HE.out.c10 (by rw [hHH]; exact hj3.trans hb62)) (fun _ _ h => h) (fun _ h => h.elim) (fun _ _ => trivial) (Below.refl _ _) (by have := hj3.size; have := hb62.size; omega) (by have := HNB.out; have := HLR.out; rw [List.length_append, bytesOf_length, ByteArray.size_extract]; have := HSZ.out; omega) ?_
  intro v64 WL10 ho64 hb64 hg64 hat64
  refine hK.out _ _ trivial (fun hHeld => ?_)
  clear hK K
  refine norm_ (a' := ?_) ?_ ?_
  rotate_left
  · show Act.put _ (some 64) _ = _
    simp only [Act.put, List.setIfInBounds_toArray, List.set_cons_zero, List.set_cons_succ, i64_w, i32_w]
    rfl
  refine pure_ (i := 9) (N := some 11) (v := ?_) (a' := ?_) #[true, true, true, true, true, true, true, true, true, true] rfl rfl (any_of HT_.out (by kernel_rfl)) (fun _ _ _ h => h) (Or.inl ⟨by rfl, ?_⟩) ?_ ?_
  rotate_left
  · intro w'
    go_simp
    with_reducible rfl
  rotate_left
  · simp only [Act.put, List.setIfInBounds_toArray, List.set_cons_zero, List.set_cons_succ, i64_w, i32_w]
    rfl
  refine done_ (done_of HT_.out (by kernel_rfl)) ?_
  have HB10 := Aside0.mk (show Below WD10.heap.size WD10 WL10 by rw [hHH]; exact (hj3.trans hb62).trans hb64)
  have HE10 := Aside0.mk (HE.out.below HB10.out)
  obtain ⟨AR10, cR10, eR10⟩ := Kd.R_slice ho64
  subst eR10
  have HR10 := Aside0.mk (show Kd.R (Kd.int .u8) 5 WL10 w.heap.size (fun _ => True) _ (ra ++ bytesOf (name.extract 0 32) ++ rb) from Kd.R_lower ho64 (by have := HE.out.below_.size; omega))
  obtain ⟨al10, hal10⟩ : ∃ a, ra ++ bytesOf (name.extract 0 32) ++ rb = a := ⟨_, rfl⟩
  rw [hal10] at HR10 ⊢
  have HAL10 := Aside0.mk hal10
  have HLL10 := Aside0.mk (show al10.length ≤ 1000 by rw [← hal10, List.length_append, List.length_append, bytesOf_length, ByteArray.size_extract]; have := HSZ.out; have := HLR.out; have := HLB.out; have := HNB.out; omega)
  have HCL10 := Aside0.mk (Kd.R_reads' HR10.out).2.1
  clear hal10
  clear ho64 hb64 hg64 hat64 ho62 hb62 hg62 hat62 hj1 hj2 hj3 HE HT_ HW_ hHeld
  have HE := HE10
  clear HE10 hHH HH
  go_wp2
  refine start_ (n := 10) (S := fun w' => True) (ds := []) #[false, false, false, false, false, false, false, false, false, false] (by kernel_rfl) rfl rfl trivial (fun hHeld => ?_)
  refine with_tabW tabE11 bitsE11 (fun HT_ HW_ => ?_)
  have HE1 := Aside0.mk (HE.out.drew)
  have HR10d := Aside0.mk (Kd.R_below HR10.out (below_drew1 (Below.refl WL10.heap.size WL10)))
  generalize WL10.drew = WD11 at *
  clear HR10
  have HR10 := HR10d
  clear HR10d
  clear HE
  have HE := HE1
  clear HE1
  obtain ⟨HH, hHH⟩ : ∃ n, WD11.heap.size = n := ⟨_, rfl⟩
  refine pure_ (i := 1) (N := some 66) (v := ?_) (a' := ?_) #[false, true, false, false, false, false, false, false, false, false] rfl rfl (any_of HT_.out (by kernel_rfl)) (fun _ _ _ h => h) (Or.inl ⟨by rfl, ?_⟩) ?_ ?_
  rotate_left
  · intro w'
    go_simp
    with_reducible rfl
  rotate_left
  · simp only [Act.put, List.setIfInBounds_toArray, List.set_cons_zero, List.set_cons_succ, i64_w, i32_w]
    rfl
  refine pure_ (i := 3) (N := some 68) (v := ?_) (a' := ?_) #[false, true, false, true, false, false, false, false, false, false] rfl rfl (any_of HT_.out (by kernel_rfl)) (fun _ _ _ h => h) (Or.inl ⟨by rfl, ?_⟩) ?_ ?_
  rotate_left
  · intro w'
    go_simp
    with_reducible rfl
  rotate_left
  · simp only [Act.put, List.setIfInBounds_toArray, List.set_cons_zero, List.set_cons_succ, i64_w, i32_w]
    rfl
  refine pure_ (i := 4) (N := some 69) (v := ?_) (a' := ?_) #[false, true, false, true, true, false, false, false, false, false] rfl rfl (any_of HT_.out (by kernel_rfl)) (fun _ _ _ h => h) (Or.inl ⟨by rfl, ?_⟩) ?_ ?_
  rotate_left
  · intro w'
    go_simp
    with_reducible rfl
  rotate_left
  · simp only [Act.put, List.setIfInBounds_toArray, List.set_cons_zero, List.set_cons_succ, i64_w, i32_w]
    rfl
  refine pure_ (i := 7) (N := some 72) (v := ?_) (a' := ?_) #[false, true, false, true, true, false, false, true, false, false] rfl rfl (any_of HT_.out (by kernel_rfl)) (fun _ _ _ h => h) (Or.inl ⟨by rfl, ?_⟩) ?_ ?_
  rotate_left
  · intro w'
    go_simp
    with_reducible rfl
  rotate_left
  · simp only [Act.put, List.setIfInBounds_toArray, List.set_cons_zero, List.set_cons_succ, i64_w, i32_w]
    rfl
  refine join_ (σ := Value × Value × Option Addr × Nat) 3 #[true, true, true, true, true, true, false, true, false, false] (fun s_ => [(65, s_.1), (67, s_.2.1), (70, .slice s_.2.2.1 (name.extract 0 31).size s_.2.2.2)]) (fun s_ w' => Kd.R (Kd.int .u8) 5 w' HH (fun _ => True) s_.2.1 ra ∧ Kd.C (Kd.int .u8) w' s_.2.2.1 (name.extract 0 31).size (bytesOf (name.extract 0 31)) ∧ Below HH WD11 w') ?_ ?_
  rotate_left
  · intro hCont
    refine two_ (i := 0) (j := 5) (Ni := some 65) (Nj := some 70) #[true, true, false, true, true, false, false, true, false, false] #[false, true, false, true, true, true, false, true, false, false] rfl rfl rfl rfl (two_of HT_.out (by kernel_rfl)) (by decide) (by decide) (fun K hK => ?_) (fun K hK => ?_)
    · skip
      refine value_ (v := .slice (some ⟨WD11.heap.size, 0, none⟩) 0 0) (w1 := WD11.alloc (.cells #[] 5)) (by rfl) rfl (by go_simp) ?_
      refine hK.out _ _ trivial (fun hHeld => ?_)
      clear hK K
      have hR56 := own_empty WD11
      have hB56 : Below WD11.heap.size WD11 (WD11.alloc (.cells #[] 5)) := below_alloc (Below.refl _ _) _
      have hS56 : (WD11.alloc (.cells #[] 5)).heap.size = WD11.heap.size + 1 := by simp
      generalize hW56 : WD11.alloc (.cells #[] 5) = W1 at *
      clear hW56
      refine norm_ (a' := ?_) ?_ ?_
      rotate_left
      · show Act.put _ (some 65) _ = _
        simp only [Act.put, List.setIfInBounds_toArray, List.set_cons_zero, List.set_cons_succ, i64_w, i32_w]
        rfl
      refine two_ (i := 2) (j := 5) (Ni := some 67) (Nj := some 70) #[true, true, true, true, true, false, false, true, false, false] #[true, true, false, true, true, true, false, true, false, false] rfl rfl rfl rfl (two_of HT_.out (by kernel_rfl)) (by decide) (by decide) (fun K hK => ?_) (fun K hK => ?_)
      · skip
        refine Kd.R_append_rows_step (Kd.int .u8) (w0 := W1) HH (by rfl) (.tmp 65) (.tmp 66) 22 5 (.int .u8 0) 1 rfl Try.underlying22 (by kernel_rfl) rfl (by decide) (by omega) (.slice (some ⟨WD11.heap.size, 0, none⟩) ([] : List Int).length 0) ([] : List Int) ra A9 na c9 (fun _ => True) (fun _ => False) rfl rfl (by rw [← hHH]; exact hR56) (Kd.C_below (HE.out.c9) hB56) (fun _ _ h => h) (fun _ h => h.elim) (fun _ _ => trivial) (Below.refl _ _) (by omega) (by have := HNA.out; simp; omega) ?_
        intro v58 W2 ho58 hb58 hg58 hat58
        rw [List.nil_append] at ho58
        refine hK.out _ _ trivial (fun hHeld => ?_)
        clear hK K
        refine norm_ (a' := ?_) ?_ ?_
        rotate_left
        · show Act.put _ (some 67) _ = _
          simp only [Act.put, List.setIfInBounds_toArray, List.set_cons_zero, List.set_cons_succ, i64_w, i32_w]
          rfl
        refine one_ (i := 5) (N := some 70) #[true, true, true, true, true, true, false, true, false, false] rfl rfl (one_of HT_.out (by kernel_rfl)) (by decide) (fun K hK => ?_)
        refine value_ (v := .slice (some ⟨W2.heap.size, 0, none⟩) (name.extract 0 31).size (grownCap W2 (name.extract 0 31).size 0 5)) (w1 := Lib.bytesWorld W2 5 (name.extract 0 31)) (by rfl) rfl (conv_run W2 _ _ (by rfl) rfl) ?_
        refine hK.out _ _ trivial (fun hHeld => ?_)
        clear hK K
        have hC61 := conv_C W2 (name.extract 0 31) (by rw [ByteArray.size_extract]; have := HSZ.out; omega)
        have hB61 : Below W2.heap.size W2 (Lib.bytesWorld W2 5 (name.extract 0 31)) := bytes_below (Below.refl _ _) (Nat.le_refl _) 5 _
        have hS61 : (Lib.bytesWorld W2 5 (name.extract 0 31)).heap.size = W2.heap.size + 1 := Lib.bytesWorld_size _ _ _
        obtain ⟨c61, hc61⟩ : ∃ c, grownCap W2 (name.extract 0 31).size 0 5 = c := ⟨_, rfl⟩
        rw [hc61]
        generalize hW61 : Lib.bytesWorld W2 5 (name.extract 0 31) = W3 at *
        clear hW61 hc61
        refine norm_ (a' := ?_) ?_ ?_
        rotate_left
        · show Act.put _ (some 70) _ = _
          simp only [Act.put, List.setIfInBounds_toArray, List.set_cons_zero, List.set_cons_succ, i64_w, i32_w]
          rfl
        exact norm_ (by simp only [putAll, Act.put, List.setIfInBounds_toArray, List.set_cons_zero, List.set_cons_succ]) (hCont (.slice (some ⟨WD11.heap.size, 0, none⟩) 0 0, v58, some ⟨W2.heap.size, 0, none⟩, c61) _ ⟨Kd.R_below ho58 hB61, hC61, by rw [hHH] at hB56; exact (hB56.trans hb58).trans (hB61.mono (by have := hb58.size; omega))⟩)
      · skip
        refine value_ (v := .slice (some ⟨W1.heap.size, 0, none⟩) (name.extract 0 31).size (grownCap W1 (name.extract 0 31).size 0 5)) (w1 := Lib.bytesWorld W1 5 (name.extract 0 31)) (by rfl) rfl (conv_run W1 _ _ (by rfl) rfl) ?_
        refine hK.out _ _ trivial (fun hHeld => ?_)
        clear hK K
        have hC61 := conv_C W1 (name.extract 0 31) (by rw [ByteArray.size_extract]; have := HSZ.out; omega)
        have hB61 : Below W1.heap.size W1 (Lib.bytesWorld W1 5 (name.extract 0 31)) := bytes_below (Below.refl _ _) (Nat.le_refl _) 5 _
        have hS61 : (Lib.bytesWorld W1 5 (name.extract 0 31)).heap.size = W1.heap.size + 1 := Lib.bytesWorld_size _ _ _
        obtain ⟨c61, hc61⟩ : ∃ c, grownCap W1 (name.extract 0 31).size 0 5 = c := ⟨_, rfl⟩
        rw [hc61]
        generalize hW61 : Lib.bytesWorld W1 5 (name.extract 0 31) = W2 at *
        clear hW61 hc61
        refine norm_ (a' := ?_) ?_ ?_
        rotate_left
        · show Act.put _ (some 70) _ = _
          simp only [Act.put, List.setIfInBounds_toArray, List.set_cons_zero, List.set_cons_succ, i64_w, i32_w]
          rfl
        refine one_ (i := 2) (N := some 67) #[true, true, true, true, true, true, false, true, false, false] rfl rfl (one_of HT_.out (by kernel_rfl)) (by decide) (fun K hK => ?_)
        refine Kd.R_append_rows_step (Kd.int .u8) (w0 := W2) HH (by rfl) (.tmp 65) (.tmp 66) 22 5 (.int .u8 0) 1 rfl Try.underlying22 (by kernel_rfl) rfl (by decide) (by omega) (.slice (some ⟨WD11.heap.size, 0, none⟩) ([] : List Int).length 0) ([] : List Int) ra A9 na c9 (fun _ => True) (fun _ => False) rfl rfl (by rw [← hHH]; exact Kd.R_below hR56 hB61) (Kd.C_below (Kd.C_below (HE.out.c9) hB56) hB61) (fun _ _ h => h) (fun _ h => h.elim) (fun _ _ => trivial) (Below.refl _ _) (by omega) (by have := HNA.out; simp; omega) ?_
        intro v58 W3 ho58 hb58 hg58 hat58
        rw [List.nil_append] at ho58
        refine hK.out _ _ trivial (fun hHeld => ?_)
        clear hK K
        refine norm_ (a' := ?_) ?_ ?_
        rotate_left
        · show Act.put _ (some 67) _ = _
          simp only [Act.put, List.setIfInBounds_toArray, List.set_cons_zero, List.set_cons_succ, i64_w, i32_w]
          rfl
        exact norm_ (by simp only [putAll, Act.put, List.setIfInBounds_toArray, List.set_cons_zero, List.set_cons_succ]) (hCont (.slice (some ⟨WD11.heap.size, 0, none⟩) 0 0, v58, some ⟨W1.heap.size, 0, none⟩, c61) _ ⟨ho58, (far_C hC61 hg58 (by simp [Value.ownBlock]; omega) (by omega)), by rw [hHH] at hB56; exact (hB56.trans (hB61.mono (by omega))).trans hb58⟩)
    · skip
      refine value_ (v := .slice (some ⟨WD11.heap.size, 0, none⟩) (name.extract 0 31).size (grownCap WD11 (name.extract 0 31).size 0 5)) (w1 := Lib.bytesWorld WD11 5 (name.extract 0 31)) (by rfl) rfl (conv_run WD11 _ _ (by rfl) rfl) ?_
      refine hK.out _ _ trivial (fun hHeld => ?_)
      clear hK K
      have hC61 := conv_C WD11 (name.extract 0 31) (by rw [ByteArray.size_extract]; have := HSZ.out; omega)
      have hB61 : Below WD11.heap.size WD11 (Lib.bytesWorld WD11 5 (name.extract 0 31)) := bytes_below (Below.refl _ _) (Nat.le_refl _) 5 _
      have hS61 : (Lib.bytesWorld WD11 5 (name.extract 0 31)).heap.size = WD11.heap.size + 1 := Lib.bytesWorld_size _ _ _
      obtain ⟨c61, hc61⟩ : ∃ c, grownCap WD11 (name.extract 0 31).size 0 5 = c := ⟨_, rfl⟩
      rw [hc61]
      generalize hW61 : Lib.bytesWorld WD11 5 (name.extract 0 31) = W1 at *
      clear hW61 hc61
      refine norm_ (a' := ?_) ?_ ?_
      rotate_left
      · show Act.put _ (some 70) _ = _
        simp only [Act.put, List.setIfInBounds_toArray, List.set_cons_zero, List.set_cons_succ, i64_w, i32_w]
        rfl
      refine one_ (i := 0) (N := some 65) #[true, true, false, true, true, true, false, true, false, false] rfl rfl (one_of HT_.out (by kernel_rfl)) (by decide) (fun K hK => ?_)
      refine value_ (v := .slice (some ⟨W1.heap.size, 0, none⟩) 0 0) (w1 := W1.alloc (.cells #[] 5)) (by rfl) rfl (by go_simp) ?_
      refine hK.out _ _ trivial (fun hHeld => ?_)
      clear hK K
      have hR56 := own_empty W1
      have hB56 : Below W1.heap.size W1 (W1.alloc (.cells #[] 5)) := below_alloc (Below.refl _ _) _
      have hS56 : (W1.alloc (.cells #[] 5)).heap.size = W1.heap.size + 1 := by simp
      generalize hW56 : W1.alloc (.cells #[] 5) = W2 at *
      clear hW56
      refine norm_ (a' := ?_) ?_ ?_
      rotate_left
      · show Act.put _ (some 65) _ = _
        simp only [Act.put, List.setIfInBounds_toArray, List.set_cons_zero, List.set_cons_succ, i64_w, i32_w]
        rfl
      refine one_ (i := 2) (N := some 67) #[true, true, true, true, true, true, false, true, false, false] rfl rfl (one_of HT_.out (by kernel_rfl)) (by decide) (fun K hK => ?_)
      refine Kd.R_append_rows_step (Kd.int .u8) (w0 := W2) HH (by rfl) (.tmp 65) (.tmp 66) 22 5 (.int .u8 0) 1 rfl Try.underlying22 (by kernel_rfl) rfl (by decide) (by omega) (.slice (some ⟨W1.heap.size, 0, none⟩) ([] : List Int).length 0) ([] : List Int) ra A9 na c9 (fun _ => True) (fun _ => False) rfl rfl (Kd.R_lower hR56 (by omega)) (Kd.C_below (Kd.C_below (HE.out.c9) hB61) hB56) (fun _ _ h => h) (fun _ h => h.elim) (fun _ _ => trivial) (Below.refl _ _) (by omega) (by have := HNA.out; simp; omega) ?_
      intro v58 W3 ho58 hb58 hg58 hat58
      rw [List.nil_append] at ho58
      refine hK.out _ _ trivial (fun hHeld => ?_)
      clear hK K
      refine norm_ (a' := ?_) ?_ ?_
      rotate_left
      · show Act.put _ (some 67) _ = _
        simp only [Act.put, List.setIfInBounds_toArray, List.set_cons_zero, List.set_cons_succ, i64_w, i32_w]
        rfl
      exact norm_ (by simp only [putAll, Act.put, List.setIfInBounds_toArray, List.set_cons_zero, List.set_cons_succ]) (hCont (.slice (some ⟨W1.heap.size, 0, none⟩) 0 0, v58, some ⟨WD11.heap.size, 0, none⟩, c61) _ ⟨ho58, (far_C (Kd.C_below hC61 hB56) hg58 (by simp [Value.ownBlock]; omega) (by omega)), by rw [hHH] at hB61; exact (hB61.trans (hB56.mono (by omega))).trans hb58⟩)
  rintro ⟨v56, v58, A61, c61⟩ WJ ⟨hj1, hj2, hj3⟩
  dsimp only at hj1 hj2
  refine norm_ (a' := ?_) ?_ ?_
  rotate_left
  · show putAll _ _ = _
    simp only [putAll, Act.put, List.setIfInBounds_toArray, List.set_cons_zero, List.set_cons_succ]
    rfl
  refine one_ (i := 6) (N := some 71) #[true, true, true, true, true, true, true, true, false, false] rfl rfl (one_of HT_.out (by kernel_rfl)) (by decide) (fun K hK => ?_)
  refine Kd.R_append_rows_step (Kd.int .u8) (w0 := WJ) HH (by rfl) (.tmp 67) (.tmp 70) 22 5 (.int .u8 0) 1 rfl Try.underlying22 (by kernel_rfl) rfl (by decide) (by omega) v58 ra (bytesOf (name.extract 0 31)) A61 (name.extract 0 31).size c61 (fun _ => True) (fun _ => False) rfl rfl hj1 hj2 (fun _ _ h => h) (fun _ h => h.elim) (fun _ _ => trivial) (Below.refl _ _) (by have := hj3.size; omega) (by have := HNA.out; have := HLR.out; rw [ByteArray.size_extract]; have := HSZ.out; omega) ?_
  intro v62 WK ho62 hb62 hg62 hat62
  refine hK.out _ _ trivial (fun hHeld => ?_)
  clear hK K
  refine norm_ (a' := ?_) ?_ ?_
  rotate_left
  · show Act.put _ (some 71) _ = _
    simp only [Act.put, List.setIfInBounds_toArray, List.set_cons_zero, List.set_cons_succ, i64_w, i32_w]
    rfl
  refine one_ (i := 8) (N := some 73) #[true, true, true, true, true, true, true, true, true, false] rfl rfl (one_of HT_.out (by kernel_rfl)) (by decide) (fun K hK => ?_)
  refine Kd.R_append_rows_step (Kd.int .u8) (w0 := WK) HH (by rfl) (.tmp 71) (.tmp 72) 22 5 (.int .u8 0) 1 rfl Try.underlying22 (by kernel_rfl) rfl (by decide) (by omega) v62 (ra ++ bytesOf (name.extract 0 31)) rb A10 nb c10 (fun _ => True) (fun _ => False) rfl rfl ho62 (Kd.C_below HE.out.c10 (by rw [hHH]; exact hj3.trans hb62)) (fun _ _ h => h) (fun _ h => h.elim) (fun _ _ => trivial) (Below.refl _ _) (by have := hj3.size; have := hb62.size; omega) (by have := HNB.out; have := HLR.out; rw [List.length_append, bytesOf_length, ByteArray.size_extract]; have := HSZ.out; omega) ?_
  intro v64 WL11 ho64 hb64 hg64 hat64
  refine hK.out _ _ trivial (fun hHeld => ?_)
  clear hK K
  refine norm_ (a' := ?_) ?_ ?_
  rotate_left
  · show Act.put _ (some 73) _ = _
    simp only [Act.put, List.setIfInBounds_toArray, List.set_cons_zero, List.set_cons_succ, i64_w, i32_w]
    rfl
  refine pure_ (i := 9) (N := some 12) (v := ?_) (a' := ?_) #[true, true, true, true, true, true, true, true, true, true] rfl rfl (any_of HT_.out (by kernel_rfl)) (fun _ _ _ h => h) (Or.inl ⟨by rfl, ?_⟩) ?_ ?_
  rotate_left
  · intro w'
    go_simp
    with_reducible rfl
  rotate_left
  · simp only [Act.put, List.setIfInBounds_toArray, List.set_cons_zero, List.set_cons_succ, i64_w, i32_w]
    rfl
  refine done_ (done_of HT_.out (by kernel_rfl)) ?_
  have HB11 := Aside0.mk (show Below WD11.heap.size WD11 WL11 by rw [hHH]; exact (hj3.trans hb62).trans hb64)
  have HE11 := Aside0.mk (HE.out.below HB11.out)
  obtain ⟨AR11, cR11, eR11⟩ := Kd.R_slice ho64
  subst eR11
  have HR11 := Aside0.mk (show Kd.R (Kd.int .u8) 5 WL11 w.heap.size (fun _ => True) _ (ra ++ bytesOf (name.extract 0 31) ++ rb) from Kd.R_lower ho64 (by have := HE.out.below_.size; omega))
  obtain ⟨al11, hal11⟩ : ∃ a, ra ++ bytesOf (name.extract 0 31) ++ rb = a := ⟨_, rfl⟩
  rw [hal11] at HR11 ⊢
  have HAL11 := Aside0.mk hal11
  have HLL11 := Aside0.mk (show al11.length ≤ 1000 by rw [← hal11, List.length_append, List.length_append, bytesOf_length, ByteArray.size_extract]; have := HSZ.out; have := HLR.out; have := HLB.out; have := HNB.out; omega)
  have HCL11 := Aside0.mk (Kd.R_reads' HR11.out).2.1
  clear hal11
  clear ho64 hb64 hg64 hat64 ho62 hb62 hg62 hat62 hj1 hj2 hj3 HE HT_ HW_ hHeld
  have HE := HE11
  have HR10e := Aside0.mk (Kd.R_below HR10.out HB11.out)
  clear HR10
  have HR10 := HR10e
  clear HR10e
  clear HE11 hHH HH
  have cG := each_find WL11 AR10 cR10 al10 name (Kd.R_reads' HR10.out).2.2 HCL10.out HLL10.out HN.out (by have := HSZ.out; omega)
  rw [show findB al10 [name] = [name] from by rw [← HAL10.out]; exact HEW.out ra rb] at cG
  have cH := fun (W : World) (hb : Below WL11.heap.size WL11 W) => each_find W AR11 cR11 al11 name (Kd.C_below (Kd.R_reads' HR11.out).2.2 hb) HCL11.out HLL11.out HN.out (by have := HSZ.out; omega)
  rw [show findB al11 [name] = [] from by rw [← HAL11.out, ← HRA.out, ← HRB.out]; exact HEP.out _ _] at cH
  have HHN := Aside0.mk cH
  clear cH
  go_wp2_with (first
    | (go_at_call 9; refine cG.mono ?_; rintro e W13 ⟨v13, rfl, hr13, hb13⟩; clear cG; obtain ⟨g13, c13, e13, _, hg13, _⟩ := Kd.R_form hr13 (by simp); subst e13; have hce := (Kd.R_celln ByteArray.empty hr13 (0 : Int) (by omega) (by simp)).1; have HCE := Aside0.mk (show W13.cell? ⟨g13, 0, none⟩ = some (.string name) from hce); have HG13 := Aside0.mk hg13; have HB13 := Aside0.mk hb13; clear hr13 hb13 hce hg13; have cK := HHN.out W13 HB13.out)
    | (go_at_call 9; refine cK.mono ?_; rintro e W15 ⟨v15, rfl, hr15, hb15⟩; clear cK; obtain ⟨A15, c15, e15⟩ := Kd.R_slice hr15; subst e15; have HB15 := Aside0.mk hb15; clear hr15 hb15; have cA := awake_calls W15)
    | (go_at_call 11; refine cA.mono ?_; rintro e W16 ⟨rfl, hb16⟩; have HB16 := Aside0.mk hb16; clear hb16 cA; have hcx : W16.cell? ⟨g13, 0, none⟩ = some (.string name) := (HB16.out.cell (p := ⟨g13, 0, none⟩) (by have := HB15.out.size; have := HG13.out; show g13 < _; omega)).trans ((HB15.out.cell (p := ⟨g13, 0, none⟩) HG13.out).trans HCE.out)))
  go_ret
  refine ⟨rfl, ?_⟩
  have h1 := HE.out.below_
  have h2 := h1.trans (HB13.out.mono h1.size)
  have h3 := h2.trans (HB15.out.mono h2.size)
  exact h3.trans (HB16.out.mono h3.size)

set_option maxHeartbeats 1000000 in
set_option maxRecDepth 100000 in
theorem each_out0 (i0 i1 : Int) (name : ByteArray) (w : World)  (d0 : i0 < 0) :
    Calls Try.prog 7 #[.int .i64 i0, .int .i64 i1, .string name] w fun e w' => e = .returned (.bool true) ∧ Below w.heap.size w w' := by
  go_enter Try.func7, Try.ntmps7
  go_wp2
  go_ret
  exact ⟨rfl, Below.refl _ _⟩
set_option maxHeartbeats 1000000 in
set_option maxRecDepth 100000 in
theorem each_out1 (i0 i1 : Int) (name : ByteArray) (w : World) (d0 : ¬ i0 < 0) (d1 : 100 < i0) :
    Calls Try.prog 7 #[.int .i64 i0, .int .i64 i1, .string name] w fun e w' => e = .returned (.bool true) ∧ Below w.heap.size w w' := by
  go_enter Try.func7, Try.ntmps7
  go_wp2
  go_ret
  exact ⟨rfl, Below.refl _ _⟩
set_option maxHeartbeats 1000000 in
set_option maxRecDepth 100000 in
theorem each_out2 (i0 i1 : Int) (name : ByteArray) (w : World) (d0 : ¬ i0 < 0) (d1 : ¬ 100 < i0) (d2 : i1 < 0) :
    Calls Try.prog 7 #[.int .i64 i0, .int .i64 i1, .string name] w fun e w' => e = .returned (.bool true) ∧ Below w.heap.size w w' := by
  go_enter Try.func7, Try.ntmps7
  go_wp2
  go_ret
  exact ⟨rfl, Below.refl _ _⟩
set_option maxHeartbeats 1000000 in
set_option maxRecDepth 100000 in
theorem each_out3 (i0 i1 : Int) (name : ByteArray) (w : World) (d0 : ¬ i0 < 0) (d1 : ¬ 100 < i0) (d2 : ¬ i1 < 0) (d3 : 100 < i1) :
    Calls Try.prog 7 #[.int .i64 i0, .int .i64 i1, .string name] w fun e w' => e = .returned (.bool true) ∧ Below w.heap.size w w' := by
  go_enter Try.func7, Try.ntmps7
  go_wp2
  go_ret
  exact ⟨rfl, Below.refl _ _⟩
set_option maxHeartbeats 1000000 in
set_option maxRecDepth 100000 in
theorem each_out4 (i0 i1 : Int) (name : ByteArray) (w : World) (d0 : ¬ i0 < 0) (d1 : ¬ 100 < i0) (d2 : ¬ i1 < 0) (d3 : ¬ 100 < i1) (d4 : (100 : Int) < (name.size : Int)) :
    Calls Try.prog 7 #[.int .i64 i0, .int .i64 i1, .string name] w fun e w' => e = .returned (.bool true) ∧ Below w.heap.size w w' := by
  go_enter Try.func7, Try.ntmps7
  go_wp2
  go_ret
  exact ⟨rfl, Below.refl _ _⟩
set_option maxHeartbeats 4000000 in
set_option maxRecDepth 100000 in
theorem each_bad (i0 i1 : Int) (name : ByteArray) (w : World) (h0 : 0 ≤ i0) (h1 : i0 ≤ 100) (h2 : 0 ≤ i1) (h3 : i1 ≤ 100) (h4 : name.size ≤ 100) (hn : nameB name = false) :
    Calls Try.prog 7 #[.int .i64 i0, .int .i64 i1, .string name] w fun e w' => e = .returned (.bool true) ∧ Below w.heap.size w w' := by
  have d0 : ¬ i0 < 0 := by omega
  have d1 : ¬ 100 < i0 := by omega
  have d2 : ¬ i1 < 0 := by omega
  have d3 : ¬ 100 < i1 := by omega
  have d4 : ¬ (100 : Int) < (name.size : Int) := by omega
  have cF := each_none w name hn (by omega)
  clear hn h4 h0 h1 h2 h3
  go_enter Try.func7, Try.ntmps7
  go_wp2_with (first
    | (go_at_call 9; refine cF.mono ?_; rintro e w1 ⟨rfl, hb1⟩; have HB1 := Aside0.mk hb1; clear hb1 cF; have cA := awake_calls w1)
    | (go_at_call 11; refine cA.mono ?_; rintro e w2 ⟨rfl, hb2⟩; have HB2 := Aside0.mk hb2; clear hb2 cA))
  go_ret
  exact ⟨rfl, HB1.out.trans (HB2.out.mono HB1.out.size)⟩
theorem each_walk (i0 i1 : Int) (name : ByteArray) (w : World) (_ : True) :
    Calls Try.prog 7 #[.int .i64 i0, .int .i64 i1, .string name] w fun e w' => e = .returned (.bool true) ∧ Below w.heap.size w w' := by
  by_cases d0 : i0 < 0
  · exact each_out0 i0 i1 name w d0
  by_cases d1 : 100 < i0
  · exact each_out1 i0 i1 name w d0 d1
  by_cases d2 : i1 < 0
  · exact each_out2 i0 i1 name w d0 d1 d2
  by_cases d3 : 100 < i1
  · exact each_out3 i0 i1 name w d0 d1 d2 d3
  by_cases d4 : (100 : Int) < (name.size : Int)
  · exact each_out4 i0 i1 name w d0 d1 d2 d3 d4
  cases hn : nameB name
  · exact each_bad i0 i1 name w (by omega) (by omega) (by omega) (by omega) (by omega) hn
  · exact each_main i0 i1 name w (by omega) (by omega) (by omega) (by omega) (by omega) hn
end Go.Proofs.YtkmnjekbacdfoaaX
