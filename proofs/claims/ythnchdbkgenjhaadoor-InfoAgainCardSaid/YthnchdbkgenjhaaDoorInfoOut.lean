import Derived.Test.YthnchdbkgenjhaaDoorQInfoAx1
import Derived.Test.YthnchdbkgenjhaaDoorEvFind
import Derived.Outline
import Derived.Test.YthnchdbkgenjhaaDoorWireAt
import Derived.Test.YthnchdbkgenjhaaDoorInfoSt
import Derived.OneCell
import Derived.Laws.Rows
import Derived.Test.YthnchdbkgenjhaaDoorHexR
import Derived.Test.YthnchdbkgenjhaaDoorInfoLay
set_option linter.unusedVariables false
set_option linter.unusedSimpArgs false
/- info.Read: the walk. -/
namespace Go.Proofs.YthnchdbkgenjhaaDoorX
open Go.RowKit Go.Proofs.YthnchdbkgenjhaaDoor.PInfoA Go.Proofs.YthnchdbkgenjhaaDoorW.PrintWords Go.Proofs.YthnchdbkgenjhaaDoorW.PrintLast Go.Proofs.YthnchdbkgenjhaaDoorW.PrintMore
/-- The number of a text's bytes from i on, the highest first, k of them. -/
def beK (s : ByteArray) (i : Nat) : Nat → Int
  | 0 => 0
  | k + 1 => beK s i k * 256 + bt s ((i + k : Nat) : Int)
theorem plain_calls0 (h : ByteArray) (n : Int) (hs : h.size = 32) (hn : 0 ≤ n) (w : World) : Calls Tryd.prog 21 #[.agg #[.string h, .int .i64 n, .slice none 0 0]] w fun e w' => e = .returned (.bool (decide (n ≤ 2147483647))) ∧ Below w.heap.size w w' :=
  info_plain.calls h n none 0 [] (decide (n ≤ 2147483647)) w (Kd.C_nil _ _) (Nat.le_refl _) (by unfold info_plain.f; rw [if_pos (by omega), if_pos (by omega)])
set_option maxHeartbeats 2000000 in
set_option maxRecDepth 100000 in
theorem read_no (s : ByteArray) (w : World) (hs : s.size ≠ 36) (hm : s.size ≤ 1000000) : Calls Tryd.prog 18 #[.string s] w fun e w' => e = .returned (.tuple #[.agg #[.string ⟨#[]⟩, .int .i64 0, .slice none 0 0], .int .i64 4]) ∧ Below w.heap.size w w' := by
  have d1 : ((s.size : Int) == 36) = false := by rw [beq_eq_false_iff_ne]; omega
  have d2 : ((s.size : Int) != 36) = true := by rw [bne_iff_ne]; omega
  clear hs
  go_enter Tryd.func18, Tryd.ntmps18
  go_wp2
  exact bodyPost_ret (v := .tuple #[.agg #[.string ⟨#[]⟩, .int .i64 0, .slice none 0 0], .int .i64 4]) (by simp [results, Tryd.results18, go_sem]) rfl ⟨rfl, below_alloc (Below.refl _ _) _⟩
/-- What Read's loop has in memory. -/
structure ReadRel (w : World) (s : ByteArray) (k : Nat) (W : World) : Prop where
  res : W.heap[w.heap.size]? = some (.cells #[.string ⟨#[]⟩, .int .i64 0, .slice none 0 0] 24 (0, 0))
  box : W.heap[w.heap.size + 1]? = some (.cells #[.string (s.extract 0 32), .int .i64 (beK s 32 k), .slice none 0 0] 24 (0, 0))
  row : ∀ j : Nat, j < 4 → W.cell? ⟨w.heap.size + 1 + 1, j, none⟩ = some (.int .u8 (bt s ((32 + j : Nat) : Int)))
  below : Below w.heap.size w W
theorem be_bd (s : ByteArray) (i k : Nat) (hk : k ≤ 4) : 0 ≤ beK s i k ∧ beK s i k < 4294967296 := by
  have hb : ∀ j : Int, 0 ≤ bt s j ∧ bt s j ≤ 255 := fun j => by
    unfold bt
    split
    · have := (s[j.toNat]'(by assumption)).toNat_lt; omega
    · omega
  match k, hk with
  | 0, _ => simp [beK]
  | 1, _ => have h0 := hb ((i + 0 : Nat) : Int); simp only [beK]; omega
  | 2, _ => have h0 := hb ((i + 0 : Nat) : Int); have h1 := hb ((i + 1 : Nat) : Int); simp only [beK]; omega
  | 3, _ => have h0 := hb ((i + 0 : Nat) : Int); have h1 := hb ((i + 1 : Nat) : Int); have h2 := hb ((i + 2 : Nat) : Int); simp only [beK]; omega
  | 4, _ => have h0 := hb ((i + 0 : Nat) : Int); have h1 := hb ((i + 1 : Nat) : Int); have h2 := hb ((i + 2 : Nat) : Int); have h3 := hb ((i + 3 : Nat) : Int); simp only [beK]; omega
theorem read_start (w : World) (s : ByteArray) (hs : s.size = 36) : ReadRel w s 0 (Lib.bytesWorld ((w.alloc (.cells #[.string ⟨#[]⟩, .int .i64 0, .slice none 0 0] 24)).alloc (.cells #[.string (s.extract 0 32), .int .i64 0, .slice none 0 0] 24)) 5 (s.extract 32 s.size)) := by
  have hsz : ((w.alloc (.cells #[.string ⟨#[]⟩, .int .i64 0, .slice none 0 0] 24)).alloc (.cells #[.string (s.extract 0 32), .int .i64 0, .slice none 0 0] 24)).heap.size = w.heap.size + 1 + 1 := by simp
  have h0 := heap_alloc_new w (.cells #[.string ⟨#[]⟩, .int .i64 0, .slice none 0 0] 24)
  have h1 := heap_alloc_new (w.alloc (.cells #[.string ⟨#[]⟩, .int .i64 0, .slice none 0 0] 24)) (.cells #[.string (s.extract 0 32), .int .i64 0, .slice none 0 0] 24)
  have hb := bytes_below (Below.refl ((w.alloc (.cells #[.string ⟨#[]⟩, .int .i64 0, .slice none 0 0] 24)).alloc (.cells #[.string (s.extract 0 32), .int .i64 0, .slice none 0 0] 24)).heap.size _) (Nat.le_refl _) 5 (s.extract 32 s.size)
  refine ⟨?_, ?_, fun j hj => ?_, ?_⟩
  · exact (hb.block _ (by rw [hsz]; omega)).trans ((Below.heap_alloc _ _ _ (by simp)).trans h0)
  · have h2 : (w.alloc (.cells #[.string ⟨#[]⟩, .int .i64 0, .slice none 0 0] 24)).heap.size = w.heap.size + 1 := by simp
    rw [h2] at h1
    exact (hb.block _ (by rw [hsz]; omega)).trans h1
  · have h3 := Lib.bytesWorld_cell ((w.alloc (.cells #[.string ⟨#[]⟩, .int .i64 0, .slice none 0 0] 24)).alloc (.cells #[.string (s.extract 0 32), .int .i64 0, .slice none 0 0] 24)) 5 (s.extract 32 s.size) j (by rw [ByteArray.size_extract]; omega)
    rw [hsz] at h3
    rw [h3]
    have hl : 32 + j < s.data.toList.length := by rw [← ba_size]; omega
    rw [bt_list s (32 + j) hl, ba_extract, List.getD_eq_getElem?_getD, List.getElem?_take, if_pos (by omega), List.getElem?_drop, List.getElem?_eq_getElem hl]
    rfl
  · exact (((Below.refl _ w).alloc (Nat.le_refl _) _).alloc (by simp) _).trans (hb.mono (by rw [hsz]; omega))
theorem be_next (s : ByteArray) (k : Nat) (hk : k < 4) : Go.bits .or .i64 (wrap64 (beK s 32 k * 256)) (wrap64 (bt s (32 + (k : Int)))) = beK s 32 (k + 1) := by
  have h1 := be_bd s 32 k (by omega)
  have h2 : 0 ≤ bt s (32 + (k : Int)) ∧ bt s (32 + (k : Int)) ≤ 255 := by
    unfold bt
    split
    · have := (s[(32 + (k : Int)).toNat]'(by assumption)).toNat_lt; omega
    · omega
  rw [w64 (by omega) (by omega), w64 (by omega) (by omega), or64 8 (by omega) (by omega) (by omega) h2.1 (by omega) (by omega), beK]
  rfl
theorem read_next {w wr : World} {s : ByteArray} {k : Nat} (h : ReadRel w s k wr) (hk : k < 4) : ReadRel w s (k + 1) (wr.setCell ⟨w.heap.size + 1, 1, none⟩ (.int .i64 (Go.bits .or .i64 (wrap64 (beK s 32 k * 256)) (wrap64 (bt s (32 + (k : Int))))))) := by
  rw [be_next s k hk]
  refine ⟨?_, blk_set h.box 1 _, fun j hj => ?_, h.below.setCell (by simp) _⟩
  · rw [Below.heap_setCell _ _ _ _ (by show w.heap.size ≠ w.heap.size + 1; omega)]
    exact h.res
  · rw [World.cell?_setCell_other _ _ _ _ (by intro e; have := congrArg Addr.block e; simp at this)]
    exact h.row j hj
theorem read_end {w wr W1 : World} {s : ByteArray} {k : Nat} (h : ReadRel w s k wr) (hb : Below wr.heap.size wr W1) (a b c : Value) : Below w.heap.size w (((W1.setCell ⟨w.heap.size, 0, none⟩ a).setCell ⟨w.heap.size, 1, none⟩ b).setCell ⟨w.heap.size, 2, none⟩ c) :=
  (((h.below.trans (hb.mono h.below.size)).setCell (Nat.le_refl _) _).setCell (Nat.le_refl _) _).setCell (Nat.le_refl _) _
set_option maxHeartbeats 2000000 in
set_option maxRecDepth 100000 in
theorem read_yes (s : ByteArray) (w : World) (hs : s.size = 36) : Calls Tryd.prog 18 #[.string s] w fun e w' => (beK s 32 4 ≤ 2147483647 ∧ e = .returned (.tuple #[.agg #[.string (s.extract 0 32), .int .i64 (beK s 32 4), .slice none 0 0], .int .i64 0]) ∨ ¬ beK s 32 4 ≤ 2147483647 ∧ e = .returned (.tuple #[.agg #[.string ⟨#[]⟩, .int .i64 0, .slice none 0 0], .int .i64 4])) ∧ Below w.heap.size w w' := by
  have d1 : ((s.size : Int) == 36) = true := by rw [hs]; rfl
  have d2 : ((s.size : Int) != 36) = false := by rw [hs]; rfl
  have d3 : (32 : Int) ≤ (s.size : Int) := by omega
  have kb_ := fun (s_ : ByteArray) (W_ : World) => print_bytes (P := Tryd.prog) 9 30 5 Tryd.underlying9 Tryd.underlying30 Tryd.underlying5 s_ W_
  have HS := Aside0.mk hs
  have H0 := Aside0.mk (read_start w s hs)
  clear hs
  go_enter Tryd.func18, Tryd.ntmps18
  go_wp2
  go_loopw [18] (fun i wr => ∃ k : Nat, i = .int .i64 k ∧ k ≤ 4 ∧ ReadRel w s k wr) (fun i _ => 4 - (intOf i).toNat)
  case atStart => exact ⟨0, rfl, Nat.zero_le _, H0.out⟩
  case round =>
    obtain ⟨k, rfl, hk, hr⟩ := hrel
    have HR := Aside0.mk hr
    by_cases hlt : k < 4
    · have hq : (k : Int) < ((s.size - 32 : Nat) : Int) := by have := HS.out; omega
      have p0 : 0 ≤ (k : Int) := by omega
      have hd := decide_eq_true hq
      have c0 := hr.row k hlt
      have c1 := (blk_cell hr.box 1).trans rfl
      have f1 := blk_frozen hr.box 1
      clear hr
      go_wp2
      go_roundw
      case rel => exact ⟨k + 1, by first | go_num | simp, by omega, read_next HR.out hlt⟩
      case measure => simp [intOf]; omega
    · obtain rfl : k = 4 := by omega
      have hd : decide ((4 : Int) < ((s.size - 32 : Nat) : Int)) = false := decide_eq_false (by have := HS.out; omega)
      have hd2 : ¬ (4 : Int) < ((s.size - 32 : Nat) : Int) := by have := HS.out; omega
      have hb4 := be_bd s 32 4 (Nat.le_refl _)
      have cP := plain_calls0 (s.extract 0 32) (beK s 32 4) (by rw [ByteArray.size_extract]; have := HS.out; omega) hb4.1 wr
      have x0 := (blk_cell hr.box 0).trans rfl
      have x1 := (blk_cell hr.box 1).trans rfl
      have x2 := (blk_cell hr.box 2).trans rfl
      have z0 := (blk_cell hr.res 0).trans rfl
      clear hr hb4
      by_cases hv : beK s 32 4 ≤ 2147483647
      · rw [decide_eq_true hv] at cP
        have HV := Aside0.mk hv
        clear hv
        go_wp2_with (go_at_call 21; refine cP.mono ?_; rintro e W1 ⟨rfl, hb1⟩; have y0 := (hb1.cell (World.block_lt_of_cell? wr _ x0)).trans x0; have y1 := (hb1.cell (World.block_lt_of_cell? wr _ x1)).trans x1; have y2 := (hb1.cell (World.block_lt_of_cell? wr _ x2)).trans x2; have HRR := Aside0.mk ((hb1.block _ (lt_of_block HR.out.res)).trans HR.out.res); have z0_ := (blk_cell HRR.out 0).trans rfl; have g0 := blk_frozen HRR.out 0; have K1 := Aside0.mk (blk_set HRR.out 0 (.string (s.extract 0 32))); have z1_ := (blk_cell K1.out 1).trans rfl; have g1 := blk_frozen K1.out 1; have K2 := Aside0.mk (blk_set K1.out 1 (.int .i64 (beK s 32 4))); have z2_ := (blk_cell K2.out 2).trans rfl; have g2 := blk_frozen K2.out 2; have K3 := Aside0.mk (blk_set K2.out 2 (.slice none 0 0)); have q0_ := (blk_cell K3.out 0).trans rfl; have q1_ := (blk_cell K3.out 1).trans rfl; have q2_ := (blk_cell K3.out 2).trans rfl; have HB1 := Aside0.mk hb1; clear x0 x1 x2 z0)
        exact bodyPost_ret (v := .tuple #[.agg #[.string (s.extract 0 32), .int .i64 (beK s 32 4), .slice none 0 0], .int .i64 0]) (by simp [results, Tryd.results18, go_sem, *]) rfl ⟨.inl ⟨HV.out, rfl⟩, read_end HR.out HB1.out _ _ _⟩
      · rw [decide_eq_false hv] at cP
        have HV := Aside0.mk hv
        clear hv
        go_wp2_with (go_at_call 21; refine cP.mono ?_; rintro e W1 ⟨rfl, hb1⟩; have y0 := (hb1.cell (World.block_lt_of_cell? wr _ x0)).trans x0; have y1 := (hb1.cell (World.block_lt_of_cell? wr _ x1)).trans x1; have y2 := (hb1.cell (World.block_lt_of_cell? wr _ x2)).trans x2; have HRR := Aside0.mk ((hb1.block _ (lt_of_block HR.out.res)).trans HR.out.res); have z0_ := (blk_cell HRR.out 0).trans rfl; have g0 := blk_frozen HRR.out 0; have K1 := Aside0.mk (blk_set HRR.out 0 (.string ⟨#[]⟩)); have z1_ := (blk_cell K1.out 1).trans rfl; have g1 := blk_frozen K1.out 1; have K2 := Aside0.mk (blk_set K1.out 1 (.int .i64 0)); have z2_ := (blk_cell K2.out 2).trans rfl; have g2 := blk_frozen K2.out 2; have K3 := Aside0.mk (blk_set K2.out 2 (.slice none 0 0)); have q0_ := (blk_cell K3.out 0).trans rfl; have q1_ := (blk_cell K3.out 1).trans rfl; have q2_ := (blk_cell K3.out 2).trans rfl; have HB1 := Aside0.mk hb1; clear x0 x1 x2 z0)
        exact bodyPost_ret (v := .tuple #[.agg #[.string ⟨#[]⟩, .int .i64 0, .slice none 0 0], .int .i64 4]) (by simp [results, Tryd.results18, go_sem, *]) rfl ⟨.inr ⟨HV.out, rfl⟩, read_end HR.out HB1.out _ _ _⟩
/-- What Read answers. -/
def readE (s : ByteArray) : ByteArray × Int × List ByteArray × Int := if s.size = 36 ∧ beK s 32 4 ≤ 2147483647 then (s.extract 0 32, beK s 32 4, [], 0) else (⟨#[]⟩, 0, [], 4)
theorem read_calls (s : ByteArray) (w : World) (hm : s.size ≤ 1000000) (r1 : ByteArray) (r2 : Int) (r3 : List ByteArray) (r4 : Int) (h : readE s = (r1, r2, r3, r4)) :
    Calls Tryd.prog 18 #[.string s] w fun e w' => ∃ v2_ : Value, e = .returned (.tuple #[.agg #[.string r1, .int .i64 r2, v2_], .int .i64 r4]) ∧ Kd.R Kd.string 9 w' w.heap.size (fun _ => True) v2_ r3 ∧ Below w.heap.size w w' := by
  unfold readE at h
  by_cases h1 : s.size = 36
  · refine (read_yes s w h1).mono fun e w' hh => ?_
    obtain ⟨hh, hb⟩ := hh
    rcases hh with ⟨h2, rfl⟩ | ⟨h2, rfl⟩
    · rw [if_pos ⟨h1, h2⟩] at h
      injection h with e1 h
      injection h with e2 h
      injection h with e3 e4
      subst e1 e2 e3 e4
      exact ⟨_, rfl, Kd.R_nil _ _ _ _ _, hb⟩
    · rw [if_neg (fun h => h2 h.2)] at h
      injection h with e1 h
      injection h with e2 h
      injection h with e3 e4
      subst e1 e2 e3 e4
      exact ⟨_, rfl, Kd.R_nil _ _ _ _ _, hb⟩
  · refine (read_no s w h1 hm).mono fun e w' hh => ?_
    obtain ⟨rfl, hb⟩ := hh
    rw [if_neg (fun h => h1 h.1)] at h
    injection h with e1 h
    injection h with e2 h
    injection h with e3 e4
    subst e1 e2 e3 e4
    exact ⟨_, rfl, Kd.R_nil _ _ _ _ _, hb⟩
end Go.Proofs.YthnchdbkgenjhaaDoorX
/- info.At: its closures text, number, want: the walks. -/
namespace Go.Proofs.YthnchdbkgenjhaaDoorX
open Go.RowKit Go.Proofs.YthnchdbkgenjhaaDoor.PInfoA Go.Proofs.YthnchdbkgenjhaaDoorW.PrintWords Go.Proofs.YthnchdbkgenjhaaDoorW.PrintLast Go.Proofs.YthnchdbkgenjhaaDoorW.PrintMore
theorem drawn_below {W W' : World} (h : Drawn0 W W') : Below W.heap.size W W' := by
  obtain ⟨n, hn⟩ := h
  rw [hn]
  exact pw_below_drewN (Below.refl _ _) _
/-- The boxes over what is read: the bytes, the place, whether it holds so far. -/
structure Bx (w W : World) (Pb Pa Po : Nat) (v : Value) (pos : Nat) (ok : Bool) : Prop where
  b : W.heap[Pb]? = some (.cells #[v] 30 (0, 0))
  a : W.heap[Pa]? = some (.cells #[.int .i64 (pos : Int)] 3 (0, 0))
  o : W.heap[Po]? = some (.cells #[.bool ok] 4 (0, 0))
  below : Below w.heap.size w W
structure Far (w : World) (Pb Pa Po : Nat) : Prop where
  h0 : w.heap.size ≤ Pb
  h1 : w.heap.size ≤ Pa
  h2 : w.heap.size ≤ Po
  h3 : Pb ≠ Pa
  h4 : Pb ≠ Po
  h5 : Pa ≠ Po
/-- What else lies in memory stays. -/
structure Stays (W W' : World) (Pa Po : Nat) : Prop where
  size : W.heap.size ≤ W'.heap.size
  block : ∀ j, j < W.heap.size → j ≠ Pa → j ≠ Po → W'.heap[j]? = W.heap[j]?
theorem Stays.refl (W : World) (Pa Po : Nat) : Stays W W Pa Po := ⟨Nat.le_refl _, fun _ _ _ _ => rfl⟩
theorem Stays.trans {W W1 W2 : World} {Pa Po : Nat} (h : Stays W W1 Pa Po) (g : Stays W1 W2 Pa Po) : Stays W W2 Pa Po :=
  ⟨Nat.le_trans h.size g.size, fun j hj h1 h2 => (g.block j (Nat.lt_of_lt_of_le hj h.size) h1 h2).trans (h.block j hj h1 h2)⟩
theorem Stays.of_below {W W' : World} {Pa Po : Nat} (h : Below W.heap.size W W') : Stays W W' Pa Po := ⟨h.size, fun j hj _ _ => h.block j hj⟩
theorem Stays.setA {W W' : World} {Pa Po : Nat} (h : Stays W W' Pa Po) (i : Nat) (v : Value) : Stays W (W'.setCell ⟨Pa, i, none⟩ v) Pa Po :=
  ⟨Nat.le_trans h.size (Nat.le_of_eq (by simp)), fun j hj h1 h2 => (Below.heap_setCell _ _ _ _ (by show j ≠ Pa; exact h1)).trans (h.block j hj h1 h2)⟩
theorem Stays.setO {W W' : World} {Pa Po : Nat} (h : Stays W W' Pa Po) (i : Nat) (v : Value) : Stays W (W'.setCell ⟨Po, i, none⟩ v) Pa Po :=
  ⟨Nat.le_trans h.size (Nat.le_of_eq (by simp)), fun j hj h1 h2 => (Below.heap_setCell _ _ _ _ (by show j ≠ Po; exact h2)).trans (h.block j hj h1 h2)⟩
section
variable {w W W' : World} {Pb Pa Po : Nat} {v : Value} {pos : Nat} {ok : Bool}
theorem Bx.grow (h : Bx w W Pb Pa Po v pos ok) (hB : Below W.heap.size W W') : Bx w W' Pb Pa Po v pos ok :=
  ⟨(hB.block _ (lt_of_block h.b)).trans h.b, (hB.block _ (lt_of_block h.a)).trans h.a, (hB.block _ (lt_of_block h.o)).trans h.o, h.below.trans (hB.mono h.below.size)⟩
theorem Bx.setO (h : Bx w W Pb Pa Po v pos ok) (f : Far w Pb Pa Po) (ok' : Bool) : Bx w (W.setCell ⟨Po, 0, none⟩ (.bool ok')) Pb Pa Po v pos ok' :=
  ⟨by rw [Below.heap_setCell _ _ _ _ (by show Pb ≠ Po; exact f.h4)]; exact h.b, by rw [Below.heap_setCell _ _ _ _ (by show Pa ≠ Po; exact f.h5)]; exact h.a, blk_set h.o 0 _, h.below.setCell f.h2 _⟩
theorem Bx.setA (h : Bx w W Pb Pa Po v pos ok) (f : Far w Pb Pa Po) (pos' : Nat) : Bx w (W.setCell ⟨Pa, 0, none⟩ (.int .i64 (pos' : Int))) Pb Pa Po v pos' ok :=
  ⟨by rw [Below.heap_setCell _ _ _ _ (by show Pb ≠ Pa; exact f.h3)]; exact h.b, blk_set h.a 0 _, by rw [Below.heap_setCell _ _ _ _ (by show Po ≠ Pa; exact Ne.symm f.h5)]; exact h.o, h.below.setCell f.h1 _⟩
end
def StOK (st : Option (List Int)) (l : List Int) (pos : Nat) (ok : Bool) : Prop := match st with | some r => ok = true ∧ r = l.drop pos | none => ok = false
/-- How far the reading has come: what is left, or nothing more. -/
def RdS (w W : World) (Pb Pa Po : Nat) (v : Value) (l : List Int) (st : Option (List Int)) : Prop :=
  ∃ pos ok, pos ≤ l.length ∧ Bx w W Pb Pa Po v pos ok ∧ StOK st l pos ok
theorem RdS.grow {w W W' : World} {Pb Pa Po : Nat} {v : Value} {l : List Int} {st : Option (List Int)} (h : RdS w W Pb Pa Po v l st) (hB : Below W.heap.size W W') : RdS w W' Pb Pa Po v l st := by
  obtain ⟨pos, ok, h1, h2, h3⟩ := h
  exact ⟨pos, ok, h1, h2.grow hB, h3⟩
theorem getT_size {b r : List Int} {s : ByteArray} (hb : okB b) (h : getT b = some (s, r)) : s.size ≤ b.length := by
  have h1 := congrArg List.length (getT_is hb h).1
  rw [List.length_append, textOf_len] at h1
  unfold len8 at h1
  omega
theorem text_cases (l : List Int) (pos : Nat) (hb : okB l) (hp : pos ≤ l.length) (hl : l.length ≤ 1000000) : ∃ r1 r2 e k, wire_TextAt.f k l (pos : Int) = some (r1, r2, e) ∧ r1.size ≤ l.length ∧
    ((∃ r q, getT (l.drop pos) = some (r1, r) ∧ r2 = ((q : Nat) : Int) ∧ e = 0 ∧ q ≤ l.length ∧ r = l.drop q) ∨ (getT (l.drop pos) = none ∧ e ≠ 0)) := by
  obtain ⟨r1, r2, e, ⟨k, hk⟩, hm⟩ := text_ev l pos hb hp hl
  refine ⟨r1, r2, e, k, hk k (Nat.le_refl _), ?_⟩
  cases hg : getT (l.drop pos) with
  | none =>
    rw [hg] at hm
    obtain ⟨rfl, he⟩ := hm
    exact ⟨Nat.zero_le _, .inr ⟨rfl, he⟩⟩
  | some p =>
    obtain ⟨s, r⟩ := p
    rw [hg] at hm
    obtain ⟨rfl, h2, h3, h4, h5⟩ := hm
    have := getT_size (okB_drop hb pos) hg
    rw [List.length_drop] at this
    exact ⟨by omega, .inl ⟨r, l.length - r.length, rfl, h2, h3, by omega, h5⟩⟩
theorem num_cases (l : List Int) (pos : Nat) (hb : okB l) (hp : pos ≤ l.length) (hl : l.length ≤ 1000000) : ∃ r1 r2 e k, wire_At.f k l (pos : Int) = some (r1, r2, e) ∧
    ((∃ n r q, getN (l.drop pos) = some (n, r) ∧ r1 = (n : Int) ∧ r2 = ((q : Nat) : Int) ∧ e = 0 ∧ q ≤ l.length ∧ r = l.drop q) ∨ (getN (l.drop pos) = none ∧ e ≠ 0)) := by
  obtain ⟨r1, r2, e, ⟨k, hk⟩, hm⟩ := at_ev l pos hb hp hl
  refine ⟨r1, r2, e, k, hk k (Nat.le_refl _), ?_⟩
  cases hg : getN (l.drop pos) with
  | none =>
    rw [hg] at hm
    exact .inr ⟨rfl, hm⟩
  | some p =>
    obtain ⟨n, r⟩ := p
    rw [hg] at hm
    obtain ⟨h1, h2, h3⟩ := hm
    have hl2 := congrArg List.length (getN_is (okB_drop hb pos) hg).1
    rw [List.length_append, num8_len, List.length_drop] at hl2
    have hr := congrArg (List.drop 8) (getN_is (okB_drop hb pos) hg).1
    rw [List.drop_left' (num8_len n), List.drop_drop] at hr
    exact .inl ⟨n, r, pos + 8, rfl, h1, h2, h3, by omega, hr.symm⟩
def TextOK (w W : World) (Pb Pa Po : Nat) (v : Value) (l : List Int) (st : Option (List Int)) (e : Ending) (W' : World) : Prop :=
  ∃ s, e = .returned (.string s) ∧ s.size ≤ l.length ∧ RdS w W' Pb Pa Po v l (nxT st) ∧ (∀ p, st.bind getT = some p → s = p.1) ∧ Stays W W' Pa Po
def NumOK (w W : World) (Pb Pa Po : Nat) (v : Value) (l : List Int) (st : Option (List Int)) (e : Ending) (W' : World) : Prop :=
  ∃ n : Int, e = .returned (.int .i64 n) ∧ RdS w W' Pb Pa Po v l (nxN st) ∧ (∀ p, st.bind getN = some p → n = (p.1 : Int)) ∧ Stays W W' Pa Po
theorem text_end {w W W1 : World} {Pb Pa Po : Nat} {v : Value} {l : List Int} {pos : Nat} {ok : Bool} {st : Option (List Int)} {s : ByteArray} (f : Far w Pb Pa Po) (hB : Bx w W Pb Pa Po v pos ok) (hp : pos ≤ l.length)
    (hst : StOK st l pos ok) (hb1 : Below W.heap.size W W1) (hs : s.size ≤ l.length) (hn : ok = true → getT (l.drop pos) = none) :
    TextOK w W Pb Pa Po v l st (.returned (.string s)) (W1.setCell ⟨Po, 0, none⟩ (.bool false)) := by
  unfold StOK at hst
  have h1 : st.bind getT = none := by
    cases st with
    | none => rfl
    | some r => rw [hst.2, Option.bind_some]; exact hn hst.1
  refine ⟨s, rfl, hs, ⟨pos, false, hp, (hB.grow hb1).setO f false, ?_⟩, fun p hp => (by rw [h1] at hp; cases hp), (Stays.of_below hb1).setO 0 _⟩
  unfold nxT
  rw [h1]
  rfl
theorem text_go {w W W1 : World} {Pb Pa Po : Nat} {v : Value} {l r : List Int} {pos q : Nat} {st : Option (List Int)} {s : ByteArray} (f : Far w Pb Pa Po) (hB : Bx w W Pb Pa Po v pos true)
    (hst : StOK st l pos true) (hb1 : Below W.heap.size W W1) (hs : s.size ≤ l.length) (hg : getT (l.drop pos) = some (s, r)) (hq : q ≤ l.length) (hr : r = l.drop q) :
    TextOK w W Pb Pa Po v l st (.returned (.string s)) ((W1.setCell ⟨Po, 0, none⟩ (.bool true)).setCell ⟨Pa, 0, none⟩ (.int .i64 (q : Int))) := by
  unfold StOK at hst
  have h1 : st.bind getT = some (s, r) := by
    cases st with
    | none => cases hst
    | some r => rw [hst.2, Option.bind_some]; exact hg
  refine ⟨s, rfl, hs, ⟨q, true, hq, ((hB.grow hb1).setO f true).setA f q, ?_⟩, fun p hp => (by rw [h1] at hp; injection hp with hp; rw [← hp]), ((Stays.of_below hb1).setO 0 _).setA 0 _⟩
  unfold nxT
  rw [h1]
  exact ⟨rfl, hr⟩
theorem num_end {w W W1 : World} {Pb Pa Po : Nat} {v : Value} {l : List Int} {pos : Nat} {ok : Bool} {st : Option (List Int)} {n : Int} (f : Far w Pb Pa Po) (hB : Bx w W Pb Pa Po v pos ok) (hp : pos ≤ l.length)
    (hst : StOK st l pos ok) (hb1 : Below W.heap.size W W1) (hn : ok = true → getN (l.drop pos) = none) :
    NumOK w W Pb Pa Po v l st (.returned (.int .i64 n)) (W1.setCell ⟨Po, 0, none⟩ (.bool false)) := by
  unfold StOK at hst
  have h1 : st.bind getN = none := by
    cases st with
    | none => rfl
    | some r => rw [hst.2, Option.bind_some]; exact hn hst.1
  refine ⟨n, rfl, ⟨pos, false, hp, (hB.grow hb1).setO f false, ?_⟩, fun p hp => (by rw [h1] at hp; cases hp), (Stays.of_below hb1).setO 0 _⟩
  unfold nxN
  rw [h1]
  rfl
theorem num_go {w W W1 : World} {Pb Pa Po : Nat} {v : Value} {l r : List Int} {pos q m : Nat} {st : Option (List Int)} (f : Far w Pb Pa Po) (hB : Bx w W Pb Pa Po v pos true)
    (hst : StOK st l pos true) (hb1 : Below W.heap.size W W1) (hg : getN (l.drop pos) = some (m, r)) (hq : q ≤ l.length) (hr : r = l.drop q) :
    NumOK w W Pb Pa Po v l st (.returned (.int .i64 (m : Int))) ((W1.setCell ⟨Po, 0, none⟩ (.bool true)).setCell ⟨Pa, 0, none⟩ (.int .i64 (q : Int))) := by
  unfold StOK at hst
  have h1 : st.bind getN = some (m, r) := by
    cases st with
    | none => cases hst
    | some r => rw [hst.2, Option.bind_some]; exact hg
  refine ⟨m, rfl, ⟨q, true, hq, ((hB.grow hb1).setO f true).setA f q, ?_⟩, fun p hp => (by rw [h1] at hp; injection hp with hp; rw [← hp]), ((Stays.of_below hb1).setO 0 _).setA 0 _⟩
  unfold nxN
  rw [h1]
  exact ⟨rfl, hr⟩
set_option maxHeartbeats 2000000 in
set_option maxRecDepth 100000 in
theorem text_calls (w W : World) (Pb Pa Po : Nat) (A : Option Addr) (c : Nat) (l : List Int) (st : Option (List Int)) (f : Far w Pb Pa Po) (hC : Kd.C (Kd.int .u8) w A l.length l) (hc : l.length ≤ c) (hb : okB l) (hl : l.length ≤ 1000000)
    (h : RdS w W Pb Pa Po (.slice A l.length c) l st) :
    Calls Tryd.prog 33 #[.pointer (some ⟨Pb, 0, none⟩), .pointer (some ⟨Pa, 0, none⟩), .pointer (some ⟨Po, 0, none⟩)] W (TextOK w W Pb Pa Po (.slice A l.length c) l st) := by
  obtain ⟨pos, ok, hp, hB, hst⟩ := h
  obtain ⟨r1, r2, e, k, hk, hsz, hcase⟩ := text_cases l pos hb hp hl
  have cT := (wire_TextAt.calls k A c l pos r1 r2 e W (Kd.C_below hC hB.below) hc hk).mono fun e' w' hh => And.intro hh.1 (drawn_below hh.2)
  have x0 := (blk_cell hB.b 0).trans rfl
  have x1 := (blk_cell hB.a 0).trans rfl
  have HB := Aside0.mk hB
  have HST := Aside0.mk hst
  have HF := Aside0.mk f
  have HP := Aside0.mk hp
  have HZ := Aside0.mk hsz
  have HCS := Aside0.mk hcase
  clear hB hst f hp hsz hcase hC hc hk hb hl
  cases ok
  · go_enter Tryd.func33, Tryd.ntmps33
    go_wp2_with (go_at_call 34; refine cT.mono ?_; rintro e1 W1 ⟨rfl, hb1⟩; have y2 := (blk_cell (HB.out.grow hb1).o 0).trans rfl; have g2 := blk_frozen (HB.out.grow hb1).o 0; have HW := Aside0.mk hb1)
    go_ret
    exact text_end HF.out HB.out HP.out HST.out HW.out HZ.out (fun h => by cases h)
  · by_cases he : e = 0
    · subst he
      obtain ⟨r, q, hg, rfl, hq, hr⟩ : ∃ r q, Aside0 (getT (l.drop pos) = some (r1, r)) ∧ r2 = ((q : Nat) : Int) ∧ q ≤ l.length ∧ Aside0 (r = l.drop q) := by
        rcases HCS.out with h | h
        · obtain ⟨r, q, h1, h2, _, h3, h4⟩ := h
          exact ⟨r, q, ⟨h1⟩, h2, h3, ⟨h4⟩⟩
        · exact absurd rfl h.2
      clear HCS
      go_enter Tryd.func33, Tryd.ntmps33
      go_wp2_with (go_at_call 34; refine cT.mono ?_; rintro e1 W1 ⟨rfl, hb1⟩; have y2 := (blk_cell (HB.out.grow hb1).o 0).trans rfl; have g2 := blk_frozen (HB.out.grow hb1).o 0; have y3 := (blk_cell ((HB.out.grow hb1).setO HF.out true).a 0).trans rfl; have g3 := blk_frozen ((HB.out.grow hb1).setO HF.out true).a 0; have y4 := (blk_cell ((HB.out.grow hb1).setO HF.out true).o 0).trans rfl; have HW := Aside0.mk hb1)
      go_ret
      exact text_go HF.out HB.out HST.out HW.out HZ.out hg.out hq hr.out
    · have d1 : (e == 0) = false := beq_eq_false_iff_ne.2 he
      have HN := Aside0.mk (show getT (l.drop pos) = none from by
        rcases HCS.out with ⟨r, q, h1, h2, h3, h4⟩ | h
        · exact absurd h3 he
        · exact h.1)
      clear HCS he
      go_enter Tryd.func33, Tryd.ntmps33
      go_wp2_with (go_at_call 34; refine cT.mono ?_; rintro e1 W1 ⟨rfl, hb1⟩; have y2 := (blk_cell (HB.out.grow hb1).o 0).trans rfl; have g2 := blk_frozen (HB.out.grow hb1).o 0; have y4 := (blk_cell ((HB.out.grow hb1).setO HF.out false).o 0).trans rfl; have HW := Aside0.mk hb1)
      go_ret
      exact text_end HF.out HB.out HP.out HST.out HW.out HZ.out (fun _ => HN.out)
set_option maxHeartbeats 2000000 in
set_option maxRecDepth 100000 in
theorem num_calls (w W : World) (Pb Pa Po : Nat) (A : Option Addr) (c : Nat) (l : List Int) (st : Option (List Int)) (f : Far w Pb Pa Po) (hC : Kd.C (Kd.int .u8) w A l.length l) (hc : l.length ≤ c) (hb : okB l) (hl : l.length ≤ 1000000)
    (h : RdS w W Pb Pa Po (.slice A l.length c) l st) :
    Calls Tryd.prog 35 #[.pointer (some ⟨Pb, 0, none⟩), .pointer (some ⟨Pa, 0, none⟩), .pointer (some ⟨Po, 0, none⟩)] W (NumOK w W Pb Pa Po (.slice A l.length c) l st) := by
  obtain ⟨pos, ok, hp, hB, hst⟩ := h
  obtain ⟨r1, r2, e, k, hk, hcase⟩ := num_cases l pos hb hp hl
  have cT := (wire_At.calls k A c l pos r1 r2 e W (Kd.C_below hC hB.below) hc hk).mono fun e' w' hh => And.intro hh.1 (drawn_below hh.2)
  have x0 := (blk_cell hB.b 0).trans rfl
  have x1 := (blk_cell hB.a 0).trans rfl
  have HB := Aside0.mk hB
  have HST := Aside0.mk hst
  have HF := Aside0.mk f
  have HP := Aside0.mk hp
  have HCS := Aside0.mk hcase
  clear hB hst f hp hcase hC hc hk hb hl
  cases ok
  · go_enter Tryd.func35, Tryd.ntmps35
    go_wp2_with (go_at_call 36; refine cT.mono ?_; rintro e1 W1 ⟨rfl, hb1⟩; have y2 := (blk_cell (HB.out.grow hb1).o 0).trans rfl; have g2 := blk_frozen (HB.out.grow hb1).o 0; have HW := Aside0.mk hb1)
    go_ret
    exact num_end HF.out HB.out HP.out HST.out HW.out (fun h => by cases h)
  · by_cases he : e = 0
    · subst he
      obtain ⟨m, r, q, hg, rfl, rfl, hq, hr⟩ : ∃ m r q, Aside0 (getN (l.drop pos) = some (m, r)) ∧ r1 = (m : Int) ∧ r2 = ((q : Nat) : Int) ∧ q ≤ l.length ∧ Aside0 (r = l.drop q) := by
        rcases HCS.out with h | h
        · obtain ⟨m, r, q, h1, h2, h3, _, h4, h5⟩ := h
          exact ⟨m, r, q, ⟨h1⟩, h2, h3, h4, ⟨h5⟩⟩
        · exact absurd rfl h.2
      clear HCS
      go_enter Tryd.func35, Tryd.ntmps35
      go_wp2_with (go_at_call 36; refine cT.mono ?_; rintro e1 W1 ⟨rfl, hb1⟩; have y2 := (blk_cell (HB.out.grow hb1).o 0).trans rfl; have g2 := blk_frozen (HB.out.grow hb1).o 0; have y3 := (blk_cell ((HB.out.grow hb1).setO HF.out true).a 0).trans rfl; have g3 := blk_frozen ((HB.out.grow hb1).setO HF.out true).a 0; have y4 := (blk_cell ((HB.out.grow hb1).setO HF.out true).o 0).trans rfl; have HW := Aside0.mk hb1)
      go_ret
      exact num_go HF.out HB.out HST.out HW.out hg.out hq hr.out
    · have d1 : (e == 0) = false := beq_eq_false_iff_ne.2 he
      have HN := Aside0.mk (show getN (l.drop pos) = none from by
        rcases HCS.out with ⟨m, r, q, h1, h2, h2b, h3, h4⟩ | h
        · exact absurd h3 he
        · exact h.1)
      clear HCS he
      go_enter Tryd.func35, Tryd.ntmps35
      go_wp2_with (go_at_call 36; refine cT.mono ?_; rintro e1 W1 ⟨rfl, hb1⟩; have y2 := (blk_cell (HB.out.grow hb1).o 0).trans rfl; have g2 := blk_frozen (HB.out.grow hb1).o 0; have y4 := (blk_cell ((HB.out.grow hb1).setO HF.out false).o 0).trans rfl; have HW := Aside0.mk hb1)
      go_ret
      exact num_end HF.out HB.out HP.out HST.out HW.out (fun _ => HN.out)
/-- What lies in memory while At reads: n0 is the first block. -/
structure Atm (w W : World) (v : Value) (l : List Int) (st : Option (List Int)) (hs : ByteArray) (n : Int) (rv : Value) : Prop where
  rd : RdS w W w.heap.size (w.heap.size + 1) (w.heap.size + 1 + 1 + 1) v l st
  r : W.heap[w.heap.size + 1 + 1]? = some (.cells #[.string ⟨#[]⟩, .int .i64 0, .slice none 0 0] 24 (0, 0))
  t : W.heap[w.heap.size + 1 + 1 + 1 + 1]? = some (.cells #[.func (.func 33) #[] #[.pointer (some ⟨w.heap.size, 0, none⟩), .pointer (some ⟨w.heap.size + 1, 0, none⟩), .pointer (some ⟨w.heap.size + 1 + 1 + 1, 0, none⟩)]] 57 (0, 0))
  i : W.heap[w.heap.size + 1 + 1 + 1 + 1 + 1]? = some (.cells #[.string hs, .int .i64 n, rv] 24 (0, 0))
theorem far0 (w : World) : Far w w.heap.size (w.heap.size + 1) (w.heap.size + 1 + 1 + 1) := ⟨by omega, by omega, by omega, by omega, by omega, by omega⟩
section
variable {w W W' : World} {v rv : Value} {l : List Int} {st st' : Option (List Int)} {hs : ByteArray} {n : Int}
theorem Atm.step (h : Atm w W v l st hs n rv) (k : Stays W W' (w.heap.size + 1) (w.heap.size + 1 + 1 + 1)) (hr : RdS w W' w.heap.size (w.heap.size + 1) (w.heap.size + 1 + 1 + 1) v l st') : Atm w W' v l st' hs n rv :=
  ⟨hr, (k.block _ (lt_of_block h.r) (by omega) (by omega)).trans h.r, (k.block _ (lt_of_block h.t) (by omega) (by omega)).trans h.t, (k.block _ (lt_of_block h.i) (by omega) (by omega)).trans h.i⟩
theorem Atm.grow (h : Atm w W v l st hs n rv) (hB : Below W.heap.size W W') : Atm w W' v l st hs n rv := h.step (Stays.of_below hB) (h.rd.grow hB)
theorem RdS.setI (h : RdS w W w.heap.size (w.heap.size + 1) (w.heap.size + 1 + 1 + 1) v l st) (i : Nat) (x : Value) : RdS w (W.setCell ⟨w.heap.size + 1 + 1 + 1 + 1 + 1, i, none⟩ x) w.heap.size (w.heap.size + 1) (w.heap.size + 1 + 1 + 1) v l st := by
  obtain ⟨pos, ok, h1, h2, h3⟩ := h
  exact ⟨pos, ok, h1, ⟨by rw [Below.heap_setCell _ _ _ _ (by show w.heap.size ≠ w.heap.size + 1 + 1 + 1 + 1 + 1; omega)]; exact h2.b, by rw [Below.heap_setCell _ _ _ _ (by show w.heap.size + 1 ≠ w.heap.size + 1 + 1 + 1 + 1 + 1; omega)]; exact h2.a, by rw [Below.heap_setCell _ _ _ _ (by show w.heap.size + 1 + 1 + 1 ≠ w.heap.size + 1 + 1 + 1 + 1 + 1; omega)]; exact h2.o, h2.below.setCell (by show w.heap.size ≤ w.heap.size + 1 + 1 + 1 + 1 + 1; omega) _⟩, h3⟩
theorem Atm.set0 (h : Atm w W v l st hs n rv) (x : ByteArray) : Atm w (W.setCell ⟨w.heap.size + 1 + 1 + 1 + 1 + 1, 0, none⟩ (.string x)) v l st x n rv :=
  ⟨h.rd.setI _ _, by rw [Below.heap_setCell _ _ _ _ (by show w.heap.size + 1 + 1 ≠ w.heap.size + 1 + 1 + 1 + 1 + 1; omega)]; exact h.r, by rw [Below.heap_setCell _ _ _ _ (by show w.heap.size + 1 + 1 + 1 + 1 ≠ w.heap.size + 1 + 1 + 1 + 1 + 1; omega)]; exact h.t, blk_set h.i 0 _⟩
theorem Atm.set1 (h : Atm w W v l st hs n rv) (x : Int) : Atm w (W.setCell ⟨w.heap.size + 1 + 1 + 1 + 1 + 1, 1, none⟩ (.int .i64 x)) v l st hs x rv :=
  ⟨h.rd.setI _ _, by rw [Below.heap_setCell _ _ _ _ (by show w.heap.size + 1 + 1 ≠ w.heap.size + 1 + 1 + 1 + 1 + 1; omega)]; exact h.r, by rw [Below.heap_setCell _ _ _ _ (by show w.heap.size + 1 + 1 + 1 + 1 ≠ w.heap.size + 1 + 1 + 1 + 1 + 1; omega)]; exact h.t, blk_set h.i 1 _⟩
theorem Atm.set2 (h : Atm w W v l st hs n rv) (x : Value) : Atm w (W.setCell ⟨w.heap.size + 1 + 1 + 1 + 1 + 1, 2, none⟩ x) v l st hs n x :=
  ⟨h.rd.setI _ _, by rw [Below.heap_setCell _ _ _ _ (by show w.heap.size + 1 + 1 ≠ w.heap.size + 1 + 1 + 1 + 1 + 1; omega)]; exact h.r, by rw [Below.heap_setCell _ _ _ _ (by show w.heap.size + 1 + 1 + 1 + 1 ≠ w.heap.size + 1 + 1 + 1 + 1 + 1; omega)]; exact h.t, blk_set h.i 2 _⟩
end
theorem RdS.setOk {w W : World} {Pb Pa Po : Nat} {v : Value} {l : List Int} {st : Option (List Int)} (h : RdS w W Pb Pa Po v l st) (f : Far w Pb Pa Po) : RdS w (W.setCell ⟨Po, 0, none⟩ (.bool false)) Pb Pa Po v l none := by
  obtain ⟨pos, ok, h1, h2, h3⟩ := h
  exact ⟨pos, false, h1, h2.setO f false, rfl⟩
theorem RdS.sameOk {w W : World} {Pb Pa Po : Nat} {v : Value} {l : List Int} {st : Option (List Int)} (h : RdS w W Pb Pa Po v l st) (f : Far w Pb Pa Po) {b : Bool} (hc : W.cell? ⟨Po, 0, none⟩ = some (.bool b)) : RdS w (W.setCell ⟨Po, 0, none⟩ (.bool b)) Pb Pa Po v l st := by
  obtain ⟨pos, ok, h1, h2, h3⟩ := h
  have h4 : W.cell? ⟨Po, 0, none⟩ = some (.bool ok) := (blk_cell h2.o 0).trans rfl
  rw [hc] at h4
  injection h4 with h4
  injection h4 with h4
  subst h4
  exact ⟨pos, b, h1, h2.setO f b, h3⟩
def WantOK (w W : World) (v : Value) (l : List Int) (t : ByteArray) (st : Option (List Int)) (e : Ending) (W' : World) : Prop :=
  e = .returned (.tuple #[]) ∧ RdS w W' w.heap.size (w.heap.size + 1) (w.heap.size + 1 + 1 + 1) v l (st.bind (getW t)) ∧ Stays W W' (w.heap.size + 1) (w.heap.size + 1 + 1 + 1)
theorem nxW (st : Option (List Int)) (t s : ByteArray) (hs : ∀ p, st.bind getT = some p → s = p.1) : st.bind (getW t) = if s = t then nxT st else none := by
  cases st with
  | none => simp [nxT]
  | some b =>
    rw [Option.bind_some] at hs ⊢
    unfold nxT getW
    rw [Option.bind_some]
    cases hg : getT b with
    | none => simp
    | some p =>
      obtain ⟨s2, r⟩ := p
      rw [hs _ hg]
      rfl
set_option maxHeartbeats 2000000 in
set_option maxRecDepth 100000 in
theorem want_calls (w W : World) (A : Option Addr) (c : Nat) (l : List Int) (st : Option (List Int)) (hs : ByteArray) (n : Int) (rv : Value) (t : ByteArray) (hC : Kd.C (Kd.int .u8) w A l.length l) (hc : l.length ≤ c) (hb : okB l) (hl : l.length ≤ 1000000)
    (h : Atm w W (.slice A l.length c) l st hs n rv) :
    Calls Tryd.prog 37 #[.string t, .pointer (some ⟨w.heap.size + 1 + 1 + 1 + 1, 0, none⟩), .pointer (some ⟨w.heap.size + 1 + 1 + 1, 0, none⟩)] W (WantOK w W (.slice A l.length c) l t st) := by
  have cT := text_calls w W w.heap.size (w.heap.size + 1) (w.heap.size + 1 + 1 + 1) A c l st (far0 w) hC hc hb hl h.rd
  have x0 := (blk_cell h.t 0).trans rfl
  have H := Aside0.mk h
  clear h hC hc hb hl
  go_enter Tryd.func37, Tryd.ntmps37
  go_wp2_with fail
  refine cT.mono ?_
  rintro e1 W1 ⟨s, rfl, hsz, hr, hv, hk⟩
  have hw := nxW st t s hv
  obtain ⟨pos, ok, h1, h2, h3⟩ := id hr
  have y2 := (blk_cell h2.o 0).trans rfl
  have g2 := blk_frozen h2.o 0
  have HR := Aside0.mk hr
  have HK := Aside0.mk hk
  have HW := Aside0.mk hw
  clear hr hk hw hv hsz h1 h2 h3 cT
  by_cases e1 : s = t
  · have d1 : (s.toList == t.toList) = true := by rw [e1]; simp
    have HE := Aside0.mk e1
    go_wp2
    go_end0
    refine ⟨rfl, ?_, HK.out.setO 0 _⟩
    rw [HW.out, if_pos HE.out]
    exact HR.out.sameOk (far0 w) y2
  · have d1 : (s.toList == t.toList) = false := by
      rw [beq_eq_false_iff_ne]
      intro h
      exact e1 (ba_ext (by rw [← ba_toList, ← ba_toList]; exact h))
    have HE := Aside0.mk e1
    go_wp2
    go_end0
    refine ⟨rfl, ?_, HK.out.setO 0 _⟩
    rw [HW.out, if_neg HE.out]
    exact HR.out.setOk (far0 w)
end Go.Proofs.YthnchdbkgenjhaaDoorX
/- info.At: the walk. -/
namespace Go.Proofs.YthnchdbkgenjhaaDoorX
open Go.RowKit Go.Proofs.YthnchdbkgenjhaaDoor.PInfoA Go.Proofs.YthnchdbkgenjhaaDoorW.PrintWords Go.Proofs.YthnchdbkgenjhaaDoorW.PrintLast Go.Proofs.YthnchdbkgenjhaaDoorW.PrintMore
theorem heap_was (w : World) (o : Obj) (k : Nat) (h : k < w.heap.size) : (w.alloc o).heap[k]? = w.heap[k]? := by
  show (w.heap.push o)[k]? = _
  rw [Array.getElem?_push_lt h, Array.getElem?_eq_getElem h]
/-- The loop's texts: what i.Refs has. -/
structure AtLoop (w W : World) (v : Value) (l b : List Int) (hs : ByteArray) (sz n : Int) (k : Nat) (L : List ByteArray) (rv : Value) : Prop where
  m : Atm w W v l (nxK k (st8 b)) hs sz rv
  len : L.length = k
  l_ : ∀ p, (st8 b).bind (getTs k) = some p → L = p.1
  sz_ : ∀ s ∈ L, s.size ≤ l.length
  own : W.ownsRow (w.heap.size + 1 + 1 + 1 + 1 + 1 + 1) 9 1 rv L.length (L.map Value.string)
  few : ∀ p, ((nxN ((nxT ((nxT ((some b).bind (getW tPath))).bind (getW tHash))).bind (getW tSize))).bind (getW tRefs)).bind getN = some p → k ≤ p.1
  big : k ≤ 2147483648
def AtLoopE (w W : World) (v : Value) (l b : List Int) (hs : ByteArray) (sz n : Int) (k : Nat) : Prop := ∃ L rv, AtLoop w W v l b hs sz n k L rv
theorem at_start (w : World) (A : Option Addr) (c : Nat) (l : List Int) (at_ : Nat) (ha : at_ ≤ l.length) :
    Atm w ((((((w.alloc (.cells #[.slice A l.length c] 30)).alloc (.cells #[.int .i64 (at_ : Int)] 3)).alloc (.cells #[.string ⟨#[]⟩, .int .i64 0, .slice none 0 0] 24)).alloc (.cells #[.bool true] 4)).alloc (.cells #[.func (.func 33) #[] #[.pointer (some ⟨w.heap.size, 0, none⟩), .pointer (some ⟨w.heap.size + 1, 0, none⟩), .pointer (some ⟨w.heap.size + 1 + 1 + 1, 0, none⟩)]] 57)).alloc (.cells #[.string ⟨#[]⟩, .int .i64 0, .slice none 0 0] 24)) (.slice A l.length c) l (some (l.drop at_)) ⟨#[]⟩ 0 (.slice none 0 0) := by
  generalize hF : (Value.func (.func 33) #[] #[.pointer (some ⟨w.heap.size, 0, none⟩), .pointer (some ⟨w.heap.size + 1, 0, none⟩), .pointer (some ⟨w.heap.size + 1 + 1 + 1, 0, none⟩)]) = F
  have hsz : ∀ (w : World) (o : Obj), (w.alloc o).heap.size = w.heap.size + 1 := fun w o => by simp
  have g0 := heap_alloc_new w (.cells #[.slice A l.length c] 30)
  generalize hw1 : w.alloc (.cells #[.slice A l.length c] 30) = w1 at *
  have s1 : w1.heap.size = w.heap.size + 1 := by rw [← hw1]; simp
  have b1 : Below w.heap.size w w1 := by rw [← hw1]; exact below_alloc (Below.refl _ _) _
  have g1 := heap_alloc_new w1 (.cells #[.int .i64 (at_ : Int)] 3)
  have f1 : ∀ k, k < w1.heap.size → (w1.alloc (.cells #[.int .i64 (at_ : Int)] 3)).heap[k]? = w1.heap[k]? := heap_was _ _
  generalize hw2 : w1.alloc (.cells #[.int .i64 (at_ : Int)] 3) = w2 at *
  have s2 : w2.heap.size = w1.heap.size + 1 := by rw [← hw2]; simp
  have b2 : Below w.heap.size w w2 := by rw [← hw2]; exact below_alloc b1 _
  have g2 := heap_alloc_new w2 (.cells #[.string ⟨#[]⟩, .int .i64 0, .slice none 0 0] 24)
  have f2 := heap_was w2 (.cells #[.string ⟨#[]⟩, .int .i64 0, .slice none 0 0] 24)
  generalize hw3 : w2.alloc (.cells #[.string ⟨#[]⟩, .int .i64 0, .slice none 0 0] 24) = w3 at *
  have s3 : w3.heap.size = w2.heap.size + 1 := by rw [← hw3]; simp
  have b3 : Below w.heap.size w w3 := by rw [← hw3]; exact below_alloc b2 _
  have g3 := heap_alloc_new w3 (.cells #[.bool true] 4)
  have f3 := heap_was w3 (.cells #[.bool true] 4)
  generalize hw4 : w3.alloc (.cells #[.bool true] 4) = w4 at *
  have s4 : w4.heap.size = w3.heap.size + 1 := by rw [← hw4]; simp
  have b4 : Below w.heap.size w w4 := by rw [← hw4]; exact below_alloc b3 _
  have g4 := heap_alloc_new w4 (.cells #[F] 57)
  have f4 := heap_was w4 (.cells #[F] 57)
  generalize hw5 : w4.alloc (.cells #[F] 57) = w5 at *
  have s5 : w5.heap.size = w4.heap.size + 1 := by rw [← hw5]; simp
  have b5 : Below w.heap.size w w5 := by rw [← hw5]; exact below_alloc b4 _
  have g5 := heap_alloc_new w5 (.cells #[.string ⟨#[]⟩, .int .i64 0, .slice none 0 0] 24)
  have f5 := heap_was w5 (.cells #[.string ⟨#[]⟩, .int .i64 0, .slice none 0 0] 24)
  generalize hw6 : w5.alloc (.cells #[.string ⟨#[]⟩, .int .i64 0, .slice none 0 0] 24) = w6 at *
  have b6 : Below w.heap.size w w6 := by rw [← hw6]; exact below_alloc b5 _
  subst hF
  rw [s1] at g1; rw [s2, s1] at g2; rw [s3, s2, s1] at g3; rw [s4, s3, s2, s1] at g4; rw [s5, s4, s3, s2, s1] at g5
  refine ⟨⟨at_, true, ha, ⟨?_, ?_, ?_, b6⟩, ⟨rfl, rfl⟩⟩, ?_, ?_, g5⟩
  · exact (f5 _ (by omega)).trans ((f4 _ (by omega)).trans ((f3 _ (by omega)).trans ((f2 _ (by omega)).trans ((f1 _ (by omega)).trans g0))))
  · exact (f5 _ (by omega)).trans ((f4 _ (by omega)).trans ((f3 _ (by omega)).trans ((f2 _ (by omega)).trans g1)))
  · exact (f5 _ (by omega)).trans ((f4 _ (by omega)).trans g3)
  · exact (f5 _ (by omega)).trans ((f4 _ (by omega)).trans ((f3 _ (by omega)).trans g2))
  · exact (f5 _ (by omega)).trans g4
theorem cell_far3 (W : World) (g h j : Nat) (x y z : Value) (hne : h ≠ g) : (((W.setCell ⟨g, 0, none⟩ x).setCell ⟨g, 1, none⟩ y).setCell ⟨g, 2, none⟩ z).cell? ⟨h, j, none⟩ = W.cell? ⟨h, j, none⟩ := by
  have hn : ∀ (W : World) (i : Nat) (v : Value), (W.setCell ⟨g, i, none⟩ v).cell? ⟨h, j, none⟩ = W.cell? ⟨h, j, none⟩ := fun W i v => World.cell?_setCell_other _ _ _ _ (by intro e; have := congrArg Addr.block e; exact hne this.symm)
  rw [hn, hn, hn]
theorem at_one {k : Nat} (h : k ≤ 2147483647) : wrap64 ((k : Int) + 1) = ((k + 1 : Nat) : Int) := by
  rw [w64 (by omega) (by omega)]
  omega
theorem at_meas {k : Nat} {n : Int} (h : k ≤ 2147483647) (hlt : (k : Int) < n) : n.toNat - (intOf (.int .i64 (wrap64 ((k : Int) + 1)))).toNat < n.toNat - (intOf (.int .i64 (k : Int))).toNat := by
  rw [at_one h]
  show n.toNat - (((k + 1 : Nat) : Int)).toNat < n.toNat - ((k : Int)).toNat
  omega
theorem getN_le {b r : List Int} {n : Nat} (h : getN b = some (n, r)) : n ≤ 2147483647 := by
  unfold getN at h
  split at h
  · cases h
  · split at h
    · rename_i h2
      injection h with h
      injection h with h3 h4
      omega
    · cases h
def hexB (s : List UInt8) : Bool := decide (s.length % 2 = 0) && s.all fun c => decide (hv c < 16)
theorem hexB_iff (s : List UInt8) : hexB s = true ↔ HexOK s := by
  unfold hexB HexOK
  rw [Bool.and_eq_true, decide_eq_true_iff, List.all_eq_true]
  exact ⟨fun h => ⟨h.1, fun c hc => of_decide_eq_true (h.2 c hc)⟩, fun h => ⟨h.1, fun c hc => decide_eq_true (h.2 c hc)⟩⟩
def bad4 : ByteArray × ByteArray × Int × List ByteArray × Int × Int := (⟨#[]⟩, ⟨#[]⟩, 0, [], 0, 4)
/-- What At answers. -/
def atR (l : List Int) (at_ : Nat) : ByteArray × ByteArray × Int × List ByteArray × Int × Int := match getI (l.drop at_) with
  | some v => if hexB v.hex.data.toList = true ∧ checkE v.name (strOfNums (unh v.hex.data.toList)) (v.size : Int) v.refs = 0 then (v.name, strOfNums (unh v.hex.data.toList), (v.size : Int), v.refs, ((l.length - v.rest.length : Nat) : Int), 0) else bad4
  | none => bad4
def AtOK (w : World) (r : ByteArray × ByteArray × Int × List ByteArray × Int × Int) (e : Ending) (w' : World) : Prop := ∃ v3_ : Value, e = .returned (.tuple #[.string r.1, .agg #[.string r.2.1, .int .i64 r.2.2.1, v3_], .int .i64 r.2.2.2.2.1, .int .i64 r.2.2.2.2.2]) ∧ Kd.R Kd.string 9 w' w.heap.size (fun _ => True) v3_ r.2.2.2.1 ∧ Below w.heap.size w w'
theorem at_bad {w W : World} {l : List Int} {at_ : Nat} (h : atR l at_ = bad4) (hb : Below w.heap.size w W) : AtOK w (atR l at_) (.returned (.tuple #[.string ⟨#[]⟩, .agg #[.string ⟨#[]⟩, .int .i64 0, .slice none 0 0], .int .i64 0, .int .i64 4])) W := by
  rw [h]
  exact ⟨_, rfl, Kd.R_nil _ _ _ _ _, hb⟩
section
variable {w W W' : World} {v rv : Value} {l b : List Int} {st : Option (List Int)} {hs : ByteArray} {sz n : Int} {k pos : Nat} {L : List ByteArray}
theorem st_belowR (h : Atm w W v l st hs n rv) (x y z : Value) : Below w.heap.size w (((W.setCell ⟨w.heap.size + 1 + 1, 0, none⟩ x).setCell ⟨w.heap.size + 1 + 1, 1, none⟩ y).setCell ⟨w.heap.size + 1 + 1, 2, none⟩ z) := by
  obtain ⟨pos, ok, h1, h2, h3⟩ := h.rd
  exact ((h2.below.setCell (by show w.heap.size ≤ w.heap.size + 1 + 1; omega) _).setCell (by show w.heap.size ≤ w.heap.size + 1 + 1; omega) _).setCell (by show w.heap.size ≤ w.heap.size + 1 + 1; omega) _
theorem at_none {at_ : Nat} (h : AtLoop w W v l (l.drop at_) hs sz n k L rv) (hst : StOK (nxK k (st8 (l.drop at_))) l pos false) : atR l at_ = bad4 := by
  have h1 : nxK k (st8 (l.drop at_)) = none := by
    unfold StOK at hst
    cases hk : nxK k (st8 (l.drop at_)) with
    | none => rfl
    | some r => rw [hk] at hst; exact absurd hst.1 Bool.false_ne_true
  unfold atR
  rw [getI_none h1 h.few]
theorem at_some {st : Option (List Int)} (hst : StOK st l pos true) : ∃ r, st = some r ∧ r = l.drop pos := by
  unfold StOK at hst
  cases st with
  | none => cases hst
  | some r => exact ⟨r, rfl, hst.2⟩
theorem at_less (h : AtLoop w W v l b hs sz n k L rv) (hst : StOK (nxK k (st8 b)) l pos true) (hv : ∀ p, ((nxN ((nxT ((nxT ((some b).bind (getW tPath))).bind (getW tHash))).bind (getW tSize))).bind (getW tRefs)).bind getN = some p → n = (p.1 : Int)) (hlt : (k : Int) < n) :
    (∀ p, ((nxN ((nxT ((nxT ((some b).bind (getW tPath))).bind (getW tHash))).bind (getW tSize))).bind (getW tRefs)).bind getN = some p → k + 1 ≤ p.1) ∧ k ≤ 2147483647 := by
  refine ⟨fun p hp => by have := hv p hp; omega, ?_⟩
  obtain ⟨r, hr, _⟩ := at_some hst
  obtain ⟨q, hq, _⟩ := Option.map_eq_some_iff.1 hr
  obtain ⟨b8, h8, _⟩ := Option.bind_eq_some_iff.1 hq
  obtain ⟨p, hp, _⟩ := Option.map_eq_some_iff.1 h8
  have h1 := hv p hp
  obtain ⟨b7, _, h7⟩ := Option.bind_eq_some_iff.1 hp
  have := getN_le (show getN b7 = some (p.1, p.2) from h7)
  omega
theorem AtLoop.grow (h : AtLoop w W v l b hs sz n k L rv) (hb : Below W.heap.size W W') : AtLoop w W' v l b hs sz n k L rv :=
  ⟨h.m.grow hb, h.len, h.l_, h.sz_, own_move h.own (fun g hg => hb.block g (h.own.lt g hg).2), h.few, h.big⟩
theorem stays_own {e : TypeId} {m : Nat} {xs : List Value} (h : W.ownsRow (w.heap.size + 1 + 1 + 1 + 1 + 1 + 1) e 1 rv m xs) (hk : Stays W W' (w.heap.size + 1) (w.heap.size + 1 + 1 + 1)) : W'.ownsRow (w.heap.size + 1 + 1 + 1 + 1 + 1 + 1) e 1 rv m xs :=
  own_move h fun g hg => by
    have h1 := own_base h g hg
    exact hk.block g (h.lt g hg).2 (by omega) (by omega)
theorem at_append {e : TypeId} {m : Nat} {xs : List Value} (h : Atm w W v l st hs n rv) (ho : W.ownsRow (w.heap.size + 1 + 1 + 1 + 1 + 1 + 1) e 1 rv m xs) (hg : W.grownBy W' rv.ownBlock) : Atm w W' v l st hs n rv := by
  have hne : ∀ j, j < w.heap.size + 1 + 1 + 1 + 1 + 1 + 1 → some j ≠ rv.ownBlock := fun j hj he => by
    have := own_base ho j he.symm
    omega
  have hbl : ∀ j, j < w.heap.size + 1 + 1 + 1 + 1 + 1 + 1 → j < W.heap.size → W'.heap[j]? = W.heap[j]? := fun j hj h2 => hg.block j h2 (hne j hj)
  obtain ⟨pos, ok, h1, h2, h3⟩ := h.rd
  refine ⟨⟨pos, ok, h1, ⟨?_, ?_, ?_, ?_⟩, h3⟩, ?_, ?_, ?_⟩
  · exact (hbl _ (by omega) (lt_of_block h2.b)).trans h2.b
  · exact (hbl _ (by omega) (lt_of_block h2.a)).trans h2.a
  · exact (hbl _ (by omega) (lt_of_block h2.o)).trans h2.o
  · exact h2.below.grown hg h2.below.size (fun j hj => by have := own_base ho j hj; omega)
  · exact (hbl _ (by omega) (lt_of_block h.r)).trans h.r
  · exact (hbl _ (by omega) (lt_of_block h.t)).trans h.t
  · exact (hbl _ (by omega) (lt_of_block h.i)).trans h.i
theorem at_next {W13 : World} {s : ByteArray} {v1 : Value} (h : AtLoop w W v l b hs sz n k L rv) (h13 : Atm w W13 v l (nxT (nxK k (st8 b))) hs sz rv) (hv : ∀ p, (nxK k (st8 b)).bind getT = some p → s = p.1) (hz : s.size ≤ l.length)
    (hg : (∀ p, ((nxN ((nxT ((nxT ((some b).bind (getW tPath))).bind (getW tHash))).bind (getW tSize))).bind (getW tRefs)).bind getN = some p → k + 1 ≤ p.1) ∧ k ≤ 2147483647)
    (ho : W13.ownsRow (w.heap.size + 1 + 1 + 1 + 1 + 1 + 1) 9 1 v1 (L.length + 1) (L.map Value.string ++ [.string s])) : AtLoopE w (W13.setCell ⟨w.heap.size + 1 + 1 + 1 + 1 + 1, 2, none⟩ v1) v l b hs sz n (k + 1) := by
  have h14 := h13.set2 v1
  rw [nxK_next] at h14
  refine ⟨L ++ [s], v1, h14, by rw [List.length_append, h.len]; rfl, nxK_list k (st8 b) L s h.l_ hv, fun x hx => ?_, ?_, hg.1, by have := hg.2; omega⟩
  · rcases List.mem_append.1 hx with hx | hx
    · exact h.sz_ x hx
    · rw [List.mem_singleton.1 hx]; exact hz
  · rw [List.length_append, List.map_append]
    refine own_move ho fun g hg => ?_
    have := own_base ho g hg
    exact Below.heap_setCell _ _ _ _ (by show g ≠ w.heap.size + 1 + 1 + 1 + 1 + 1; omega)
theorem at_known {at_ : Nat} {nm hx : ByteArray} (h : AtLoop w W v l (l.drop at_) hs sz n k L rv) (hst : StOK (nxK k (st8 (l.drop at_))) l pos true) (hge : ¬ (k : Int) < n)
    (h2 : ∀ p, ((some (l.drop at_)).bind (getW tPath)).bind getT = some p → nm = p.1)
    (h4 : ∀ p, ((nxT ((some (l.drop at_)).bind (getW tPath))).bind (getW tHash)).bind getT = some p → hx = p.1)
    (h8 : ∀ p, ((nxT ((nxT ((some (l.drop at_)).bind (getW tPath))).bind (getW tHash))).bind (getW tSize)).bind getN = some p → sz = (p.1 : Int))
    (h11 : ∀ p, ((nxN ((nxT ((nxT ((some (l.drop at_)).bind (getW tPath))).bind (getW tHash))).bind (getW tSize))).bind (getW tRefs)).bind getN = some p → n = (p.1 : Int)) :
    ∃ m : Nat, sz = (m : Int) ∧ getI (l.drop at_) = some ⟨nm, hx, m, L, l.drop pos⟩ := by
  obtain ⟨r, hr, rfl⟩ := at_some hst
  exact getI_some ⟨h2, h4, h8, h11, h.l_⟩ hr hge h.few
theorem at_same {pos2 : Nat} {ok2 : Bool} {st : Option (List Int)} (h : StOK st l pos true) (h2 : StOK st l pos2 ok2) (hp : pos ≤ l.length) (hp2 : pos2 ≤ l.length) : pos2 = pos := by
  unfold StOK at h h2
  cases st with
  | none => cases h
  | some r =>
    have e := congrArg List.length (h.2.symm.trans h2.2)
    rw [List.length_drop, List.length_drop] at e
    omega
theorem at_fine {W2 : World} {at_ m pos2 : Nat} {nm hx : ByteArray} {ub : List Int} {Ar : Option Addr} {cr : Nat} {x y z : Value} (h : atR l at_ = (nm, strOfNums (unh hx.data.toList), (m : Int), L, (pos : Int), 0)) (hu : ub = unh hx.data.toList) (he : pos2 = pos) (hR : Kd.R Kd.string 9 W2 (w.heap.size + 1 + 1 + 1 + 1 + 1 + 1) (fun _ => True) (.slice Ar L.length cr) L) (hb : Below w.heap.size w (((W2.setCell ⟨w.heap.size + 1 + 1, 0, none⟩ x).setCell ⟨w.heap.size + 1 + 1, 1, none⟩ y).setCell ⟨w.heap.size + 1 + 1, 2, none⟩ z)) :
    AtOK w (atR l at_) (.returned (.tuple #[.string nm, .agg #[.string (strOfNums ub), .int .i64 (m : Int), .slice Ar L.length cr], .int .i64 (pos2 : Int), .int .i64 0])) (((W2.setCell ⟨w.heap.size + 1 + 1, 0, none⟩ x).setCell ⟨w.heap.size + 1 + 1, 1, none⟩ y).setCell ⟨w.heap.size + 1 + 1, 2, none⟩ z) := by
  subst hu he
  rw [h]
  refine ⟨_, rfl, ?_, hb⟩
  have h1 := Kd.own_of_R hR
  refine Kd.R_lower (Kd.R_of_own (base := w.heap.size + 1 + 1 + 1 + 1 + 1 + 1) (own_move h1 fun g hg => ?_) (fun _ _ => trivial)) (by omega)
  have := own_base h1 g hg
  exact (Below.heap_setCell _ _ _ _ (by show g ≠ w.heap.size + 1 + 1; omega)).trans ((Below.heap_setCell _ _ _ _ (by show g ≠ w.heap.size + 1 + 1; omega)).trans (Below.heap_setCell _ _ _ _ (by show g ≠ w.heap.size + 1 + 1; omega)))
theorem at_few {at_ m : Nat} {nm hx : ByteArray} (h : AtLoop w W v l (l.drop at_) hs sz n k L rv) (hk : getI (l.drop at_) = some ⟨nm, hx, m, L, l.drop pos⟩) (hb : okB l) : L.length ≤ l.length := by
  have h1 := congrArg List.length (getI_is (okB_drop hb at_) hk).1
  have h2 : ∀ L : List ByteArray, L.length ≤ (textsOf L).length := fun L => by
    induction L with
    | nil => exact Nat.zero_le _
    | cons s L ih =>
      rw [textsOf, List.length_append, List.length_cons, textOf_len]
      unfold len8
      omega
  have h3 := h2 L
  unfold layI at h1
  simp only [List.length_append, List.length_drop] at h1
  omega
theorem at_goes {at_ m : Nat} {nm hx : ByteArray} (hk : getI (l.drop at_) = some ⟨nm, hx, m, L, l.drop pos⟩) (hp : pos ≤ l.length) (hh : HexOK hx.data.toList) (hc : checkE nm (strOfNums (unh hx.data.toList)) (m : Int) L = 0) : atR l at_ = (nm, strOfNums (unh hx.data.toList), (m : Int), L, (pos : Int), 0) := by
  unfold atR
  rw [hk]
  dsimp only
  rw [if_pos ⟨(hexB_iff _).2 hh, hc⟩, List.length_drop]
  have : l.length - (l.length - pos) = pos := by omega
  rw [this]
theorem at_stops {at_ m : Nat} {nm hx : ByteArray} (hk : getI (l.drop at_) = some ⟨nm, hx, m, L, l.drop pos⟩) (hn : ¬ (HexOK hx.data.toList ∧ checkE nm (strOfNums (unh hx.data.toList)) (m : Int) L = 0)) : atR l at_ = bad4 := by
  unfold atR
  rw [hk]
  dsimp only
  rw [if_neg (fun h => hn ⟨(hexB_iff _).1 h.1, h.2⟩)]
end
set_option maxRecDepth 100000 in
theorem tab20 : rtab .any (opsOf Tryd.f17 20) = (true, [([], []), ([0], [0]), ([], []), ([2], [2]), ([3], [3]), ([1, 4, 3], [1, 4]), ([0, 1, 2, 3, 4, 5], []), ([6, 5, 5, 0, 1, 2, 3, 4, 5], [5, 6])]) := by kernel_rfl
theorem bits20 : waitsOk (rtab .any (opsOf Tryd.f17 20)).2 [0, 1, 0, 4, 12, 31, 63, 127] = true := by rw [tab20]; kernel_rfl
set_option maxRecDepth 100000 in
theorem tab23 : rtab .any (opsOf Tryd.f17 23) = (true, [([], []), ([], []), ([], []), ([0, 0], [0]), ([1, 3, 0, 1, 3], [1]), ([2, 4, 0, 1, 2, 3, 4], [2]), ([5, 0, 1, 2, 3, 4, 5], [])]) := by kernel_rfl
theorem bits23 : waitsOk (rtab .any (opsOf Tryd.f17 23)).2 [0, 0, 0, 1, 11, 31, 63] = true := by rw [tab23]; kernel_rfl
theorem unhex_cases (s : ByteArray) (hs : s.size ≤ 1000000) : ∃ r e k, base_Unhex.f k s = some (r, e) ∧ ((HexOK s.data.toList ∧ r = unh s.data.toList ∧ e = 0) ∨ (¬ HexOK s.data.toList ∧ r = [] ∧ e = 4)) := by
  obtain ⟨K, hK⟩ := unhex_f s hs
  by_cases h : HexOK s.data.toList
  · exact ⟨_, _, K + 1, (hK (K + 1) (Nat.lt_succ_self K)).1 h, .inl ⟨h, rfl, rfl⟩⟩
  · exact ⟨_, _, K + 1, (hK (K + 1) (Nat.lt_succ_self K)).2 h, .inr ⟨h, rfl, rfl⟩⟩
set_option maxHeartbeats 4000000 in
set_option maxRecDepth 100000 in
theorem at_yes (A : Option Addr) (c : Nat) (l : List Int) (at_ : Nat) (w : World) (ha : at_ ≤ l.length) (hC : Kd.C (Kd.int .u8) w A l.length l) (hc : l.length ≤ c) (hb : okB l) (hl : l.length ≤ 1000000) :
    Calls Tryd.prog 17 #[.slice A l.length c, .int .i64 (at_ : Int)] w (AtOK w (atR l at_)) := by
  have hmf : ∀ (fn : Fn) (first cap : Array Value) (w : World), (Instr.makeFunc fn first cap).run Tryd.prog w = .ok (.func fn first cap) w := fun _ _ _ _ => rfl
  have d1 : decide ((at_ : Int) < 0) = false := decide_eq_false (by omega)
  have d2 : decide (l.length < at_) = false := decide_eq_false (by omega)
  have hsf : ∀ (a : Addr) (fn : Fn) (f c : Array Value) (W : World), (store a (.func fn f c)).run Tryd.prog W = stored Tryd.prog W a (.func fn f c) .plain := fun _ _ _ _ _ => run_store _ _ _ _ _ rfl
  have HA0 := Aside0.mk (at_start w A c l at_ ha)
  have HA := Aside0.mk ha
  have HC := Aside0.mk hC
  have Hc := Aside0.mk hc
  have HB := Aside0.mk hb
  have HL := Aside0.mk hl
  clear ha hC hc hb hl
  go_enter Tryd.func17, Tryd.ntmps17
  go_wp2_with fail
  refine (want_calls w _ A c l (some (l.drop at_)) ⟨#[]⟩ 0 (.slice none 0 0) tPath HC.out Hc.out HB.out HL.out HA0.out).mono ?_
  rintro e W1 ⟨rfl, hr1, hk1⟩
  have H1 := Aside0.mk (HA0.out.step hk1 hr1)
  clear hr1 hk1 HA0 d1 d2 hsf
  have t1 := (blk_cell H1.out.t 0).trans rfl
  go_wp2_with fail
  refine (text_calls w _ _ _ _ A c l _ (far0 w) HC.out Hc.out HB.out HL.out H1.out.rd).mono ?_
  rintro e W2 ⟨nm, rfl, hz2, hr2, hv2, hk2⟩
  have H2 := Aside0.mk (H1.out.step hk2 hr2)
  have HV2 := Aside0.mk hv2
  have HZ2 := Aside0.mk hz2
  clear hr2 hk2 hv2 hz2 H1 t1
  go_wp2_with fail
  refine (want_calls w _ A c l _ ⟨#[]⟩ 0 (.slice none 0 0) tHash HC.out Hc.out HB.out HL.out H2.out).mono ?_
  rintro e W3 ⟨rfl, hr3, hk3⟩
  have H3 := Aside0.mk (H2.out.step hk3 hr3)
  clear hr3 hk3 H2
  have t3 := (blk_cell H3.out.t 0).trans rfl
  go_wp2_with fail
  refine (text_calls w _ _ _ _ A c l _ (far0 w) HC.out Hc.out HB.out HL.out H3.out.rd).mono ?_
  rintro e W4 ⟨hx, rfl, hz4, hr4, hv4, hk4⟩
  have H4 := Aside0.mk (H3.out.step hk4 hr4)
  have HV4 := Aside0.mk hv4
  clear hr4 hk4 hv4 H3 t3
  obtain ⟨ub, ue, uk, hu, huc⟩ := unhex_cases hx (by have := HL.out; omega)
  have HU := Aside0.mk hu
  have HUC := Aside0.mk huc
  clear hu huc hz4
  go_wp2_with fail
  refine (base_Unhex.calls uk hx ub ue _ HU.out).mono ?_
  rintro e W5 ⟨v5, rfl, ho5, hb5⟩
  obtain ⟨A5, c5, e5⟩ := Kd.R_slice ho5
  subst e5
  have hcv := Kd.C_string (P := Tryd.prog) Tryd.underlying30 Tryd.underlying5 Tryd.underlying9 (c := c5) (Kd.R_reads' ho5).2.2
  have H5 := Aside0.mk (H4.out.grow hb5)
  clear ho5 hb5 H4 HU
  have i5 := (blk_cell H5.out.i 0).trans rfl
  have g5 := blk_frozen H5.out.i 0
  go_wp2_with fail
  have H6 := Aside0.mk (H5.out.set0 (strOfNums ub))
  clear H5 i5 g5 hcv
  refine (want_calls w _ A c l _ _ 0 (.slice none 0 0) tSize HC.out Hc.out HB.out HL.out H6.out).mono ?_
  rintro e W7 ⟨rfl, hr7, hk7⟩
  have H7 := Aside0.mk (H6.out.step hk7 hr7)
  clear hr7 hk7 H6
  go_wp2_with fail
  refine (num_calls w _ _ _ _ A c l _ (far0 w) HC.out Hc.out HB.out HL.out H7.out.rd).mono ?_
  rintro e W8 ⟨sz, rfl, hr8, hv8, hk8⟩
  have H8 := Aside0.mk (H7.out.step hk8 hr8)
  have HV8 := Aside0.mk hv8
  clear hr8 hk8 hv8 H7
  have i8 := (blk_cell H8.out.i 1).trans rfl
  have g8 := blk_frozen H8.out.i 1
  go_wp2_with fail
  have H9 := Aside0.mk (H8.out.set1 sz)
  clear H8 i8 g8
  refine (want_calls w _ A c l _ _ _ (.slice none 0 0) tRefs HC.out Hc.out HB.out HL.out H9.out).mono ?_
  rintro e W10 ⟨rfl, hr10, hk10⟩
  have H10 := Aside0.mk (H9.out.step hk10 hr10)
  clear hr10 hk10 H9
  go_wp2_with fail
  refine (num_calls w _ _ _ _ A c l _ (far0 w) HC.out Hc.out HB.out HL.out H10.out.rd).mono ?_
  rintro e W11 ⟨n, rfl, hr11, hv11, hk11⟩
  have H11 := Aside0.mk (H10.out.step hk11 hr11)
  have HV11 := Aside0.mk hv11
  clear hr11 hk11 hv11 H10
  go_wp2
  go_loopw [17] (fun i wr => ∃ k : Nat, i = .int .i64 k ∧ AtLoopE w wr (.slice A l.length c) l (l.drop at_) (strOfNums ub) sz n k) (fun i _ => n.toNat - (intOf i).toNat)
  case atStart =>
    exact ⟨0, rfl, [], .slice none 0 0, ⟨by rw [nxK_zero]; exact H11.out, rfl, fun p hp => by
      obtain ⟨y, hy, hp⟩ := Option.bind_eq_some_iff.1 hp
      rw [← Option.some.inj hp], fun s hs => (by cases hs), own_nil _ _ _ _, fun p hp => Nat.zero_le _, by omega⟩⟩
  case round =>
    obtain ⟨k, rfl, L, rv, hr⟩ := hrel
    obtain ⟨pos, ok, hp, hBx, hst⟩ := id hr.m.rd
    have o0 := (blk_cell hBx.o 0).trans rfl
    have HR := Aside0.mk hr
    have HST := Aside0.mk hst
    have HBX := Aside0.mk hBx
    have HP := Aside0.mk hp
    clear hr hst hBx hp H11
    cases ok
    · have HNO := Aside0.mk (at_none HR.out HST.out)
      have z0_ := (blk_cell HR.out.m.r 0).trans rfl
      have y0_ := blk_frozen HR.out.m.r 0
      have K1 := Aside0.mk (blk_set HR.out.m.r 0 (.string ⟨#[]⟩))
      have z1_ := (blk_cell K1.out 1).trans rfl
      have y1_ := blk_frozen K1.out 1
      have K2 := Aside0.mk (blk_set K1.out 1 (.int .i64 0))
      have z2_ := (blk_cell K2.out 2).trans rfl
      have y2_ := blk_frozen K2.out 2
      have K3 := Aside0.mk (blk_set K2.out 2 (.slice none 0 0))
      have q0_ := (blk_cell K3.out 0).trans rfl
      have q1_ := (blk_cell K3.out 1).trans rfl
      have q2_ := (blk_cell K3.out 2).trans rfl
      go_wp2
      exact bodyPost_ret (v := .tuple #[.string ⟨#[]⟩, .agg #[.string ⟨#[]⟩, .int .i64 0, .slice none 0 0], .int .i64 0, .int .i64 4]) (by simp [results, Tryd.results17, go_sem, *]) rfl (at_bad HNO.out (st_belowR HR.out.m _ _ _))
    · by_cases hlt : (k : Int) < n
      · have hd := decide_eq_true hlt
        have HLT := Aside0.mk hlt
        have HG := Aside0.mk (at_less HR.out HST.out HV11.out hlt)
        clear hlt
        go_wp2
        have HD := Aside0.mk (HR.out.grow (below_drew1 (Below.refl wr.heap.size wr)))
        have c4 : wr.drew.cell? ⟨w.heap.size + 1 + 1 + 1 + 1, 0, none⟩ = some (.func (.func 33) #[] #[.pointer (some ⟨w.heap.size, 0, none⟩), .pointer (some ⟨w.heap.size + 1, 0, none⟩), .pointer (some ⟨w.heap.size + 1 + 1 + 1, 0, none⟩)]) := (blk_cell HD.out.m.t 0).trans rfl
        have c5 : wr.drew.cell? ⟨w.heap.size + 1 + 1 + 1 + 1 + 1, 2, none⟩ = some rv := (blk_cell HD.out.m.i 2).trans rfl
        refine start_ (n := 8) (S := fun w' => w'.cell? ⟨w.heap.size + 1 + 1 + 1 + 1, 0, none⟩ = some (.func (.func 33) #[] #[.pointer (some ⟨w.heap.size, 0, none⟩), .pointer (some ⟨w.heap.size + 1, 0, none⟩), .pointer (some ⟨w.heap.size + 1 + 1 + 1, 0, none⟩)]) ∧ w'.cell? ⟨w.heap.size + 1 + 1 + 1 + 1 + 1, 2, none⟩ = some rv) (ds := [7]) #[false, false, false, false, false, false, false, false] (by kernel_rfl) rfl rfl ⟨c4, c5⟩ (fun hHeld => ?_)
        refine with_tabW tab20 bits20 (fun HT_ HW_ => ?_)
        generalize wr.drew = WD at *
        refine pure_ (i := 0) (N := some 62) (v := ?_) (a' := ?_) #[true, false, false, false, false, false, false, false] rfl rfl (any_of HT_.out (by kernel_rfl)) (fun _ _ _ h => h) (Or.inl ⟨by rfl, ?_⟩) ?_ ?_
        rotate_left
        · intro w'
          go_simp
          with_reducible rfl
        rotate_left
        · simp only [Act.put, List.setIfInBounds_toArray, List.set_cons_zero, List.set_cons_succ, i64_w, i32_w]
          rfl
        refine take_ (i := 1) (N := some 63) (v := ?_) (a' := ?_) #[true, true, false, false, false, false, false, false] rfl rfl (take_ofW HT_.out HW_.out (by kernel_rfl)) (fun _ _ _ h => h) (Or.inl ⟨by rfl, ?_⟩) hHeld ?_ ?_
        rotate_left
        · rintro w' ⟨s0, s1⟩
          go_simp
          with_reducible rfl
        rotate_left
        · simp only [Act.put, List.setIfInBounds_toArray, List.set_cons_zero, List.set_cons_succ, i64_w, i32_w]
          rfl
        refine take_ (i := 2) (N := some 64) (v := ?_) (a' := ?_) #[true, true, true, false, false, false, false, false] rfl rfl (take_ofW HT_.out HW_.out (by kernel_rfl)) (fun _ _ _ h => h) (Or.inl ⟨by rfl, ?_⟩) hHeld ?_ ?_
        rotate_left
        · rintro w' ⟨s0, s1⟩
          go_simp
          with_reducible rfl
        rotate_left
        · simp only [Act.put, List.setIfInBounds_toArray, List.set_cons_zero, List.set_cons_succ, i64_w, i32_w]
          rfl
        refine one_ (i := 3) (N := some 65) #[true, true, true, true, false, false, false, false] rfl rfl (one_of HT_.out (by kernel_rfl)) (by decide) (fun K hK => ?_)
        refine call_ (33) #[.pointer (some ⟨w.heap.size, 0, none⟩), .pointer (some ⟨w.heap.size + 1, 0, none⟩), .pointer (some ⟨w.heap.size + 1 + 1 + 1, 0, none⟩)] (by rfl) rfl (by go_simp) ?_
        refine (text_calls w _ _ _ _ A c l _ (far0 w) HC.out Hc.out HB.out HL.out HD.out.m.rd).mono ?_
        rintro e W12 ⟨s, rfl, hz12, hr12, hv12, hk12⟩
        refine ⟨_, rfl, ?_⟩
        have H12 := Aside0.mk (HD.out.m.step hk12 hr12)
        have HO12 := Aside0.mk (stays_own HD.out.own hk12)
        have HV12 := Aside0.mk hv12
        have HZ12 := Aside0.mk hz12
        clear hr12 hv12 hz12 hk12
        refine hK.out _ _ ⟨(blk_cell H12.out.t 0).trans rfl, (blk_cell H12.out.i 2).trans rfl⟩ (fun hHeld => ?_)
        clear hK K
        refine norm_ (a' := ?_) ?_ ?_
        rotate_left
        · show Act.put _ (some 65) _ = _
          simp only [Act.put, List.setIfInBounds_toArray, List.set_cons_zero, List.set_cons_succ, i64_w, i32_w]
          rfl
        refine one_ (i := 4) (N := some 66) #[true, true, true, true, true, false, false, false] rfl rfl (one_of HT_.out (by kernel_rfl)) (by decide) (fun K hK => ?_)
        refine value_ (v := .slice (some ⟨W12.heap.size, 0, none⟩) 1 1) (w1 := W12.alloc (.cells #[.string s] 9)) (by rfl) rfl (by go_simp) ?_
        have hlt5 := lt_of_block H12.out.i
        have hlt4 := lt_of_block H12.out.t
        have e4 := heap_was W12 (.cells #[.string s] 9) _ hlt4
        have e5 := heap_was W12 (.cells #[.string s] 9) _ hlt5
        refine hK.out _ _ ⟨(blk_cell (e4.trans H12.out.t) 0).trans rfl, (blk_cell (e5.trans H12.out.i) 2).trans rfl⟩ (fun hHeld => ?_)
        clear hK K
        refine norm_ (a' := ?_) ?_ ?_
        rotate_left
        · show Act.put _ (some 66) _ = _
          simp only [Act.put, List.setIfInBounds_toArray, List.set_cons_zero, List.set_cons_succ, i64_w, i32_w]
          rfl
        refine one_ (i := 5) (N := some 67) #[true, true, true, true, true, true, false, false] rfl rfl (one_of HT_.out (by kernel_rfl)) (by decide) (fun K hK => ?_)
        refine step_append_cells (W := W12) (w0 := W12) (w.heap.size + 1 + 1 + 1 + 1 + 1 + 1) (by rfl) (.tmp 63) (.tmp 66) 22 9 (.string ⟨#[]⟩) 1 16 rfl Tryd.underlying22 (by kernel_rfl) rfl (by decide) (by decide) rv _ _ [.string s] (by rfl) (by rfl) rfl (by simp [Value.oneCell']) HO12.out (Below.refl _ _) hlt5 (by have := HG.out; have := HR.out.len; omega) ?_
        intro v1 W13 ho13 hb13 hg13 hat13
        have hR13 : Kd.R Kd.string 9 W13 (w.heap.size + 1 + 1 + 1 + 1 + 1 + 1) (fun _ => True) v1 (L ++ [s]) := Kd.R_of_own (by rw [List.length_append]; simpa [encs] using ho13) (fun _ _ => trivial)
        obtain ⟨A13, c13, e13⟩ : ∃ A_ c_, v1 = .slice A_ (L.length + 1) c_ := by
          obtain ⟨A_, c_, e_⟩ := Kd.R_slice hR13
          rw [List.length_append] at e_
          exact ⟨A_, c_, e_⟩
        subst e13
        clear hR13
        have H13 := Aside0.mk (at_append H12.out HO12.out hg13)
        refine hK.out _ _ ⟨(blk_cell H13.out.t 0).trans rfl, (blk_cell H13.out.i 2).trans rfl⟩ (fun hHeld => ?_)
        clear hK K
        refine norm_ (a' := ?_) ?_ ?_
        rotate_left
        · show Act.put _ (some 67) _ = _
          simp only [Act.put, List.setIfInBounds_toArray, List.set_cons_zero, List.set_cons_succ, i64_w, i32_w]
          rfl
        refine pure_ (i := 6) (N := some 68) (v := ?_) (a' := ?_) #[true, true, true, true, true, true, true, false] rfl rfl (any_of HT_.out (by kernel_rfl)) (fun _ _ _ h => h) (Or.inl ⟨by rfl, ?_⟩) ?_ ?_
        rotate_left
        · intro w'
          go_simp
          with_reducible rfl
        rotate_left
        · simp only [Act.put, List.setIfInBounds_toArray, List.set_cons_zero, List.set_cons_succ, i64_w, i32_w]
          rfl
        have c5b : W13.cell? ⟨w.heap.size + 1 + 1 + 1 + 1 + 1, 2, none⟩ = some rv := (blk_cell H13.out.i 2).trans rfl
        have f5b := blk_frozen H13.out.i 2
        refine last_ (i := 7) (N := none) #[true, true, true, true, true, true, true, true] rfl rfl (one_of HT_.out (by kernel_rfl)) (by decide) (fun K hK => ?_)
        refine skip_ (w1 := ?_) (by rfl) rfl ?_ ?_
        rotate_left
        · go_simp
          rfl
        refine hK.out _ _ ?_
        clear hK K
        refine done_ (done_of HT_.out (by kernel_rfl)) ?_
        have HN := Aside0.mk (at_next HR.out H13.out HV12.out HZ12.out HG.out ho13)
        clear ho13 hb13 hg13 hat13 hlt5 hlt4 e4 e5 c4 c5 c5b f5b
        go_wp2
        go_roundw
        case rel => exact ⟨k + 1, (by rw [at_one HG.out.2]), HN.out⟩
        case measure => exact at_meas HG.out.2 HLT.out
      · have hd := decide_eq_false hlt
        obtain ⟨m, rfl, hkn⟩ := at_known HR.out HST.out hlt HV2.out HV4.out HV8.out HV11.out
        have HK := Aside0.mk hkn
        have hR : Kd.R Kd.string 9 wr (w.heap.size + 1 + 1 + 1 + 1 + 1 + 1) (fun _ => True) rv L := Kd.R_of_own HR.out.own (fun _ _ => trivial)
        obtain ⟨Ar, cr, erv⟩ := Kd.R_slice hR
        subst erv
        have HRR := Aside0.mk hR
        clear hlt hkn hR
        by_cases hue : ue = 0
        · have HUX : HexOK hx.data.toList ∧ ub = unh hx.data.toList := by
            rcases HUC.out with h | h
            · exact ⟨h.1, h.2.1⟩
            · exact absurd (h.2.2.symm.trans hue) (by decide)
          obtain ⟨hhx, hub⟩ := HUX
          have HHX := Aside0.mk hhx
          subst hue
          obtain ⟨kc, hkc⟩ := check_ev nm (strOfNums ub) (m : Int) L (by have := HZ2.out; have := HL.out; omega) (by have h1 := HR.out.len; have h2 := at_few HR.out HK.out HB.out; have h3 := HL.out; omega) (fun s hs => by have := HR.out.sz_ s hs; have := HL.out; omega)
          have cE := info_Check.calls kc nm (strOfNums ub) (m : Int) Ar cr L _ wr (Kd.R_reads' HRR.out).2.2 (Kd.R_reads' HRR.out).2.1 (hkc kc (Nat.le_refl _))
          have i0_ := (blk_cell HR.out.m.i 0).trans rfl
          have i1_ := (blk_cell HR.out.m.i 1).trans rfl
          have i2_ := (blk_cell HR.out.m.i 2).trans rfl
          by_cases hce : checkE nm (strOfNums ub) (m : Int) L = 0
          · rw [hce] at cE
            have HGO := Aside0.mk (at_goes HK.out HP.out HHX.out (by rw [← hub]; exact hce))
            have HUB := Aside0.mk hub
            clear hce hub hhx hkc
            go_wp2_with (go_at_call 8; refine cE.mono ?_; rintro e W14 ⟨rfl, hb14⟩; have H14 := Aside0.mk ((HR.out.m.grow hb14).grow (below_drew1 (Below.refl _ _))); have HRD := Aside0.mk (Kd.R_below (Kd.R_below HRR.out hb14) (below_drew1 (Below.refl _ _))))
            obtain ⟨pos2, ok2, hp2, hBx2, hst2⟩ := id H14.out.rd
            have HE2 := Aside0.mk (at_same HST.out hst2 HP.out hp2)
            have k0 := (blk_cell H14.out.i 0).trans rfl
            have k1 := (blk_cell H14.out.i 1).trans rfl
            have k2 := (blk_cell H14.out.i 2).trans rfl
            have k3 := (blk_cell hBx2.a 0).trans rfl
            refine start_ (n := 7) (S := fun w' => w'.cell? ⟨w.heap.size + 1 + 1 + 1 + 1 + 1, 0, none⟩ = some (.string (strOfNums ub)) ∧ w'.cell? ⟨w.heap.size + 1 + 1 + 1 + 1 + 1, 1, none⟩ = some (.int .i64 (m : Int)) ∧ w'.cell? ⟨w.heap.size + 1 + 1 + 1 + 1 + 1, 2, none⟩ = some (.slice Ar L.length cr) ∧ w'.cell? ⟨w.heap.size + 1, 0, none⟩ = some (.int .i64 (pos2 : Int))) (ds := []) #[false, false, false, false, false, false, false] (by kernel_rfl) rfl rfl ⟨k0, k1, k2, k3⟩ (fun hHeld => ?_)
            refine with_tabW tab23 bits23 (fun HT_ HW_ => ?_)
            generalize W14.drew = WD at *
            refine pure_ (i := 0) (N := some 82) (v := ?_) (a' := ?_) #[true, false, false, false, false, false, false] rfl rfl (any_of HT_.out (by kernel_rfl)) (fun _ _ _ h => h) (Or.inl ⟨by rfl, ?_⟩) ?_ ?_
            rotate_left
            · intro w'
              go_simp
              with_reducible rfl
            rotate_left
            · simp only [Act.put, List.setIfInBounds_toArray, List.set_cons_zero, List.set_cons_succ, i64_w, i32_w]
              rfl
            refine take_ (i := 1) (N := some 83) (v := ?_) (a' := ?_) #[true, true, false, false, false, false, false] rfl rfl (take_ofW HT_.out HW_.out (by kernel_rfl)) (fun _ _ _ h => h) (Or.inl ⟨by rfl, ?_⟩) hHeld ?_ ?_
            rotate_left
            · rintro w' ⟨s0, s1, s2, s3⟩
              go_simp
              with_reducible rfl
            rotate_left
            · simp only [Act.put, List.setIfInBounds_toArray, List.set_cons_zero, List.set_cons_succ, i64_w, i32_w]
              rfl
            refine take_ (i := 2) (N := some 84) (v := ?_) (a' := ?_) #[true, true, true, false, false, false, false] rfl rfl (take_ofW HT_.out HW_.out (by kernel_rfl)) (fun _ _ _ h => h) (Or.inl ⟨by rfl, ?_⟩) hHeld ?_ ?_
            rotate_left
            · rintro w' ⟨s0, s1, s2, s3⟩
              go_simp
              with_reducible rfl
            rotate_left
            · simp only [Act.put, List.setIfInBounds_toArray, List.set_cons_zero, List.set_cons_succ, i64_w, i32_w]
              rfl
            refine pure_ (i := 3) (N := some 4) (v := ?_) (a' := ?_) #[true, true, true, true, false, false, false] rfl rfl (any_of HT_.out (by kernel_rfl)) (fun _ _ _ h => h) (Or.inl ⟨by rfl, ?_⟩) ?_ ?_
            rotate_left
            · intro w'
              go_simp
              with_reducible rfl
            rotate_left
            · simp only [Act.put, List.setIfInBounds_toArray, List.set_cons_zero, List.set_cons_succ, i64_w, i32_w]
              rfl
            have z0_ := (blk_cell H14.out.r 0).trans rfl
            have y0_ := blk_frozen H14.out.r 0
            have K1 := Aside0.mk (blk_set H14.out.r 0 (.string (strOfNums ub)))
            have z1_ := (blk_cell K1.out 1).trans rfl
            have y1_ := blk_frozen K1.out 1
            have K2 := Aside0.mk (blk_set K1.out 1 (.int .i64 (m : Int)))
            have z2_ := (blk_cell K2.out 2).trans rfl
            have y2_ := blk_frozen K2.out 2
            have K3 := Aside0.mk (blk_set K2.out 2 (.slice Ar L.length cr))
            have q0_ := (blk_cell K3.out 0).trans rfl
            have q1_ := (blk_cell K3.out 1).trans rfl
            have q2_ := (blk_cell K3.out 2).trans rfl
            refine one_ (i := 4) (N := none) #[true, true, true, true, true, false, false] rfl rfl (one_of HT_.out (by kernel_rfl)) (by decide) (fun K hK => ?_)
            refine skip_ (w1 := ?_) (by rfl) rfl ?_ ?_
            rotate_left
            · go_simp
              rfl
            refine hK.out _ _ ⟨(cell_far3 WD _ _ _ _ _ _ (by omega)).trans k0, (cell_far3 WD _ _ _ _ _ _ (by omega)).trans k1, (cell_far3 WD _ _ _ _ _ _ (by omega)).trans k2, (cell_far3 WD _ _ _ _ _ _ (by omega)).trans k3⟩ (fun hHeld => ?_)
            clear hK K
            refine pure_ (i := 5) (N := some 6) (v := ?_) (a' := ?_) #[true, true, true, true, true, true, false] rfl rfl (any_of HT_.out (by kernel_rfl)) (fun _ _ _ h => h) (Or.inl ⟨by rfl, ?_⟩) ?_ ?_
            rotate_left
            · intro w'
              go_simp
              with_reducible rfl
            rotate_left
            · simp only [Act.put, List.setIfInBounds_toArray, List.set_cons_zero, List.set_cons_succ, i64_w, i32_w]
              rfl
            refine pure_ (i := 6) (N := some 7) (v := ?_) (a' := ?_) #[true, true, true, true, true, true, true] rfl rfl (any_of HT_.out (by kernel_rfl)) (fun _ _ _ h => h) (Or.inl ⟨by rfl, ?_⟩) ?_ ?_
            rotate_left
            · intro w'
              go_simp
              with_reducible rfl
            rotate_left
            · simp only [Act.put, List.setIfInBounds_toArray, List.set_cons_zero, List.set_cons_succ, i64_w, i32_w]
              rfl
            refine done_ (done_of HT_.out (by kernel_rfl)) ?_
            go_wp2
            exact bodyPost_ret (v := .tuple #[.string nm, .agg #[.string (strOfNums ub), .int .i64 (m : Int), .slice Ar L.length cr], .int .i64 (pos2 : Int), .int .i64 0]) (by simp [results, Tryd.results17, go_sem, *]) rfl (at_fine HGO.out HUB.out HE2.out HRD.out (st_belowR H14.out _ _ _))
          · have d5 : (checkE nm (strOfNums ub) (m : Int) L != 0) = true := bne_iff_ne.2 hce
            have HNO := Aside0.mk (at_stops HK.out (fun h => hce (by rw [hub]; exact h.2)))
            clear hce hub hhx hkc
            generalize checkE nm (strOfNums ub) (m : Int) L = ce at *
            go_wp2_with (go_at_call 8; refine cE.mono ?_; rintro e W14 ⟨rfl, hb14⟩; have H14 := Aside0.mk (HR.out.m.grow hb14); have z0_ := (blk_cell H14.out.r 0).trans rfl; have y0_ := blk_frozen H14.out.r 0; have K1 := Aside0.mk (blk_set H14.out.r 0 (.string ⟨#[]⟩)); have z1_ := (blk_cell K1.out 1).trans rfl; have y1_ := blk_frozen K1.out 1; have K2 := Aside0.mk (blk_set K1.out 1 (.int .i64 0)); have z2_ := (blk_cell K2.out 2).trans rfl; have y2_ := blk_frozen K2.out 2; have K3 := Aside0.mk (blk_set K2.out 2 (.slice none 0 0)); have q0_ := (blk_cell K3.out 0).trans rfl; have q1_ := (blk_cell K3.out 1).trans rfl; have q2_ := (blk_cell K3.out 2).trans rfl)
            exact bodyPost_ret (v := .tuple #[.string ⟨#[]⟩, .agg #[.string ⟨#[]⟩, .int .i64 0, .slice none 0 0], .int .i64 0, .int .i64 4]) (by simp [results, Tryd.results17, go_sem, *]) rfl (at_bad HNO.out (st_belowR H14.out _ _ _))
        · have d3 : (ue == 0) = false := beq_eq_false_iff_ne.2 hue
          have d4 : (ue != 0) = true := bne_iff_ne.2 hue
          have HNO := Aside0.mk (at_stops HK.out (fun h => hue (by
            rcases HUC.out with h1 | h1
            · exact h1.2.2
            · exact absurd h.1 h1.1)))
          clear hue
          have z0_ := (blk_cell HR.out.m.r 0).trans rfl
          have y0_ := blk_frozen HR.out.m.r 0
          have K1 := Aside0.mk (blk_set HR.out.m.r 0 (.string ⟨#[]⟩))
          have z1_ := (blk_cell K1.out 1).trans rfl
          have y1_ := blk_frozen K1.out 1
          have K2 := Aside0.mk (blk_set K1.out 1 (.int .i64 0))
          have z2_ := (blk_cell K2.out 2).trans rfl
          have y2_ := blk_frozen K2.out 2
          have K3 := Aside0.mk (blk_set K2.out 2 (.slice none 0 0))
          have q0_ := (blk_cell K3.out 0).trans rfl
          have q1_ := (blk_cell K3.out 1).trans rfl
          have q2_ := (blk_cell K3.out 2).trans rfl
          go_wp2
          exact bodyPost_ret (v := .tuple #[.string ⟨#[]⟩, .agg #[.string ⟨#[]⟩, .int .i64 0, .slice none 0 0], .int .i64 0, .int .i64 4]) (by simp [results, Tryd.results17, go_sem, *]) rfl (at_bad HNO.out (st_belowR HR.out.m _ _ _))
end Go.Proofs.YthnchdbkgenjhaaDoorX
/- info.At at a place that is none: the walk; At's answer whole. -/
namespace Go.Proofs.YthnchdbkgenjhaaDoorX
open Go.RowKit Go.Proofs.YthnchdbkgenjhaaDoor.PInfoA Go.Proofs.YthnchdbkgenjhaaDoorW.PrintWords Go.Proofs.YthnchdbkgenjhaaDoorW.PrintLast Go.Proofs.YthnchdbkgenjhaaDoorW.PrintMore
def bad1 : ByteArray × ByteArray × Int × List ByteArray × Int × Int := (⟨#[]⟩, ⟨#[]⟩, 0, [], 0, 1)
def atF (l : List Int) (a : Int) : ByteArray × ByteArray × Int × List ByteArray × Int × Int := if a < 0 ∨ (l.length : Int) < a then bad1 else atR l a.toNat
theorem at_bad1 {w W : World} (hb : Below w.heap.size w W) : AtOK w bad1 (.returned (.tuple #[.string ⟨#[]⟩, .agg #[.string ⟨#[]⟩, .int .i64 0, .slice none 0 0], .int .i64 0, .int .i64 1])) W := ⟨_, rfl, Kd.R_nil _ _ _ _ _, hb⟩
set_option maxHeartbeats 2000000 in
set_option maxRecDepth 100000 in
theorem at_low (A : Option Addr) (c n : Nat) (a : Int) (w : World) (ha : a < 0) : Calls Tryd.prog 17 #[.slice A n c, .int .i64 a] w (AtOK w bad1) := by
  have d1 := decide_eq_true ha
  clear ha
  go_enter Tryd.func17, Tryd.ntmps17
  go_wp2
  exact bodyPost_ret (v := .tuple #[.string ⟨#[]⟩, .agg #[.string ⟨#[]⟩, .int .i64 0, .slice none 0 0], .int .i64 0, .int .i64 1]) (by simp [results, Tryd.results17, go_sem, *]) rfl (at_bad1 (below_alloc (below_alloc (below_alloc (Below.refl _ _) _) _) _))
set_option maxHeartbeats 2000000 in
set_option maxRecDepth 100000 in
theorem at_high (A : Option Addr) (c n : Nat) (a : Int) (w : World) (h0 : ¬ a < 0) (ha : (n : Int) < a) : Calls Tryd.prog 17 #[.slice A n c, .int .i64 a] w (AtOK w bad1) := by
  have d1 := decide_eq_false h0
  have d2 := decide_eq_true ha
  clear ha h0
  go_enter Tryd.func17, Tryd.ntmps17
  go_wp2
  exact bodyPost_ret (v := .tuple #[.string ⟨#[]⟩, .agg #[.string ⟨#[]⟩, .int .i64 0, .slice none 0 0], .int .i64 0, .int .i64 1]) (by simp [results, Tryd.results17, go_sem, *]) rfl (at_bad1 (below_alloc (below_alloc (below_alloc (Below.refl _ _) _) _) _))
theorem at_calls (A : Option Addr) (c : Nat) (l : List Int) (a : Int) (w : World) (hC : Kd.C (Kd.int .u8) w A l.length l) (hc : l.length ≤ c) (hb : okB l) (hl : l.length ≤ 1000000) :
    Calls Tryd.prog 17 #[.slice A l.length c, .int .i64 a] w (AtOK w (atF l a)) := by
  unfold atF
  by_cases h0 : a < 0
  · rw [if_pos (.inl h0)]
    exact at_low A c l.length a w h0
  · by_cases h1 : (l.length : Int) < a
    · rw [if_pos (.inr h1)]
      exact at_high A c l.length a w h0 h1
    · rw [if_neg (fun h => h.elim h0 h1)]
      obtain ⟨n, rfl⟩ := Int.eq_ofNat_of_zero_le (show 0 ≤ a by omega)
      exact at_yes A c l n w (by omega) hC hc hb hl
end Go.Proofs.YthnchdbkgenjhaaDoorX
