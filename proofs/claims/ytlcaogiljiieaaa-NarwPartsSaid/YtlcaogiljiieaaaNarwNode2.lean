/- narw's writer: node, at links and directories. -/
import Derived.Test.YtlcaogiljiieaaaNarwNode
set_option linter.unusedVariables false
set_option linter.unusedSimpArgs false
namespace Go.Proofs.YtlcaogiljiieaaaX
open Go.RowKit Go.Maps Go.Proofs.YtlcaogiljiieaaaW.PrintWords Go.Proofs.YtlcaogiljiieaaaW.PrintLast Go.Proofs.YtlcaogiljiieaaaW.PrintMore
set_option maxHeartbeats 4000000 in
set_option maxRecDepth 100000 in
theorem node_2 (W : World) (b : Nat) (A : Option Addr) (n c k : Nat) (xs : List ByteArray) (hW : Wr W b A n c (k : Int) xs) (hk : k < n) (hn : n ≤ 100000) (l : List EntB) (hln : n = l.length) (hE : EntsAt W A l) (e : EntB) (he : l[k]? = some e) (hek : e.kind = 2)
    (T : List ByteArray) (i2 : Int) (hf : AddsAt 71 b A n c ((k : Int) + 1) (xs ++ [tOpen, tType]) e i2 T W) (hl : xs.length + T.length ≤ 900000) :
    Calls Try.prog 41 #[.pointer (some ⟨b, 0, none⟩)] W fun x W' => x = .returned (.tuple #[]) ∧ Wr W' b A n c i2 (xs ++ [tOpen, tType] ++ T ++ [tShut]) ∧ Stays b W W' := by
  subst hln
  obtain ⟨hlt, he⟩ := List.getElem?_eq_some_iff.1 he
  obtain ⟨ad, rfl, q0, q1, q2, q3⟩ := hE k hlt
  rw [he] at q0 q1 q2 q3
  obtain ⟨ep, ek, ex, ed⟩ := e
  dsimp only at q0 q1 q2 q3 hek
  subst hek
  obtain ⟨v, h1, h2⟩ := hW.blk
  obtain ⟨A0, n0, k0, rfl⟩ := own_slice h2
  have r0 := q0
  have r1 := (congrArg W.cell? (addr_next ad (k * 4) 1 (by decide))).trans q1
  have r2 := (congrArg W.cell? (addr_next ad (k * 4) 2 (by decide))).trans q2
  have r3 := (congrArg W.cell? (addr_next ad (k * 4) 3 (by decide))).trans q3
  have y0 : W.cell? ⟨b, 0, none⟩ = some (.slice (some ad) l.length c) := (blk_cell h1 0).trans rfl
  have y1 : W.cell? ⟨b, 1, none⟩ = some (.int .i64 k) := (blk_cell h1 1).trans rfl
  have HA := ((Below.refl _ W).alloc (Nat.le_refl _) (.cells #[.string ⟨#[]⟩, .int .i64 0, .bool false, .string ⟨#[]⟩] 27))
  have a0 := (HA.cell (cell_lt r0)).trans r0
  have a1 := (HA.cell (cell_lt r1)).trans r1
  have a2 := (HA.cell (cell_lt r2)).trans r2
  have a3 := (HA.cell (cell_lt r3)).trans r3
  have z0 := (HA.cell (cell_lt y0)).trans y0
  have z1 := (HA.cell (cell_lt y1)).trans y1
  have HW := Aside0.mk hW
  have hbl := Aside0.mk hW.lt
  have HF := Aside0.mk hf
  have hki : (k : Int) < (l.length : Int) := by omega
  have hk0 : (0 : Int) ≤ (k : Int) := by omega
  have hwi : wrap64 ((k : Int) + 1) = (k : Int) + 1 := by unfold wrap64; omega
  clear h1 h2 hW hf hE q0 q1 q2 q3 HA
  go_enter Try.func41, Try.ntmps41
  go_wp2
  go_cut [2] (fun s2 wx => ∃ g : Nat, s2 = .pointer (some ⟨g, 0, none⟩) ∧ wx.heap[g]? = some (.cells #[.string ep, .int .i64 2, .bool ex, .string ed] 27 (0, 0)) ∧ Wr wx b (some ad) l.length c (k : Int) xs ∧ Stays b W wx)
  case first =>
    go_region
    all_goals (go_wp2; go_meet)
    all_goals exact ⟨_, rfl, World.alloc_heap_new W _, HW.out.below ((Below.refl _ W).alloc (Nat.le_refl _) _).drew, Stays.of_below ((Below.refl _ W).alloc (Nat.le_refl _) _).drew (Nat.le_of_lt hbl.out)⟩
  case rest =>
    obtain ⟨g, rfl, hbx, hw, hs⟩ := hcut
    have c1 := hw.at_
    have f1 := hw.froz
    have HG := Aside0.mk (blk_lt hbx)
    have hgb : g ≠ b := by
      obtain ⟨v9, h9, _⟩ := hw.blk
      intro e9
      subst e9
      rw [hbx] at h9
      injection h9 with h9
      injection h9 with h9 _
      simp at h9
    have HGB := Aside0.mk hgb
    have W1 := Aside0.mk (hw.next ((k : Int) + 1))
    have S1 := Aside0.mk (hs.trans (stays_next (W := wc) b ((k : Int) + 1) (hw.lt)))
    have B1 := Aside0.mk ((Below.heap_setCell wc ⟨b, 1, none⟩ (.int .i64 ((k : Int) + 1)) g hgb).trans hbx)
    clear hbx hw hs hgb r0 r1 r2 r3 a0 a1 a2 a3 z0 z1 y0 y1
    go_wp2_with (go_at_call 40; go_loud (refine (put_calls _ b (some ad) l.length c ((k : Int) + 1) xs [tOpen, tType] (wr_alloc W1.out _) wc.heap.size 2 2 rfl ?hc ?hl).mono ?_); (case hc => exact lit_cells _ [tOpen, tType] _ (by simp)); (case hl => simp; omega); rintro x W2 ⟨rfl, h9, s9⟩; have H2 := Aside0.mk h9; have S2 := Aside0.mk ((stays_alloc S1.out (Nat.le_of_lt W1.out.lt) _).trans s9); have B2 := Aside0.mk (s9.same g _ (blk_alloc B1.out _) HGB.out (by intro cs h; cases h)); clear h9 s9)
    have x1 : W2.cell? ⟨g, 1, none⟩ = some (.int .i64 2) := (blk_cell B2.out 1).trans rfl
    have x0 : W2.cell? ⟨g, 0, none⟩ = some (.string ep) := (blk_cell B2.out 0).trans rfl
    have x2 : W2.cell? ⟨g, 2, none⟩ = some (.bool ex) := (blk_cell B2.out 2).trans rfl
    have x3 : W2.cell? ⟨g, 3, none⟩ = some (.string ed) := (blk_cell B2.out 3).trans rfl
    go_region_with (first
      | (go_at_call 59; refine (kindsW_calls b _).mono ?_; rintro x W3 ⟨gm, rfl, hm, hge, h3⟩; have hlook := kindsW_look hm 2 71 (by decide); have B3 := Aside0.mk (blk_below B2.out ((Below.refl _ W2).drew.trans h3)); have t0 : W3.cell? ⟨g, 0, none⟩ = some (.string ep) := (blk_cell B3.out 0).trans rfl; have t1 : W3.cell? ⟨g, 1, none⟩ = some (.int .i64 2) := (blk_cell B3.out 1).trans rfl; have t2 : W3.cell? ⟨g, 2, none⟩ = some (.bool ex) := (blk_cell B3.out 2).trans rfl; have t3 : W3.cell? ⟨g, 3, none⟩ = some (.string ed) := (blk_cell B3.out 3).trans rfl)
      | (go_at_call 71; refine (HF.out _ (H2.out.below ((Below.refl _ W2).drew.trans h3)) (S2.out.trans (Stays.of_below ((Below.refl _ W2).drew.trans h3) (Nat.le_of_lt H2.out.lt)))).mono ?_; rintro x W4 ⟨rfl, h4, s4⟩; have H4 := Aside0.mk h4; have S4 := Aside0.mk ((S2.out.trans (Stays.of_below ((Below.refl _ W2).drew.trans h3) (Nat.le_of_lt H2.out.lt))).trans s4); clear h4 s4))
    all_goals
      clear x0 x1 x2 x3 t0 t1 t2 t3 hlook hm hge h3 B3 HF
      go_wp2_with (go_at_call 40; go_loud (refine (put_calls _ b (some ad) l.length c i2 (xs ++ [tOpen, tType] ++ T) [tShut] (wr_alloc H4.out _) W4.heap.size 1 1 rfl ?hc ?hl).mono ?_); (case hc => exact lit_cells _ [tShut] _ rfl); (case hl => simp; omega); rintro x W5 ⟨rfl, h9, s9⟩; have H5 := Aside0.mk h9; have S5 := Aside0.mk ((stays_alloc S4.out (Nat.le_of_lt H4.out.lt) _).trans s9); clear h9 s9)
      go_end0
      exact ⟨rfl, H5.out, S5.out⟩
set_option maxHeartbeats 4000000 in
set_option maxRecDepth 100000 in
theorem node_3 (W : World) (b : Nat) (A : Option Addr) (n c k : Nat) (xs : List ByteArray) (hW : Wr W b A n c (k : Int) xs) (hk : k < n) (hn : n ≤ 100000) (l : List EntB) (hln : n = l.length) (hE : EntsAt W A l) (e : EntB) (he : l[k]? = some e) (hek : e.kind = 3)
    (T : List ByteArray) (i2 : Int) (hf : AddsAt 72 b A n c ((k : Int) + 1) (xs ++ [tOpen, tType]) e i2 T W) (hl : xs.length + T.length ≤ 900000) :
    Calls Try.prog 41 #[.pointer (some ⟨b, 0, none⟩)] W fun x W' => x = .returned (.tuple #[]) ∧ Wr W' b A n c i2 (xs ++ [tOpen, tType] ++ T ++ [tShut]) ∧ Stays b W W' := by
  subst hln
  obtain ⟨hlt, he⟩ := List.getElem?_eq_some_iff.1 he
  obtain ⟨ad, rfl, q0, q1, q2, q3⟩ := hE k hlt
  rw [he] at q0 q1 q2 q3
  obtain ⟨ep, ek, ex, ed⟩ := e
  dsimp only at q0 q1 q2 q3 hek
  subst hek
  obtain ⟨v, h1, h2⟩ := hW.blk
  obtain ⟨A0, n0, k0, rfl⟩ := own_slice h2
  have r0 := q0
  have r1 := (congrArg W.cell? (addr_next ad (k * 4) 1 (by decide))).trans q1
  have r2 := (congrArg W.cell? (addr_next ad (k * 4) 2 (by decide))).trans q2
  have r3 := (congrArg W.cell? (addr_next ad (k * 4) 3 (by decide))).trans q3
  have y0 : W.cell? ⟨b, 0, none⟩ = some (.slice (some ad) l.length c) := (blk_cell h1 0).trans rfl
  have y1 : W.cell? ⟨b, 1, none⟩ = some (.int .i64 k) := (blk_cell h1 1).trans rfl
  have HA := ((Below.refl _ W).alloc (Nat.le_refl _) (.cells #[.string ⟨#[]⟩, .int .i64 0, .bool false, .string ⟨#[]⟩] 27))
  have a0 := (HA.cell (cell_lt r0)).trans r0
  have a1 := (HA.cell (cell_lt r1)).trans r1
  have a2 := (HA.cell (cell_lt r2)).trans r2
  have a3 := (HA.cell (cell_lt r3)).trans r3
  have z0 := (HA.cell (cell_lt y0)).trans y0
  have z1 := (HA.cell (cell_lt y1)).trans y1
  have HW := Aside0.mk hW
  have hbl := Aside0.mk hW.lt
  have HF := Aside0.mk hf
  have hki : (k : Int) < (l.length : Int) := by omega
  have hk0 : (0 : Int) ≤ (k : Int) := by omega
  have hwi : wrap64 ((k : Int) + 1) = (k : Int) + 1 := by unfold wrap64; omega
  clear h1 h2 hW hf hE q0 q1 q2 q3 HA
  go_enter Try.func41, Try.ntmps41
  go_wp2
  go_cut [2] (fun s2 wx => ∃ g : Nat, s2 = .pointer (some ⟨g, 0, none⟩) ∧ wx.heap[g]? = some (.cells #[.string ep, .int .i64 3, .bool ex, .string ed] 27 (0, 0)) ∧ Wr wx b (some ad) l.length c (k : Int) xs ∧ Stays b W wx)
  case first =>
    go_region
    all_goals (go_wp2; go_meet)
    all_goals exact ⟨_, rfl, World.alloc_heap_new W _, HW.out.below ((Below.refl _ W).alloc (Nat.le_refl _) _).drew, Stays.of_below ((Below.refl _ W).alloc (Nat.le_refl _) _).drew (Nat.le_of_lt hbl.out)⟩
  case rest =>
    obtain ⟨g, rfl, hbx, hw, hs⟩ := hcut
    have c1 := hw.at_
    have f1 := hw.froz
    have HG := Aside0.mk (blk_lt hbx)
    have hgb : g ≠ b := by
      obtain ⟨v9, h9, _⟩ := hw.blk
      intro e9
      subst e9
      rw [hbx] at h9
      injection h9 with h9
      injection h9 with h9 _
      simp at h9
    have HGB := Aside0.mk hgb
    have W1 := Aside0.mk (hw.next ((k : Int) + 1))
    have S1 := Aside0.mk (hs.trans (stays_next (W := wc) b ((k : Int) + 1) (hw.lt)))
    have B1 := Aside0.mk ((Below.heap_setCell wc ⟨b, 1, none⟩ (.int .i64 ((k : Int) + 1)) g hgb).trans hbx)
    clear hbx hw hs hgb r0 r1 r2 r3 a0 a1 a2 a3 z0 z1 y0 y1
    go_wp2_with (go_at_call 40; go_loud (refine (put_calls _ b (some ad) l.length c ((k : Int) + 1) xs [tOpen, tType] (wr_alloc W1.out _) wc.heap.size 2 2 rfl ?hc ?hl).mono ?_); (case hc => exact lit_cells _ [tOpen, tType] _ (by simp)); (case hl => simp; omega); rintro x W2 ⟨rfl, h9, s9⟩; have H2 := Aside0.mk h9; have S2 := Aside0.mk ((stays_alloc S1.out (Nat.le_of_lt W1.out.lt) _).trans s9); have B2 := Aside0.mk (s9.same g _ (blk_alloc B1.out _) HGB.out (by intro cs h; cases h)); clear h9 s9)
    have x1 : W2.cell? ⟨g, 1, none⟩ = some (.int .i64 3) := (blk_cell B2.out 1).trans rfl
    have x0 : W2.cell? ⟨g, 0, none⟩ = some (.string ep) := (blk_cell B2.out 0).trans rfl
    have x2 : W2.cell? ⟨g, 2, none⟩ = some (.bool ex) := (blk_cell B2.out 2).trans rfl
    have x3 : W2.cell? ⟨g, 3, none⟩ = some (.string ed) := (blk_cell B2.out 3).trans rfl
    go_region_with (first
      | (go_at_call 59; refine (kindsW_calls b _).mono ?_; rintro x W3 ⟨gm, rfl, hm, hge, h3⟩; have hlook := kindsW_look hm 3 72 (by decide); have B3 := Aside0.mk (blk_below B2.out ((Below.refl _ W2).drew.trans h3)); have t0 : W3.cell? ⟨g, 0, none⟩ = some (.string ep) := (blk_cell B3.out 0).trans rfl; have t1 : W3.cell? ⟨g, 1, none⟩ = some (.int .i64 3) := (blk_cell B3.out 1).trans rfl; have t2 : W3.cell? ⟨g, 2, none⟩ = some (.bool ex) := (blk_cell B3.out 2).trans rfl; have t3 : W3.cell? ⟨g, 3, none⟩ = some (.string ed) := (blk_cell B3.out 3).trans rfl)
      | (go_at_call 72; refine (HF.out _ (H2.out.below ((Below.refl _ W2).drew.trans h3)) (S2.out.trans (Stays.of_below ((Below.refl _ W2).drew.trans h3) (Nat.le_of_lt H2.out.lt)))).mono ?_; rintro x W4 ⟨rfl, h4, s4⟩; have H4 := Aside0.mk h4; have S4 := Aside0.mk ((S2.out.trans (Stays.of_below ((Below.refl _ W2).drew.trans h3) (Nat.le_of_lt H2.out.lt))).trans s4); clear h4 s4))
    all_goals
      clear x0 x1 x2 x3 t0 t1 t2 t3 hlook hm hge h3 B3 HF
      go_wp2_with (go_at_call 40; go_loud (refine (put_calls _ b (some ad) l.length c i2 (xs ++ [tOpen, tType] ++ T) [tShut] (wr_alloc H4.out _) W4.heap.size 1 1 rfl ?hc ?hl).mono ?_); (case hc => exact lit_cells _ [tShut] _ rfl); (case hl => simp; omega); rintro x W5 ⟨rfl, h9, s9⟩; have H5 := Aside0.mk h9; have S5 := Aside0.mk ((stays_alloc S4.out (Nat.le_of_lt H4.out.lt) _).trans s9); clear h9 s9)
      go_end0
      exact ⟨rfl, H5.out, S5.out⟩
end Go.Proofs.YtlcaogiljiieaaaX
