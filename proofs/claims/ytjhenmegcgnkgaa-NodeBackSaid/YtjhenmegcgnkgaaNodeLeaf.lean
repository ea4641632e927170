/- node.Check: the walk of a leaf, and of a number that may not be. -/
import Derived.Test.YtjhenmegcgnkgaaNodeCheck
set_option linter.unusedVariables false
set_option linter.unusedSimpArgs false
namespace Go.Proofs.YtjhenmegcgnkgaaX
open Go.RowKit Go.Proofs.YtjhenmegcgnkgaaW.PrintWords Go.Proofs.YtjhenmegcgnkgaaW.PrintLast Go.Proofs.YtjhenmegcgnkgaaW.PrintMore

set_option maxHeartbeats 4000000 in
set_option maxRecDepth 100000 in
theorem check_bad (leaf : Bool) (A1 : Option Addr) (n1 c1 : Nat) (A2 : Option Addr) (n2 c2 : Nat) (A3 : Option Addr) (n3 c3 : Nat) (bytes : Int) (w : World) (room e : Int) (hm : MostIs bytes room e) (he : (e != 0) = true) :
    Calls Try.prog 10 #[nodeV leaf A1 n1 c1 A2 n2 c2 A3 n3 c3, .int .i64 bytes] w fun x w' => x = .returned (.int .i64 e) ∧ Below w.heap.size w w' := by
  unfold nodeV at *
  go_enter Try.func10, Try.ntmps10
  go_wp2_with (first
    | ((with_reducible refine gate_dst (N := 2) rfl ?_); refine box_event ?hg (N := 2) ?hd (cs := #[.bool leaf, .slice A1 n1 c1, .slice A2 n2 c2, .slice A3 n3 c3]) (t := 26) ?hr ?_; (case hd => rfl); (case hg => rfl); (case hr => first | (go_simp; done) | (go_simp; rfl)); intro b hb0 W0 hbx hbb; have BB0 := Aside0.mk hbb; clear hbx hbb hb0)
    | (go_at_call 12; refine (hm _).mono ?_; rintro e W1 ⟨rfl, h1⟩; have BB1 := Aside0.mk (below_step BB0.out h1); clear h1)
    | ((with_reducible refine gate_dst (N := 5) rfl ?_); refine box_event ?hg (N := 5) ?hd (cs := #[.int .i64 0]) (t := 3) ?hr ?_; (case hd => rfl); (case hg => rfl); (case hr => first | (go_simp; done) | (go_simp; rfl)); intro g hg0 W2 hgx hgb; have BB2 := Aside0.mk (below_step BB1.out hgb); have GW := Aside0.mk (show w.heap.size ≤ g by rw [hg0]; exact BB1.out.size); have fr := blk_frozen hgx 0; have p0 : W2.cell? ⟨g, 0, none⟩ = some (.int .i64 0) := (blk_cell hgx 0).trans rfl; clear hgx hgb hg0))
  go_ret
  exact ⟨rfl, below_set BB2.out GW.out⟩

theorem cell_lt {w : World} {a : Addr} {v : Value} (h : w.cell? a = some v) : a.block < w.heap.size := by
  rcases Nat.lt_or_ge a.block w.heap.size with hl | hl
  · exact hl
  · have : w.heap[a.block]? = none := Array.getElem?_eq_none hl
    simp [World.cell?, this] at h
theorem info_str : (Try.prog.info? 9).map (fun i => (i.zero, i.size, i.bytes)) = some (some (.string ⟨#[]⟩), 1, 16) := by kernel_rfl
theorem addr_next (ad : Addr) (n : Nat) : ({ block := (ad.add n).block, off := (ad.add n).off + 1 } : Addr) = ad.add (n + 1) := by
  unfold Addr.add
  by_cases h0 : n = 0
  · simp [h0]
  · simp [h0]
    omega
def PairsAt (w : World) (A : Option Addr) (ps : List (ByteArray × ByteArray)) : Prop := ∀ (i : Nat) (h : i < ps.length), ∃ ad, A = some ad ∧ w.cell? (ad.add (i * 2)) = some (.string ps[i].1) ∧ w.cell? (ad.add (i * 2 + 1)) = some (.string ps[i].2)
def pairOk (room : Int) (p : ByteArray × ByteArray) : Bool := decide ((p.2.size : Int) ≤ 255) && decide (wrap64 ((p.1.size : Int) + (p.2.size : Int)) ≤ room)

set_option maxHeartbeats 4000000 in
set_option maxRecDepth 100000 in
theorem check_leaf (A1 : Option Addr) (c1 : Nat) (ps : List (ByteArray × ByteArray)) (A2 : Option Addr) (c2 : Nat) (ks : List ByteArray) (A3 : Option Addr) (c3 : Nat) (cs : List Int) (bytes : Int) (w : World)
    (hP0 : PairsAt w A1 ps) (hp : ps.length ≤ c1) (hpb : ps.length ≤ 1000000) (hC0 : Kd.C (Kd.int .i64) w A3 cs.length cs) (hc : cs.length ≤ c3) (hkb : ks.length ≤ 1000000) (hcb : cs.length ≤ 1000000)
    (room : Int) (hm : MostIs bytes room 0) (ri : Bool) (hr : RiseIs (ps.map (·.1)) ri) (sz : Int) (hs : SizeIs w (nodeV true A1 ps.length c1 A2 ks.length c2 A3 cs.length c3) sz)
    (code : Int) (hcode : code = if cs.length + ks.length = 0 ∧ (ps.all (pairOk room)) = true ∧ ri = true ∧ ((ps.map (·.1)).any fun x => longB x room) = false then (if sz > bytes then 2 else 0) else 1) :
    Calls Try.prog 10 #[nodeV true A1 ps.length c1 A2 ks.length c2 A3 cs.length c3, .int .i64 bytes] w fun x w' => x = .returned (.int .i64 code) ∧ Below w.heap.size w w' := by
  unfold nodeV at *
  have hmf : ∀ (fn : Fn) (first cap : Array Value) (w : World), (Instr.makeFunc fn first cap).run Try.prog w = .ok (.func fn first cap) w := fun _ _ _ _ => rfl
  have HCODE := Aside0.mk hcode
  clear hcode
  have hP := Aside0.mk hP0
  have hC := Aside0.mk hC0
  clear hP0 hC0
  have hw : wrap64 ((ks.length : Int) + 1) = (ks.length : Int) + 1 := w64 (by omega) (by omega)
  have hw2 : wrap64 ((cs.length : Int) + (ks.length : Int)) = (cs.length : Int) + (ks.length : Int) := w64 (by omega) (by omega)
  cases hok : (((cs.length : Int) + (ks.length : Int)) == 0)
  · have HOK := Aside0.mk (show ¬ cs.length + ks.length = 0 from fun h => by rw [beq_eq_false_iff_ne] at hok; omega)
    go_enter Try.func10, Try.ntmps10
    cases hp1 : ((ps.length : Int) == 0)
    · cases hl1 : ((cs.length : Int) == (ks.length : Int) + 1)
      · go_wp2_with (first
        | ((with_reducible refine gate_dst (N := 2) rfl ?_); refine box_event ?hg (N := 2) ?hd (cs := #[.bool true, .slice A1 ps.length c1, .slice A2 ks.length c2, .slice A3 cs.length c3]) (t := 26) ?hr ?_; (case hd => rfl); (case hg => rfl); (case hr => first | (go_simp; done) | (go_simp; rfl)); intro b hb0 W0 hbx hbb; have BN0 := Aside0.mk hbx; have BB0 := Aside0.mk hbb; have BW := Aside0.mk (show w.heap.size ≤ b by rw [hb0]; exact Nat.le_refl _); clear hbx hbb hb0)
        | (go_at_call 12; refine (hm _).mono ?_; rintro e W1 ⟨rfl, h1⟩; have BN1 := Aside0.mk (blk_below BN0.out h1); have BB1 := Aside0.mk (below_step BB0.out h1); clear h1)
        | ((with_reducible refine gate_dst (N := 5) rfl ?_); refine box_event ?hg (N := 5) ?hd (cs := #[.int .i64 0]) (t := 3) ?hr ?_; (case hd => rfl); (case hg => rfl); (case hr => first | (go_simp; done) | (go_simp; rfl)); intro g hg0 W2 hgx hgb; have BN2 := Aside0.mk (blk_below BN1.out hgb); have BG2 := Aside0.mk hgx; have BB2 := Aside0.mk (below_step BB1.out hgb); have GW := Aside0.mk (show w.heap.size ≤ g by rw [hg0]; exact BB1.out.size); have NE := Aside0.mk (blk_ne BN2.out BG2.out (by decide)); have NE2 := Aside0.mk NE.out.symm; have fr := blk_frozen hgx 0; have p0 : W2.cell? ⟨g, 0, none⟩ = some (.int .i64 0) := (blk_cell hgx 0).trans rfl; clear hgx hgb hg0; have s0 : W2.cell? ⟨b, 0, none⟩ = some (.bool true) := (blk_cell BN2.out 0).trans rfl; have s1 : W2.cell? ⟨b, 1, none⟩ = some (.slice A1 ps.length c1) := (blk_cell BN2.out 1).trans rfl; have s2 : W2.cell? ⟨b, 2, none⟩ = some (.slice A2 ks.length c2) := (blk_cell BN2.out 2).trans rfl; have s3 : W2.cell? ⟨b, 3, none⟩ = some (.slice A3 cs.length c3) := (blk_cell BN2.out 3).trans rfl; have ne1 := NE.out; have ne2 := NE2.out))
        go_loopw [7, 8, 10, 48, 49, 50, 51, 52, 53, 54, 55, 56, 57, 58, 59, 60, 61, 62, 63, 64, 65, 66, 67, 68, 69, 70, 71, 72, 73, 74, 75] (fun v7 v8 _ v48 _ _ _ _ _ _ _ _ _ _ _ _ _ _ _ _ _ _ _ _ _ _ _ _ _ _ _ wx => ∃ i : Nat, i ≤ ps.length ∧ v48 = .int .i64 i ∧ Kd.R Kd.string 9 wx w.heap.size (fun k => k ≠ b ∧ k ≠ g) v7 ((ps.take i).map (·.1)) ∧ v8 = .bool false ∧
          wx.heap[b]? = some (.cells #[.bool true, .slice A1 ps.length c1, .slice A2 ks.length c2, .slice A3 cs.length c3] 26 (0, 0)) ∧ wx.heap[g]? = some (.cells #[.int .i64 room] 3 (0, 0)) ∧ Below w.heap.size w wx) (fun _ _ _ v48 _ _ _ _ _ _ _ _ _ _ _ _ _ _ _ _ _ _ _ _ _ _ _ _ _ _ _ wx => ps.length - (intOf v48).toNat)
        case atStart => exact ⟨0, Nat.zero_le _, rfl, Kd.R_nil _ _ _ _ _, rfl, blk_far BN2.out (p := ⟨g, 0, none⟩) NE.out _, blk_set BG2.out 0 (.int .i64 room), below_set BB2.out GW.out⟩
        case round =>
          obtain ⟨i, hi, rfl, hR, rfl, hbn, hbg, hbb⟩ := hrel
          have HR := Aside0.mk hR
          have HBN := Aside0.mk hbn
          have HBG := Aside0.mk hbg
          have HBB := Aside0.mk hbb
          clear hR hbn hbg hbb s0 s1 s2 s3 p0 fr
          by_cases hlt : i < ps.length
          · have hd : decide ((i : Int) < (ps.length : Int)) = true := decide_eq_true (by omega)
            obtain ⟨ad, hA, q0, q1⟩ := hP.out i hlt
            have r0 := (HBB.out.cell (p := ad.add (i * 2)) (cell_lt q0)).trans q0
            have r1 := (HBB.out.cell (p := ad.add (i * 2 + 1)) (cell_lt q1)).trans q1
            obtain ⟨K, hKe⟩ : ∃ K, ps[i].1 = K := ⟨_, rfl⟩
            obtain ⟨V, hVe⟩ : ∃ V, ps[i].2 = V := ⟨_, rfl⟩
            rw [hKe] at r0
            rw [hVe] at r1
            have r2 : wr.cell? { block := (ad.add (i * 2)).block, off := (ad.add (i * 2)).off + 1 } = some (.string V) := (congrArg wr.cell? (addr_next ad (i * 2))).trans r1
            have HKE := Aside0.mk hKe
            have HVE := Aside0.mk hVe
            clear q0 q1 hKe hVe
            subst hA
            have hwi : wrap64 ((i : Int) + 1) = ((i + 1 : Nat) : Int) := by rw [w64 (by omega) (by omega)]; omega
            have hwi2 : ((i + 1 : Nat) : Int) = (i : Int) + 1 := by omega
            have hmap : (ps.take (i + 1)).map (·.1) = (ps.take i).map (·.1) ++ [K] := by rw [List.take_add_one, List.getElem?_eq_getElem hlt, List.map_append]; simp [HKE.out]
            have hall : (ps.take (i + 1)).all (pairOk room) = ((ps.take i).all (pairOk room) && (decide ((V.size : Int) ≤ 255) && decide (wrap64 ((K.size : Int) + (V.size : Int)) ≤ room))) := by rw [List.take_add_one, List.getElem?_eq_getElem hlt, List.all_append]; simp [pairOk, HKE.out, HVE.out]
            have HMAP := Aside0.mk hmap
            have HALL := Aside0.mk hall
            have HWI := Aside0.mk hwi
            clear hmap hall
            go_wp2_with (first
              | ((with_reducible refine gate_dst (N := 10) rfl ?_); refine box_event ?hg (N := 10) ?hd (cs := #[.string ⟨#[]⟩, .string ⟨#[]⟩]) (t := 42) ?hr ?_; (case hd => rfl); (case hg => rfl); (case hr => first | (go_simp; done) | (go_simp; rfl)); intro p hp0 Wp hpx hpb; have HPB := Aside0.mk hpb; have HPX := Aside0.mk hpx; have PW := Aside0.mk (show wr.heap.size ≤ p by rw [hp0]; exact Nat.le_refl _); have t0 : Wp.cell? ⟨p, 0, none⟩ = some (.string ⟨#[]⟩) := (blk_cell hpx 0).trans rfl; have t1 : Wp.cell? ⟨p, 1, none⟩ = some (.string ⟨#[]⟩) := (blk_cell hpx 1).trans rfl; have f0 := blk_frozen hpx 0; have f1 := blk_frozen hpx 1; clear hpx hpb hp0)
              | ((with_reducible refine gate_builtin (b := .append) (xs := #[.tmp 52, .tmp 55]) rfl ?_); at_builtin; go_loud (refine Kd.R_append Kd.string (w0 := w) w.heap.size rfl (.tmp 52) (.tmp 55) 23 9 (.string ⟨#[]⟩) 16 rfl Try.underlying23 info_str rfl (by decide) (by omega) u7 ((ps.take i).map (·.1)) K [.string K] (fun k => k ≠ b ∧ k ≠ g) (fun _ => False) rfl (by first | rfl | (go_simp; done) | (go_simp; rfl)) ?aP (fun _ hk => hk.elim) ?aF ?aO ?aB ?aS ?aL ?_); (case aP => exact rfl); (case aO => go_loud (exact Kd.R_below HR.out ((HPB.out.setCell PW.out _).setCell PW.out _))); (case aB => exact below_step HBB.out ((HPB.out.setCell PW.out _).setCell PW.out _)); (case aS => exact (below_step HBB.out ((HPB.out.setCell PW.out _).setCell PW.out _)).size); (case aF => exact fun k hk => by have h1 := blk_lt HBN.out; have h2 := blk_lt HBG.out; have h3 := ((HPB.out.setCell (p := ⟨p, 0, none⟩) PW.out (.string K)).setCell (p := ⟨p, 1, none⟩) PW.out (.string V)).size; omega); (case aL => rw [List.length_map, List.length_take]; omega); intro v1 w5 ho hb5 hg5 hat5; have BS := ((HPB.out.setCell (p := ⟨p, 0, none⟩) PW.out (.string K)).setCell (p := ⟨p, 1, none⟩) PW.out (.string V)); have BN5 := Aside0.mk (blk_grown (blk_below HBN.out BS) hg5 (fun e => (HR.out.1 b e.symm).1 rfl)); have BG5 := Aside0.mk (blk_grown (blk_below HBG.out BS) hg5 (fun e => (HR.out.1 g e.symm).2 rfl)); have BP5 := Aside0.mk (blk_grown (blk_set (blk_set HPX.out 0 (.string K)) 1 (.string V)) hg5 (fun e => by have h1 := Kd.R_lt HR.out p e.symm; have h2 := PW.out; omega)); have HR5 := Aside0.mk ho; have HB5 := Aside0.mk hb5; clear ho hb5 hg5 hat5 BS t0 t1 f0 f1; have t0 : w5.cell? ⟨p, 0, none⟩ = some (.string K) := (blk_cell BP5.out 0).trans rfl; have t1 : w5.cell? ⟨p, 1, none⟩ = some (.string V) := (blk_cell BP5.out 1).trans rfl; have p0 : w5.cell? ⟨g, 0, none⟩ = some (.int .i64 room) := (blk_cell BG5.out 0).trans rfl))
            go_roundw
            case rel => exact ⟨i + 1, by omega, by first | rfl | (rw [HWI.out]; rfl), by rw [HMAP.out]; exact HR5.out, rfl, BN5.out, BG5.out, HB5.out⟩
            case measure => simp [intOf]; omega
          · have hie : i = ps.length := by omega
            have hd : decide ((i : Int) < (ps.length : Int)) = false := decide_eq_false (by omega)
            have hR2 := HR.out
            rw [hie, List.take_length] at hR2
            obtain ⟨A, n, e7, hnn, hck⟩ := Kd.R_reads hR2
            subst e7
            have HCK := Aside0.mk hck
            have HNN := Aside0.mk hnn
            have hrr := hr wr A n hck hnn
            rw [List.length_map] at hrr
            have HRR := Aside0.mk hrr
            clear hR2 hck hnn HR hrr
            have s0 : wr.cell? ⟨b, 0, none⟩ = some (.bool true) := (blk_cell HBN.out 0).trans rfl
            have s1 : wr.cell? ⟨b, 1, none⟩ = some (.slice A1 ps.length c1) := (blk_cell HBN.out 1).trans rfl
            have s2 : wr.cell? ⟨b, 2, none⟩ = some (.slice A2 ks.length c2) := (blk_cell HBN.out 2).trans rfl
            have s3 : wr.cell? ⟨b, 3, none⟩ = some (.slice A3 cs.length c3) := (blk_cell HBN.out 3).trans rfl
            have p0 : wr.cell? ⟨g, 0, none⟩ = some (.int .i64 room) := (blk_cell HBG.out 0).trans rfl
            go_wp2_with (first | (go_at_call 24; refine HRR.out.mono ?_; rintro e W4 ⟨rfl, h4⟩; have BN4 := Aside0.mk (blk_below HBN.out h4); have BG4 := Aside0.mk (blk_below HBG.out h4); have BB4 := Aside0.mk (below_step HBB.out h4); have HCK4 := Aside0.mk (Kd.C_below HCK.out h4); clear h4 s0 s1 s2 s3 p0; have s0 : W4.cell? ⟨b, 0, none⟩ = some (.bool true) := (blk_cell BN4.out 0).trans rfl; have s1 : W4.cell? ⟨b, 1, none⟩ = some (.slice A1 ps.length c1) := (blk_cell BN4.out 1).trans rfl; have s2 : W4.cell? ⟨b, 2, none⟩ = some (.slice A2 ks.length c2) := (blk_cell BN4.out 2).trans rfl; have s3 : W4.cell? ⟨b, 3, none⟩ = some (.slice A3 cs.length c3) := (blk_cell BN4.out 3).trans rfl; have p0 : W4.cell? ⟨g, 0, none⟩ = some (.int .i64 room) := (blk_cell BG4.out 0).trans rfl) | (go_at_call 25; have hcc := containsStr_calls A n (ps.map (·.1)) g room W4 p0 HCK4.out HNN.out (by rw [List.length_map]; omega); rw [List.length_map] at hcc; refine hcc.mono ?_; clear hcc; rintro e w5 ⟨rfl, h5⟩; rw [h5, hA1]) | (go_at_call 27; refine (containsInt_calls A3 c3 cs W4 (Kd.C_below hC.out BB4.out) hc (by omega)).mono ?_; rintro e w5 ⟨rfl, h5⟩; rw [h5, hA2]) | (go_at_call 13; refine (hs W4 BB4.out).mono ?_; rintro e W6 ⟨rfl, h6⟩; have BB6 := Aside0.mk (below_step BB4.out h6)))
            go_ret
            exact ⟨by rw [HCODE.out, if_neg (fun h => HOK.out h.1)]; rfl, HBB.out⟩
      · go_wp2_with (first
        | ((with_reducible refine gate_dst (N := 2) rfl ?_); refine box_event ?hg (N := 2) ?hd (cs := #[.bool true, .slice A1 ps.length c1, .slice A2 ks.length c2, .slice A3 cs.length c3]) (t := 26) ?hr ?_; (case hd => rfl); (case hg => rfl); (case hr => first | (go_simp; done) | (go_simp; rfl)); intro b hb0 W0 hbx hbb; have BN0 := Aside0.mk hbx; have BB0 := Aside0.mk hbb; have BW := Aside0.mk (show w.heap.size ≤ b by rw [hb0]; exact Nat.le_refl _); clear hbx hbb hb0)
        | (go_at_call 12; refine (hm _).mono ?_; rintro e W1 ⟨rfl, h1⟩; have BN1 := Aside0.mk (blk_below BN0.out h1); have BB1 := Aside0.mk (below_step BB0.out h1); clear h1)
        | ((with_reducible refine gate_dst (N := 5) rfl ?_); refine box_event ?hg (N := 5) ?hd (cs := #[.int .i64 0]) (t := 3) ?hr ?_; (case hd => rfl); (case hg => rfl); (case hr => first | (go_simp; done) | (go_simp; rfl)); intro g hg0 W2 hgx hgb; have BN2 := Aside0.mk (blk_below BN1.out hgb); have BG2 := Aside0.mk hgx; have BB2 := Aside0.mk (below_step BB1.out hgb); have GW := Aside0.mk (show w.heap.size ≤ g by rw [hg0]; exact BB1.out.size); have NE := Aside0.mk (blk_ne BN2.out BG2.out (by decide)); have NE2 := Aside0.mk NE.out.symm; have fr := blk_frozen hgx 0; have p0 : W2.cell? ⟨g, 0, none⟩ = some (.int .i64 0) := (blk_cell hgx 0).trans rfl; clear hgx hgb hg0; have s0 : W2.cell? ⟨b, 0, none⟩ = some (.bool true) := (blk_cell BN2.out 0).trans rfl; have s1 : W2.cell? ⟨b, 1, none⟩ = some (.slice A1 ps.length c1) := (blk_cell BN2.out 1).trans rfl; have s2 : W2.cell? ⟨b, 2, none⟩ = some (.slice A2 ks.length c2) := (blk_cell BN2.out 2).trans rfl; have s3 : W2.cell? ⟨b, 3, none⟩ = some (.slice A3 cs.length c3) := (blk_cell BN2.out 3).trans rfl; have ne1 := NE.out; have ne2 := NE2.out))
        go_loopw [7, 8, 10, 48, 49, 50, 51, 52, 53, 54, 55, 56, 57, 58, 59, 60, 61, 62, 63, 64, 65, 66, 67, 68, 69, 70, 71, 72, 73, 74, 75] (fun v7 v8 _ v48 _ _ _ _ _ _ _ _ _ _ _ _ _ _ _ _ _ _ _ _ _ _ _ _ _ _ _ wx => ∃ i : Nat, i ≤ ps.length ∧ v48 = .int .i64 i ∧ Kd.R Kd.string 9 wx w.heap.size (fun k => k ≠ b ∧ k ≠ g) v7 ((ps.take i).map (·.1)) ∧ v8 = .bool false ∧
          wx.heap[b]? = some (.cells #[.bool true, .slice A1 ps.length c1, .slice A2 ks.length c2, .slice A3 cs.length c3] 26 (0, 0)) ∧ wx.heap[g]? = some (.cells #[.int .i64 room] 3 (0, 0)) ∧ Below w.heap.size w wx) (fun _ _ _ v48 _ _ _ _ _ _ _ _ _ _ _ _ _ _ _ _ _ _ _ _ _ _ _ _ _ _ _ wx => ps.length - (intOf v48).toNat)
        case atStart => exact ⟨0, Nat.zero_le _, rfl, Kd.R_nil _ _ _ _ _, rfl, blk_far BN2.out (p := ⟨g, 0, none⟩) NE.out _, blk_set BG2.out 0 (.int .i64 room), below_set BB2.out GW.out⟩
        case round =>
          obtain ⟨i, hi, rfl, hR, rfl, hbn, hbg, hbb⟩ := hrel
          have HR := Aside0.mk hR
          have HBN := Aside0.mk hbn
          have HBG := Aside0.mk hbg
          have HBB := Aside0.mk hbb
          clear hR hbn hbg hbb s0 s1 s2 s3 p0 fr
          by_cases hlt : i < ps.length
          · have hd : decide ((i : Int) < (ps.length : Int)) = true := decide_eq_true (by omega)
            obtain ⟨ad, hA, q0, q1⟩ := hP.out i hlt
            have r0 := (HBB.out.cell (p := ad.add (i * 2)) (cell_lt q0)).trans q0
            have r1 := (HBB.out.cell (p := ad.add (i * 2 + 1)) (cell_lt q1)).trans q1
            obtain ⟨K, hKe⟩ : ∃ K, ps[i].1 = K := ⟨_, rfl⟩
            obtain ⟨V, hVe⟩ : ∃ V, ps[i].2 = V := ⟨_, rfl⟩
            rw [hKe] at r0
            rw [hVe] at r1
            have r2 : wr.cell? { block := (ad.add (i * 2)).block, off := (ad.add (i * 2)).off + 1 } = some (.string V) := (congrArg wr.cell? (addr_next ad (i * 2))).trans r1
            have HKE := Aside0.mk hKe
            have HVE := Aside0.mk hVe
            clear q0 q1 hKe hVe
            subst hA
            have hwi : wrap64 ((i : Int) + 1) = ((i + 1 : Nat) : Int) := by rw [w64 (by omega) (by omega)]; omega
            have hwi2 : ((i + 1 : Nat) : Int) = (i : Int) + 1 := by omega
            have hmap : (ps.take (i + 1)).map (·.1) = (ps.take i).map (·.1) ++ [K] := by rw [List.take_add_one, List.getElem?_eq_getElem hlt, List.map_append]; simp [HKE.out]
            have hall : (ps.take (i + 1)).all (pairOk room) = ((ps.take i).all (pairOk room) && (decide ((V.size : Int) ≤ 255) && decide (wrap64 ((K.size : Int) + (V.size : Int)) ≤ room))) := by rw [List.take_add_one, List.getElem?_eq_getElem hlt, List.all_append]; simp [pairOk, HKE.out, HVE.out]
            have HMAP := Aside0.mk hmap
            have HALL := Aside0.mk hall
            have HWI := Aside0.mk hwi
            clear hmap hall
            go_wp2_with (first
              | ((with_reducible refine gate_dst (N := 10) rfl ?_); refine box_event ?hg (N := 10) ?hd (cs := #[.string ⟨#[]⟩, .string ⟨#[]⟩]) (t := 42) ?hr ?_; (case hd => rfl); (case hg => rfl); (case hr => first | (go_simp; done) | (go_simp; rfl)); intro p hp0 Wp hpx hpb; have HPB := Aside0.mk hpb; have HPX := Aside0.mk hpx; have PW := Aside0.mk (show wr.heap.size ≤ p by rw [hp0]; exact Nat.le_refl _); have t0 : Wp.cell? ⟨p, 0, none⟩ = some (.string ⟨#[]⟩) := (blk_cell hpx 0).trans rfl; have t1 : Wp.cell? ⟨p, 1, none⟩ = some (.string ⟨#[]⟩) := (blk_cell hpx 1).trans rfl; have f0 := blk_frozen hpx 0; have f1 := blk_frozen hpx 1; clear hpx hpb hp0)
              | ((with_reducible refine gate_builtin (b := .append) (xs := #[.tmp 52, .tmp 55]) rfl ?_); at_builtin; go_loud (refine Kd.R_append Kd.string (w0 := w) w.heap.size rfl (.tmp 52) (.tmp 55) 23 9 (.string ⟨#[]⟩) 16 rfl Try.underlying23 info_str rfl (by decide) (by omega) u7 ((ps.take i).map (·.1)) K [.string K] (fun k => k ≠ b ∧ k ≠ g) (fun _ => False) rfl (by first | rfl | (go_simp; done) | (go_simp; rfl)) ?aP (fun _ hk => hk.elim) ?aF ?aO ?aB ?aS ?aL ?_); (case aP => exact rfl); (case aO => go_loud (exact Kd.R_below HR.out ((HPB.out.setCell PW.out _).setCell PW.out _))); (case aB => exact below_step HBB.out ((HPB.out.setCell PW.out _).setCell PW.out _)); (case aS => exact (below_step HBB.out ((HPB.out.setCell PW.out _).setCell PW.out _)).size); (case aF => exact fun k hk => by have h1 := blk_lt HBN.out; have h2 := blk_lt HBG.out; have h3 := ((HPB.out.setCell (p := ⟨p, 0, none⟩) PW.out (.string K)).setCell (p := ⟨p, 1, none⟩) PW.out (.string V)).size; omega); (case aL => rw [List.length_map, List.length_take]; omega); intro v1 w5 ho hb5 hg5 hat5; have BS := ((HPB.out.setCell (p := ⟨p, 0, none⟩) PW.out (.string K)).setCell (p := ⟨p, 1, none⟩) PW.out (.string V)); have BN5 := Aside0.mk (blk_grown (blk_below HBN.out BS) hg5 (fun e => (HR.out.1 b e.symm).1 rfl)); have BG5 := Aside0.mk (blk_grown (blk_below HBG.out BS) hg5 (fun e => (HR.out.1 g e.symm).2 rfl)); have BP5 := Aside0.mk (blk_grown (blk_set (blk_set HPX.out 0 (.string K)) 1 (.string V)) hg5 (fun e => by have h1 := Kd.R_lt HR.out p e.symm; have h2 := PW.out; omega)); have HR5 := Aside0.mk ho; have HB5 := Aside0.mk hb5; clear ho hb5 hg5 hat5 BS t0 t1 f0 f1; have t0 : w5.cell? ⟨p, 0, none⟩ = some (.string K) := (blk_cell BP5.out 0).trans rfl; have t1 : w5.cell? ⟨p, 1, none⟩ = some (.string V) := (blk_cell BP5.out 1).trans rfl; have p0 : w5.cell? ⟨g, 0, none⟩ = some (.int .i64 room) := (blk_cell BG5.out 0).trans rfl))
            go_roundw
            case rel => exact ⟨i + 1, by omega, by first | rfl | (rw [HWI.out]; rfl), by rw [HMAP.out]; exact HR5.out, rfl, BN5.out, BG5.out, HB5.out⟩
            case measure => simp [intOf]; omega
          · have hie : i = ps.length := by omega
            have hd : decide ((i : Int) < (ps.length : Int)) = false := decide_eq_false (by omega)
            have hR2 := HR.out
            rw [hie, List.take_length] at hR2
            obtain ⟨A, n, e7, hnn, hck⟩ := Kd.R_reads hR2
            subst e7
            have HCK := Aside0.mk hck
            have HNN := Aside0.mk hnn
            have hrr := hr wr A n hck hnn
            rw [List.length_map] at hrr
            have HRR := Aside0.mk hrr
            clear hR2 hck hnn HR hrr
            have s0 : wr.cell? ⟨b, 0, none⟩ = some (.bool true) := (blk_cell HBN.out 0).trans rfl
            have s1 : wr.cell? ⟨b, 1, none⟩ = some (.slice A1 ps.length c1) := (blk_cell HBN.out 1).trans rfl
            have s2 : wr.cell? ⟨b, 2, none⟩ = some (.slice A2 ks.length c2) := (blk_cell HBN.out 2).trans rfl
            have s3 : wr.cell? ⟨b, 3, none⟩ = some (.slice A3 cs.length c3) := (blk_cell HBN.out 3).trans rfl
            have p0 : wr.cell? ⟨g, 0, none⟩ = some (.int .i64 room) := (blk_cell HBG.out 0).trans rfl
            go_wp2_with (first | (go_at_call 24; refine HRR.out.mono ?_; rintro e W4 ⟨rfl, h4⟩; have BN4 := Aside0.mk (blk_below HBN.out h4); have BG4 := Aside0.mk (blk_below HBG.out h4); have BB4 := Aside0.mk (below_step HBB.out h4); have HCK4 := Aside0.mk (Kd.C_below HCK.out h4); clear h4 s0 s1 s2 s3 p0; have s0 : W4.cell? ⟨b, 0, none⟩ = some (.bool true) := (blk_cell BN4.out 0).trans rfl; have s1 : W4.cell? ⟨b, 1, none⟩ = some (.slice A1 ps.length c1) := (blk_cell BN4.out 1).trans rfl; have s2 : W4.cell? ⟨b, 2, none⟩ = some (.slice A2 ks.length c2) := (blk_cell BN4.out 2).trans rfl; have s3 : W4.cell? ⟨b, 3, none⟩ = some (.slice A3 cs.length c3) := (blk_cell BN4.out 3).trans rfl; have p0 : W4.cell? ⟨g, 0, none⟩ = some (.int .i64 room) := (blk_cell BG4.out 0).trans rfl) | (go_at_call 25; have hcc := containsStr_calls A n (ps.map (·.1)) g room W4 p0 HCK4.out HNN.out (by rw [List.length_map]; omega); rw [List.length_map] at hcc; refine hcc.mono ?_; clear hcc; rintro e w5 ⟨rfl, h5⟩; rw [h5, hA1]) | (go_at_call 27; refine (containsInt_calls A3 c3 cs W4 (Kd.C_below hC.out BB4.out) hc (by omega)).mono ?_; rintro e w5 ⟨rfl, h5⟩; rw [h5, hA2]) | (go_at_call 13; refine (hs W4 BB4.out).mono ?_; rintro e W6 ⟨rfl, h6⟩; have BB6 := Aside0.mk (below_step BB4.out h6)))
            go_ret
            exact ⟨by rw [HCODE.out, if_neg (fun h => HOK.out h.1)]; rfl, HBB.out⟩
    · cases hl1 : ((cs.length : Int) == (ks.length : Int) + 1)
      · go_wp2_with (first
        | ((with_reducible refine gate_dst (N := 2) rfl ?_); refine box_event ?hg (N := 2) ?hd (cs := #[.bool true, .slice A1 ps.length c1, .slice A2 ks.length c2, .slice A3 cs.length c3]) (t := 26) ?hr ?_; (case hd => rfl); (case hg => rfl); (case hr => first | (go_simp; done) | (go_simp; rfl)); intro b hb0 W0 hbx hbb; have BN0 := Aside0.mk hbx; have BB0 := Aside0.mk hbb; have BW := Aside0.mk (show w.heap.size ≤ b by rw [hb0]; exact Nat.le_refl _); clear hbx hbb hb0)
        | (go_at_call 12; refine (hm _).mono ?_; rintro e W1 ⟨rfl, h1⟩; have BN1 := Aside0.mk (blk_below BN0.out h1); have BB1 := Aside0.mk (below_step BB0.out h1); clear h1)
        | ((with_reducible refine gate_dst (N := 5) rfl ?_); refine box_event ?hg (N := 5) ?hd (cs := #[.int .i64 0]) (t := 3) ?hr ?_; (case hd => rfl); (case hg => rfl); (case hr => first | (go_simp; done) | (go_simp; rfl)); intro g hg0 W2 hgx hgb; have BN2 := Aside0.mk (blk_below BN1.out hgb); have BG2 := Aside0.mk hgx; have BB2 := Aside0.mk (below_step BB1.out hgb); have GW := Aside0.mk (show w.heap.size ≤ g by rw [hg0]; exact BB1.out.size); have NE := Aside0.mk (blk_ne BN2.out BG2.out (by decide)); have NE2 := Aside0.mk NE.out.symm; have fr := blk_frozen hgx 0; have p0 : W2.cell? ⟨g, 0, none⟩ = some (.int .i64 0) := (blk_cell hgx 0).trans rfl; clear hgx hgb hg0; have s0 : W2.cell? ⟨b, 0, none⟩ = some (.bool true) := (blk_cell BN2.out 0).trans rfl; have s1 : W2.cell? ⟨b, 1, none⟩ = some (.slice A1 ps.length c1) := (blk_cell BN2.out 1).trans rfl; have s2 : W2.cell? ⟨b, 2, none⟩ = some (.slice A2 ks.length c2) := (blk_cell BN2.out 2).trans rfl; have s3 : W2.cell? ⟨b, 3, none⟩ = some (.slice A3 cs.length c3) := (blk_cell BN2.out 3).trans rfl; have ne1 := NE.out; have ne2 := NE2.out))
        go_loopw [7, 8, 10, 48, 49, 50, 51, 52, 53, 54, 55, 56, 57, 58, 59, 60, 61, 62, 63, 64, 65, 66, 67, 68, 69, 70, 71, 72, 73, 74, 75] (fun v7 v8 _ v48 _ _ _ _ _ _ _ _ _ _ _ _ _ _ _ _ _ _ _ _ _ _ _ _ _ _ _ wx => ∃ i : Nat, i ≤ ps.length ∧ v48 = .int .i64 i ∧ Kd.R Kd.string 9 wx w.heap.size (fun k => k ≠ b ∧ k ≠ g) v7 ((ps.take i).map (·.1)) ∧ v8 = .bool false ∧
          wx.heap[b]? = some (.cells #[.bool true, .slice A1 ps.length c1, .slice A2 ks.length c2, .slice A3 cs.length c3] 26 (0, 0)) ∧ wx.heap[g]? = some (.cells #[.int .i64 room] 3 (0, 0)) ∧ Below w.heap.size w wx) (fun _ _ _ v48 _ _ _ _ _ _ _ _ _ _ _ _ _ _ _ _ _ _ _ _ _ _ _ _ _ _ _ wx => ps.length - (intOf v48).toNat)
        case atStart => exact ⟨0, Nat.zero_le _, rfl, Kd.R_nil _ _ _ _ _, rfl, blk_far BN2.out (p := ⟨g, 0, none⟩) NE.out _, blk_set BG2.out 0 (.int .i64 room), below_set BB2.out GW.out⟩
        case round =>
          obtain ⟨i, hi, rfl, hR, rfl, hbn, hbg, hbb⟩ := hrel
          have HR := Aside0.mk hR
          have HBN := Aside0.mk hbn
          have HBG := Aside0.mk hbg
          have HBB := Aside0.mk hbb
          clear hR hbn hbg hbb s0 s1 s2 s3 p0 fr
          by_cases hlt : i < ps.length
          · have hd : decide ((i : Int) < (ps.length : Int)) = true := decide_eq_true (by omega)
            obtain ⟨ad, hA, q0, q1⟩ := hP.out i hlt
            have r0 := (HBB.out.cell (p := ad.add (i * 2)) (cell_lt q0)).trans q0
            have r1 := (HBB.out.cell (p := ad.add (i * 2 + 1)) (cell_lt q1)).trans q1
            obtain ⟨K, hKe⟩ : ∃ K, ps[i].1 = K := ⟨_, rfl⟩
            obtain ⟨V, hVe⟩ : ∃ V, ps[i].2 = V := ⟨_, rfl⟩
            rw [hKe] at r0
            rw [hVe] at r1
            have r2 : wr.cell? { block := (ad.add (i * 2)).block, off := (ad.add (i * 2)).off + 1 } = some (.string V) := (congrArg wr.cell? (addr_next ad (i * 2))).trans r1
            have HKE := Aside0.mk hKe
            have HVE := Aside0.mk hVe
            clear q0 q1 hKe hVe
            subst hA
            have hwi : wrap64 ((i : Int) + 1) = ((i + 1 : Nat) : Int) := by rw [w64 (by omega) (by omega)]; omega
            have hwi2 : ((i + 1 : Nat) : Int) = (i : Int) + 1 := by omega
            have hmap : (ps.take (i + 1)).map (·.1) = (ps.take i).map (·.1) ++ [K] := by rw [List.take_add_one, List.getElem?_eq_getElem hlt, List.map_append]; simp [HKE.out]
            have hall : (ps.take (i + 1)).all (pairOk room) = ((ps.take i).all (pairOk room) && (decide ((V.size : Int) ≤ 255) && decide (wrap64 ((K.size : Int) + (V.size : Int)) ≤ room))) := by rw [List.take_add_one, List.getElem?_eq_getElem hlt, List.all_append]; simp [pairOk, HKE.out, HVE.out]
            have HMAP := Aside0.mk hmap
            have HALL := Aside0.mk hall
            have HWI := Aside0.mk hwi
            clear hmap hall
            go_wp2_with (first
              | ((with_reducible refine gate_dst (N := 10) rfl ?_); refine box_event ?hg (N := 10) ?hd (cs := #[.string ⟨#[]⟩, .string ⟨#[]⟩]) (t := 42) ?hr ?_; (case hd => rfl); (case hg => rfl); (case hr => first | (go_simp; done) | (go_simp; rfl)); intro p hp0 Wp hpx hpb; have HPB := Aside0.mk hpb; have HPX := Aside0.mk hpx; have PW := Aside0.mk (show wr.heap.size ≤ p by rw [hp0]; exact Nat.le_refl _); have t0 : Wp.cell? ⟨p, 0, none⟩ = some (.string ⟨#[]⟩) := (blk_cell hpx 0).trans rfl; have t1 : Wp.cell? ⟨p, 1, none⟩ = some (.string ⟨#[]⟩) := (blk_cell hpx 1).trans rfl; have f0 := blk_frozen hpx 0; have f1 := blk_frozen hpx 1; clear hpx hpb hp0)
              | ((with_reducible refine gate_builtin (b := .append) (xs := #[.tmp 52, .tmp 55]) rfl ?_); at_builtin; go_loud (refine Kd.R_append Kd.string (w0 := w) w.heap.size rfl (.tmp 52) (.tmp 55) 23 9 (.string ⟨#[]⟩) 16 rfl Try.underlying23 info_str rfl (by decide) (by omega) u7 ((ps.take i).map (·.1)) K [.string K] (fun k => k ≠ b ∧ k ≠ g) (fun _ => False) rfl (by first | rfl | (go_simp; done) | (go_simp; rfl)) ?aP (fun _ hk => hk.elim) ?aF ?aO ?aB ?aS ?aL ?_); (case aP => exact rfl); (case aO => go_loud (exact Kd.R_below HR.out ((HPB.out.setCell PW.out _).setCell PW.out _))); (case aB => exact below_step HBB.out ((HPB.out.setCell PW.out _).setCell PW.out _)); (case aS => exact (below_step HBB.out ((HPB.out.setCell PW.out _).setCell PW.out _)).size); (case aF => exact fun k hk => by have h1 := blk_lt HBN.out; have h2 := blk_lt HBG.out; have h3 := ((HPB.out.setCell (p := ⟨p, 0, none⟩) PW.out (.string K)).setCell (p := ⟨p, 1, none⟩) PW.out (.string V)).size; omega); (case aL => rw [List.length_map, List.length_take]; omega); intro v1 w5 ho hb5 hg5 hat5; have BS := ((HPB.out.setCell (p := ⟨p, 0, none⟩) PW.out (.string K)).setCell (p := ⟨p, 1, none⟩) PW.out (.string V)); have BN5 := Aside0.mk (blk_grown (blk_below HBN.out BS) hg5 (fun e => (HR.out.1 b e.symm).1 rfl)); have BG5 := Aside0.mk (blk_grown (blk_below HBG.out BS) hg5 (fun e => (HR.out.1 g e.symm).2 rfl)); have BP5 := Aside0.mk (blk_grown (blk_set (blk_set HPX.out 0 (.string K)) 1 (.string V)) hg5 (fun e => by have h1 := Kd.R_lt HR.out p e.symm; have h2 := PW.out; omega)); have HR5 := Aside0.mk ho; have HB5 := Aside0.mk hb5; clear ho hb5 hg5 hat5 BS t0 t1 f0 f1; have t0 : w5.cell? ⟨p, 0, none⟩ = some (.string K) := (blk_cell BP5.out 0).trans rfl; have t1 : w5.cell? ⟨p, 1, none⟩ = some (.string V) := (blk_cell BP5.out 1).trans rfl; have p0 : w5.cell? ⟨g, 0, none⟩ = some (.int .i64 room) := (blk_cell BG5.out 0).trans rfl))
            go_roundw
            case rel => exact ⟨i + 1, by omega, by first | rfl | (rw [HWI.out]; rfl), by rw [HMAP.out]; exact HR5.out, rfl, BN5.out, BG5.out, HB5.out⟩
            case measure => simp [intOf]; omega
          · have hie : i = ps.length := by omega
            have hd : decide ((i : Int) < (ps.length : Int)) = false := decide_eq_false (by omega)
            have hR2 := HR.out
            rw [hie, List.take_length] at hR2
            obtain ⟨A, n, e7, hnn, hck⟩ := Kd.R_reads hR2
            subst e7
            have HCK := Aside0.mk hck
            have HNN := Aside0.mk hnn
            have hrr := hr wr A n hck hnn
            rw [List.length_map] at hrr
            have HRR := Aside0.mk hrr
            clear hR2 hck hnn HR hrr
            have s0 : wr.cell? ⟨b, 0, none⟩ = some (.bool true) := (blk_cell HBN.out 0).trans rfl
            have s1 : wr.cell? ⟨b, 1, none⟩ = some (.slice A1 ps.length c1) := (blk_cell HBN.out 1).trans rfl
            have s2 : wr.cell? ⟨b, 2, none⟩ = some (.slice A2 ks.length c2) := (blk_cell HBN.out 2).trans rfl
            have s3 : wr.cell? ⟨b, 3, none⟩ = some (.slice A3 cs.length c3) := (blk_cell HBN.out 3).trans rfl
            have p0 : wr.cell? ⟨g, 0, none⟩ = some (.int .i64 room) := (blk_cell HBG.out 0).trans rfl
            go_wp2_with (first | (go_at_call 24; refine HRR.out.mono ?_; rintro e W4 ⟨rfl, h4⟩; have BN4 := Aside0.mk (blk_below HBN.out h4); have BG4 := Aside0.mk (blk_below HBG.out h4); have BB4 := Aside0.mk (below_step HBB.out h4); have HCK4 := Aside0.mk (Kd.C_below HCK.out h4); clear h4 s0 s1 s2 s3 p0; have s0 : W4.cell? ⟨b, 0, none⟩ = some (.bool true) := (blk_cell BN4.out 0).trans rfl; have s1 : W4.cell? ⟨b, 1, none⟩ = some (.slice A1 ps.length c1) := (blk_cell BN4.out 1).trans rfl; have s2 : W4.cell? ⟨b, 2, none⟩ = some (.slice A2 ks.length c2) := (blk_cell BN4.out 2).trans rfl; have s3 : W4.cell? ⟨b, 3, none⟩ = some (.slice A3 cs.length c3) := (blk_cell BN4.out 3).trans rfl; have p0 : W4.cell? ⟨g, 0, none⟩ = some (.int .i64 room) := (blk_cell BG4.out 0).trans rfl) | (go_at_call 25; have hcc := containsStr_calls A n (ps.map (·.1)) g room W4 p0 HCK4.out HNN.out (by rw [List.length_map]; omega); rw [List.length_map] at hcc; refine hcc.mono ?_; clear hcc; rintro e w5 ⟨rfl, h5⟩; rw [h5, hA1]) | (go_at_call 27; refine (containsInt_calls A3 c3 cs W4 (Kd.C_below hC.out BB4.out) hc (by omega)).mono ?_; rintro e w5 ⟨rfl, h5⟩; rw [h5, hA2]) | (go_at_call 13; refine (hs W4 BB4.out).mono ?_; rintro e W6 ⟨rfl, h6⟩; have BB6 := Aside0.mk (below_step BB4.out h6)))
            go_ret
            exact ⟨by rw [HCODE.out, if_neg (fun h => HOK.out h.1)]; rfl, HBB.out⟩
      · go_wp2_with (first
        | ((with_reducible refine gate_dst (N := 2) rfl ?_); refine box_event ?hg (N := 2) ?hd (cs := #[.bool true, .slice A1 ps.length c1, .slice A2 ks.length c2, .slice A3 cs.length c3]) (t := 26) ?hr ?_; (case hd => rfl); (case hg => rfl); (case hr => first | (go_simp; done) | (go_simp; rfl)); intro b hb0 W0 hbx hbb; have BN0 := Aside0.mk hbx; have BB0 := Aside0.mk hbb; have BW := Aside0.mk (show w.heap.size ≤ b by rw [hb0]; exact Nat.le_refl _); clear hbx hbb hb0)
        | (go_at_call 12; refine (hm _).mono ?_; rintro e W1 ⟨rfl, h1⟩; have BN1 := Aside0.mk (blk_below BN0.out h1); have BB1 := Aside0.mk (below_step BB0.out h1); clear h1)
        | ((with_reducible refine gate_dst (N := 5) rfl ?_); refine box_event ?hg (N := 5) ?hd (cs := #[.int .i64 0]) (t := 3) ?hr ?_; (case hd => rfl); (case hg => rfl); (case hr => first | (go_simp; done) | (go_simp; rfl)); intro g hg0 W2 hgx hgb; have BN2 := Aside0.mk (blk_below BN1.out hgb); have BG2 := Aside0.mk hgx; have BB2 := Aside0.mk (below_step BB1.out hgb); have GW := Aside0.mk (show w.heap.size ≤ g by rw [hg0]; exact BB1.out.size); have NE := Aside0.mk (blk_ne BN2.out BG2.out (by decide)); have NE2 := Aside0.mk NE.out.symm; have fr := blk_frozen hgx 0; have p0 : W2.cell? ⟨g, 0, none⟩ = some (.int .i64 0) := (blk_cell hgx 0).trans rfl; clear hgx hgb hg0; have s0 : W2.cell? ⟨b, 0, none⟩ = some (.bool true) := (blk_cell BN2.out 0).trans rfl; have s1 : W2.cell? ⟨b, 1, none⟩ = some (.slice A1 ps.length c1) := (blk_cell BN2.out 1).trans rfl; have s2 : W2.cell? ⟨b, 2, none⟩ = some (.slice A2 ks.length c2) := (blk_cell BN2.out 2).trans rfl; have s3 : W2.cell? ⟨b, 3, none⟩ = some (.slice A3 cs.length c3) := (blk_cell BN2.out 3).trans rfl; have ne1 := NE.out; have ne2 := NE2.out))
        go_loopw [7, 8, 10, 48, 49, 50, 51, 52, 53, 54, 55, 56, 57, 58, 59, 60, 61, 62, 63, 64, 65, 66, 67, 68, 69, 70, 71, 72, 73, 74, 75] (fun v7 v8 _ v48 _ _ _ _ _ _ _ _ _ _ _ _ _ _ _ _ _ _ _ _ _ _ _ _ _ _ _ wx => ∃ i : Nat, i ≤ ps.length ∧ v48 = .int .i64 i ∧ Kd.R Kd.string 9 wx w.heap.size (fun k => k ≠ b ∧ k ≠ g) v7 ((ps.take i).map (·.1)) ∧ v8 = .bool false ∧
          wx.heap[b]? = some (.cells #[.bool true, .slice A1 ps.length c1, .slice A2 ks.length c2, .slice A3 cs.length c3] 26 (0, 0)) ∧ wx.heap[g]? = some (.cells #[.int .i64 room] 3 (0, 0)) ∧ Below w.heap.size w wx) (fun _ _ _ v48 _ _ _ _ _ _ _ _ _ _ _ _ _ _ _ _ _ _ _ _ _ _ _ _ _ _ _ wx => ps.length - (intOf v48).toNat)
        case atStart => exact ⟨0, Nat.zero_le _, rfl, Kd.R_nil _ _ _ _ _, rfl, blk_far BN2.out (p := ⟨g, 0, none⟩) NE.out _, blk_set BG2.out 0 (.int .i64 room), below_set BB2.out GW.out⟩
        case round =>
          obtain ⟨i, hi, rfl, hR, rfl, hbn, hbg, hbb⟩ := hrel
          have HR := Aside0.mk hR
          have HBN := Aside0.mk hbn
          have HBG := Aside0.mk hbg
          have HBB := Aside0.mk hbb
          clear hR hbn hbg hbb s0 s1 s2 s3 p0 fr
          by_cases hlt : i < ps.length
          · have hd : decide ((i : Int) < (ps.length : Int)) = true := decide_eq_true (by omega)
            obtain ⟨ad, hA, q0, q1⟩ := hP.out i hlt
            have r0 := (HBB.out.cell (p := ad.add (i * 2)) (cell_lt q0)).trans q0
            have r1 := (HBB.out.cell (p := ad.add (i * 2 + 1)) (cell_lt q1)).trans q1
            obtain ⟨K, hKe⟩ : ∃ K, ps[i].1 = K := ⟨_, rfl⟩
            obtain ⟨V, hVe⟩ : ∃ V, ps[i].2 = V := ⟨_, rfl⟩
            rw [hKe] at r0
            rw [hVe] at r1
            have r2 : wr.cell? { block := (ad.add (i * 2)).block, off := (ad.add (i * 2)).off + 1 } = some (.string V) := (congrArg wr.cell? (addr_next ad (i * 2))).trans r1
            have HKE := Aside0.mk hKe
            have HVE := Aside0.mk hVe
            clear q0 q1 hKe hVe
            subst hA
            have hwi : wrap64 ((i : Int) + 1) = ((i + 1 : Nat) : Int) := by rw [w64 (by omega) (by omega)]; omega
            have hwi2 : ((i + 1 : Nat) : Int) = (i : Int) + 1 := by omega
            have hmap : (ps.take (i + 1)).map (·.1) = (ps.take i).map (·.1) ++ [K] := by rw [List.take_add_one, List.getElem?_eq_getElem hlt, List.map_append]; simp [HKE.out]
            have hall : (ps.take (i + 1)).all (pairOk room) = ((ps.take i).all (pairOk room) && (decide ((V.size : Int) ≤ 255) && decide (wrap64 ((K.size : Int) + (V.size : Int)) ≤ room))) := by rw [List.take_add_one, List.getElem?_eq_getElem hlt, List.all_append]; simp [pairOk, HKE.out, HVE.out]
            have HMAP := Aside0.mk hmap
            have HALL := Aside0.mk hall
            have HWI := Aside0.mk hwi
            clear hmap hall
            go_wp2_with (first
              | ((with_reducible refine gate_dst (N := 10) rfl ?_); refine box_event ?hg (N := 10) ?hd (cs := #[.string ⟨#[]⟩, .string ⟨#[]⟩]) (t := 42) ?hr ?_; (case hd => rfl); (case hg => rfl); (case hr => first | (go_simp; done) | (go_simp; rfl)); intro p hp0 Wp hpx hpb; have HPB := Aside0.mk hpb; have HPX := Aside0.mk hpx; have PW := Aside0.mk (show wr.heap.size ≤ p by rw [hp0]; exact Nat.le_refl _); have t0 : Wp.cell? ⟨p, 0, none⟩ = some (.string ⟨#[]⟩) := (blk_cell hpx 0).trans rfl; have t1 : Wp.cell? ⟨p, 1, none⟩ = some (.string ⟨#[]⟩) := (blk_cell hpx 1).trans rfl; have f0 := blk_frozen hpx 0; have f1 := blk_frozen hpx 1; clear hpx hpb hp0)
              | ((with_reducible refine gate_builtin (b := .append) (xs := #[.tmp 52, .tmp 55]) rfl ?_); at_builtin; go_loud (refine Kd.R_append Kd.string (w0 := w) w.heap.size rfl (.tmp 52) (.tmp 55) 23 9 (.string ⟨#[]⟩) 16 rfl Try.underlying23 info_str rfl (by decide) (by omega) u7 ((ps.take i).map (·.1)) K [.string K] (fun k => k ≠ b ∧ k ≠ g) (fun _ => False) rfl (by first | rfl | (go_simp; done) | (go_simp; rfl)) ?aP (fun _ hk => hk.elim) ?aF ?aO ?aB ?aS ?aL ?_); (case aP => exact rfl); (case aO => go_loud (exact Kd.R_below HR.out ((HPB.out.setCell PW.out _).setCell PW.out _))); (case aB => exact below_step HBB.out ((HPB.out.setCell PW.out _).setCell PW.out _)); (case aS => exact (below_step HBB.out ((HPB.out.setCell PW.out _).setCell PW.out _)).size); (case aF => exact fun k hk => by have h1 := blk_lt HBN.out; have h2 := blk_lt HBG.out; have h3 := ((HPB.out.setCell (p := ⟨p, 0, none⟩) PW.out (.string K)).setCell (p := ⟨p, 1, none⟩) PW.out (.string V)).size; omega); (case aL => rw [List.length_map, List.length_take]; omega); intro v1 w5 ho hb5 hg5 hat5; have BS := ((HPB.out.setCell (p := ⟨p, 0, none⟩) PW.out (.string K)).setCell (p := ⟨p, 1, none⟩) PW.out (.string V)); have BN5 := Aside0.mk (blk_grown (blk_below HBN.out BS) hg5 (fun e => (HR.out.1 b e.symm).1 rfl)); have BG5 := Aside0.mk (blk_grown (blk_below HBG.out BS) hg5 (fun e => (HR.out.1 g e.symm).2 rfl)); have BP5 := Aside0.mk (blk_grown (blk_set (blk_set HPX.out 0 (.string K)) 1 (.string V)) hg5 (fun e => by have h1 := Kd.R_lt HR.out p e.symm; have h2 := PW.out; omega)); have HR5 := Aside0.mk ho; have HB5 := Aside0.mk hb5; clear ho hb5 hg5 hat5 BS t0 t1 f0 f1; have t0 : w5.cell? ⟨p, 0, none⟩ = some (.string K) := (blk_cell BP5.out 0).trans rfl; have t1 : w5.cell? ⟨p, 1, none⟩ = some (.string V) := (blk_cell BP5.out 1).trans rfl; have p0 : w5.cell? ⟨g, 0, none⟩ = some (.int .i64 room) := (blk_cell BG5.out 0).trans rfl))
            go_roundw
            case rel => exact ⟨i + 1, by omega, by first | rfl | (rw [HWI.out]; rfl), by rw [HMAP.out]; exact HR5.out, rfl, BN5.out, BG5.out, HB5.out⟩
            case measure => simp [intOf]; omega
          · have hie : i = ps.length := by omega
            have hd : decide ((i : Int) < (ps.length : Int)) = false := decide_eq_false (by omega)
            have hR2 := HR.out
            rw [hie, List.take_length] at hR2
            obtain ⟨A, n, e7, hnn, hck⟩ := Kd.R_reads hR2
            subst e7
            have HCK := Aside0.mk hck
            have HNN := Aside0.mk hnn
            have hrr := hr wr A n hck hnn
            rw [List.length_map] at hrr
            have HRR := Aside0.mk hrr
            clear hR2 hck hnn HR hrr
            have s0 : wr.cell? ⟨b, 0, none⟩ = some (.bool true) := (blk_cell HBN.out 0).trans rfl
            have s1 : wr.cell? ⟨b, 1, none⟩ = some (.slice A1 ps.length c1) := (blk_cell HBN.out 1).trans rfl
            have s2 : wr.cell? ⟨b, 2, none⟩ = some (.slice A2 ks.length c2) := (blk_cell HBN.out 2).trans rfl
            have s3 : wr.cell? ⟨b, 3, none⟩ = some (.slice A3 cs.length c3) := (blk_cell HBN.out 3).trans rfl
            have p0 : wr.cell? ⟨g, 0, none⟩ = some (.int .i64 room) := (blk_cell HBG.out 0).trans rfl
            go_wp2_with (first | (go_at_call 24; refine HRR.out.mono ?_; rintro e W4 ⟨rfl, h4⟩; have BN4 := Aside0.mk (blk_below HBN.out h4); have BG4 := Aside0.mk (blk_below HBG.out h4); have BB4 := Aside0.mk (below_step HBB.out h4); have HCK4 := Aside0.mk (Kd.C_below HCK.out h4); clear h4 s0 s1 s2 s3 p0; have s0 : W4.cell? ⟨b, 0, none⟩ = some (.bool true) := (blk_cell BN4.out 0).trans rfl; have s1 : W4.cell? ⟨b, 1, none⟩ = some (.slice A1 ps.length c1) := (blk_cell BN4.out 1).trans rfl; have s2 : W4.cell? ⟨b, 2, none⟩ = some (.slice A2 ks.length c2) := (blk_cell BN4.out 2).trans rfl; have s3 : W4.cell? ⟨b, 3, none⟩ = some (.slice A3 cs.length c3) := (blk_cell BN4.out 3).trans rfl; have p0 : W4.cell? ⟨g, 0, none⟩ = some (.int .i64 room) := (blk_cell BG4.out 0).trans rfl) | (go_at_call 25; have hcc := containsStr_calls A n (ps.map (·.1)) g room W4 p0 HCK4.out HNN.out (by rw [List.length_map]; omega); rw [List.length_map] at hcc; refine hcc.mono ?_; clear hcc; rintro e w5 ⟨rfl, h5⟩; rw [h5, hA1]) | (go_at_call 27; refine (containsInt_calls A3 c3 cs W4 (Kd.C_below hC.out BB4.out) hc (by omega)).mono ?_; rintro e w5 ⟨rfl, h5⟩; rw [h5, hA2]) | (go_at_call 13; refine (hs W4 BB4.out).mono ?_; rintro e W6 ⟨rfl, h6⟩; have BB6 := Aside0.mk (below_step BB4.out h6)))
            go_ret
            exact ⟨by rw [HCODE.out, if_neg (fun h => HOK.out h.1)]; rfl, HBB.out⟩
  · go_enter Try.func10, Try.ntmps10
    cases hp1 : ((ps.length : Int) == 0)
    · cases hl1 : ((cs.length : Int) == (ks.length : Int) + 1)
      · go_wp2_with (first
        | ((with_reducible refine gate_dst (N := 2) rfl ?_); refine box_event ?hg (N := 2) ?hd (cs := #[.bool true, .slice A1 ps.length c1, .slice A2 ks.length c2, .slice A3 cs.length c3]) (t := 26) ?hr ?_; (case hd => rfl); (case hg => rfl); (case hr => first | (go_simp; done) | (go_simp; rfl)); intro b hb0 W0 hbx hbb; have BN0 := Aside0.mk hbx; have BB0 := Aside0.mk hbb; have BW := Aside0.mk (show w.heap.size ≤ b by rw [hb0]; exact Nat.le_refl _); clear hbx hbb hb0)
        | (go_at_call 12; refine (hm _).mono ?_; rintro e W1 ⟨rfl, h1⟩; have BN1 := Aside0.mk (blk_below BN0.out h1); have BB1 := Aside0.mk (below_step BB0.out h1); clear h1)
        | ((with_reducible refine gate_dst (N := 5) rfl ?_); refine box_event ?hg (N := 5) ?hd (cs := #[.int .i64 0]) (t := 3) ?hr ?_; (case hd => rfl); (case hg => rfl); (case hr => first | (go_simp; done) | (go_simp; rfl)); intro g hg0 W2 hgx hgb; have BN2 := Aside0.mk (blk_below BN1.out hgb); have BG2 := Aside0.mk hgx; have BB2 := Aside0.mk (below_step BB1.out hgb); have GW := Aside0.mk (show w.heap.size ≤ g by rw [hg0]; exact BB1.out.size); have NE := Aside0.mk (blk_ne BN2.out BG2.out (by decide)); have NE2 := Aside0.mk NE.out.symm; have fr := blk_frozen hgx 0; have p0 : W2.cell? ⟨g, 0, none⟩ = some (.int .i64 0) := (blk_cell hgx 0).trans rfl; clear hgx hgb hg0; have s0 : W2.cell? ⟨b, 0, none⟩ = some (.bool true) := (blk_cell BN2.out 0).trans rfl; have s1 : W2.cell? ⟨b, 1, none⟩ = some (.slice A1 ps.length c1) := (blk_cell BN2.out 1).trans rfl; have s2 : W2.cell? ⟨b, 2, none⟩ = some (.slice A2 ks.length c2) := (blk_cell BN2.out 2).trans rfl; have s3 : W2.cell? ⟨b, 3, none⟩ = some (.slice A3 cs.length c3) := (blk_cell BN2.out 3).trans rfl; have ne1 := NE.out; have ne2 := NE2.out))
        go_loopw [7, 8, 10, 48, 49, 50, 51, 52, 53, 54, 55, 56, 57, 58, 59, 60, 61, 62, 63, 64, 65, 66, 67, 68, 69, 70, 71, 72, 73, 74, 75] (fun v7 v8 _ v48 _ _ _ _ _ _ _ _ _ _ _ _ _ _ _ _ _ _ _ _ _ _ _ _ _ _ _ wx => ∃ i : Nat, i ≤ ps.length ∧ v48 = .int .i64 i ∧ Kd.R Kd.string 9 wx w.heap.size (fun k => k ≠ b ∧ k ≠ g) v7 ((ps.take i).map (·.1)) ∧ v8 = .bool ((ps.take i).all (pairOk room)) ∧
          wx.heap[b]? = some (.cells #[.bool true, .slice A1 ps.length c1, .slice A2 ks.length c2, .slice A3 cs.length c3] 26 (0, 0)) ∧ wx.heap[g]? = some (.cells #[.int .i64 room] 3 (0, 0)) ∧ Below w.heap.size w wx) (fun _ _ _ v48 _ _ _ _ _ _ _ _ _ _ _ _ _ _ _ _ _ _ _ _ _ _ _ _ _ _ _ wx => ps.length - (intOf v48).toNat)
        case atStart => exact ⟨0, Nat.zero_le _, rfl, Kd.R_nil _ _ _ _ _, rfl, blk_far BN2.out (p := ⟨g, 0, none⟩) NE.out _, blk_set BG2.out 0 (.int .i64 room), below_set BB2.out GW.out⟩
        case round =>
          obtain ⟨i, hi, rfl, hR, rfl, hbn, hbg, hbb⟩ := hrel
          have HR := Aside0.mk hR
          have HBN := Aside0.mk hbn
          have HBG := Aside0.mk hbg
          have HBB := Aside0.mk hbb
          clear hR hbn hbg hbb s0 s1 s2 s3 p0 fr
          by_cases hlt : i < ps.length
          · have hd : decide ((i : Int) < (ps.length : Int)) = true := decide_eq_true (by omega)
            obtain ⟨ad, hA, q0, q1⟩ := hP.out i hlt
            have r0 := (HBB.out.cell (p := ad.add (i * 2)) (cell_lt q0)).trans q0
            have r1 := (HBB.out.cell (p := ad.add (i * 2 + 1)) (cell_lt q1)).trans q1
            obtain ⟨K, hKe⟩ : ∃ K, ps[i].1 = K := ⟨_, rfl⟩
            obtain ⟨V, hVe⟩ : ∃ V, ps[i].2 = V := ⟨_, rfl⟩
            rw [hKe] at r0
            rw [hVe] at r1
            have r2 : wr.cell? { block := (ad.add (i * 2)).block, off := (ad.add (i * 2)).off + 1 } = some (.string V) := (congrArg wr.cell? (addr_next ad (i * 2))).trans r1
            have HKE := Aside0.mk hKe
            have HVE := Aside0.mk hVe
            clear q0 q1 hKe hVe
            subst hA
            have hwi : wrap64 ((i : Int) + 1) = ((i + 1 : Nat) : Int) := by rw [w64 (by omega) (by omega)]; omega
            have hwi2 : ((i + 1 : Nat) : Int) = (i : Int) + 1 := by omega
            have hmap : (ps.take (i + 1)).map (·.1) = (ps.take i).map (·.1) ++ [K] := by rw [List.take_add_one, List.getElem?_eq_getElem hlt, List.map_append]; simp [HKE.out]
            have hall : (ps.take (i + 1)).all (pairOk room) = ((ps.take i).all (pairOk room) && (decide ((V.size : Int) ≤ 255) && decide (wrap64 ((K.size : Int) + (V.size : Int)) ≤ room))) := by rw [List.take_add_one, List.getElem?_eq_getElem hlt, List.all_append]; simp [pairOk, HKE.out, HVE.out]
            have HMAP := Aside0.mk hmap
            have HALL := Aside0.mk hall
            have HWI := Aside0.mk hwi
            clear hmap hall
            generalize hal : (ps.take i).all (pairOk room) = al at HALL ⊢
            cases al
            · go_wp2_with (first
                | ((with_reducible refine gate_dst (N := 10) rfl ?_); refine box_event ?hg (N := 10) ?hd (cs := #[.string ⟨#[]⟩, .string ⟨#[]⟩]) (t := 42) ?hr ?_; (case hd => rfl); (case hg => rfl); (case hr => first | (go_simp; done) | (go_simp; rfl)); intro p hp0 Wp hpx hpb; have HPB := Aside0.mk hpb; have HPX := Aside0.mk hpx; have PW := Aside0.mk (show wr.heap.size ≤ p by rw [hp0]; exact Nat.le_refl _); have t0 : Wp.cell? ⟨p, 0, none⟩ = some (.string ⟨#[]⟩) := (blk_cell hpx 0).trans rfl; have t1 : Wp.cell? ⟨p, 1, none⟩ = some (.string ⟨#[]⟩) := (blk_cell hpx 1).trans rfl; have f0 := blk_frozen hpx 0; have f1 := blk_frozen hpx 1; clear hpx hpb hp0)
                | ((with_reducible refine gate_builtin (b := .append) (xs := #[.tmp 52, .tmp 55]) rfl ?_); at_builtin; go_loud (refine Kd.R_append Kd.string (w0 := w) w.heap.size rfl (.tmp 52) (.tmp 55) 23 9 (.string ⟨#[]⟩) 16 rfl Try.underlying23 info_str rfl (by decide) (by omega) u7 ((ps.take i).map (·.1)) K [.string K] (fun k => k ≠ b ∧ k ≠ g) (fun _ => False) rfl (by first | rfl | (go_simp; done) | (go_simp; rfl)) ?aP (fun _ hk => hk.elim) ?aF ?aO ?aB ?aS ?aL ?_); (case aP => exact rfl); (case aO => go_loud (exact Kd.R_below HR.out ((HPB.out.setCell PW.out _).setCell PW.out _))); (case aB => exact below_step HBB.out ((HPB.out.setCell PW.out _).setCell PW.out _)); (case aS => exact (below_step HBB.out ((HPB.out.setCell PW.out _).setCell PW.out _)).size); (case aF => exact fun k hk => by have h1 := blk_lt HBN.out; have h2 := blk_lt HBG.out; have h3 := ((HPB.out.setCell (p := ⟨p, 0, none⟩) PW.out (.string K)).setCell (p := ⟨p, 1, none⟩) PW.out (.string V)).size; omega); (case aL => rw [List.length_map, List.length_take]; omega); intro v1 w5 ho hb5 hg5 hat5; have BS := ((HPB.out.setCell (p := ⟨p, 0, none⟩) PW.out (.string K)).setCell (p := ⟨p, 1, none⟩) PW.out (.string V)); have BN5 := Aside0.mk (blk_grown (blk_below HBN.out BS) hg5 (fun e => (HR.out.1 b e.symm).1 rfl)); have BG5 := Aside0.mk (blk_grown (blk_below HBG.out BS) hg5 (fun e => (HR.out.1 g e.symm).2 rfl)); have BP5 := Aside0.mk (blk_grown (blk_set (blk_set HPX.out 0 (.string K)) 1 (.string V)) hg5 (fun e => by have h1 := Kd.R_lt HR.out p e.symm; have h2 := PW.out; omega)); have HR5 := Aside0.mk ho; have HB5 := Aside0.mk hb5; clear ho hb5 hg5 hat5 BS t0 t1 f0 f1; have t0 : w5.cell? ⟨p, 0, none⟩ = some (.string K) := (blk_cell BP5.out 0).trans rfl; have t1 : w5.cell? ⟨p, 1, none⟩ = some (.string V) := (blk_cell BP5.out 1).trans rfl; have p0 : w5.cell? ⟨g, 0, none⟩ = some (.int .i64 room) := (blk_cell BG5.out 0).trans rfl))
              go_roundw
              case rel => exact ⟨i + 1, by omega, by first | rfl | (rw [HWI.out]; rfl), by rw [HMAP.out]; exact HR5.out, by rw [HALL.out]; first | rfl | simp [*], BN5.out, BG5.out, HB5.out⟩
              case measure => simp [intOf]; omega
            · by_cases h255 : (V.size : Int) ≤ 255
              · have d255 := decide_eq_true h255
                by_cases hsum : wrap64 ((K.size : Int) + (V.size : Int)) ≤ room
                · have dsum := decide_eq_true hsum
                  go_wp2_with (first
                    | ((with_reducible refine gate_dst (N := 10) rfl ?_); refine box_event ?hg (N := 10) ?hd (cs := #[.string ⟨#[]⟩, .string ⟨#[]⟩]) (t := 42) ?hr ?_; (case hd => rfl); (case hg => rfl); (case hr => first | (go_simp; done) | (go_simp; rfl)); intro p hp0 Wp hpx hpb; have HPB := Aside0.mk hpb; have HPX := Aside0.mk hpx; have PW := Aside0.mk (show wr.heap.size ≤ p by rw [hp0]; exact Nat.le_refl _); have t0 : Wp.cell? ⟨p, 0, none⟩ = some (.string ⟨#[]⟩) := (blk_cell hpx 0).trans rfl; have t1 : Wp.cell? ⟨p, 1, none⟩ = some (.string ⟨#[]⟩) := (blk_cell hpx 1).trans rfl; have f0 := blk_frozen hpx 0; have f1 := blk_frozen hpx 1; clear hpx hpb hp0)
                    | ((with_reducible refine gate_builtin (b := .append) (xs := #[.tmp 52, .tmp 55]) rfl ?_); at_builtin; go_loud (refine Kd.R_append Kd.string (w0 := w) w.heap.size rfl (.tmp 52) (.tmp 55) 23 9 (.string ⟨#[]⟩) 16 rfl Try.underlying23 info_str rfl (by decide) (by omega) u7 ((ps.take i).map (·.1)) K [.string K] (fun k => k ≠ b ∧ k ≠ g) (fun _ => False) rfl (by first | rfl | (go_simp; done) | (go_simp; rfl)) ?aP (fun _ hk => hk.elim) ?aF ?aO ?aB ?aS ?aL ?_); (case aP => exact rfl); (case aO => go_loud (exact Kd.R_below HR.out ((HPB.out.setCell PW.out _).setCell PW.out _))); (case aB => exact below_step HBB.out ((HPB.out.setCell PW.out _).setCell PW.out _)); (case aS => exact (below_step HBB.out ((HPB.out.setCell PW.out _).setCell PW.out _)).size); (case aF => exact fun k hk => by have h1 := blk_lt HBN.out; have h2 := blk_lt HBG.out; have h3 := ((HPB.out.setCell (p := ⟨p, 0, none⟩) PW.out (.string K)).setCell (p := ⟨p, 1, none⟩) PW.out (.string V)).size; omega); (case aL => rw [List.length_map, List.length_take]; omega); intro v1 w5 ho hb5 hg5 hat5; have BS := ((HPB.out.setCell (p := ⟨p, 0, none⟩) PW.out (.string K)).setCell (p := ⟨p, 1, none⟩) PW.out (.string V)); have BN5 := Aside0.mk (blk_grown (blk_below HBN.out BS) hg5 (fun e => (HR.out.1 b e.symm).1 rfl)); have BG5 := Aside0.mk (blk_grown (blk_below HBG.out BS) hg5 (fun e => (HR.out.1 g e.symm).2 rfl)); have BP5 := Aside0.mk (blk_grown (blk_set (blk_set HPX.out 0 (.string K)) 1 (.string V)) hg5 (fun e => by have h1 := Kd.R_lt HR.out p e.symm; have h2 := PW.out; omega)); have HR5 := Aside0.mk ho; have HB5 := Aside0.mk hb5; clear ho hb5 hg5 hat5 BS t0 t1 f0 f1; have t0 : w5.cell? ⟨p, 0, none⟩ = some (.string K) := (blk_cell BP5.out 0).trans rfl; have t1 : w5.cell? ⟨p, 1, none⟩ = some (.string V) := (blk_cell BP5.out 1).trans rfl; have p0 : w5.cell? ⟨g, 0, none⟩ = some (.int .i64 room) := (blk_cell BG5.out 0).trans rfl))
                  go_roundw
                  case rel => exact ⟨i + 1, by omega, by first | rfl | (rw [HWI.out]; rfl), by rw [HMAP.out]; exact HR5.out, by rw [HALL.out]; first | rfl | simp [*], BN5.out, BG5.out, HB5.out⟩
                  case measure => simp [intOf]; omega
                · have dsum := decide_eq_false hsum
                  go_wp2_with (first
                    | ((with_reducible refine gate_dst (N := 10) rfl ?_); refine box_event ?hg (N := 10) ?hd (cs := #[.string ⟨#[]⟩, .string ⟨#[]⟩]) (t := 42) ?hr ?_; (case hd => rfl); (case hg => rfl); (case hr => first | (go_simp; done) | (go_simp; rfl)); intro p hp0 Wp hpx hpb; have HPB := Aside0.mk hpb; have HPX := Aside0.mk hpx; have PW := Aside0.mk (show wr.heap.size ≤ p by rw [hp0]; exact Nat.le_refl _); have t0 : Wp.cell? ⟨p, 0, none⟩ = some (.string ⟨#[]⟩) := (blk_cell hpx 0).trans rfl; have t1 : Wp.cell? ⟨p, 1, none⟩ = some (.string ⟨#[]⟩) := (blk_cell hpx 1).trans rfl; have f0 := blk_frozen hpx 0; have f1 := blk_frozen hpx 1; clear hpx hpb hp0)
                    | ((with_reducible refine gate_builtin (b := .append) (xs := #[.tmp 52, .tmp 55]) rfl ?_); at_builtin; go_loud (refine Kd.R_append Kd.string (w0 := w) w.heap.size rfl (.tmp 52) (.tmp 55) 23 9 (.string ⟨#[]⟩) 16 rfl Try.underlying23 info_str rfl (by decide) (by omega) u7 ((ps.take i).map (·.1)) K [.string K] (fun k => k ≠ b ∧ k ≠ g) (fun _ => False) rfl (by first | rfl | (go_simp; done) | (go_simp; rfl)) ?aP (fun _ hk => hk.elim) ?aF ?aO ?aB ?aS ?aL ?_); (case aP => exact rfl); (case aO => go_loud (exact Kd.R_below HR.out ((HPB.out.setCell PW.out _).setCell PW.out _))); (case aB => exact below_step HBB.out ((HPB.out.setCell PW.out _).setCell PW.out _)); (case aS => exact (below_step HBB.out ((HPB.out.setCell PW.out _).setCell PW.out _)).size); (case aF => exact fun k hk => by have h1 := blk_lt HBN.out; have h2 := blk_lt HBG.out; have h3 := ((HPB.out.setCell (p := ⟨p, 0, none⟩) PW.out (.string K)).setCell (p := ⟨p, 1, none⟩) PW.out (.string V)).size; omega); (case aL => rw [List.length_map, List.length_take]; omega); intro v1 w5 ho hb5 hg5 hat5; have BS := ((HPB.out.setCell (p := ⟨p, 0, none⟩) PW.out (.string K)).setCell (p := ⟨p, 1, none⟩) PW.out (.string V)); have BN5 := Aside0.mk (blk_grown (blk_below HBN.out BS) hg5 (fun e => (HR.out.1 b e.symm).1 rfl)); have BG5 := Aside0.mk (blk_grown (blk_below HBG.out BS) hg5 (fun e => (HR.out.1 g e.symm).2 rfl)); have BP5 := Aside0.mk (blk_grown (blk_set (blk_set HPX.out 0 (.string K)) 1 (.string V)) hg5 (fun e => by have h1 := Kd.R_lt HR.out p e.symm; have h2 := PW.out; omega)); have HR5 := Aside0.mk ho; have HB5 := Aside0.mk hb5; clear ho hb5 hg5 hat5 BS t0 t1 f0 f1; have t0 : w5.cell? ⟨p, 0, none⟩ = some (.string K) := (blk_cell BP5.out 0).trans rfl; have t1 : w5.cell? ⟨p, 1, none⟩ = some (.string V) := (blk_cell BP5.out 1).trans rfl; have p0 : w5.cell? ⟨g, 0, none⟩ = some (.int .i64 room) := (blk_cell BG5.out 0).trans rfl))
                  go_roundw
                  case rel => exact ⟨i + 1, by omega, by first | rfl | (rw [HWI.out]; rfl), by rw [HMAP.out]; exact HR5.out, by rw [HALL.out]; first | rfl | simp [*], BN5.out, BG5.out, HB5.out⟩
                  case measure => simp [intOf]; omega
              · have d255 := decide_eq_false h255
                go_wp2_with (first
                  | ((with_reducible refine gate_dst (N := 10) rfl ?_); refine box_event ?hg (N := 10) ?hd (cs := #[.string ⟨#[]⟩, .string ⟨#[]⟩]) (t := 42) ?hr ?_; (case hd => rfl); (case hg => rfl); (case hr => first | (go_simp; done) | (go_simp; rfl)); intro p hp0 Wp hpx hpb; have HPB := Aside0.mk hpb; have HPX := Aside0.mk hpx; have PW := Aside0.mk (show wr.heap.size ≤ p by rw [hp0]; exact Nat.le_refl _); have t0 : Wp.cell? ⟨p, 0, none⟩ = some (.string ⟨#[]⟩) := (blk_cell hpx 0).trans rfl; have t1 : Wp.cell? ⟨p, 1, none⟩ = some (.string ⟨#[]⟩) := (blk_cell hpx 1).trans rfl; have f0 := blk_frozen hpx 0; have f1 := blk_frozen hpx 1; clear hpx hpb hp0)
                  | ((with_reducible refine gate_builtin (b := .append) (xs := #[.tmp 52, .tmp 55]) rfl ?_); at_builtin; go_loud (refine Kd.R_append Kd.string (w0 := w) w.heap.size rfl (.tmp 52) (.tmp 55) 23 9 (.string ⟨#[]⟩) 16 rfl Try.underlying23 info_str rfl (by decide) (by omega) u7 ((ps.take i).map (·.1)) K [.string K] (fun k => k ≠ b ∧ k ≠ g) (fun _ => False) rfl (by first | rfl | (go_simp; done) | (go_simp; rfl)) ?aP (fun _ hk => hk.elim) ?aF ?aO ?aB ?aS ?aL ?_); (case aP => exact rfl); (case aO => go_loud (exact Kd.R_below HR.out ((HPB.out.setCell PW.out _).setCell PW.out _))); (case aB => exact below_step HBB.out ((HPB.out.setCell PW.out _).setCell PW.out _)); (case aS => exact (below_step HBB.out ((HPB.out.setCell PW.out _).setCell PW.out _)).size); (case aF => exact fun k hk => by have h1 := blk_lt HBN.out; have h2 := blk_lt HBG.out; have h3 := ((HPB.out.setCell (p := ⟨p, 0, none⟩) PW.out (.string K)).setCell (p := ⟨p, 1, none⟩) PW.out (.string V)).size; omega); (case aL => rw [List.length_map, List.length_take]; omega); intro v1 w5 ho hb5 hg5 hat5; have BS := ((HPB.out.setCell (p := ⟨p, 0, none⟩) PW.out (.string K)).setCell (p := ⟨p, 1, none⟩) PW.out (.string V)); have BN5 := Aside0.mk (blk_grown (blk_below HBN.out BS) hg5 (fun e => (HR.out.1 b e.symm).1 rfl)); have BG5 := Aside0.mk (blk_grown (blk_below HBG.out BS) hg5 (fun e => (HR.out.1 g e.symm).2 rfl)); have BP5 := Aside0.mk (blk_grown (blk_set (blk_set HPX.out 0 (.string K)) 1 (.string V)) hg5 (fun e => by have h1 := Kd.R_lt HR.out p e.symm; have h2 := PW.out; omega)); have HR5 := Aside0.mk ho; have HB5 := Aside0.mk hb5; clear ho hb5 hg5 hat5 BS t0 t1 f0 f1; have t0 : w5.cell? ⟨p, 0, none⟩ = some (.string K) := (blk_cell BP5.out 0).trans rfl; have t1 : w5.cell? ⟨p, 1, none⟩ = some (.string V) := (blk_cell BP5.out 1).trans rfl; have p0 : w5.cell? ⟨g, 0, none⟩ = some (.int .i64 room) := (blk_cell BG5.out 0).trans rfl))
                go_roundw
                case rel => exact ⟨i + 1, by omega, by first | rfl | (rw [HWI.out]; rfl), by rw [HMAP.out]; exact HR5.out, by rw [HALL.out]; first | rfl | simp [*], BN5.out, BG5.out, HB5.out⟩
                case measure => simp [intOf]; omega
          · have hie : i = ps.length := by omega
            have hd : decide ((i : Int) < (ps.length : Int)) = false := decide_eq_false (by omega)
            have hR2 := HR.out
            rw [hie, List.take_length] at hR2
            obtain ⟨A, n, e7, hnn, hck⟩ := Kd.R_reads hR2
            subst e7
            have HCK := Aside0.mk hck
            have HNN := Aside0.mk hnn
            have hrr := hr wr A n hck hnn
            rw [List.length_map] at hrr
            have HRR := Aside0.mk hrr
            clear hR2 hck hnn HR hrr
            have hcs : cs = [] := List.length_eq_zero_iff.1 (by have := beq_iff_eq.1 hok; omega)
            have hks : cs.length + ks.length = 0 := by have := beq_iff_eq.1 hok; omega
            have HKS := Aside0.mk hks
            have hA2 : (cs.any fun n => !inB n 1 16777215) = false := by rw [hcs]; rfl
            clear hcs hks
            have s0 : wr.cell? ⟨b, 0, none⟩ = some (.bool true) := (blk_cell HBN.out 0).trans rfl
            have s1 : wr.cell? ⟨b, 1, none⟩ = some (.slice A1 ps.length c1) := (blk_cell HBN.out 1).trans rfl
            have s2 : wr.cell? ⟨b, 2, none⟩ = some (.slice A2 ks.length c2) := (blk_cell HBN.out 2).trans rfl
            have s3 : wr.cell? ⟨b, 3, none⟩ = some (.slice A3 cs.length c3) := (blk_cell HBN.out 3).trans rfl
            have p0 : wr.cell? ⟨g, 0, none⟩ = some (.int .i64 room) := (blk_cell HBG.out 0).trans rfl
            generalize hal : (ps.take i).all (pairOk room) = al
            have hal2 : ps.all (pairOk room) = al := by rw [← hal, hie, List.take_length]
            have HAL := Aside0.mk hal2
            clear hal hal2
            have HIE := Aside0.mk hie
            clear hie
            cases al
            · go_wp2_with (first | (go_at_call 24; refine HRR.out.mono ?_; rintro e W4 ⟨rfl, h4⟩; have BN4 := Aside0.mk (blk_below HBN.out h4); have BG4 := Aside0.mk (blk_below HBG.out h4); have BB4 := Aside0.mk (below_step HBB.out h4); have HCK4 := Aside0.mk (Kd.C_below HCK.out h4); clear h4 s0 s1 s2 s3 p0; have s0 : W4.cell? ⟨b, 0, none⟩ = some (.bool true) := (blk_cell BN4.out 0).trans rfl; have s1 : W4.cell? ⟨b, 1, none⟩ = some (.slice A1 ps.length c1) := (blk_cell BN4.out 1).trans rfl; have s2 : W4.cell? ⟨b, 2, none⟩ = some (.slice A2 ks.length c2) := (blk_cell BN4.out 2).trans rfl; have s3 : W4.cell? ⟨b, 3, none⟩ = some (.slice A3 cs.length c3) := (blk_cell BN4.out 3).trans rfl; have p0 : W4.cell? ⟨g, 0, none⟩ = some (.int .i64 room) := (blk_cell BG4.out 0).trans rfl) | (go_at_call 25; have hcc := containsStr_calls A n (ps.map (·.1)) g room W4 p0 HCK4.out HNN.out (by rw [List.length_map]; omega); rw [List.length_map] at hcc; refine hcc.mono ?_; clear hcc; rintro e w5 ⟨rfl, h5⟩; rw [h5, hA1]) | (go_at_call 27; refine (containsInt_calls A3 c3 cs W4 (Kd.C_below hC.out BB4.out) hc (by omega)).mono ?_; rintro e w5 ⟨rfl, h5⟩; rw [h5, hA2]) | (go_at_call 13; refine (hs W4 BB4.out).mono ?_; rintro e W6 ⟨rfl, h6⟩; have BB6 := Aside0.mk (below_step BB4.out h6)))
              go_ret
              exact ⟨by rw [HCODE.out, if_neg (fun h => by rw [HAL.out] at h; cases h.2.1)]; rfl, HBB.out⟩
            · cases ri
              · go_wp2_with (first | (go_at_call 24; refine HRR.out.mono ?_; rintro e W4 ⟨rfl, h4⟩; have BN4 := Aside0.mk (blk_below HBN.out h4); have BG4 := Aside0.mk (blk_below HBG.out h4); have BB4 := Aside0.mk (below_step HBB.out h4); have HCK4 := Aside0.mk (Kd.C_below HCK.out h4); clear h4 s0 s1 s2 s3 p0; have s0 : W4.cell? ⟨b, 0, none⟩ = some (.bool true) := (blk_cell BN4.out 0).trans rfl; have s1 : W4.cell? ⟨b, 1, none⟩ = some (.slice A1 ps.length c1) := (blk_cell BN4.out 1).trans rfl; have s2 : W4.cell? ⟨b, 2, none⟩ = some (.slice A2 ks.length c2) := (blk_cell BN4.out 2).trans rfl; have s3 : W4.cell? ⟨b, 3, none⟩ = some (.slice A3 cs.length c3) := (blk_cell BN4.out 3).trans rfl; have p0 : W4.cell? ⟨g, 0, none⟩ = some (.int .i64 room) := (blk_cell BG4.out 0).trans rfl) | (go_at_call 25; have hcc := containsStr_calls A n (ps.map (·.1)) g room W4 p0 HCK4.out HNN.out (by rw [List.length_map]; omega); rw [List.length_map] at hcc; refine hcc.mono ?_; clear hcc; rintro e w5 ⟨rfl, h5⟩; rw [h5, hA1]) | (go_at_call 27; refine (containsInt_calls A3 c3 cs W4 (Kd.C_below hC.out BB4.out) hc (by omega)).mono ?_; rintro e w5 ⟨rfl, h5⟩; rw [h5, hA2]) | (go_at_call 13; refine (hs W4 BB4.out).mono ?_; rintro e W6 ⟨rfl, h6⟩; have BB6 := Aside0.mk (below_step BB4.out h6)))
                go_ret
                exact ⟨by rw [HCODE.out, if_neg (fun h => by cases h.2.2.1)]; rfl, BB4.out⟩
              · cases hA1 : ((ps.map (·.1)).any fun x => longB x room)
                rotate_left
                · go_wp2_with (first | (go_at_call 24; refine HRR.out.mono ?_; rintro e W4 ⟨rfl, h4⟩; have BN4 := Aside0.mk (blk_below HBN.out h4); have BG4 := Aside0.mk (blk_below HBG.out h4); have BB4 := Aside0.mk (below_step HBB.out h4); have HCK4 := Aside0.mk (Kd.C_below HCK.out h4); clear h4 s0 s1 s2 s3 p0; have s0 : W4.cell? ⟨b, 0, none⟩ = some (.bool true) := (blk_cell BN4.out 0).trans rfl; have s1 : W4.cell? ⟨b, 1, none⟩ = some (.slice A1 ps.length c1) := (blk_cell BN4.out 1).trans rfl; have s2 : W4.cell? ⟨b, 2, none⟩ = some (.slice A2 ks.length c2) := (blk_cell BN4.out 2).trans rfl; have s3 : W4.cell? ⟨b, 3, none⟩ = some (.slice A3 cs.length c3) := (blk_cell BN4.out 3).trans rfl; have p0 : W4.cell? ⟨g, 0, none⟩ = some (.int .i64 room) := (blk_cell BG4.out 0).trans rfl) | (go_at_call 25; have hcc := containsStr_calls A n (ps.map (·.1)) g room W4 p0 HCK4.out HNN.out (by rw [List.length_map]; omega); rw [List.length_map] at hcc; refine hcc.mono ?_; clear hcc; rintro e w5 ⟨rfl, h5⟩; rw [h5, hA1]) | (go_at_call 27; refine (containsInt_calls A3 c3 cs W4 (Kd.C_below hC.out BB4.out) hc (by omega)).mono ?_; rintro e w5 ⟨rfl, h5⟩; rw [h5, hA2]) | (go_at_call 13; refine (hs W4 BB4.out).mono ?_; rintro e W6 ⟨rfl, h6⟩; have BB6 := Aside0.mk (below_step BB4.out h6)))
                  go_ret
                  exact ⟨by rw [HCODE.out, if_neg (fun h => by rw [hA1] at h; cases h.2.2.2)]; rfl, BB4.out⟩
                · by_cases hz : sz > bytes
                  · have hz' := decide_eq_true hz
                    go_wp2_with (first | (go_at_call 24; refine HRR.out.mono ?_; rintro e W4 ⟨rfl, h4⟩; have BN4 := Aside0.mk (blk_below HBN.out h4); have BG4 := Aside0.mk (blk_below HBG.out h4); have BB4 := Aside0.mk (below_step HBB.out h4); have HCK4 := Aside0.mk (Kd.C_below HCK.out h4); clear h4 s0 s1 s2 s3 p0; have s0 : W4.cell? ⟨b, 0, none⟩ = some (.bool true) := (blk_cell BN4.out 0).trans rfl; have s1 : W4.cell? ⟨b, 1, none⟩ = some (.slice A1 ps.length c1) := (blk_cell BN4.out 1).trans rfl; have s2 : W4.cell? ⟨b, 2, none⟩ = some (.slice A2 ks.length c2) := (blk_cell BN4.out 2).trans rfl; have s3 : W4.cell? ⟨b, 3, none⟩ = some (.slice A3 cs.length c3) := (blk_cell BN4.out 3).trans rfl; have p0 : W4.cell? ⟨g, 0, none⟩ = some (.int .i64 room) := (blk_cell BG4.out 0).trans rfl) | (go_at_call 25; have hcc := containsStr_calls A n (ps.map (·.1)) g room W4 p0 HCK4.out HNN.out (by rw [List.length_map]; omega); rw [List.length_map] at hcc; refine hcc.mono ?_; clear hcc; rintro e w5 ⟨rfl, h5⟩; rw [h5, hA1]) | (go_at_call 27; refine (containsInt_calls A3 c3 cs W4 (Kd.C_below hC.out BB4.out) hc (by omega)).mono ?_; rintro e w5 ⟨rfl, h5⟩; rw [h5, hA2]) | (go_at_call 13; refine (hs W4 BB4.out).mono ?_; rintro e W6 ⟨rfl, h6⟩; have BB6 := Aside0.mk (below_step BB4.out h6)))
                    go_ret
                    exact ⟨by rw [HCODE.out, if_pos ⟨HKS.out, HAL.out, by simp, hA1⟩, if_pos (by omega)]; rfl, BB6.out⟩
                  · have hz' := decide_eq_false hz
                    go_wp2_with (first | (go_at_call 24; refine HRR.out.mono ?_; rintro e W4 ⟨rfl, h4⟩; have BN4 := Aside0.mk (blk_below HBN.out h4); have BG4 := Aside0.mk (blk_below HBG.out h4); have BB4 := Aside0.mk (below_step HBB.out h4); have HCK4 := Aside0.mk (Kd.C_below HCK.out h4); clear h4 s0 s1 s2 s3 p0; have s0 : W4.cell? ⟨b, 0, none⟩ = some (.bool true) := (blk_cell BN4.out 0).trans rfl; have s1 : W4.cell? ⟨b, 1, none⟩ = some (.slice A1 ps.length c1) := (blk_cell BN4.out 1).trans rfl; have s2 : W4.cell? ⟨b, 2, none⟩ = some (.slice A2 ks.length c2) := (blk_cell BN4.out 2).trans rfl; have s3 : W4.cell? ⟨b, 3, none⟩ = some (.slice A3 cs.length c3) := (blk_cell BN4.out 3).trans rfl; have p0 : W4.cell? ⟨g, 0, none⟩ = some (.int .i64 room) := (blk_cell BG4.out 0).trans rfl) | (go_at_call 25; have hcc := containsStr_calls A n (ps.map (·.1)) g room W4 p0 HCK4.out HNN.out (by rw [List.length_map]; omega); rw [List.length_map] at hcc; refine hcc.mono ?_; clear hcc; rintro e w5 ⟨rfl, h5⟩; rw [h5, hA1]) | (go_at_call 27; refine (containsInt_calls A3 c3 cs W4 (Kd.C_below hC.out BB4.out) hc (by omega)).mono ?_; rintro e w5 ⟨rfl, h5⟩; rw [h5, hA2]) | (go_at_call 13; refine (hs W4 BB4.out).mono ?_; rintro e W6 ⟨rfl, h6⟩; have BB6 := Aside0.mk (below_step BB4.out h6)))
                    go_ret
                    exact ⟨by rw [HCODE.out, if_pos ⟨HKS.out, HAL.out, by simp, hA1⟩, if_neg (by omega)]; rfl, BB6.out⟩
      · exfalso
        have h1 := beq_iff_eq.1 hl1
        have h2 := beq_iff_eq.1 hok
        omega
    · cases hl1 : ((cs.length : Int) == (ks.length : Int) + 1)
      · go_wp2_with (first
        | ((with_reducible refine gate_dst (N := 2) rfl ?_); refine box_event ?hg (N := 2) ?hd (cs := #[.bool true, .slice A1 ps.length c1, .slice A2 ks.length c2, .slice A3 cs.length c3]) (t := 26) ?hr ?_; (case hd => rfl); (case hg => rfl); (case hr => first | (go_simp; done) | (go_simp; rfl)); intro b hb0 W0 hbx hbb; have BN0 := Aside0.mk hbx; have BB0 := Aside0.mk hbb; have BW := Aside0.mk (show w.heap.size ≤ b by rw [hb0]; exact Nat.le_refl _); clear hbx hbb hb0)
        | (go_at_call 12; refine (hm _).mono ?_; rintro e W1 ⟨rfl, h1⟩; have BN1 := Aside0.mk (blk_below BN0.out h1); have BB1 := Aside0.mk (below_step BB0.out h1); clear h1)
        | ((with_reducible refine gate_dst (N := 5) rfl ?_); refine box_event ?hg (N := 5) ?hd (cs := #[.int .i64 0]) (t := 3) ?hr ?_; (case hd => rfl); (case hg => rfl); (case hr => first | (go_simp; done) | (go_simp; rfl)); intro g hg0 W2 hgx hgb; have BN2 := Aside0.mk (blk_below BN1.out hgb); have BG2 := Aside0.mk hgx; have BB2 := Aside0.mk (below_step BB1.out hgb); have GW := Aside0.mk (show w.heap.size ≤ g by rw [hg0]; exact BB1.out.size); have NE := Aside0.mk (blk_ne BN2.out BG2.out (by decide)); have NE2 := Aside0.mk NE.out.symm; have fr := blk_frozen hgx 0; have p0 : W2.cell? ⟨g, 0, none⟩ = some (.int .i64 0) := (blk_cell hgx 0).trans rfl; clear hgx hgb hg0; have s0 : W2.cell? ⟨b, 0, none⟩ = some (.bool true) := (blk_cell BN2.out 0).trans rfl; have s1 : W2.cell? ⟨b, 1, none⟩ = some (.slice A1 ps.length c1) := (blk_cell BN2.out 1).trans rfl; have s2 : W2.cell? ⟨b, 2, none⟩ = some (.slice A2 ks.length c2) := (blk_cell BN2.out 2).trans rfl; have s3 : W2.cell? ⟨b, 3, none⟩ = some (.slice A3 cs.length c3) := (blk_cell BN2.out 3).trans rfl; have ne1 := NE.out; have ne2 := NE2.out))
        go_loopw [7, 8, 10, 48, 49, 50, 51, 52, 53, 54, 55, 56, 57, 58, 59, 60, 61, 62, 63, 64, 65, 66, 67, 68, 69, 70, 71, 72, 73, 74, 75] (fun v7 v8 _ v48 _ _ _ _ _ _ _ _ _ _ _ _ _ _ _ _ _ _ _ _ _ _ _ _ _ _ _ wx => ∃ i : Nat, i ≤ ps.length ∧ v48 = .int .i64 i ∧ Kd.R Kd.string 9 wx w.heap.size (fun k => k ≠ b ∧ k ≠ g) v7 ((ps.take i).map (·.1)) ∧ v8 = .bool ((ps.take i).all (pairOk room)) ∧
          wx.heap[b]? = some (.cells #[.bool true, .slice A1 ps.length c1, .slice A2 ks.length c2, .slice A3 cs.length c3] 26 (0, 0)) ∧ wx.heap[g]? = some (.cells #[.int .i64 room] 3 (0, 0)) ∧ Below w.heap.size w wx) (fun _ _ _ v48 _ _ _ _ _ _ _ _ _ _ _ _ _ _ _ _ _ _ _ _ _ _ _ _ _ _ _ wx => ps.length - (intOf v48).toNat)
        case atStart => exact ⟨0, Nat.zero_le _, rfl, Kd.R_nil _ _ _ _ _, rfl, blk_far BN2.out (p := ⟨g, 0, none⟩) NE.out _, blk_set BG2.out 0 (.int .i64 room), below_set BB2.out GW.out⟩
        case round =>
          obtain ⟨i, hi, rfl, hR, rfl, hbn, hbg, hbb⟩ := hrel
          have HR := Aside0.mk hR
          have HBN := Aside0.mk hbn
          have HBG := Aside0.mk hbg
          have HBB := Aside0.mk hbb
          clear hR hbn hbg hbb s0 s1 s2 s3 p0 fr
          by_cases hlt : i < ps.length
          · have hd : decide ((i : Int) < (ps.length : Int)) = true := decide_eq_true (by omega)
            obtain ⟨ad, hA, q0, q1⟩ := hP.out i hlt
            have r0 := (HBB.out.cell (p := ad.add (i * 2)) (cell_lt q0)).trans q0
            have r1 := (HBB.out.cell (p := ad.add (i * 2 + 1)) (cell_lt q1)).trans q1
            obtain ⟨K, hKe⟩ : ∃ K, ps[i].1 = K := ⟨_, rfl⟩
            obtain ⟨V, hVe⟩ : ∃ V, ps[i].2 = V := ⟨_, rfl⟩
            rw [hKe] at r0
            rw [hVe] at r1
            have r2 : wr.cell? { block := (ad.add (i * 2)).block, off := (ad.add (i * 2)).off + 1 } = some (.string V) := (congrArg wr.cell? (addr_next ad (i * 2))).trans r1
            have HKE := Aside0.mk hKe
            have HVE := Aside0.mk hVe
            clear q0 q1 hKe hVe
            subst hA
            have hwi : wrap64 ((i : Int) + 1) = ((i + 1 : Nat) : Int) := by rw [w64 (by omega) (by omega)]; omega
            have hwi2 : ((i + 1 : Nat) : Int) = (i : Int) + 1 := by omega
            have hmap : (ps.take (i + 1)).map (·.1) = (ps.take i).map (·.1) ++ [K] := by rw [List.take_add_one, List.getElem?_eq_getElem hlt, List.map_append]; simp [HKE.out]
            have hall : (ps.take (i + 1)).all (pairOk room) = ((ps.take i).all (pairOk room) && (decide ((V.size : Int) ≤ 255) && decide (wrap64 ((K.size : Int) + (V.size : Int)) ≤ room))) := by rw [List.take_add_one, List.getElem?_eq_getElem hlt, List.all_append]; simp [pairOk, HKE.out, HVE.out]
            have HMAP := Aside0.mk hmap
            have HALL := Aside0.mk hall
            have HWI := Aside0.mk hwi
            clear hmap hall
            generalize hal : (ps.take i).all (pairOk room) = al at HALL ⊢
            cases al
            · go_wp2_with (first
                | ((with_reducible refine gate_dst (N := 10) rfl ?_); refine box_event ?hg (N := 10) ?hd (cs := #[.string ⟨#[]⟩, .string ⟨#[]⟩]) (t := 42) ?hr ?_; (case hd => rfl); (case hg => rfl); (case hr => first | (go_simp; done) | (go_simp; rfl)); intro p hp0 Wp hpx hpb; have HPB := Aside0.mk hpb; have HPX := Aside0.mk hpx; have PW := Aside0.mk (show wr.heap.size ≤ p by rw [hp0]; exact Nat.le_refl _); have t0 : Wp.cell? ⟨p, 0, none⟩ = some (.string ⟨#[]⟩) := (blk_cell hpx 0).trans rfl; have t1 : Wp.cell? ⟨p, 1, none⟩ = some (.string ⟨#[]⟩) := (blk_cell hpx 1).trans rfl; have f0 := blk_frozen hpx 0; have f1 := blk_frozen hpx 1; clear hpx hpb hp0)
                | ((with_reducible refine gate_builtin (b := .append) (xs := #[.tmp 52, .tmp 55]) rfl ?_); at_builtin; go_loud (refine Kd.R_append Kd.string (w0 := w) w.heap.size rfl (.tmp 52) (.tmp 55) 23 9 (.string ⟨#[]⟩) 16 rfl Try.underlying23 info_str rfl (by decide) (by omega) u7 ((ps.take i).map (·.1)) K [.string K] (fun k => k ≠ b ∧ k ≠ g) (fun _ => False) rfl (by first | rfl | (go_simp; done) | (go_simp; rfl)) ?aP (fun _ hk => hk.elim) ?aF ?aO ?aB ?aS ?aL ?_); (case aP => exact rfl); (case aO => go_loud (exact Kd.R_below HR.out ((HPB.out.setCell PW.out _).setCell PW.out _))); (case aB => exact below_step HBB.out ((HPB.out.setCell PW.out _).setCell PW.out _)); (case aS => exact (below_step HBB.out ((HPB.out.setCell PW.out _).setCell PW.out _)).size); (case aF => exact fun k hk => by have h1 := blk_lt HBN.out; have h2 := blk_lt HBG.out; have h3 := ((HPB.out.setCell (p := ⟨p, 0, none⟩) PW.out (.string K)).setCell (p := ⟨p, 1, none⟩) PW.out (.string V)).size; omega); (case aL => rw [List.length_map, List.length_take]; omega); intro v1 w5 ho hb5 hg5 hat5; have BS := ((HPB.out.setCell (p := ⟨p, 0, none⟩) PW.out (.string K)).setCell (p := ⟨p, 1, none⟩) PW.out (.string V)); have BN5 := Aside0.mk (blk_grown (blk_below HBN.out BS) hg5 (fun e => (HR.out.1 b e.symm).1 rfl)); have BG5 := Aside0.mk (blk_grown (blk_below HBG.out BS) hg5 (fun e => (HR.out.1 g e.symm).2 rfl)); have BP5 := Aside0.mk (blk_grown (blk_set (blk_set HPX.out 0 (.string K)) 1 (.string V)) hg5 (fun e => by have h1 := Kd.R_lt HR.out p e.symm; have h2 := PW.out; omega)); have HR5 := Aside0.mk ho; have HB5 := Aside0.mk hb5; clear ho hb5 hg5 hat5 BS t0 t1 f0 f1; have t0 : w5.cell? ⟨p, 0, none⟩ = some (.string K) := (blk_cell BP5.out 0).trans rfl; have t1 : w5.cell? ⟨p, 1, none⟩ = some (.string V) := (blk_cell BP5.out 1).trans rfl; have p0 : w5.cell? ⟨g, 0, none⟩ = some (.int .i64 room) := (blk_cell BG5.out 0).trans rfl))
              go_roundw
              case rel => exact ⟨i + 1, by omega, by first | rfl | (rw [HWI.out]; rfl), by rw [HMAP.out]; exact HR5.out, by rw [HALL.out]; first | rfl | simp [*], BN5.out, BG5.out, HB5.out⟩
              case measure => simp [intOf]; omega
            · by_cases h255 : (V.size : Int) ≤ 255
              · have d255 := decide_eq_true h255
                by_cases hsum : wrap64 ((K.size : Int) + (V.size : Int)) ≤ room
                · have dsum := decide_eq_true hsum
                  go_wp2_with (first
                    | ((with_reducible refine gate_dst (N := 10) rfl ?_); refine box_event ?hg (N := 10) ?hd (cs := #[.string ⟨#[]⟩, .string ⟨#[]⟩]) (t := 42) ?hr ?_; (case hd => rfl); (case hg => rfl); (case hr => first | (go_simp; done) | (go_simp; rfl)); intro p hp0 Wp hpx hpb; have HPB := Aside0.mk hpb; have HPX := Aside0.mk hpx; have PW := Aside0.mk (show wr.heap.size ≤ p by rw [hp0]; exact Nat.le_refl _); have t0 : Wp.cell? ⟨p, 0, none⟩ = some (.string ⟨#[]⟩) := (blk_cell hpx 0).trans rfl; have t1 : Wp.cell? ⟨p, 1, none⟩ = some (.string ⟨#[]⟩) := (blk_cell hpx 1).trans rfl; have f0 := blk_frozen hpx 0; have f1 := blk_frozen hpx 1; clear hpx hpb hp0)
                    | ((with_reducible refine gate_builtin (b := .append) (xs := #[.tmp 52, .tmp 55]) rfl ?_); at_builtin; go_loud (refine Kd.R_append Kd.string (w0 := w) w.heap.size rfl (.tmp 52) (.tmp 55) 23 9 (.string ⟨#[]⟩) 16 rfl Try.underlying23 info_str rfl (by decide) (by omega) u7 ((ps.take i).map (·.1)) K [.string K] (fun k => k ≠ b ∧ k ≠ g) (fun _ => False) rfl (by first | rfl | (go_simp; done) | (go_simp; rfl)) ?aP (fun _ hk => hk.elim) ?aF ?aO ?aB ?aS ?aL ?_); (case aP => exact rfl); (case aO => go_loud (exact Kd.R_below HR.out ((HPB.out.setCell PW.out _).setCell PW.out _))); (case aB => exact below_step HBB.out ((HPB.out.setCell PW.out _).setCell PW.out _)); (case aS => exact (below_step HBB.out ((HPB.out.setCell PW.out _).setCell PW.out _)).size); (case aF => exact fun k hk => by have h1 := blk_lt HBN.out; have h2 := blk_lt HBG.out; have h3 := ((HPB.out.setCell (p := ⟨p, 0, none⟩) PW.out (.string K)).setCell (p := ⟨p, 1, none⟩) PW.out (.string V)).size; omega); (case aL => rw [List.length_map, List.length_take]; omega); intro v1 w5 ho hb5 hg5 hat5; have BS := ((HPB.out.setCell (p := ⟨p, 0, none⟩) PW.out (.string K)).setCell (p := ⟨p, 1, none⟩) PW.out (.string V)); have BN5 := Aside0.mk (blk_grown (blk_below HBN.out BS) hg5 (fun e => (HR.out.1 b e.symm).1 rfl)); have BG5 := Aside0.mk (blk_grown (blk_below HBG.out BS) hg5 (fun e => (HR.out.1 g e.symm).2 rfl)); have BP5 := Aside0.mk (blk_grown (blk_set (blk_set HPX.out 0 (.string K)) 1 (.string V)) hg5 (fun e => by have h1 := Kd.R_lt HR.out p e.symm; have h2 := PW.out; omega)); have HR5 := Aside0.mk ho; have HB5 := Aside0.mk hb5; clear ho hb5 hg5 hat5 BS t0 t1 f0 f1; have t0 : w5.cell? ⟨p, 0, none⟩ = some (.string K) := (blk_cell BP5.out 0).trans rfl; have t1 : w5.cell? ⟨p, 1, none⟩ = some (.string V) := (blk_cell BP5.out 1).trans rfl; have p0 : w5.cell? ⟨g, 0, none⟩ = some (.int .i64 room) := (blk_cell BG5.out 0).trans rfl))
                  go_roundw
                  case rel => exact ⟨i + 1, by omega, by first | rfl | (rw [HWI.out]; rfl), by rw [HMAP.out]; exact HR5.out, by rw [HALL.out]; first | rfl | simp [*], BN5.out, BG5.out, HB5.out⟩
                  case measure => simp [intOf]; omega
                · have dsum := decide_eq_false hsum
                  go_wp2_with (first
                    | ((with_reducible refine gate_dst (N := 10) rfl ?_); refine box_event ?hg (N := 10) ?hd (cs := #[.string ⟨#[]⟩, .string ⟨#[]⟩]) (t := 42) ?hr ?_; (case hd => rfl); (case hg => rfl); (case hr => first | (go_simp; done) | (go_simp; rfl)); intro p hp0 Wp hpx hpb; have HPB := Aside0.mk hpb; have HPX := Aside0.mk hpx; have PW := Aside0.mk (show wr.heap.size ≤ p by rw [hp0]; exact Nat.le_refl _); have t0 : Wp.cell? ⟨p, 0, none⟩ = some (.string ⟨#[]⟩) := (blk_cell hpx 0).trans rfl; have t1 : Wp.cell? ⟨p, 1, none⟩ = some (.string ⟨#[]⟩) := (blk_cell hpx 1).trans rfl; have f0 := blk_frozen hpx 0; have f1 := blk_frozen hpx 1; clear hpx hpb hp0)
                    | ((with_reducible refine gate_builtin (b := .append) (xs := #[.tmp 52, .tmp 55]) rfl ?_); at_builtin; go_loud (refine Kd.R_append Kd.string (w0 := w) w.heap.size rfl (.tmp 52) (.tmp 55) 23 9 (.string ⟨#[]⟩) 16 rfl Try.underlying23 info_str rfl (by decide) (by omega) u7 ((ps.take i).map (·.1)) K [.string K] (fun k => k ≠ b ∧ k ≠ g) (fun _ => False) rfl (by first | rfl | (go_simp; done) | (go_simp; rfl)) ?aP (fun _ hk => hk.elim) ?aF ?aO ?aB ?aS ?aL ?_); (case aP => exact rfl); (case aO => go_loud (exact Kd.R_below HR.out ((HPB.out.setCell PW.out _).setCell PW.out _))); (case aB => exact below_step HBB.out ((HPB.out.setCell PW.out _).setCell PW.out _)); (case aS => exact (below_step HBB.out ((HPB.out.setCell PW.out _).setCell PW.out _)).size); (case aF => exact fun k hk => by have h1 := blk_lt HBN.out; have h2 := blk_lt HBG.out; have h3 := ((HPB.out.setCell (p := ⟨p, 0, none⟩) PW.out (.string K)).setCell (p := ⟨p, 1, none⟩) PW.out (.string V)).size; omega); (case aL => rw [List.length_map, List.length_take]; omega); intro v1 w5 ho hb5 hg5 hat5; have BS := ((HPB.out.setCell (p := ⟨p, 0, none⟩) PW.out (.string K)).setCell (p := ⟨p, 1, none⟩) PW.out (.string V)); have BN5 := Aside0.mk (blk_grown (blk_below HBN.out BS) hg5 (fun e => (HR.out.1 b e.symm).1 rfl)); have BG5 := Aside0.mk (blk_grown (blk_below HBG.out BS) hg5 (fun e => (HR.out.1 g e.symm).2 rfl)); have BP5 := Aside0.mk (blk_grown (blk_set (blk_set HPX.out 0 (.string K)) 1 (.string V)) hg5 (fun e => by have h1 := Kd.R_lt HR.out p e.symm; have h2 := PW.out; omega)); have HR5 := Aside0.mk ho; have HB5 := Aside0.mk hb5; clear ho hb5 hg5 hat5 BS t0 t1 f0 f1; have t0 : w5.cell? ⟨p, 0, none⟩ = some (.string K) := (blk_cell BP5.out 0).trans rfl; have t1 : w5.cell? ⟨p, 1, none⟩ = some (.string V) := (blk_cell BP5.out 1).trans rfl; have p0 : w5.cell? ⟨g, 0, none⟩ = some (.int .i64 room) := (blk_cell BG5.out 0).trans rfl))
                  go_roundw
                  case rel => exact ⟨i + 1, by omega, by first | rfl | (rw [HWI.out]; rfl), by rw [HMAP.out]; exact HR5.out, by rw [HALL.out]; first | rfl | simp [*], BN5.out, BG5.out, HB5.out⟩
                  case measure => simp [intOf]; omega
              · have d255 := decide_eq_false h255
                go_wp2_with (first
                  | ((with_reducible refine gate_dst (N := 10) rfl ?_); refine box_event ?hg (N := 10) ?hd (cs := #[.string ⟨#[]⟩, .string ⟨#[]⟩]) (t := 42) ?hr ?_; (case hd => rfl); (case hg => rfl); (case hr => first | (go_simp; done) | (go_simp; rfl)); intro p hp0 Wp hpx hpb; have HPB := Aside0.mk hpb; have HPX := Aside0.mk hpx; have PW := Aside0.mk (show wr.heap.size ≤ p by rw [hp0]; exact Nat.le_refl _); have t0 : Wp.cell? ⟨p, 0, none⟩ = some (.string ⟨#[]⟩) := (blk_cell hpx 0).trans rfl; have t1 : Wp.cell? ⟨p, 1, none⟩ = some (.string ⟨#[]⟩) := (blk_cell hpx 1).trans rfl; have f0 := blk_frozen hpx 0; have f1 := blk_frozen hpx 1; clear hpx hpb hp0)
                  | ((with_reducible refine gate_builtin (b := .append) (xs := #[.tmp 52, .tmp 55]) rfl ?_); at_builtin; go_loud (refine Kd.R_append Kd.string (w0 := w) w.heap.size rfl (.tmp 52) (.tmp 55) 23 9 (.string ⟨#[]⟩) 16 rfl Try.underlying23 info_str rfl (by decide) (by omega) u7 ((ps.take i).map (·.1)) K [.string K] (fun k => k ≠ b ∧ k ≠ g) (fun _ => False) rfl (by first | rfl | (go_simp; done) | (go_simp; rfl)) ?aP (fun _ hk => hk.elim) ?aF ?aO ?aB ?aS ?aL ?_); (case aP => exact rfl); (case aO => go_loud (exact Kd.R_below HR.out ((HPB.out.setCell PW.out _).setCell PW.out _))); (case aB => exact below_step HBB.out ((HPB.out.setCell PW.out _).setCell PW.out _)); (case aS => exact (below_step HBB.out ((HPB.out.setCell PW.out _).setCell PW.out _)).size); (case aF => exact fun k hk => by have h1 := blk_lt HBN.out; have h2 := blk_lt HBG.out; have h3 := ((HPB.out.setCell (p := ⟨p, 0, none⟩) PW.out (.string K)).setCell (p := ⟨p, 1, none⟩) PW.out (.string V)).size; omega); (case aL => rw [List.length_map, List.length_take]; omega); intro v1 w5 ho hb5 hg5 hat5; have BS := ((HPB.out.setCell (p := ⟨p, 0, none⟩) PW.out (.string K)).setCell (p := ⟨p, 1, none⟩) PW.out (.string V)); have BN5 := Aside0.mk (blk_grown (blk_below HBN.out BS) hg5 (fun e => (HR.out.1 b e.symm).1 rfl)); have BG5 := Aside0.mk (blk_grown (blk_below HBG.out BS) hg5 (fun e => (HR.out.1 g e.symm).2 rfl)); have BP5 := Aside0.mk (blk_grown (blk_set (blk_set HPX.out 0 (.string K)) 1 (.string V)) hg5 (fun e => by have h1 := Kd.R_lt HR.out p e.symm; have h2 := PW.out; omega)); have HR5 := Aside0.mk ho; have HB5 := Aside0.mk hb5; clear ho hb5 hg5 hat5 BS t0 t1 f0 f1; have t0 : w5.cell? ⟨p, 0, none⟩ = some (.string K) := (blk_cell BP5.out 0).trans rfl; have t1 : w5.cell? ⟨p, 1, none⟩ = some (.string V) := (blk_cell BP5.out 1).trans rfl; have p0 : w5.cell? ⟨g, 0, none⟩ = some (.int .i64 room) := (blk_cell BG5.out 0).trans rfl))
                go_roundw
                case rel => exact ⟨i + 1, by omega, by first | rfl | (rw [HWI.out]; rfl), by rw [HMAP.out]; exact HR5.out, by rw [HALL.out]; first | rfl | simp [*], BN5.out, BG5.out, HB5.out⟩
                case measure => simp [intOf]; omega
          · have hie : i = ps.length := by omega
            have hd : decide ((i : Int) < (ps.length : Int)) = false := decide_eq_false (by omega)
            have hR2 := HR.out
            rw [hie, List.take_length] at hR2
            obtain ⟨A, n, e7, hnn, hck⟩ := Kd.R_reads hR2
            subst e7
            have HCK := Aside0.mk hck
            have HNN := Aside0.mk hnn
            have hrr := hr wr A n hck hnn
            rw [List.length_map] at hrr
            have HRR := Aside0.mk hrr
            clear hR2 hck hnn HR hrr
            have hcs : cs = [] := List.length_eq_zero_iff.1 (by have := beq_iff_eq.1 hok; omega)
            have hks : cs.length + ks.length = 0 := by have := beq_iff_eq.1 hok; omega
            have HKS := Aside0.mk hks
            have hA2 : (cs.any fun n => !inB n 1 16777215) = false := by rw [hcs]; rfl
            clear hcs hks
            have s0 : wr.cell? ⟨b, 0, none⟩ = some (.bool true) := (blk_cell HBN.out 0).trans rfl
            have s1 : wr.cell? ⟨b, 1, none⟩ = some (.slice A1 ps.length c1) := (blk_cell HBN.out 1).trans rfl
            have s2 : wr.cell? ⟨b, 2, none⟩ = some (.slice A2 ks.length c2) := (blk_cell HBN.out 2).trans rfl
            have s3 : wr.cell? ⟨b, 3, none⟩ = some (.slice A3 cs.length c3) := (blk_cell HBN.out 3).trans rfl
            have p0 : wr.cell? ⟨g, 0, none⟩ = some (.int .i64 room) := (blk_cell HBG.out 0).trans rfl
            generalize hal : (ps.take i).all (pairOk room) = al
            have hal2 : ps.all (pairOk room) = al := by rw [← hal, hie, List.take_length]
            have HAL := Aside0.mk hal2
            clear hal hal2
            have HIE := Aside0.mk hie
            clear hie
            cases al
            · go_wp2_with (first | (go_at_call 24; refine HRR.out.mono ?_; rintro e W4 ⟨rfl, h4⟩; have BN4 := Aside0.mk (blk_below HBN.out h4); have BG4 := Aside0.mk (blk_below HBG.out h4); have BB4 := Aside0.mk (below_step HBB.out h4); have HCK4 := Aside0.mk (Kd.C_below HCK.out h4); clear h4 s0 s1 s2 s3 p0; have s0 : W4.cell? ⟨b, 0, none⟩ = some (.bool true) := (blk_cell BN4.out 0).trans rfl; have s1 : W4.cell? ⟨b, 1, none⟩ = some (.slice A1 ps.length c1) := (blk_cell BN4.out 1).trans rfl; have s2 : W4.cell? ⟨b, 2, none⟩ = some (.slice A2 ks.length c2) := (blk_cell BN4.out 2).trans rfl; have s3 : W4.cell? ⟨b, 3, none⟩ = some (.slice A3 cs.length c3) := (blk_cell BN4.out 3).trans rfl; have p0 : W4.cell? ⟨g, 0, none⟩ = some (.int .i64 room) := (blk_cell BG4.out 0).trans rfl) | (go_at_call 25; have hcc := containsStr_calls A n (ps.map (·.1)) g room W4 p0 HCK4.out HNN.out (by rw [List.length_map]; omega); rw [List.length_map] at hcc; refine hcc.mono ?_; clear hcc; rintro e w5 ⟨rfl, h5⟩; rw [h5, hA1]) | (go_at_call 27; refine (containsInt_calls A3 c3 cs W4 (Kd.C_below hC.out BB4.out) hc (by omega)).mono ?_; rintro e w5 ⟨rfl, h5⟩; rw [h5, hA2]) | (go_at_call 13; refine (hs W4 BB4.out).mono ?_; rintro e W6 ⟨rfl, h6⟩; have BB6 := Aside0.mk (below_step BB4.out h6)))
              go_ret
              exact ⟨by rw [HCODE.out, if_neg (fun h => by rw [HAL.out] at h; cases h.2.1)]; rfl, HBB.out⟩
            · cases ri
              · go_wp2_with (first | (go_at_call 24; refine HRR.out.mono ?_; rintro e W4 ⟨rfl, h4⟩; have BN4 := Aside0.mk (blk_below HBN.out h4); have BG4 := Aside0.mk (blk_below HBG.out h4); have BB4 := Aside0.mk (below_step HBB.out h4); have HCK4 := Aside0.mk (Kd.C_below HCK.out h4); clear h4 s0 s1 s2 s3 p0; have s0 : W4.cell? ⟨b, 0, none⟩ = some (.bool true) := (blk_cell BN4.out 0).trans rfl; have s1 : W4.cell? ⟨b, 1, none⟩ = some (.slice A1 ps.length c1) := (blk_cell BN4.out 1).trans rfl; have s2 : W4.cell? ⟨b, 2, none⟩ = some (.slice A2 ks.length c2) := (blk_cell BN4.out 2).trans rfl; have s3 : W4.cell? ⟨b, 3, none⟩ = some (.slice A3 cs.length c3) := (blk_cell BN4.out 3).trans rfl; have p0 : W4.cell? ⟨g, 0, none⟩ = some (.int .i64 room) := (blk_cell BG4.out 0).trans rfl) | (go_at_call 25; have hcc := containsStr_calls A n (ps.map (·.1)) g room W4 p0 HCK4.out HNN.out (by rw [List.length_map]; omega); rw [List.length_map] at hcc; refine hcc.mono ?_; clear hcc; rintro e w5 ⟨rfl, h5⟩; rw [h5, hA1]) | (go_at_call 27; refine (containsInt_calls A3 c3 cs W4 (Kd.C_below hC.out BB4.out) hc (by omega)).mono ?_; rintro e w5 ⟨rfl, h5⟩; rw [h5, hA2]) | (go_at_call 13; refine (hs W4 BB4.out).mono ?_; rintro e W6 ⟨rfl, h6⟩; have BB6 := Aside0.mk (below_step BB4.out h6)))
                go_ret
                exact ⟨by rw [HCODE.out, if_neg (fun h => by cases h.2.2.1)]; rfl, BB4.out⟩
              · cases hA1 : ((ps.map (·.1)).any fun x => longB x room)
                rotate_left
                · go_wp2_with (first | (go_at_call 24; refine HRR.out.mono ?_; rintro e W4 ⟨rfl, h4⟩; have BN4 := Aside0.mk (blk_below HBN.out h4); have BG4 := Aside0.mk (blk_below HBG.out h4); have BB4 := Aside0.mk (below_step HBB.out h4); have HCK4 := Aside0.mk (Kd.C_below HCK.out h4); clear h4 s0 s1 s2 s3 p0; have s0 : W4.cell? ⟨b, 0, none⟩ = some (.bool true) := (blk_cell BN4.out 0).trans rfl; have s1 : W4.cell? ⟨b, 1, none⟩ = some (.slice A1 ps.length c1) := (blk_cell BN4.out 1).trans rfl; have s2 : W4.cell? ⟨b, 2, none⟩ = some (.slice A2 ks.length c2) := (blk_cell BN4.out 2).trans rfl; have s3 : W4.cell? ⟨b, 3, none⟩ = some (.slice A3 cs.length c3) := (blk_cell BN4.out 3).trans rfl; have p0 : W4.cell? ⟨g, 0, none⟩ = some (.int .i64 room) := (blk_cell BG4.out 0).trans rfl) | (go_at_call 25; have hcc := containsStr_calls A n (ps.map (·.1)) g room W4 p0 HCK4.out HNN.out (by rw [List.length_map]; omega); rw [List.length_map] at hcc; refine hcc.mono ?_; clear hcc; rintro e w5 ⟨rfl, h5⟩; rw [h5, hA1]) | (go_at_call 27; refine (containsInt_calls A3 c3 cs W4 (Kd.C_below hC.out BB4.out) hc (by omega)).mono ?_; rintro e w5 ⟨rfl, h5⟩; rw [h5, hA2]) | (go_at_call 13; refine (hs W4 BB4.out).mono ?_; rintro e W6 ⟨rfl, h6⟩; have BB6 := Aside0.mk (below_step BB4.out h6)))
                  go_ret
                  exact ⟨by rw [HCODE.out, if_neg (fun h => by rw [hA1] at h; cases h.2.2.2)]; rfl, BB4.out⟩
                · by_cases hz : sz > bytes
                  · have hz' := decide_eq_true hz
                    go_wp2_with (first | (go_at_call 24; refine HRR.out.mono ?_; rintro e W4 ⟨rfl, h4⟩; have BN4 := Aside0.mk (blk_below HBN.out h4); have BG4 := Aside0.mk (blk_below HBG.out h4); have BB4 := Aside0.mk (below_step HBB.out h4); have HCK4 := Aside0.mk (Kd.C_below HCK.out h4); clear h4 s0 s1 s2 s3 p0; have s0 : W4.cell? ⟨b, 0, none⟩ = some (.bool true) := (blk_cell BN4.out 0).trans rfl; have s1 : W4.cell? ⟨b, 1, none⟩ = some (.slice A1 ps.length c1) := (blk_cell BN4.out 1).trans rfl; have s2 : W4.cell? ⟨b, 2, none⟩ = some (.slice A2 ks.length c2) := (blk_cell BN4.out 2).trans rfl; have s3 : W4.cell? ⟨b, 3, none⟩ = some (.slice A3 cs.length c3) := (blk_cell BN4.out 3).trans rfl; have p0 : W4.cell? ⟨g, 0, none⟩ = some (.int .i64 room) := (blk_cell BG4.out 0).trans rfl) | (go_at_call 25; have hcc := containsStr_calls A n (ps.map (·.1)) g room W4 p0 HCK4.out HNN.out (by rw [List.length_map]; omega); rw [List.length_map] at hcc; refine hcc.mono ?_; clear hcc; rintro e w5 ⟨rfl, h5⟩; rw [h5, hA1]) | (go_at_call 27; refine (containsInt_calls A3 c3 cs W4 (Kd.C_below hC.out BB4.out) hc (by omega)).mono ?_; rintro e w5 ⟨rfl, h5⟩; rw [h5, hA2]) | (go_at_call 13; refine (hs W4 BB4.out).mono ?_; rintro e W6 ⟨rfl, h6⟩; have BB6 := Aside0.mk (below_step BB4.out h6)))
                    go_ret
                    exact ⟨by rw [HCODE.out, if_pos ⟨HKS.out, HAL.out, by simp, hA1⟩, if_pos (by omega)]; rfl, BB6.out⟩
                  · have hz' := decide_eq_false hz
                    go_wp2_with (first | (go_at_call 24; refine HRR.out.mono ?_; rintro e W4 ⟨rfl, h4⟩; have BN4 := Aside0.mk (blk_below HBN.out h4); have BG4 := Aside0.mk (blk_below HBG.out h4); have BB4 := Aside0.mk (below_step HBB.out h4); have HCK4 := Aside0.mk (Kd.C_below HCK.out h4); clear h4 s0 s1 s2 s3 p0; have s0 : W4.cell? ⟨b, 0, none⟩ = some (.bool true) := (blk_cell BN4.out 0).trans rfl; have s1 : W4.cell? ⟨b, 1, none⟩ = some (.slice A1 ps.length c1) := (blk_cell BN4.out 1).trans rfl; have s2 : W4.cell? ⟨b, 2, none⟩ = some (.slice A2 ks.length c2) := (blk_cell BN4.out 2).trans rfl; have s3 : W4.cell? ⟨b, 3, none⟩ = some (.slice A3 cs.length c3) := (blk_cell BN4.out 3).trans rfl; have p0 : W4.cell? ⟨g, 0, none⟩ = some (.int .i64 room) := (blk_cell BG4.out 0).trans rfl) | (go_at_call 25; have hcc := containsStr_calls A n (ps.map (·.1)) g room W4 p0 HCK4.out HNN.out (by rw [List.length_map]; omega); rw [List.length_map] at hcc; refine hcc.mono ?_; clear hcc; rintro e w5 ⟨rfl, h5⟩; rw [h5, hA1]) | (go_at_call 27; refine (containsInt_calls A3 c3 cs W4 (Kd.C_below hC.out BB4.out) hc (by omega)).mono ?_; rintro e w5 ⟨rfl, h5⟩; rw [h5, hA2]) | (go_at_call 13; refine (hs W4 BB4.out).mono ?_; rintro e W6 ⟨rfl, h6⟩; have BB6 := Aside0.mk (below_step BB4.out h6)))
                    go_ret
                    exact ⟨by rw [HCODE.out, if_pos ⟨HKS.out, HAL.out, by simp, hA1⟩, if_neg (by omega)]; rfl, BB6.out⟩
      · exfalso
        have h1 := beq_iff_eq.1 hl1
        have h2 := beq_iff_eq.1 hok
        omega
end Go.Proofs.YtjhenmegcgnkgaaX
