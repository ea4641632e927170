/- node.Parse, walked (printed by gennodeparse.py). -/
import Derived.Test.YtjhenmegcgnkgaaQNodex0
import Derived.Test.YtjhenmegcgnkgaaNodeLeaf
import Derived.Test.YtjhenmegcgnkgaaNodeKinds2
import Derived.Test.YtjhenmegcgnkgaaNodeMap
set_option linter.unusedVariables false
set_option linter.unusedSimpArgs false
namespace Go.Proofs.YtjhenmegcgnkgaaX
open Go.RowKit Go.Proofs.YtjhenmegcgnkgaaW.PrintWords Go.Proofs.YtjhenmegcgnkgaaW.PrintLast Go.Proofs.YtjhenmegcgnkgaaW.PrintMore Go.Proofs.Ytjhenmegcgnkgaa

theorem parse_tab5 : rtab .any (opsOf Try.f21 5) = (true, [([], []), ([], []), ([1], [1]), ([2], [2]), ([0, 3], [0, 3]), ([4, 0, 0, 1, 2, 3, 4], [4])]) := by kernel_rfl
theorem parse_bits5 : waitsOk [([], []), ([], []), ([1], [1]), ([2], [2]), ([0, 3], [0, 3]), ([4, 0, 0, 1, 2, 3, 4], [4])] [0, 0, 2, 6, 15, 31] = true := by kernel_rfl
theorem parse_tab7 : rtab .any (opsOf Try.f21 7) = (true, [([], []), ([], []), ([], []), ([2], [2]), ([3], [3]), ([4], [4]), ([5], [5]), ([], []), ([7], [7]), ([8], [8]), ([9], [9]), ([6, 10], [6, 10]), ([0, 1, 11], [0, 1, 11])]) := by kernel_rfl
theorem parse_bits7 : waitsOk [([], []), ([], []), ([], []), ([2], [2]), ([3], [3]), ([4], [4]), ([5], [5]), ([], []), ([7], [7]), ([8], [8]), ([9], [9]), ([6, 10], [6, 10]), ([0, 1, 11], [0, 1, 11])] [0, 0, 0, 4, 12, 28, 60, 0, 128, 384, 896, 2044, 4095] = true := by kernel_rfl
theorem kept_cell {W0 w : World} {p : Addr} {v : Value} (hb : Below W0.heap.size W0 w) (h : W0.cell? p = some v) : w.cell? p = some v := (hb.cell (p := p) (cell_lt h)).trans h
theorem first3 {w : World} {A : Option Addr} {xs : List Int} (h : ReadsInt w .u8 A xs.length xs) (hn : 3 ≤ xs.length) : ∃ ad, A = some ad ∧ w.cell? ad = some (.int .u8 (rd xs 0)) ∧ w.cell? { block := ad.block, off := ad.off + 1 } = some (.int .u8 (rd xs 1)) ∧ w.cell? { block := ad.block, off := ad.off + 2 } = some (.int .u8 (rd xs 2)) := by
  obtain ⟨ad, hA, hc⟩ := h.2.2 (by omega)
  have h0 := hc 0 (by omega)
  have h1 := hc 1 (by omega)
  have h2 := hc 2 (by omega)
  have e0 : ad.add 0 = ad := by unfold Addr.add; simp
  have e1 : ad.add 1 = { block := ad.block, off := ad.off + 1 } := by unfold Addr.add; simp
  have e2 : ad.add 2 = { block := ad.block, off := ad.off + 2 } := by unfold Addr.add; simp
  rw [e0] at h0
  rw [e1] at h1
  rw [e2] at h2
  exact ⟨ad, hA, h0, h1, h2⟩
/-- What Bytes answers of a node, wherever its rows lie. -/
def BytesIs (leaf : Bool) (ps : List PNode.S42) (ks : List ByteArray) (cs : List Int) (n : Int) (want : List Int) (e0 : Int) : Prop := ∀ (W : World) (A1 : Option Addr) (c1 : Nat) (A2 : Option Addr) (c2 : Nat) (A3 : Option Addr) (c3 : Nat), Kd.C PNode.k42 W A1 ps.length ps → ps.length ≤ c1 → Kd.C Kd.string W A2 ks.length ks → ks.length ≤ c2 → Kd.C (Kd.int .i64) W A3 cs.length cs → cs.length ≤ c3 →
  Calls Try.prog 11 #[nodeV leaf A1 ps.length c1 A2 ks.length c2 A3 cs.length c3, .int .i64 n] W fun e w' => ∃ v0 : Value, e = .returned (.tuple #[v0, .int .i64 e0]) ∧ Kd.R (Kd.int .u8) 5 w' W.heap.size (fun _ => True) v0 want ∧ Below W.heap.size W w'
def EqualIs (a b : List Int) (r : Bool) : Prop := ∀ (W : World) (A1 : Option Addr) (c1 : Nat) (A2 : Option Addr) (c2 : Nat), Kd.C (Kd.int .u8) W A1 a.length a → a.length ≤ c1 → Kd.C (Kd.int .u8) W A2 b.length b → b.length ≤ c2 → Calls Try.prog 36 #[.slice A1 a.length c1, .slice A2 b.length c2] W fun e w' => e = .returned (.bool r) ∧ Drawn0 W w'
def NodeAns (w : World) (leaf : Bool) (ps : List PNode.S42) (ks : List ByteArray) (cs : List Int) (e0 : Int) (e : Ending) (w' : World) : Prop :=
  ∃ v1 v2 v3 : Value, e = .returned (.tuple #[.agg #[.bool leaf, v1, v2, v3], .int .i64 e0]) ∧ Kd.R PNode.k42 42 w' w.heap.size (fun _ => True) v1 ps ∧ Kd.R Kd.string 9 w' w.heap.size (fun _ => True) v2 ks ∧ Kd.R (Kd.int .i64) 3 w' w.heap.size (fun _ => True) v3 cs ∧ Below w.heap.size w w'

set_option maxHeartbeats 4000000 in
set_option maxRecDepth 100000 in
theorem parse_short (A : Option Addr) (c : Nat) (xs : List Int) (w : World) (hn : inB (xs.length : Int) 64 4096 = false) :
    Calls Try.prog 21 #[.slice A xs.length c] w (NodeAns w false [] [] [] 4) := by
  go_enter Try.func21, Try.ntmps21
  go_wp2_with (first
    | ((with_reducible refine gate_dst (N := 2) rfl ?_); refine box_event ?hg (N := 2) ?hd (cs := #[.bool false, .slice none 0 0, .slice none 0 0, .slice none 0 0]) (t := 26) ?hr ?_; (case hd => rfl); (case hg => rfl); (case hr => first | (go_simp; done) | (go_simp; rfl)); intro g hg0 W1 hgx hgb; have BG := Aside0.mk hgx; have HB := Aside0.mk hgb; have HG := Aside0.mk (show w.heap.size ≤ g by rw [hg0]; exact Nat.le_refl _); have t0 : W1.cell? ⟨g, 0, none⟩ = some (.bool false) := (blk_cell hgx 0).trans rfl; have t1 : W1.cell? ⟨g, 1, none⟩ = some (.slice none 0 0) := (blk_cell hgx 1).trans rfl; have t2 : W1.cell? ⟨g, 2, none⟩ = some (.slice none 0 0) := (blk_cell hgx 2).trans rfl; have t3 : W1.cell? ⟨g, 3, none⟩ = some (.slice none 0 0) := (blk_cell hgx 3).trans rfl; have f0 := blk_frozen hgx 0; have f1 := blk_frozen hgx 1; have f2 := blk_frozen hgx 2; have f3 := blk_frozen hgx 3; clear hgx hgb hg0)
    | (go_at_call 29; refine (within_calls _ _ _ _).mono ?_; rw [hn]; rintro e w' ⟨rfl, rfl⟩))
  have b4 := blk_set (blk_set (blk_set (blk_set BG.out 0 (.bool false)) 1 (.slice none 0 0)) 2 (.slice none 0 0)) 3 (.slice none 0 0)
  refine bodyPost_ret (results_ct rfl _ _ g 26 #[.bool false, .slice none 0 0, .slice none 0 0, .slice none 0 0] (0, 0) _ rfl b4 Try.underlying26 rfl (by kernel_rfl)) rfl ?_
  exact ⟨.slice none 0 0, .slice none 0 0, .slice none 0 0, rfl, Kd.R_nil _ _ _ _ _, Kd.R_nil _ _ _ _ _, Kd.R_nil _ _ _ _ _, below_set (below_set (below_set (below_set HB.out HG.out) HG.out) HG.out) HG.out⟩

set_option maxHeartbeats 4000000 in
set_option maxRecDepth 100000 in
theorem parse_other (A : Option Addr) (c : Nat) (xs : List Int) (w : World) (hR : ReadsInt w .u8 A xs.length xs) (hc : xs.length ≤ c) (ho : Oct xs) (hn : inB (xs.length : Int) 64 4096 = true) (h3 : 64 ≤ xs.length) (hkind : rd xs 0 ≠ 1 ∧ rd xs 0 ≠ 2) :
    Calls Try.prog 21 #[.slice A xs.length c] w (NodeAns w false [] [] [] 4) := by
  have hin := hn
  have hq0 := neq_nil0
  have hq46 := neq_nil46
  have hq48 := neq_nil48
  obtain ⟨ad, hA, k0, k1, k2⟩ := first3 hR (by omega)
  subst hA
  obtain ⟨x0, hx0⟩ : ∃ v, rd xs 0 = v := ⟨_, rfl⟩
  obtain ⟨x1, hx1⟩ : ∃ v, rd xs 1 = v := ⟨_, rfl⟩
  obtain ⟨x2, hx2⟩ : ∃ v, rd xs 2 = v := ⟨_, rfl⟩
  have o0 := oct_rd ho 0
  have o1 := oct_rd ho 1
  have o2 := oct_rd ho 2
  rw [hx0] at k0 o0 hkind
  rw [hx1] at k1 o1
  rw [hx2] at k2 o2
  have HX0 := Aside0.mk o0
  have HK0 := Aside0.mk k0
  have HK1 := Aside0.mk k1
  have HK2 := Aside0.mk k2
  have HR := Aside0.mk hR
  have HOX := Aside0.mk ho
  have HOD := Aside0.mk (show Oct (xs.drop 3) from fun x hx => ho x (List.mem_of_mem_drop hx))
  have HCN := Aside0.mk (show 0 ≤ x1 * 256 + x2 ∧ x1 * 256 + x2 ≤ 65535 by omega)
  have HKD := Aside0.mk hkind
  have i1 : IntKind.i64.wrap x1 = x1 := wraps_i64 x1 o1.1 (by omega)
  have i2 : IntKind.i64.wrap x2 = x2 := wraps_i64 x2 o2.1 (by omega)
  have i3 : IntKind.i64.wrap (x1 * 256) = x1 * 256 := wraps_i64 _ (by omega) (by omega)
  have i4 : Go.bits .or .i64 (x1 * 256) x2 = x1 * 256 + x2 := or64 8 (by omega) (by omega) (by omega) (by omega) (by omega) (by omega)
  obtain ⟨i0, hi0, _, hsz, _⟩ := info_parts info_u8
  obtain ⟨A2, hcut2, hA2, hC2⟩ := print_drop_of (P := Try.prog) (Value.int .u8) 0 30 5 .i64 Try.underlying30 hi0 hsz (some ad) c xs 3 (by decide) (by omega) hc
  have HA2 := Aside0.mk hA2
  have HC2 := Aside0.mk hC2
  obtain ⟨n2, hn2⟩ : ∃ n2, (xs.drop (3 : Int).toNat).length = n2 := ⟨_, rfl⟩
  have N2 := Aside0.mk (show (xs.drop 3).length = n2 from hn2)
  rw [hn2] at hcut2
  have q0 : (0 < (xs.length : Int)) = True := eq_true (by omega)
  have q1 : (1 < (xs.length : Int)) = True := eq_true (by omega)
  have q2 : (2 < (xs.length : Int)) = True := eq_true (by omega)
  have p0 : (0 < xs.length) = True := eq_true (by omega)
  have p1 : (1 < xs.length) = True := eq_true (by omega)
  have p2 : (2 < xs.length) = True := eq_true (by omega)
  have HL3 := Aside0.mk h3
  have HCC := Aside0.mk hc
  clear hA2 hC2 hn2 hi0 hsz hc h3 hR ho o0 o1 o2 k0 k1 k2 hkind hn
  go_enter Try.func21, Try.ntmps21
  go_wp2_with (first
    | ((with_reducible refine gate_dst (N := 2) rfl ?_); refine box_event ?hg (N := 2) ?hd (cs := #[.bool false, .slice none 0 0, .slice none 0 0, .slice none 0 0]) (t := 26) ?hr ?_; (case hd => rfl); (case hg => rfl); (case hr => first | (go_simp; done) | (go_simp; rfl)); intro g hg0 W0 hgx hgb; have BG := Aside0.mk hgx; have HB0 := Aside0.mk hgb; have HG := Aside0.mk (show w.heap.size ≤ g by rw [hg0]; exact Nat.le_refl _); have HGL := Aside0.mk (blk_lt hgx); have HR0 := Aside0.mk (ReadsInt.below HR.out hgb); have K0 := Aside0.mk (kept_cell hgb HK0.out); have K1 := Aside0.mk (kept_cell hgb HK1.out); have K2 := Aside0.mk (kept_cell hgb HK2.out); clear hgx hgb hg0)
    | ((with_reducible refine gate_dst (N := 17) rfl ?_); refine box_event ?hg (N := 17) ?hd (cs := #[.slice A2 n2 (c - 3), .bool false]) (t := 67) ?hr ?_; (case hd => rfl); (case hg => rfl); (case hr => first | (go_simp; done) | (go_simp; rfl)); intro rb hr0 w2 hrx hrb; have BR := Aside0.mk hrx; have HRB := Aside0.mk (show W0.heap.size ≤ rb by rw [hr0]; exact Nat.le_refl _); have HB := Aside0.mk hrb; clear hrx hrb hr0)
    | ((with_reducible refine gate_dst (N := 5) rfl ?_); refine box_event ?hg (N := 5) ?hd (cs := #[.bool false, .slice none 0 0, .slice none 0 0, .slice none 0 0]) (t := 26) ?hr ?_; (case hd => rfl); (case hg => rfl); (case hr => first | (go_simp; done) | (go_simp; rfl)); intro nb hn0 w3 hnx hnb; have HNE := Aside0.mk (show rb ≠ nb by rw [hn0]; exact Nat.ne_of_lt (blk_lt BR.out)); have HNB := Aside0.mk (show W0.heap.size ≤ nb by rw [hn0]; exact HB.out.size); have n0_ := Aside0.mk (show Rd W0 w3 rb (xs.drop 3) false from ⟨A2, c - 3, by rw [N2.out]; exact blk_below BR.out hnb, HA2.out W0 HR0.out, HC2.out⟩); have BN := Aside0.mk (show NodeAt w3 nb false (.slice none 0 0) (.slice none 0 0) (.slice none 0 0) from hnx); have n1_ := Aside0.mk (below_step HB.out hnb); clear HB BR hnx hnb hn0; have HD := n0_; have HB := n1_; clear n0_ n1_)
    | (go_at_call 29; refine (within_calls _ _ _ _).mono ?_; rw [hin]; rintro e w' ⟨rfl, hw_⟩; have hw2_ := hw_.symm; subst hw2_; clear hw_))
  refine start_ (n := 6) (S := fun w' => w'.cell? ad = some (.int .u8 x0)) (ds := []) #[false, false, false, false, false, false] (by kernel_rfl) rfl rfl (kept_cell (below_drew1 HB.out) K0.out) (fun hHeld => ?_); refine with_tabW parse_tab5 parse_bits5 (fun HT_ HW_ => ?_)
  have n0_ := Aside0.mk (rd_drew HD.out)
  have n1_ := Aside0.mk (blk_drew BN.out)
  have n2_ := Aside0.mk (below_drew1 HB.out)
  clear HD BN HB
  have HD := n0_
  have BN := n1_
  have HB := n2_
  clear n0_ n1_ n2_
  generalize w3.drew = w4 at HD BN HB hHeld ⊢
  refine pure_ (i := 1) (N := some 19) (v := ?_) (a' := ?_) #[false, true, false, false, false, false] rfl rfl (any_of HT_.out (by kernel_rfl)) (fun _ _ _ h => h) (Or.inl ⟨by rfl, ?_⟩) ?_ ?_
  rotate_left
  · intro w'
    go_simp
    with_reducible rfl
  rotate_left
  · simp only [Act.put, List.setIfInBounds_toArray, List.set_cons_zero, List.set_cons_succ, i64_w, i32_w]
    rfl
  refine pure_ (i := 2) (N := some 20) (v := ?_) (a' := ?_) #[false, true, true, false, false, false] rfl rfl (any_of HT_.out (by kernel_rfl)) (fun _ _ _ h => h) (Or.inl ⟨by rfl, ?_⟩) ?_ ?_
  rotate_left
  · intro w'
    go_simp
    with_reducible rfl
  rotate_left
  · simp only [Act.put, List.setIfInBounds_toArray, List.set_cons_zero, List.set_cons_succ, i64_w, i32_w]
    rfl
  refine take_ (i := 3) (N := some 21) (v := ?_) (a' := ?_) #[false, true, true, true, false, false] rfl rfl (take_ofW HT_.out HW_.out (by kernel_rfl)) (fun _ _ _ h => h) (Or.inl ⟨by rfl, ?_⟩) hHeld ?_ ?_
  rotate_left
  · rintro w' s0
    go_simp
    with_reducible rfl
  rotate_left
  · simp only [Act.put, List.setIfInBounds_toArray, List.set_cons_zero, List.set_cons_succ, i64_w, i32_w]
    rfl
  refine one_ (i := 0) (N := some 18) #[true, true, true, true, false, false] rfl rfl (one_of HT_.out (by kernel_rfl)) (by decide) (fun K hK => ?_)
  refine goes_ Try.func35 (by kernel_rfl) rfl #[] (by rfl) rfl rfl (by (try simp only [List.map_toArray, List.map_cons, List.map_nil]); first | done | rfl) ?_
  refine (kinds_calls w4).mono ?_
  rintro e w5 ⟨mb, rfl, hk5, hm5, hb5⟩
  refine ⟨_, rfl, ?_⟩
  have HK := Aside0.mk hk5
  have n0_ := Aside0.mk (rd_same HD.out (hb5.block rb (rd_lt HD.out)))
  have n1_ := Aside0.mk (blk_below BN.out hb5)
  have n2_ := Aside0.mk (below_step HB.out hb5)
  clear HD BN HB
  have HD := n0_
  have BN := n1_
  have HB := n2_
  clear n0_ n1_ n2_
  clear hk5 hm5 hb5
  refine hK.out _ _ (kept_cell HB.out K0.out) (fun hHeld => ?_)
  clear hK K
  refine norm_ (a' := ?_) ?_ ?_
  rotate_left
  · show Act.put _ (some 18) _ = _
    simp only [Act.put, List.setIfInBounds_toArray, List.set_cons_zero, List.set_cons_succ, i64_w, i32_w]
    rfl
  obtain ⟨fv, hlook, hfv⟩ := kinds_look HK.out x0 HX0.out
  refine one_ (i := 4) (N := some 22) #[true, true, true, true, true, false] rfl rfl (one_of HT_.out (by kernel_rfl)) (by decide) (fun K hK => ?_)
  refine value_ (w1 := ?_) (v := ?_) (by rfl) rfl ?_ ?_
  rotate_left 2
  · go_simp
    constructor
    · rfl
    · rfl
  refine hK.out _ _ (kept_cell HB.out K0.out) (fun hHeld => ?_)
  clear hK K
  refine norm_ (a' := ?_) ?_ ?_
  rotate_left
  · show Act.put _ (some 22) _ = _
    simp only [Act.put, List.setIfInBounds_toArray, List.set_cons_zero, List.set_cons_succ, i64_w, i32_w]
    rfl
  refine pure_ (i := 5) (N := some 6) (v := ?_) (a' := ?_) #[true, true, true, true, true, true] rfl rfl (any_of HT_.out (by kernel_rfl)) (fun _ _ _ h => h) (Or.inl ⟨by rfl, ?_⟩) ?_ ?_
  rotate_left
  · intro w'
    go_simp
    with_reducible rfl
  rotate_left
  · simp only [Act.put, List.setIfInBounds_toArray, List.set_cons_zero, List.set_cons_succ, i64_w, i32_w]
    rfl
  refine done_ (done_of HT_.out (by kernel_rfl)) ?_
  clear hlook
  have HFV := Aside0.mk hfv
  clear hfv
  have hfn : fv = .nilFunc := by
    rcases HFV.out with h | h | h
    · exact absurd h.1 HKD.out.1
    · exact absurd h.1 HKD.out.2
    · exact h.2.2
  subst hfn
  have BGn := Aside0.mk ((HB.out.block g HGL.out).trans BG.out)
  have t0 : w5.cell? ⟨g, 0, none⟩ = some (.bool false) := (blk_cell BGn.out 0).trans rfl
  have t1 : w5.cell? ⟨g, 1, none⟩ = some (.slice none 0 0) := (blk_cell BGn.out 1).trans rfl
  have t2 : w5.cell? ⟨g, 2, none⟩ = some (.slice none 0 0) := (blk_cell BGn.out 2).trans rfl
  have t3 : w5.cell? ⟨g, 3, none⟩ = some (.slice none 0 0) := (blk_cell BGn.out 3).trans rfl
  have f0 := blk_frozen BGn.out 0
  have f1 := blk_frozen BGn.out 1
  have f2 := blk_frozen BGn.out 2
  have f3 := blk_frozen BGn.out 3
  go_wp2
  have b4 := blk_set (blk_set (blk_set (blk_set BGn.out 0 (.bool false)) 1 (.slice none 0 0)) 2 (.slice none 0 0)) 3 (.slice none 0 0)
  refine bodyPost_ret (results_ct rfl _ _ g 26 #[.bool false, .slice none 0 0, .slice none 0 0, .slice none 0 0] (0, 0) _ rfl b4 Try.underlying26 rfl (by kernel_rfl)) rfl ?_
  exact ⟨.slice none 0 0, .slice none 0 0, .slice none 0 0, rfl, Kd.R_nil _ _ _ _ _, Kd.R_nil _ _ _ _ _, Kd.R_nil _ _ _ _ _, below_set (below_set (below_set (below_set (below_step HB0.out HB.out) HG.out) HG.out) HG.out) HG.out⟩
theorem R_set4 {α : Type} {d : Kd α} {e : Nat} {w : World} {base base' : Nat} {ok : Nat → Prop} {v : Value} {xs : List α} (h : d.R e w base ok v xs) (hb : base' ≤ base) {g : Nat} (hg : g < base) (u0 u1 u2 u3 : Value) :
    d.R e ((((w.setCell ⟨g, 0, none⟩ u0).setCell ⟨g, 1, none⟩ u1).setCell ⟨g, 2, none⟩ u2).setCell ⟨g, 3, none⟩ u3) base' (fun _ => True) v xs := by
  have h1 := Kd.R_bound h
  have h2 := Kd.R_far h1 (p := ⟨g, 0, none⟩) (fun k hk e => by have := hk.2.1; dsimp only at e; omega) u0
  have h3 := Kd.R_far h2 (p := ⟨g, 1, none⟩) (fun k hk e => by have := hk.2.1; dsimp only at e; omega) u1
  have h4 := Kd.R_far h3 (p := ⟨g, 2, none⟩) (fun k hk e => by have := hk.2.1; dsimp only at e; omega) u2
  have h5 := Kd.R_far h4 (p := ⟨g, 3, none⟩) (fun k hk e => by have := hk.2.1; dsimp only at e; omega) u3
  exact Kd.R_lower (Kd.R_mono h5 (fun _ _ => trivial)) hb

set_option maxHeartbeats 4000000 in
set_option maxRecDepth 100000 in
theorem parse_leaf (A : Option Addr) (c : Nat) (xs : List Int) (w : World) (hR : ReadsInt w .u8 A xs.length xs) (hc : xs.length ≤ c) (ho : Oct xs) (hn : inB (xs.length : Int) 64 4096 = true) (h3 : 64 ≤ xs.length) (hkind : rd xs 0 = 1) (ps : List PNode.S42) (rest : List Int) (bad : Bool) (hres : leafR (rd xs 1 * 256 + rd xs 2).toNat (xs.drop 3) false [] = (ps, rest, bad)) (want : List Int) (e0 : Int) (hby : BytesIs true ps [] [] (xs.length : Int) want e0) (r : Bool) (heq : EqualIs want xs r) (P : Ending → World → Prop)
    (hyes : bad = false → e0 = 0 → r = true → ∀ e w', NodeAns w true ps [] [] 0 e w' → P e w') (hno : (bad = true ∨ e0 ≠ 0 ∨ r = false) → ∀ e w', NodeAns w false [] [] [] 4 e w' → P e w') :
    Calls Try.prog 21 #[.slice A xs.length c] w P := by
  have hin := hn
  have hq0 := neq_nil0
  have hq46 := neq_nil46
  have hq48 := neq_nil48
  obtain ⟨ad, hA, k0, k1, k2⟩ := first3 hR (by omega)
  subst hA
  obtain ⟨x0, hx0⟩ : ∃ v, rd xs 0 = v := ⟨_, rfl⟩
  obtain ⟨x1, hx1⟩ : ∃ v, rd xs 1 = v := ⟨_, rfl⟩
  obtain ⟨x2, hx2⟩ : ∃ v, rd xs 2 = v := ⟨_, rfl⟩
  have o0 := oct_rd ho 0
  have o1 := oct_rd ho 1
  have o2 := oct_rd ho 2
  rw [hx0] at k0 o0 hkind
  rw [hx1] at k1 o1
  rw [hx2] at k2 o2
  rw [hx1, hx2] at hres
  have HRES := Aside0.mk hres
  clear hres
  unfold BytesIs nodeV at hby
  unfold EqualIs at heq
  have HBY := Aside0.mk hby
  have HEQ := Aside0.mk heq
  have HYES := Aside0.mk hyes
  have HNO := Aside0.mk hno
  clear hby heq hyes hno
  have HX0 := Aside0.mk o0
  have HK0 := Aside0.mk k0
  have HK1 := Aside0.mk k1
  have HK2 := Aside0.mk k2
  have HR := Aside0.mk hR
  have HOX := Aside0.mk ho
  have HOD := Aside0.mk (show Oct (xs.drop 3) from fun x hx => ho x (List.mem_of_mem_drop hx))
  have HCN := Aside0.mk (show 0 ≤ x1 * 256 + x2 ∧ x1 * 256 + x2 ≤ 65535 by omega)
  have HKD := Aside0.mk hkind
  have i1 : IntKind.i64.wrap x1 = x1 := wraps_i64 x1 o1.1 (by omega)
  have i2 : IntKind.i64.wrap x2 = x2 := wraps_i64 x2 o2.1 (by omega)
  have i3 : IntKind.i64.wrap (x1 * 256) = x1 * 256 := wraps_i64 _ (by omega) (by omega)
  have i4 : Go.bits .or .i64 (x1 * 256) x2 = x1 * 256 + x2 := or64 8 (by omega) (by omega) (by omega) (by omega) (by omega) (by omega)
  obtain ⟨i0, hi0, _, hsz, _⟩ := info_parts info_u8
  obtain ⟨A2, hcut2, hA2, hC2⟩ := print_drop_of (P := Try.prog) (Value.int .u8) 0 30 5 .i64 Try.underlying30 hi0 hsz (some ad) c xs 3 (by decide) (by omega) hc
  have HA2 := Aside0.mk hA2
  have HC2 := Aside0.mk hC2
  obtain ⟨n2, hn2⟩ : ∃ n2, (xs.drop (3 : Int).toNat).length = n2 := ⟨_, rfl⟩
  have N2 := Aside0.mk (show (xs.drop 3).length = n2 from hn2)
  rw [hn2] at hcut2
  have q0 : (0 < (xs.length : Int)) = True := eq_true (by omega)
  have q1 : (1 < (xs.length : Int)) = True := eq_true (by omega)
  have q2 : (2 < (xs.length : Int)) = True := eq_true (by omega)
  have p0 : (0 < xs.length) = True := eq_true (by omega)
  have p1 : (1 < xs.length) = True := eq_true (by omega)
  have p2 : (2 < xs.length) = True := eq_true (by omega)
  have HL3 := Aside0.mk h3
  have HCC := Aside0.mk hc
  clear hA2 hC2 hn2 hi0 hsz hc h3 hR ho o0 o1 o2 k0 k1 k2 hkind hn
  go_enter Try.func21, Try.ntmps21
  go_wp2_with (first
    | ((with_reducible refine gate_dst (N := 2) rfl ?_); refine box_event ?hg (N := 2) ?hd (cs := #[.bool false, .slice none 0 0, .slice none 0 0, .slice none 0 0]) (t := 26) ?hr ?_; (case hd => rfl); (case hg => rfl); (case hr => first | (go_simp; done) | (go_simp; rfl)); intro g hg0 W0 hgx hgb; have BG := Aside0.mk hgx; have HB0 := Aside0.mk hgb; have HG := Aside0.mk (show w.heap.size ≤ g by rw [hg0]; exact Nat.le_refl _); have HGL := Aside0.mk (blk_lt hgx); have HR0 := Aside0.mk (ReadsInt.below HR.out hgb); have K0 := Aside0.mk (kept_cell hgb HK0.out); have K1 := Aside0.mk (kept_cell hgb HK1.out); have K2 := Aside0.mk (kept_cell hgb HK2.out); clear hgx hgb hg0)
    | ((with_reducible refine gate_dst (N := 17) rfl ?_); refine box_event ?hg (N := 17) ?hd (cs := #[.slice A2 n2 (c - 3), .bool false]) (t := 67) ?hr ?_; (case hd => rfl); (case hg => rfl); (case hr => first | (go_simp; done) | (go_simp; rfl)); intro rb hr0 w2 hrx hrb; have BR := Aside0.mk hrx; have HRB := Aside0.mk (show W0.heap.size ≤ rb by rw [hr0]; exact Nat.le_refl _); have HB := Aside0.mk hrb; clear hrx hrb hr0)
    | ((with_reducible refine gate_dst (N := 5) rfl ?_); refine box_event ?hg (N := 5) ?hd (cs := #[.bool false, .slice none 0 0, .slice none 0 0, .slice none 0 0]) (t := 26) ?hr ?_; (case hd => rfl); (case hg => rfl); (case hr => first | (go_simp; done) | (go_simp; rfl)); intro nb hn0 w3 hnx hnb; have HNE := Aside0.mk (show rb ≠ nb by rw [hn0]; exact Nat.ne_of_lt (blk_lt BR.out)); have HNB := Aside0.mk (show W0.heap.size ≤ nb by rw [hn0]; exact HB.out.size); have n0_ := Aside0.mk (show Rd W0 w3 rb (xs.drop 3) false from ⟨A2, c - 3, by rw [N2.out]; exact blk_below BR.out hnb, HA2.out W0 HR0.out, HC2.out⟩); have BN := Aside0.mk (show NodeAt w3 nb false (.slice none 0 0) (.slice none 0 0) (.slice none 0 0) from hnx); have n1_ := Aside0.mk (below_step HB.out hnb); clear HB BR hnx hnb hn0; have HD := n0_; have HB := n1_; clear n0_ n1_)
    | (go_at_call 29; refine (within_calls _ _ _ _).mono ?_; rw [hin]; rintro e w' ⟨rfl, hw_⟩; have hw2_ := hw_.symm; subst hw2_; clear hw_))
  refine start_ (n := 6) (S := fun w' => w'.cell? ad = some (.int .u8 x0)) (ds := []) #[false, false, false, false, false, false] (by kernel_rfl) rfl rfl (kept_cell (below_drew1 HB.out) K0.out) (fun hHeld => ?_); refine with_tabW parse_tab5 parse_bits5 (fun HT_ HW_ => ?_)
  have n0_ := Aside0.mk (rd_drew HD.out)
  have n1_ := Aside0.mk (blk_drew BN.out)
  have n2_ := Aside0.mk (below_drew1 HB.out)
  clear HD BN HB
  have HD := n0_
  have BN := n1_
  have HB := n2_
  clear n0_ n1_ n2_
  generalize w3.drew = w4 at HD BN HB hHeld ⊢
  refine pure_ (i := 1) (N := some 19) (v := ?_) (a' := ?_) #[false, true, false, false, false, false] rfl rfl (any_of HT_.out (by kernel_rfl)) (fun _ _ _ h => h) (Or.inl ⟨by rfl, ?_⟩) ?_ ?_
  rotate_left
  · intro w'
    go_simp
    with_reducible rfl
  rotate_left
  · simp only [Act.put, List.setIfInBounds_toArray, List.set_cons_zero, List.set_cons_succ, i64_w, i32_w]
    rfl
  refine pure_ (i := 2) (N := some 20) (v := ?_) (a' := ?_) #[false, true, true, false, false, false] rfl rfl (any_of HT_.out (by kernel_rfl)) (fun _ _ _ h => h) (Or.inl ⟨by rfl, ?_⟩) ?_ ?_
  rotate_left
  · intro w'
    go_simp
    with_reducible rfl
  rotate_left
  · simp only [Act.put, List.setIfInBounds_toArray, List.set_cons_zero, List.set_cons_succ, i64_w, i32_w]
    rfl
  refine take_ (i := 3) (N := some 21) (v := ?_) (a' := ?_) #[false, true, true, true, false, false] rfl rfl (take_ofW HT_.out HW_.out (by kernel_rfl)) (fun _ _ _ h => h) (Or.inl ⟨by rfl, ?_⟩) hHeld ?_ ?_
  rotate_left
  · rintro w' s0
    go_simp
    with_reducible rfl
  rotate_left
  · simp only [Act.put, List.setIfInBounds_toArray, List.set_cons_zero, List.set_cons_succ, i64_w, i32_w]
    rfl
  refine one_ (i := 0) (N := some 18) #[true, true, true, true, false, false] rfl rfl (one_of HT_.out (by kernel_rfl)) (by decide) (fun K hK => ?_)
  refine goes_ Try.func35 (by kernel_rfl) rfl #[] (by rfl) rfl rfl (by (try simp only [List.map_toArray, List.map_cons, List.map_nil]); first | done | rfl) ?_
  refine (kinds_calls w4).mono ?_
  rintro e w5 ⟨mb, rfl, hk5, hm5, hb5⟩
  refine ⟨_, rfl, ?_⟩
  have HK := Aside0.mk hk5
  have n0_ := Aside0.mk (rd_same HD.out (hb5.block rb (rd_lt HD.out)))
  have n1_ := Aside0.mk (blk_below BN.out hb5)
  have n2_ := Aside0.mk (below_step HB.out hb5)
  clear HD BN HB
  have HD := n0_
  have BN := n1_
  have HB := n2_
  clear n0_ n1_ n2_
  clear hk5 hm5 hb5
  refine hK.out _ _ (kept_cell HB.out K0.out) (fun hHeld => ?_)
  clear hK K
  refine norm_ (a' := ?_) ?_ ?_
  rotate_left
  · show Act.put _ (some 18) _ = _
    simp only [Act.put, List.setIfInBounds_toArray, List.set_cons_zero, List.set_cons_succ, i64_w, i32_w]
    rfl
  obtain ⟨fv, hlook, hfv⟩ := kinds_look HK.out x0 HX0.out
  refine one_ (i := 4) (N := some 22) #[true, true, true, true, true, false] rfl rfl (one_of HT_.out (by kernel_rfl)) (by decide) (fun K hK => ?_)
  refine value_ (w1 := ?_) (v := ?_) (by rfl) rfl ?_ ?_
  rotate_left 2
  · go_simp
    constructor
    · rfl
    · rfl
  refine hK.out _ _ (kept_cell HB.out K0.out) (fun hHeld => ?_)
  clear hK K
  refine norm_ (a' := ?_) ?_ ?_
  rotate_left
  · show Act.put _ (some 22) _ = _
    simp only [Act.put, List.setIfInBounds_toArray, List.set_cons_zero, List.set_cons_succ, i64_w, i32_w]
    rfl
  refine pure_ (i := 5) (N := some 6) (v := ?_) (a' := ?_) #[true, true, true, true, true, true] rfl rfl (any_of HT_.out (by kernel_rfl)) (fun _ _ _ h => h) (Or.inl ⟨by rfl, ?_⟩) ?_ ?_
  rotate_left
  · intro w'
    go_simp
    with_reducible rfl
  rotate_left
  · simp only [Act.put, List.setIfInBounds_toArray, List.set_cons_zero, List.set_cons_succ, i64_w, i32_w]
    rfl
  refine done_ (done_of HT_.out (by kernel_rfl)) ?_
  clear hlook
  have HFV := Aside0.mk hfv
  clear hfv
  have hfn : fv = .func (.func 46) #[] #[] := by
    rcases HFV.out with h | h | h
    · exact h.2
    · exact absurd (h.1.symm.trans HKD.out) (by decide)
    · exact absurd HKD.out h.1
  subst hfn
  go_wp2
  refine start_ (n := 13) (S := fun w' => w'.cell? { block := ad.block, off := ad.off + 1 } = some (.int .u8 x1) ∧ w'.cell? { block := ad.block, off := ad.off + 2 } = some (.int .u8 x2)) (ds := []) #[false, false, false, false, false, false, false, false, false, false, false, false, false] (by kernel_rfl) rfl rfl ⟨kept_cell (below_drew1 HB.out) K1.out, kept_cell (below_drew1 HB.out) K2.out⟩ (fun hHeld => ?_); refine with_tabW parse_tab7 parse_bits7 (fun HT_ HW_ => ?_)
  have n0_ := Aside0.mk (rd_drew HD.out)
  have n1_ := Aside0.mk (blk_drew BN.out)
  have n2_ := Aside0.mk (below_drew1 HB.out)
  clear HD BN HB
  have HD := n0_
  have BN := n1_
  have HB := n2_
  clear n0_ n1_ n2_
  generalize w5.drew = w6 at HD BN HB hHeld ⊢
  refine pure_ (i := 0) (N := some 25) (v := ?_) (a' := ?_) #[true, false, false, false, false, false, false, false, false, false, false, false, false] rfl rfl (any_of HT_.out (by kernel_rfl)) (fun _ _ _ h => h) (Or.inl ⟨by rfl, ?_⟩) ?_ ?_
  rotate_left
  · intro w'
    go_simp
    with_reducible rfl
  rotate_left
  · simp only [Act.put, List.setIfInBounds_toArray, List.set_cons_zero, List.set_cons_succ, i64_w, i32_w]
    rfl
  refine pure_ (i := 1) (N := some 26) (v := ?_) (a' := ?_) #[true, true, false, false, false, false, false, false, false, false, false, false, false] rfl rfl (any_of HT_.out (by kernel_rfl)) (fun _ _ _ h => h) (Or.inl ⟨by rfl, ?_⟩) ?_ ?_
  rotate_left
  · intro w'
    go_simp
    with_reducible rfl
  rotate_left
  · simp only [Act.put, List.setIfInBounds_toArray, List.set_cons_zero, List.set_cons_succ, i64_w, i32_w]
    rfl
  refine pure_ (i := 2) (N := some 27) (v := ?_) (a' := ?_) #[true, true, true, false, false, false, false, false, false, false, false, false, false] rfl rfl (any_of HT_.out (by kernel_rfl)) (fun _ _ _ h => h) (Or.inl ⟨by rfl, ?_⟩) ?_ ?_
  rotate_left
  · intro w'
    go_simp
    with_reducible rfl
  rotate_left
  · simp only [Act.put, List.setIfInBounds_toArray, List.set_cons_zero, List.set_cons_succ, i64_w, i32_w]
    rfl
  refine pure_ (i := 3) (N := some 28) (v := ?_) (a' := ?_) #[true, true, true, true, false, false, false, false, false, false, false, false, false] rfl rfl (any_of HT_.out (by kernel_rfl)) (fun _ _ _ h => h) (Or.inl ⟨by rfl, ?_⟩) ?_ ?_
  rotate_left
  · intro w'
    go_simp
    with_reducible rfl
  rotate_left
  · simp only [Act.put, List.setIfInBounds_toArray, List.set_cons_zero, List.set_cons_succ, i64_w, i32_w]
    rfl
  refine take_ (i := 4) (N := some 29) (v := ?_) (a' := ?_) #[true, true, true, true, true, false, false, false, false, false, false, false, false] rfl rfl (take_ofW HT_.out HW_.out (by kernel_rfl)) (fun _ _ _ h => h) (Or.inl ⟨by rfl, ?_⟩) hHeld ?_ ?_
  rotate_left
  · rintro w' ⟨s0, s1⟩
    go_simp
    with_reducible rfl
  rotate_left
  · simp only [Act.put, List.setIfInBounds_toArray, List.set_cons_zero, List.set_cons_succ, i64_w, i32_w]
    rfl
  refine pure_ (i := 5) (N := some 30) (v := ?_) (a' := ?_) #[true, true, true, true, true, true, false, false, false, false, false, false, false] rfl rfl (any_of HT_.out (by kernel_rfl)) (fun _ _ _ h => h) (Or.inl ⟨by rfl, ?_⟩) ?_ ?_
  rotate_left
  · intro w'
    go_simp
    with_reducible rfl
  rotate_left
  · simp only [Act.put, List.setIfInBounds_toArray, List.set_cons_zero, List.set_cons_succ, i64_w, i32_w]
    rfl
  refine pure_ (i := 6) (N := some 31) (v := ?_) (a' := ?_) #[true, true, true, true, true, true, true, false, false, false, false, false, false] rfl rfl (any_of HT_.out (by kernel_rfl)) (fun _ _ _ h => h) (Or.inl ⟨by rfl, ?_⟩) ?_ ?_
  rotate_left
  · intro w'
    go_simp
    with_reducible rfl
  rotate_left
  · simp only [Act.put, List.setIfInBounds_toArray, List.set_cons_zero, List.set_cons_succ, i64_w, i32_w]
    rfl
  refine pure_ (i := 7) (N := some 32) (v := ?_) (a' := ?_) #[true, true, true, true, true, true, true, true, false, false, false, false, false] rfl rfl (any_of HT_.out (by kernel_rfl)) (fun _ _ _ h => h) (Or.inl ⟨by rfl, ?_⟩) ?_ ?_
  rotate_left
  · intro w'
    go_simp
    with_reducible rfl
  rotate_left
  · simp only [Act.put, List.setIfInBounds_toArray, List.set_cons_zero, List.set_cons_succ, i64_w, i32_w]
    rfl
  refine pure_ (i := 8) (N := some 33) (v := ?_) (a' := ?_) #[true, true, true, true, true, true, true, true, true, false, false, false, false] rfl rfl (any_of HT_.out (by kernel_rfl)) (fun _ _ _ h => h) (Or.inl ⟨by rfl, ?_⟩) ?_ ?_
  rotate_left
  · intro w'
    go_simp
    with_reducible rfl
  rotate_left
  · simp only [Act.put, List.setIfInBounds_toArray, List.set_cons_zero, List.set_cons_succ, i64_w, i32_w]
    rfl
  refine take_ (i := 9) (N := some 34) (v := ?_) (a' := ?_) #[true, true, true, true, true, true, true, true, true, true, false, false, false] rfl rfl (take_ofW HT_.out HW_.out (by kernel_rfl)) (fun _ _ _ h => h) (Or.inl ⟨by rfl, ?_⟩) hHeld ?_ ?_
  rotate_left
  · rintro w' ⟨s0, s1⟩
    go_simp
    with_reducible rfl
  rotate_left
  · simp only [Act.put, List.setIfInBounds_toArray, List.set_cons_zero, List.set_cons_succ, i64_w, i32_w]
    rfl
  refine pure_ (i := 10) (N := some 35) (v := ?_) (a' := ?_) #[true, true, true, true, true, true, true, true, true, true, true, false, false] rfl rfl (any_of HT_.out (by kernel_rfl)) (fun _ _ _ h => h) (Or.inl ⟨by rfl, ?_⟩) ?_ ?_
  rotate_left
  · intro w'
    go_simp
    with_reducible rfl
  rotate_left
  · simp only [Act.put, List.setIfInBounds_toArray, List.set_cons_zero, List.set_cons_succ, i64_w, i32_w]
    rfl
  refine pure_ (i := 11) (N := some 36) (v := ?_) (a' := ?_) #[true, true, true, true, true, true, true, true, true, true, true, true, false] rfl rfl (any_of HT_.out (by kernel_rfl)) (fun _ _ _ h => h) (Or.inl ⟨by rfl, ?_⟩) ?_ ?_
  rotate_left
  · intro w'
    go_simp
    with_reducible rfl
  rotate_left
  · simp only [Act.put, List.setIfInBounds_toArray, List.set_cons_zero, List.set_cons_succ, i64_w, i32_w]
    rfl
  refine one_ (i := 12) (N := some 37) #[true, true, true, true, true, true, true, true, true, true, true, true, true] rfl rfl (one_of HT_.out (by kernel_rfl)) (by decide) (fun K hK => ?_)
  refine call_ 46 #[.pointer (some ⟨rb, 0, none⟩), .pointer (some ⟨nb, 0, none⟩), .int .i64 (x1 * 256 + x2)] (by rfl) rfl (by first | (go_simp; done) | (go_simp; rfl)) ?_
  refine (kinds1_calls rb nb (xs.drop 3) (x1 * 256 + x2) HCN.out.1 HCN.out.2 W0 w6 HB.out HRB.out HNB.out HNE.out HD.out HOD.out BN.out).mono ?_
  rintro e w7 ⟨rfl, v1, bn7, r17, d7, hb7⟩
  refine ⟨_, rfl, ?_⟩
  rw [HRES.out] at r17 d7
  dsimp only at r17 d7
  clear HD BN HB
  have HD := Aside0.mk d7
  have BN := Aside0.mk bn7
  have R1 := Aside0.mk r17
  have HB := Aside0.mk hb7
  clear d7 bn7 r17 hb7
  refine hK.out _ _ ⟨kept_cell HB.out K1.out, kept_cell HB.out K2.out⟩ (fun hHeld => ?_)
  clear hK K
  refine norm_ (a' := ?_) ?_ ?_
  rotate_left
  · show Act.put _ (some 37) _ = _
    simp only [Act.put, List.setIfInBounds_toArray, List.set_cons_zero, List.set_cons_succ, i64_w, i32_w]
    rfl
  refine done_ (done_of HT_.out (by kernel_rfl)) ?_
  obtain ⟨A1, c1, e1_, l1, C1⟩ := Kd.R_reads R1.out
  subst e1_
  have s0 : w7.cell? ⟨nb, 0, none⟩ = some (.bool true) := (blk_cell BN.out 0).trans rfl
  have s1 : w7.cell? ⟨nb, 1, none⟩ = some (.slice A1 ps.length c1) := (blk_cell BN.out 1).trans rfl
  have s2 : w7.cell? ⟨nb, 2, none⟩ = some (.slice none 0 0) := (blk_cell BN.out 2).trans rfl
  have s3 : w7.cell? ⟨nb, 3, none⟩ = some (.slice none 0 0) := (blk_cell BN.out 3).trans rfl
  cases bad
  · by_cases he0 : e0 = 0
    · have hE := bne_eq_false_iff_eq.2 he0
      cases r
      · go_wp2_with (first
          | (go_at_call 11; refine (HBY.out w7 A1 c1 none 0 none 0 C1 l1 (Kd.C_nil _ _) (Nat.le_refl _) (Kd.C_nil _ _) (Nat.le_refl _)).mono ?_; rintro e w8 ⟨v0, rfl, r8, hb8⟩; obtain ⟨A0, c0, e0_, l0, C0⟩ := Kd.R_reads r8; subst e0_; clear s0 s1 s2 s3; have n0_ := Aside0.mk (rd_same HD.out (hb8.block rb (rd_lt HD.out))); have n1_ := Aside0.mk (show NodeAt w8 nb _ _ _ _ from blk_below BN.out hb8); have m0_ := Aside0.mk (Kd.R_below R1.out hb8); clear R1; have R1 := m0_; clear m0_; have n5_ := Aside0.mk (below_step HB.out hb8); have HC0 := Aside0.mk (And.intro l0 C0); clear HD BN HB r8 hb8 l0 C0; have HD := n0_; have BN := n1_; have HB := n5_; clear n0_ n1_ n5_; obtain ⟨Ar, cr, hrd, _, _⟩ := HD.out.r; have z1 : w8.cell? ⟨rb, 1, none⟩ = some (.bool false) := (blk_cell hrd 1).trans rfl; clear hrd; have BGn := Aside0.mk ((HB.out.block g HGL.out).trans BG.out); have t0 : w8.cell? ⟨g, 0, none⟩ = some (.bool false) := (blk_cell BGn.out 0).trans rfl; have t1 : w8.cell? ⟨g, 1, none⟩ = some (.slice none 0 0) := (blk_cell BGn.out 1).trans rfl; have t2 : w8.cell? ⟨g, 2, none⟩ = some (.slice none 0 0) := (blk_cell BGn.out 2).trans rfl; have t3 : w8.cell? ⟨g, 3, none⟩ = some (.slice none 0 0) := (blk_cell BGn.out 3).trans rfl; have f0 := blk_frozen BGn.out 0; have f1 := blk_frozen BGn.out 1; have f2 := blk_frozen BGn.out 2; have f3 := blk_frozen BGn.out 3; have s0 : w8.cell? ⟨nb, 0, none⟩ = some (.bool true) := (blk_cell BN.out 0).trans rfl; have s1 : w8.cell? ⟨nb, 1, none⟩ = some (.slice A1 ps.length c1) := (blk_cell BN.out 1).trans rfl; have s2 : w8.cell? ⟨nb, 2, none⟩ = some (.slice none 0 0) := (blk_cell BN.out 2).trans rfl; have s3 : w8.cell? ⟨nb, 3, none⟩ = some (.slice none 0 0) := (blk_cell BN.out 3).trans rfl)
          | (go_at_call 36; refine (HEQ.out w8 A0 c0 (some ad) c HC0.out.2 HC0.out.1 (Kd.C_of_reads (d := (0 : Int)) (ReadsInt.below HR0.out HB.out)) HCC.out).mono ?_; rintro e w9 ⟨rfl, ⟨m9, rfl⟩⟩))
        have b4 := blk_set (blk_set (blk_set (blk_set BGn.out 0 (.bool false)) 1 (.slice none 0 0)) 2 (.slice none 0 0)) 3 (.slice none 0 0)
        refine bodyPost_ret (results_ct rfl _ _ g 26 #[.bool false, .slice none 0 0, .slice none 0 0, .slice none 0 0] (0, 0) _ rfl b4 Try.underlying26 rfl (by kernel_rfl)) rfl ?_
        exact HNO.out (.inr (.inr (by first | rfl | trivial))) _ _ ⟨.slice none 0 0, .slice none 0 0, .slice none 0 0, rfl, Kd.R_nil _ _ _ _ _, Kd.R_nil _ _ _ _ _, Kd.R_nil _ _ _ _ _, below_set (below_set (below_set (below_set (pw_below_drewN (below_step HB0.out HB.out) m9) HG.out) HG.out) HG.out) HG.out⟩
      · have HE0 := Aside0.mk he0
        clear he0
        go_wp2_with (first
          | (go_at_call 11; refine (HBY.out w7 A1 c1 none 0 none 0 C1 l1 (Kd.C_nil _ _) (Nat.le_refl _) (Kd.C_nil _ _) (Nat.le_refl _)).mono ?_; rintro e w8 ⟨v0, rfl, r8, hb8⟩; obtain ⟨A0, c0, e0_, l0, C0⟩ := Kd.R_reads r8; subst e0_; clear s0 s1 s2 s3; have n0_ := Aside0.mk (rd_same HD.out (hb8.block rb (rd_lt HD.out))); have n1_ := Aside0.mk (show NodeAt w8 nb _ _ _ _ from blk_below BN.out hb8); have m0_ := Aside0.mk (Kd.R_below R1.out hb8); clear R1; have R1 := m0_; clear m0_; have n5_ := Aside0.mk (below_step HB.out hb8); have HC0 := Aside0.mk (And.intro l0 C0); clear HD BN HB r8 hb8 l0 C0; have HD := n0_; have BN := n1_; have HB := n5_; clear n0_ n1_ n5_; obtain ⟨Ar, cr, hrd, _, _⟩ := HD.out.r; have z1 : w8.cell? ⟨rb, 1, none⟩ = some (.bool false) := (blk_cell hrd 1).trans rfl; clear hrd; have BGn := Aside0.mk ((HB.out.block g HGL.out).trans BG.out); have t0 : w8.cell? ⟨g, 0, none⟩ = some (.bool false) := (blk_cell BGn.out 0).trans rfl; have t1 : w8.cell? ⟨g, 1, none⟩ = some (.slice none 0 0) := (blk_cell BGn.out 1).trans rfl; have t2 : w8.cell? ⟨g, 2, none⟩ = some (.slice none 0 0) := (blk_cell BGn.out 2).trans rfl; have t3 : w8.cell? ⟨g, 3, none⟩ = some (.slice none 0 0) := (blk_cell BGn.out 3).trans rfl; have f0 := blk_frozen BGn.out 0; have f1 := blk_frozen BGn.out 1; have f2 := blk_frozen BGn.out 2; have f3 := blk_frozen BGn.out 3; have s0 : w8.cell? ⟨nb, 0, none⟩ = some (.bool true) := (blk_cell BN.out 0).trans rfl; have s1 : w8.cell? ⟨nb, 1, none⟩ = some (.slice A1 ps.length c1) := (blk_cell BN.out 1).trans rfl; have s2 : w8.cell? ⟨nb, 2, none⟩ = some (.slice none 0 0) := (blk_cell BN.out 2).trans rfl; have s3 : w8.cell? ⟨nb, 3, none⟩ = some (.slice none 0 0) := (blk_cell BN.out 3).trans rfl)
          | (go_at_call 36; refine (HEQ.out w8 A0 c0 (some ad) c HC0.out.2 HC0.out.1 (Kd.C_of_reads (d := (0 : Int)) (ReadsInt.below HR0.out HB.out)) HCC.out).mono ?_; rintro e w9 ⟨rfl, ⟨m9, rfl⟩⟩))
        have b4 := blk_set (blk_set (blk_set (blk_set (blk_drewN BGn.out m9) 0 (.bool true)) 1 (.slice A1 ps.length c1)) 2 (.slice none 0 0)) 3 (.slice none 0 0)
        refine bodyPost_ret (results_ct rfl _ _ g 26 #[.bool true, .slice A1 ps.length c1, .slice none 0 0, .slice none 0 0] (0, 0) _ rfl b4 Try.underlying26 rfl (by kernel_rfl)) rfl ?_
        exact HYES.out (by first | rfl | trivial) HE0.out (by first | rfl | trivial) _ _ ⟨.slice A1 ps.length c1, .slice none 0 0, .slice none 0 0, rfl, R_set4 (Kd.R_drewN R1.out m9) HB0.out.size HGL.out _ _ _ _, Kd.R_nil _ _ _ _ _, Kd.R_nil _ _ _ _ _, below_set (below_set (below_set (below_set (pw_below_drewN (below_step HB0.out HB.out) m9) HG.out) HG.out) HG.out) HG.out⟩
    · have hE := bne_iff_ne.2 he0
      go_wp2_with (first
        | (go_at_call 11; refine (HBY.out w7 A1 c1 none 0 none 0 C1 l1 (Kd.C_nil _ _) (Nat.le_refl _) (Kd.C_nil _ _) (Nat.le_refl _)).mono ?_; rintro e w8 ⟨v0, rfl, r8, hb8⟩; obtain ⟨A0, c0, e0_, l0, C0⟩ := Kd.R_reads r8; subst e0_; clear s0 s1 s2 s3; have n0_ := Aside0.mk (rd_same HD.out (hb8.block rb (rd_lt HD.out))); have n1_ := Aside0.mk (show NodeAt w8 nb _ _ _ _ from blk_below BN.out hb8); have m0_ := Aside0.mk (Kd.R_below R1.out hb8); clear R1; have R1 := m0_; clear m0_; have n5_ := Aside0.mk (below_step HB.out hb8); have HC0 := Aside0.mk (And.intro l0 C0); clear HD BN HB r8 hb8 l0 C0; have HD := n0_; have BN := n1_; have HB := n5_; clear n0_ n1_ n5_; obtain ⟨Ar, cr, hrd, _, _⟩ := HD.out.r; have z1 : w8.cell? ⟨rb, 1, none⟩ = some (.bool false) := (blk_cell hrd 1).trans rfl; clear hrd; have BGn := Aside0.mk ((HB.out.block g HGL.out).trans BG.out); have t0 : w8.cell? ⟨g, 0, none⟩ = some (.bool false) := (blk_cell BGn.out 0).trans rfl; have t1 : w8.cell? ⟨g, 1, none⟩ = some (.slice none 0 0) := (blk_cell BGn.out 1).trans rfl; have t2 : w8.cell? ⟨g, 2, none⟩ = some (.slice none 0 0) := (blk_cell BGn.out 2).trans rfl; have t3 : w8.cell? ⟨g, 3, none⟩ = some (.slice none 0 0) := (blk_cell BGn.out 3).trans rfl; have f0 := blk_frozen BGn.out 0; have f1 := blk_frozen BGn.out 1; have f2 := blk_frozen BGn.out 2; have f3 := blk_frozen BGn.out 3; have s0 : w8.cell? ⟨nb, 0, none⟩ = some (.bool true) := (blk_cell BN.out 0).trans rfl; have s1 : w8.cell? ⟨nb, 1, none⟩ = some (.slice A1 ps.length c1) := (blk_cell BN.out 1).trans rfl; have s2 : w8.cell? ⟨nb, 2, none⟩ = some (.slice none 0 0) := (blk_cell BN.out 2).trans rfl; have s3 : w8.cell? ⟨nb, 3, none⟩ = some (.slice none 0 0) := (blk_cell BN.out 3).trans rfl)
        | (go_at_call 36; refine (HEQ.out w8 A0 c0 (some ad) c HC0.out.2 HC0.out.1 (Kd.C_of_reads (d := (0 : Int)) (ReadsInt.below HR0.out HB.out)) HCC.out).mono ?_; rintro e w9 ⟨rfl, ⟨m9, rfl⟩⟩))
      have b4 := blk_set (blk_set (blk_set (blk_set BGn.out 0 (.bool false)) 1 (.slice none 0 0)) 2 (.slice none 0 0)) 3 (.slice none 0 0)
      refine bodyPost_ret (results_ct rfl _ _ g 26 #[.bool false, .slice none 0 0, .slice none 0 0, .slice none 0 0] (0, 0) _ rfl b4 Try.underlying26 rfl (by kernel_rfl)) rfl ?_
      exact HNO.out (.inr (.inl he0)) _ _ ⟨.slice none 0 0, .slice none 0 0, .slice none 0 0, rfl, Kd.R_nil _ _ _ _ _, Kd.R_nil _ _ _ _ _, Kd.R_nil _ _ _ _ _, below_set (below_set (below_set (below_set (below_step HB0.out HB.out) HG.out) HG.out) HG.out) HG.out⟩
  · go_wp2_with (first
      | (go_at_call 11; refine (HBY.out w7 A1 c1 none 0 none 0 C1 l1 (Kd.C_nil _ _) (Nat.le_refl _) (Kd.C_nil _ _) (Nat.le_refl _)).mono ?_; rintro e w8 ⟨v0, rfl, r8, hb8⟩; obtain ⟨A0, c0, e0_, l0, C0⟩ := Kd.R_reads r8; subst e0_; clear s0 s1 s2 s3; have n0_ := Aside0.mk (rd_same HD.out (hb8.block rb (rd_lt HD.out))); have n1_ := Aside0.mk (show NodeAt w8 nb _ _ _ _ from blk_below BN.out hb8); have m0_ := Aside0.mk (Kd.R_below R1.out hb8); clear R1; have R1 := m0_; clear m0_; have n5_ := Aside0.mk (below_step HB.out hb8); have HC0 := Aside0.mk (And.intro l0 C0); clear HD BN HB r8 hb8 l0 C0; have HD := n0_; have BN := n1_; have HB := n5_; clear n0_ n1_ n5_; obtain ⟨Ar, cr, hrd, _, _⟩ := HD.out.r; have z1 : w8.cell? ⟨rb, 1, none⟩ = some (.bool true) := (blk_cell hrd 1).trans rfl; clear hrd; have BGn := Aside0.mk ((HB.out.block g HGL.out).trans BG.out); have t0 : w8.cell? ⟨g, 0, none⟩ = some (.bool false) := (blk_cell BGn.out 0).trans rfl; have t1 : w8.cell? ⟨g, 1, none⟩ = some (.slice none 0 0) := (blk_cell BGn.out 1).trans rfl; have t2 : w8.cell? ⟨g, 2, none⟩ = some (.slice none 0 0) := (blk_cell BGn.out 2).trans rfl; have t3 : w8.cell? ⟨g, 3, none⟩ = some (.slice none 0 0) := (blk_cell BGn.out 3).trans rfl; have f0 := blk_frozen BGn.out 0; have f1 := blk_frozen BGn.out 1; have f2 := blk_frozen BGn.out 2; have f3 := blk_frozen BGn.out 3; have s0 : w8.cell? ⟨nb, 0, none⟩ = some (.bool true) := (blk_cell BN.out 0).trans rfl; have s1 : w8.cell? ⟨nb, 1, none⟩ = some (.slice A1 ps.length c1) := (blk_cell BN.out 1).trans rfl; have s2 : w8.cell? ⟨nb, 2, none⟩ = some (.slice none 0 0) := (blk_cell BN.out 2).trans rfl; have s3 : w8.cell? ⟨nb, 3, none⟩ = some (.slice none 0 0) := (blk_cell BN.out 3).trans rfl)
      | (go_at_call 36; refine (HEQ.out w8 A0 c0 (some ad) c HC0.out.2 HC0.out.1 (Kd.C_of_reads (d := (0 : Int)) (ReadsInt.below HR0.out HB.out)) HCC.out).mono ?_; rintro e w9 ⟨rfl, ⟨m9, rfl⟩⟩))
    have b4 := blk_set (blk_set (blk_set (blk_set BGn.out 0 (.bool false)) 1 (.slice none 0 0)) 2 (.slice none 0 0)) 3 (.slice none 0 0)
    refine bodyPost_ret (results_ct rfl _ _ g 26 #[.bool false, .slice none 0 0, .slice none 0 0, .slice none 0 0] (0, 0) _ rfl b4 Try.underlying26 rfl (by kernel_rfl)) rfl ?_
    exact HNO.out (.inl (by first | rfl | trivial)) _ _ ⟨.slice none 0 0, .slice none 0 0, .slice none 0 0, rfl, Kd.R_nil _ _ _ _ _, Kd.R_nil _ _ _ _ _, Kd.R_nil _ _ _ _ _, below_set (below_set (below_set (below_set (below_step HB0.out HB.out) HG.out) HG.out) HG.out) HG.out⟩
set_option maxHeartbeats 4000000 in
set_option maxRecDepth 100000 in
theorem parse_inner (A : Option Addr) (c : Nat) (xs : List Int) (w : World) (hR : ReadsInt w .u8 A xs.length xs) (hc : xs.length ≤ c) (ho : Oct xs) (hn : inB (xs.length : Int) 64 4096 = true) (h3 : 64 ≤ xs.length) (hkind : rd xs 0 = 2) (cs rest1 : List Int) (bad1 : Bool) (hres : kidsR ((rd xs 1 * 256 + rd xs 2).toNat + 1) (xs.drop 3) false [] = (cs, rest1, bad1)) (ks : List ByteArray) (rest : List Int) (bad : Bool) (hres2 : keysR (rd xs 1 * 256 + rd xs 2).toNat rest1 bad1 [] = (ks, rest, bad)) (want : List Int) (e0 : Int) (hby : BytesIs false [] ks cs (xs.length : Int) want e0) (r : Bool) (heq : EqualIs want xs r) (P : Ending → World → Prop)
    (hyes : bad = false → e0 = 0 → r = true → ∀ e w', NodeAns w false [] ks cs 0 e w' → P e w') (hno : (bad = true ∨ e0 ≠ 0 ∨ r = false) → ∀ e w', NodeAns w false [] [] [] 4 e w' → P e w') :
    Calls Try.prog 21 #[.slice A xs.length c] w P := by
  have hin := hn
  have hq0 := neq_nil0
  have hq46 := neq_nil46
  have hq48 := neq_nil48
  obtain ⟨ad, hA, k0, k1, k2⟩ := first3 hR (by omega)
  subst hA
  obtain ⟨x0, hx0⟩ : ∃ v, rd xs 0 = v := ⟨_, rfl⟩
  obtain ⟨x1, hx1⟩ : ∃ v, rd xs 1 = v := ⟨_, rfl⟩
  obtain ⟨x2, hx2⟩ : ∃ v, rd xs 2 = v := ⟨_, rfl⟩
  have o0 := oct_rd ho 0
  have o1 := oct_rd ho 1
  have o2 := oct_rd ho 2
  rw [hx0] at k0 o0 hkind
  rw [hx1] at k1 o1
  rw [hx2] at k2 o2
  rw [hx1, hx2] at hres hres2
  have HRES := Aside0.mk hres
  have HRES2 := Aside0.mk hres2
  clear hres hres2
  unfold BytesIs nodeV at hby
  unfold EqualIs at heq
  have HBY := Aside0.mk hby
  have HEQ := Aside0.mk heq
  have HYES := Aside0.mk hyes
  have HNO := Aside0.mk hno
  clear hby heq hyes hno
  have HX0 := Aside0.mk o0
  have HK0 := Aside0.mk k0
  have HK1 := Aside0.mk k1
  have HK2 := Aside0.mk k2
  have HR := Aside0.mk hR
  have HOX := Aside0.mk ho
  have HOD := Aside0.mk (show Oct (xs.drop 3) from fun x hx => ho x (List.mem_of_mem_drop hx))
  have HCN := Aside0.mk (show 0 ≤ x1 * 256 + x2 ∧ x1 * 256 + x2 ≤ 65535 by omega)
  have HKD := Aside0.mk hkind
  have i1 : IntKind.i64.wrap x1 = x1 := wraps_i64 x1 o1.1 (by omega)
  have i2 : IntKind.i64.wrap x2 = x2 := wraps_i64 x2 o2.1 (by omega)
  have i3 : IntKind.i64.wrap (x1 * 256) = x1 * 256 := wraps_i64 _ (by omega) (by omega)
  have i4 : Go.bits .or .i64 (x1 * 256) x2 = x1 * 256 + x2 := or64 8 (by omega) (by omega) (by omega) (by omega) (by omega) (by omega)
  obtain ⟨i0, hi0, _, hsz, _⟩ := info_parts info_u8
  obtain ⟨A2, hcut2, hA2, hC2⟩ := print_drop_of (P := Try.prog) (Value.int .u8) 0 30 5 .i64 Try.underlying30 hi0 hsz (some ad) c xs 3 (by decide) (by omega) hc
  have HA2 := Aside0.mk hA2
  have HC2 := Aside0.mk hC2
  obtain ⟨n2, hn2⟩ : ∃ n2, (xs.drop (3 : Int).toNat).length = n2 := ⟨_, rfl⟩
  have N2 := Aside0.mk (show (xs.drop 3).length = n2 from hn2)
  rw [hn2] at hcut2
  have q0 : (0 < (xs.length : Int)) = True := eq_true (by omega)
  have q1 : (1 < (xs.length : Int)) = True := eq_true (by omega)
  have q2 : (2 < (xs.length : Int)) = True := eq_true (by omega)
  have p0 : (0 < xs.length) = True := eq_true (by omega)
  have p1 : (1 < xs.length) = True := eq_true (by omega)
  have p2 : (2 < xs.length) = True := eq_true (by omega)
  have HL3 := Aside0.mk h3
  have HCC := Aside0.mk hc
  clear hA2 hC2 hn2 hi0 hsz hc h3 hR ho o0 o1 o2 k0 k1 k2 hkind hn
  go_enter Try.func21, Try.ntmps21
  go_wp2_with (first
    | ((with_reducible refine gate_dst (N := 2) rfl ?_); refine box_event ?hg (N := 2) ?hd (cs := #[.bool false, .slice none 0 0, .slice none 0 0, .slice none 0 0]) (t := 26) ?hr ?_; (case hd => rfl); (case hg => rfl); (case hr => first | (go_simp; done) | (go_simp; rfl)); intro g hg0 W0 hgx hgb; have BG := Aside0.mk hgx; have HB0 := Aside0.mk hgb; have HG := Aside0.mk (show w.heap.size ≤ g by rw [hg0]; exact Nat.le_refl _); have HGL := Aside0.mk (blk_lt hgx); have HR0 := Aside0.mk (ReadsInt.below HR.out hgb); have K0 := Aside0.mk (kept_cell hgb HK0.out); have K1 := Aside0.mk (kept_cell hgb HK1.out); have K2 := Aside0.mk (kept_cell hgb HK2.out); clear hgx hgb hg0)
    | ((with_reducible refine gate_dst (N := 17) rfl ?_); refine box_event ?hg (N := 17) ?hd (cs := #[.slice A2 n2 (c - 3), .bool false]) (t := 67) ?hr ?_; (case hd => rfl); (case hg => rfl); (case hr => first | (go_simp; done) | (go_simp; rfl)); intro rb hr0 w2 hrx hrb; have BR := Aside0.mk hrx; have HRB := Aside0.mk (show W0.heap.size ≤ rb by rw [hr0]; exact Nat.le_refl _); have HB := Aside0.mk hrb; clear hrx hrb hr0)
    | ((with_reducible refine gate_dst (N := 5) rfl ?_); refine box_event ?hg (N := 5) ?hd (cs := #[.bool false, .slice none 0 0, .slice none 0 0, .slice none 0 0]) (t := 26) ?hr ?_; (case hd => rfl); (case hg => rfl); (case hr => first | (go_simp; done) | (go_simp; rfl)); intro nb hn0 w3 hnx hnb; have HNE := Aside0.mk (show rb ≠ nb by rw [hn0]; exact Nat.ne_of_lt (blk_lt BR.out)); have HNB := Aside0.mk (show W0.heap.size ≤ nb by rw [hn0]; exact HB.out.size); have n0_ := Aside0.mk (show Rd W0 w3 rb (xs.drop 3) false from ⟨A2, c - 3, by rw [N2.out]; exact blk_below BR.out hnb, HA2.out W0 HR0.out, HC2.out⟩); have BN := Aside0.mk (show NodeAt w3 nb false (.slice none 0 0) (.slice none 0 0) (.slice none 0 0) from hnx); have n1_ := Aside0.mk (below_step HB.out hnb); clear HB BR hnx hnb hn0; have HD := n0_; have HB := n1_; clear n0_ n1_)
    | (go_at_call 29; refine (within_calls _ _ _ _).mono ?_; rw [hin]; rintro e w' ⟨rfl, hw_⟩; have hw2_ := hw_.symm; subst hw2_; clear hw_))
  refine start_ (n := 6) (S := fun w' => w'.cell? ad = some (.int .u8 x0)) (ds := []) #[false, false, false, false, false, false] (by kernel_rfl) rfl rfl (kept_cell (below_drew1 HB.out) K0.out) (fun hHeld => ?_); refine with_tabW parse_tab5 parse_bits5 (fun HT_ HW_ => ?_)
  have n0_ := Aside0.mk (rd_drew HD.out)
  have n1_ := Aside0.mk (blk_drew BN.out)
  have n2_ := Aside0.mk (below_drew1 HB.out)
  clear HD BN HB
  have HD := n0_
  have BN := n1_
  have HB := n2_
  clear n0_ n1_ n2_
  generalize w3.drew = w4 at HD BN HB hHeld ⊢
  refine pure_ (i := 1) (N := some 19) (v := ?_) (a' := ?_) #[false, true, false, false, false, false] rfl rfl (any_of HT_.out (by kernel_rfl)) (fun _ _ _ h => h) (Or.inl ⟨by rfl, ?_⟩) ?_ ?_
  rotate_left
  · intro w'
    go_simp
    with_reducible rfl
  rotate_left
  · simp only [Act.put, List.setIfInBounds_toArray, List.set_cons_zero, List.set_cons_succ, i64_w, i32_w]
    rfl
  refine pure_ (i := 2) (N := some 20) (v := ?_) (a' := ?_) #[false, true, true, false, false, false] rfl rfl (any_of HT_.out (by kernel_rfl)) (fun _ _ _ h => h) (Or.inl ⟨by rfl, ?_⟩) ?_ ?_
  rotate_left
  · intro w'
    go_simp
    with_reducible rfl
  rotate_left
  · simp only [Act.put, List.setIfInBounds_toArray, List.set_cons_zero, List.set_cons_succ, i64_w, i32_w]
    rfl
  refine take_ (i := 3) (N := some 21) (v := ?_) (a' := ?_) #[false, true, true, true, false, false] rfl rfl (take_ofW HT_.out HW_.out (by kernel_rfl)) (fun _ _ _ h => h) (Or.inl ⟨by rfl, ?_⟩) hHeld ?_ ?_
  rotate_left
  · rintro w' s0
    go_simp
    with_reducible rfl
  rotate_left
  · simp only [Act.put, List.setIfInBounds_toArray, List.set_cons_zero, List.set_cons_succ, i64_w, i32_w]
    rfl
  refine one_ (i := 0) (N := some 18) #[true, true, true, true, false, false] rfl rfl (one_of HT_.out (by kernel_rfl)) (by decide) (fun K hK => ?_)
  refine goes_ Try.func35 (by kernel_rfl) rfl #[] (by rfl) rfl rfl (by (try simp only [List.map_toArray, List.map_cons, List.map_nil]); first | done | rfl) ?_
  refine (kinds_calls w4).mono ?_
  rintro e w5 ⟨mb, rfl, hk5, hm5, hb5⟩
  refine ⟨_, rfl, ?_⟩
  have HK := Aside0.mk hk5
  have n0_ := Aside0.mk (rd_same HD.out (hb5.block rb (rd_lt HD.out)))
  have n1_ := Aside0.mk (blk_below BN.out hb5)
  have n2_ := Aside0.mk (below_step HB.out hb5)
  clear HD BN HB
  have HD := n0_
  have BN := n1_
  have HB := n2_
  clear n0_ n1_ n2_
  clear hk5 hm5 hb5
  refine hK.out _ _ (kept_cell HB.out K0.out) (fun hHeld => ?_)
  clear hK K
  refine norm_ (a' := ?_) ?_ ?_
  rotate_left
  · show Act.put _ (some 18) _ = _
    simp only [Act.put, List.setIfInBounds_toArray, List.set_cons_zero, List.set_cons_succ, i64_w, i32_w]
    rfl
  obtain ⟨fv, hlook, hfv⟩ := kinds_look HK.out x0 HX0.out
  refine one_ (i := 4) (N := some 22) #[true, true, true, true, true, false] rfl rfl (one_of HT_.out (by kernel_rfl)) (by decide) (fun K hK => ?_)
  refine value_ (w1 := ?_) (v := ?_) (by rfl) rfl ?_ ?_
  rotate_left 2
  · go_simp
    constructor
    · rfl
    · rfl
  refine hK.out _ _ (kept_cell HB.out K0.out) (fun hHeld => ?_)
  clear hK K
  refine norm_ (a' := ?_) ?_ ?_
  rotate_left
  · show Act.put _ (some 22) _ = _
    simp only [Act.put, List.setIfInBounds_toArray, List.set_cons_zero, List.set_cons_succ, i64_w, i32_w]
    rfl
  refine pure_ (i := 5) (N := some 6) (v := ?_) (a' := ?_) #[true, true, true, true, true, true] rfl rfl (any_of HT_.out (by kernel_rfl)) (fun _ _ _ h => h) (Or.inl ⟨by rfl, ?_⟩) ?_ ?_
  rotate_left
  · intro w'
    go_simp
    with_reducible rfl
  rotate_left
  · simp only [Act.put, List.setIfInBounds_toArray, List.set_cons_zero, List.set_cons_succ, i64_w, i32_w]
    rfl
  refine done_ (done_of HT_.out (by kernel_rfl)) ?_
  clear hlook
  have HFV := Aside0.mk hfv
  clear hfv
  have hfn : fv = .func (.func 48) #[] #[] := by
    rcases HFV.out with h | h | h
    · exact absurd (h.1.symm.trans HKD.out) (by decide)
    · exact h.2
    · exact absurd HKD.out h.2.1
  subst hfn
  go_wp2
  refine start_ (n := 13) (S := fun w' => w'.cell? { block := ad.block, off := ad.off + 1 } = some (.int .u8 x1) ∧ w'.cell? { block := ad.block, off := ad.off + 2 } = some (.int .u8 x2)) (ds := []) #[false, false, false, false, false, false, false, false, false, false, false, false, false] (by kernel_rfl) rfl rfl ⟨kept_cell (below_drew1 HB.out) K1.out, kept_cell (below_drew1 HB.out) K2.out⟩ (fun hHeld => ?_); refine with_tabW parse_tab7 parse_bits7 (fun HT_ HW_ => ?_)
  have n0_ := Aside0.mk (rd_drew HD.out)
  have n1_ := Aside0.mk (blk_drew BN.out)
  have n2_ := Aside0.mk (below_drew1 HB.out)
  clear HD BN HB
  have HD := n0_
  have BN := n1_
  have HB := n2_
  clear n0_ n1_ n2_
  generalize w5.drew = w6 at HD BN HB hHeld ⊢
  refine pure_ (i := 0) (N := some 25) (v := ?_) (a' := ?_) #[true, false, false, false, false, false, false, false, false, false, false, false, false] rfl rfl (any_of HT_.out (by kernel_rfl)) (fun _ _ _ h => h) (Or.inl ⟨by rfl, ?_⟩) ?_ ?_
  rotate_left
  · intro w'
    go_simp
    with_reducible rfl
  rotate_left
  · simp only [Act.put, List.setIfInBounds_toArray, List.set_cons_zero, List.set_cons_succ, i64_w, i32_w]
    rfl
  refine pure_ (i := 1) (N := some 26) (v := ?_) (a' := ?_) #[true, true, false, false, false, false, false, false, false, false, false, false, false] rfl rfl (any_of HT_.out (by kernel_rfl)) (fun _ _ _ h => h) (Or.inl ⟨by rfl, ?_⟩) ?_ ?_
  rotate_left
  · intro w'
    go_simp
    with_reducible rfl
  rotate_left
  · simp only [Act.put, List.setIfInBounds_toArray, List.set_cons_zero, List.set_cons_succ, i64_w, i32_w]
    rfl
  refine pure_ (i := 2) (N := some 27) (v := ?_) (a' := ?_) #[true, true, true, false, false, false, false, false, false, false, false, false, false] rfl rfl (any_of HT_.out (by kernel_rfl)) (fun _ _ _ h => h) (Or.inl ⟨by rfl, ?_⟩) ?_ ?_
  rotate_left
  · intro w'
    go_simp
    with_reducible rfl
  rotate_left
  · simp only [Act.put, List.setIfInBounds_toArray, List.set_cons_zero, List.set_cons_succ, i64_w, i32_w]
    rfl
  refine pure_ (i := 3) (N := some 28) (v := ?_) (a' := ?_) #[true, true, true, true, false, false, false, false, false, false, false, false, false] rfl rfl (any_of HT_.out (by kernel_rfl)) (fun _ _ _ h => h) (Or.inl ⟨by rfl, ?_⟩) ?_ ?_
  rotate_left
  · intro w'
    go_simp
    with_reducible rfl
  rotate_left
  · simp only [Act.put, List.setIfInBounds_toArray, List.set_cons_zero, List.set_cons_succ, i64_w, i32_w]
    rfl
  refine take_ (i := 4) (N := some 29) (v := ?_) (a' := ?_) #[true, true, true, true, true, false, false, false, false, false, false, false, false] rfl rfl (take_ofW HT_.out HW_.out (by kernel_rfl)) (fun _ _ _ h => h) (Or.inl ⟨by rfl, ?_⟩) hHeld ?_ ?_
  rotate_left
  · rintro w' ⟨s0, s1⟩
    go_simp
    with_reducible rfl
  rotate_left
  · simp only [Act.put, List.setIfInBounds_toArray, List.set_cons_zero, List.set_cons_succ, i64_w, i32_w]
    rfl
  refine pure_ (i := 5) (N := some 30) (v := ?_) (a' := ?_) #[true, true, true, true, true, true, false, false, false, false, false, false, false] rfl rfl (any_of HT_.out (by kernel_rfl)) (fun _ _ _ h => h) (Or.inl ⟨by rfl, ?_⟩) ?_ ?_
  rotate_left
  · intro w'
    go_simp
    with_reducible rfl
  rotate_left
  · simp only [Act.put, List.setIfInBounds_toArray, List.set_cons_zero, List.set_cons_succ, i64_w, i32_w]
    rfl
  refine pure_ (i := 6) (N := some 31) (v := ?_) (a' := ?_) #[true, true, true, true, true, true, true, false, false, false, false, false, false] rfl rfl (any_of HT_.out (by kernel_rfl)) (fun _ _ _ h => h) (Or.inl ⟨by rfl, ?_⟩) ?_ ?_
  rotate_left
  · intro w'
    go_simp
    with_reducible rfl
  rotate_left
  · simp only [Act.put, List.setIfInBounds_toArray, List.set_cons_zero, List.set_cons_succ, i64_w, i32_w]
    rfl
  refine pure_ (i := 7) (N := some 32) (v := ?_) (a' := ?_) #[true, true, true, true, true, true, true, true, false, false, false, false, false] rfl rfl (any_of HT_.out (by kernel_rfl)) (fun _ _ _ h => h) (Or.inl ⟨by rfl, ?_⟩) ?_ ?_
  rotate_left
  · intro w'
    go_simp
    with_reducible rfl
  rotate_left
  · simp only [Act.put, List.setIfInBounds_toArray, List.set_cons_zero, List.set_cons_succ, i64_w, i32_w]
    rfl
  refine pure_ (i := 8) (N := some 33) (v := ?_) (a' := ?_) #[true, true, true, true, true, true, true, true, true, false, false, false, false] rfl rfl (any_of HT_.out (by kernel_rfl)) (fun _ _ _ h => h) (Or.inl ⟨by rfl, ?_⟩) ?_ ?_
  rotate_left
  · intro w'
    go_simp
    with_reducible rfl
  rotate_left
  · simp only [Act.put, List.setIfInBounds_toArray, List.set_cons_zero, List.set_cons_succ, i64_w, i32_w]
    rfl
  refine take_ (i := 9) (N := some 34) (v := ?_) (a' := ?_) #[true, true, true, true, true, true, true, true, true, true, false, false, false] rfl rfl (take_ofW HT_.out HW_.out (by kernel_rfl)) (fun _ _ _ h => h) (Or.inl ⟨by rfl, ?_⟩) hHeld ?_ ?_
  rotate_left
  · rintro w' ⟨s0, s1⟩
    go_simp
    with_reducible rfl
  rotate_left
  · simp only [Act.put, List.setIfInBounds_toArray, List.set_cons_zero, List.set_cons_succ, i64_w, i32_w]
    rfl
  refine pure_ (i := 10) (N := some 35) (v := ?_) (a' := ?_) #[true, true, true, true, true, true, true, true, true, true, true, false, false] rfl rfl (any_of HT_.out (by kernel_rfl)) (fun _ _ _ h => h) (Or.inl ⟨by rfl, ?_⟩) ?_ ?_
  rotate_left
  · intro w'
    go_simp
    with_reducible rfl
  rotate_left
  · simp only [Act.put, List.setIfInBounds_toArray, List.set_cons_zero, List.set_cons_succ, i64_w, i32_w]
    rfl
  refine pure_ (i := 11) (N := some 36) (v := ?_) (a' := ?_) #[true, true, true, true, true, true, true, true, true, true, true, true, false] rfl rfl (any_of HT_.out (by kernel_rfl)) (fun _ _ _ h => h) (Or.inl ⟨by rfl, ?_⟩) ?_ ?_
  rotate_left
  · intro w'
    go_simp
    with_reducible rfl
  rotate_left
  · simp only [Act.put, List.setIfInBounds_toArray, List.set_cons_zero, List.set_cons_succ, i64_w, i32_w]
    rfl
  refine one_ (i := 12) (N := some 37) #[true, true, true, true, true, true, true, true, true, true, true, true, true] rfl rfl (one_of HT_.out (by kernel_rfl)) (by decide) (fun K hK => ?_)
  refine call_ 48 #[.pointer (some ⟨rb, 0, none⟩), .pointer (some ⟨nb, 0, none⟩), .int .i64 (x1 * 256 + x2)] (by rfl) rfl (by first | (go_simp; done) | (go_simp; rfl)) ?_
  refine (kinds2_calls rb nb (xs.drop 3) (x1 * 256 + x2) HCN.out.1 HCN.out.2 W0 w6 HB.out HRB.out HNB.out HNE.out HD.out HOD.out BN.out).mono ?_
  rintro e w7 ⟨rfl, v2, v3, bn7, r27, r37, d7, hb7⟩
  refine ⟨_, rfl, ?_⟩
  rw [HRES.out] at r27 r37 d7
  dsimp only at r27 r37 d7
  rw [HRES2.out] at r27 d7
  dsimp only at r27 d7
  clear HD BN HB
  have HD := Aside0.mk d7
  have BN := Aside0.mk bn7
  have R2 := Aside0.mk r27
  have R3 := Aside0.mk r37
  have HB := Aside0.mk hb7
  clear d7 bn7 r27 r37 hb7
  refine hK.out _ _ ⟨kept_cell HB.out K1.out, kept_cell HB.out K2.out⟩ (fun hHeld => ?_)
  clear hK K
  refine norm_ (a' := ?_) ?_ ?_
  rotate_left
  · show Act.put _ (some 37) _ = _
    simp only [Act.put, List.setIfInBounds_toArray, List.set_cons_zero, List.set_cons_succ, i64_w, i32_w]
    rfl
  refine done_ (done_of HT_.out (by kernel_rfl)) ?_
  obtain ⟨B2, c2, e2_, l2, C2⟩ := Kd.R_reads R2.out
  subst e2_
  obtain ⟨B3, c3, e3_, l3, C3⟩ := Kd.R_reads R3.out
  subst e3_
  have s0 : w7.cell? ⟨nb, 0, none⟩ = some (.bool false) := (blk_cell BN.out 0).trans rfl
  have s1 : w7.cell? ⟨nb, 1, none⟩ = some (.slice none 0 0) := (blk_cell BN.out 1).trans rfl
  have s2 : w7.cell? ⟨nb, 2, none⟩ = some (.slice B2 ks.length c2) := (blk_cell BN.out 2).trans rfl
  have s3 : w7.cell? ⟨nb, 3, none⟩ = some (.slice B3 cs.length c3) := (blk_cell BN.out 3).trans rfl
  cases bad
  · by_cases he0 : e0 = 0
    · have hE := bne_eq_false_iff_eq.2 he0
      cases r
      · go_wp2_with (first
          | (go_at_call 11; refine (HBY.out w7 none 0 B2 c2 B3 c3 (Kd.C_nil _ _) (Nat.le_refl _) C2 l2 C3 l3).mono ?_; rintro e w8 ⟨v0, rfl, r8, hb8⟩; obtain ⟨A0, c0, e0_, l0, C0⟩ := Kd.R_reads r8; subst e0_; clear s0 s1 s2 s3; have n0_ := Aside0.mk (rd_same HD.out (hb8.block rb (rd_lt HD.out))); have n1_ := Aside0.mk (show NodeAt w8 nb _ _ _ _ from blk_below BN.out hb8); have m0_ := Aside0.mk (Kd.R_below R2.out hb8); clear R2; have R2 := m0_; clear m0_; have m1_ := Aside0.mk (Kd.R_below R3.out hb8); clear R3; have R3 := m1_; clear m1_; have n5_ := Aside0.mk (below_step HB.out hb8); have HC0 := Aside0.mk (And.intro l0 C0); clear HD BN HB r8 hb8 l0 C0; have HD := n0_; have BN := n1_; have HB := n5_; clear n0_ n1_ n5_; obtain ⟨Ar, cr, hrd, _, _⟩ := HD.out.r; have z1 : w8.cell? ⟨rb, 1, none⟩ = some (.bool false) := (blk_cell hrd 1).trans rfl; clear hrd; have BGn := Aside0.mk ((HB.out.block g HGL.out).trans BG.out); have t0 : w8.cell? ⟨g, 0, none⟩ = some (.bool false) := (blk_cell BGn.out 0).trans rfl; have t1 : w8.cell? ⟨g, 1, none⟩ = some (.slice none 0 0) := (blk_cell BGn.out 1).trans rfl; have t2 : w8.cell? ⟨g, 2, none⟩ = some (.slice none 0 0) := (blk_cell BGn.out 2).trans rfl; have t3 : w8.cell? ⟨g, 3, none⟩ = some (.slice none 0 0) := (blk_cell BGn.out 3).trans rfl; have f0 := blk_frozen BGn.out 0; have f1 := blk_frozen BGn.out 1; have f2 := blk_frozen BGn.out 2; have f3 := blk_frozen BGn.out 3; have s0 : w8.cell? ⟨nb, 0, none⟩ = some (.bool false) := (blk_cell BN.out 0).trans rfl; have s1 : w8.cell? ⟨nb, 1, none⟩ = some (.slice none 0 0) := (blk_cell BN.out 1).trans rfl; have s2 : w8.cell? ⟨nb, 2, none⟩ = some (.slice B2 ks.length c2) := (blk_cell BN.out 2).trans rfl; have s3 : w8.cell? ⟨nb, 3, none⟩ = some (.slice B3 cs.length c3) := (blk_cell BN.out 3).trans rfl)
          | (go_at_call 36; refine (HEQ.out w8 A0 c0 (some ad) c HC0.out.2 HC0.out.1 (Kd.C_of_reads (d := (0 : Int)) (ReadsInt.below HR0.out HB.out)) HCC.out).mono ?_; rintro e w9 ⟨rfl, ⟨m9, rfl⟩⟩))
        have b4 := blk_set (blk_set (blk_set (blk_set BGn.out 0 (.bool false)) 1 (.slice none 0 0)) 2 (.slice none 0 0)) 3 (.slice none 0 0)
        refine bodyPost_ret (results_ct rfl _ _ g 26 #[.bool false, .slice none 0 0, .slice none 0 0, .slice none 0 0] (0, 0) _ rfl b4 Try.underlying26 rfl (by kernel_rfl)) rfl ?_
        exact HNO.out (.inr (.inr (by first | rfl | trivial))) _ _ ⟨.slice none 0 0, .slice none 0 0, .slice none 0 0, rfl, Kd.R_nil _ _ _ _ _, Kd.R_nil _ _ _ _ _, Kd.R_nil _ _ _ _ _, below_set (below_set (below_set (below_set (pw_below_drewN (below_step HB0.out HB.out) m9) HG.out) HG.out) HG.out) HG.out⟩
      · have HE0 := Aside0.mk he0
        clear he0
        go_wp2_with (first
          | (go_at_call 11; refine (HBY.out w7 none 0 B2 c2 B3 c3 (Kd.C_nil _ _) (Nat.le_refl _) C2 l2 C3 l3).mono ?_; rintro e w8 ⟨v0, rfl, r8, hb8⟩; obtain ⟨A0, c0, e0_, l0, C0⟩ := Kd.R_reads r8; subst e0_; clear s0 s1 s2 s3; have n0_ := Aside0.mk (rd_same HD.out (hb8.block rb (rd_lt HD.out))); have n1_ := Aside0.mk (show NodeAt w8 nb _ _ _ _ from blk_below BN.out hb8); have m0_ := Aside0.mk (Kd.R_below R2.out hb8); clear R2; have R2 := m0_; clear m0_; have m1_ := Aside0.mk (Kd.R_below R3.out hb8); clear R3; have R3 := m1_; clear m1_; have n5_ := Aside0.mk (below_step HB.out hb8); have HC0 := Aside0.mk (And.intro l0 C0); clear HD BN HB r8 hb8 l0 C0; have HD := n0_; have BN := n1_; have HB := n5_; clear n0_ n1_ n5_; obtain ⟨Ar, cr, hrd, _, _⟩ := HD.out.r; have z1 : w8.cell? ⟨rb, 1, none⟩ = some (.bool false) := (blk_cell hrd 1).trans rfl; clear hrd; have BGn := Aside0.mk ((HB.out.block g HGL.out).trans BG.out); have t0 : w8.cell? ⟨g, 0, none⟩ = some (.bool false) := (blk_cell BGn.out 0).trans rfl; have t1 : w8.cell? ⟨g, 1, none⟩ = some (.slice none 0 0) := (blk_cell BGn.out 1).trans rfl; have t2 : w8.cell? ⟨g, 2, none⟩ = some (.slice none 0 0) := (blk_cell BGn.out 2).trans rfl; have t3 : w8.cell? ⟨g, 3, none⟩ = some (.slice none 0 0) := (blk_cell BGn.out 3).trans rfl; have f0 := blk_frozen BGn.out 0; have f1 := blk_frozen BGn.out 1; have f2 := blk_frozen BGn.out 2; have f3 := blk_frozen BGn.out 3; have s0 : w8.cell? ⟨nb, 0, none⟩ = some (.bool false) := (blk_cell BN.out 0).trans rfl; have s1 : w8.cell? ⟨nb, 1, none⟩ = some (.slice none 0 0) := (blk_cell BN.out 1).trans rfl; have s2 : w8.cell? ⟨nb, 2, none⟩ = some (.slice B2 ks.length c2) := (blk_cell BN.out 2).trans rfl; have s3 : w8.cell? ⟨nb, 3, none⟩ = some (.slice B3 cs.length c3) := (blk_cell BN.out 3).trans rfl)
          | (go_at_call 36; refine (HEQ.out w8 A0 c0 (some ad) c HC0.out.2 HC0.out.1 (Kd.C_of_reads (d := (0 : Int)) (ReadsInt.below HR0.out HB.out)) HCC.out).mono ?_; rintro e w9 ⟨rfl, ⟨m9, rfl⟩⟩))
        have b4 := blk_set (blk_set (blk_set (blk_set (blk_drewN BGn.out m9) 0 (.bool false)) 1 (.slice none 0 0)) 2 (.slice B2 ks.length c2)) 3 (.slice B3 cs.length c3)
        refine bodyPost_ret (results_ct rfl _ _ g 26 #[.bool false, .slice none 0 0, .slice B2 ks.length c2, .slice B3 cs.length c3] (0, 0) _ rfl b4 Try.underlying26 rfl (by kernel_rfl)) rfl ?_
        exact HYES.out (by first | rfl | trivial) HE0.out (by first | rfl | trivial) _ _ ⟨.slice none 0 0, .slice B2 ks.length c2, .slice B3 cs.length c3, rfl, Kd.R_nil _ _ _ _ _, R_set4 (Kd.R_drewN R2.out m9) HB0.out.size HGL.out _ _ _ _, R_set4 (Kd.R_drewN R3.out m9) HB0.out.size HGL.out _ _ _ _, below_set (below_set (below_set (below_set (pw_below_drewN (below_step HB0.out HB.out) m9) HG.out) HG.out) HG.out) HG.out⟩
    · have hE := bne_iff_ne.2 he0
      go_wp2_with (first
        | (go_at_call 11; refine (HBY.out w7 none 0 B2 c2 B3 c3 (Kd.C_nil _ _) (Nat.le_refl _) C2 l2 C3 l3).mono ?_; rintro e w8 ⟨v0, rfl, r8, hb8⟩; obtain ⟨A0, c0, e0_, l0, C0⟩ := Kd.R_reads r8; subst e0_; clear s0 s1 s2 s3; have n0_ := Aside0.mk (rd_same HD.out (hb8.block rb (rd_lt HD.out))); have n1_ := Aside0.mk (show NodeAt w8 nb _ _ _ _ from blk_below BN.out hb8); have m0_ := Aside0.mk (Kd.R_below R2.out hb8); clear R2; have R2 := m0_; clear m0_; have m1_ := Aside0.mk (Kd.R_below R3.out hb8); clear R3; have R3 := m1_; clear m1_; have n5_ := Aside0.mk (below_step HB.out hb8); have HC0 := Aside0.mk (And.intro l0 C0); clear HD BN HB r8 hb8 l0 C0; have HD := n0_; have BN := n1_; have HB := n5_; clear n0_ n1_ n5_; obtain ⟨Ar, cr, hrd, _, _⟩ := HD.out.r; have z1 : w8.cell? ⟨rb, 1, none⟩ = some (.bool false) := (blk_cell hrd 1).trans rfl; clear hrd; have BGn := Aside0.mk ((HB.out.block g HGL.out).trans BG.out); have t0 : w8.cell? ⟨g, 0, none⟩ = some (.bool false) := (blk_cell BGn.out 0).trans rfl; have t1 : w8.cell? ⟨g, 1, none⟩ = some (.slice none 0 0) := (blk_cell BGn.out 1).trans rfl; have t2 : w8.cell? ⟨g, 2, none⟩ = some (.slice none 0 0) := (blk_cell BGn.out 2).trans rfl; have t3 : w8.cell? ⟨g, 3, none⟩ = some (.slice none 0 0) := (blk_cell BGn.out 3).trans rfl; have f0 := blk_frozen BGn.out 0; have f1 := blk_frozen BGn.out 1; have f2 := blk_frozen BGn.out 2; have f3 := blk_frozen BGn.out 3; have s0 : w8.cell? ⟨nb, 0, none⟩ = some (.bool false) := (blk_cell BN.out 0).trans rfl; have s1 : w8.cell? ⟨nb, 1, none⟩ = some (.slice none 0 0) := (blk_cell BN.out 1).trans rfl; have s2 : w8.cell? ⟨nb, 2, none⟩ = some (.slice B2 ks.length c2) := (blk_cell BN.out 2).trans rfl; have s3 : w8.cell? ⟨nb, 3, none⟩ = some (.slice B3 cs.length c3) := (blk_cell BN.out 3).trans rfl)
        | (go_at_call 36; refine (HEQ.out w8 A0 c0 (some ad) c HC0.out.2 HC0.out.1 (Kd.C_of_reads (d := (0 : Int)) (ReadsInt.below HR0.out HB.out)) HCC.out).mono ?_; rintro e w9 ⟨rfl, ⟨m9, rfl⟩⟩))
      have b4 := blk_set (blk_set (blk_set (blk_set BGn.out 0 (.bool false)) 1 (.slice none 0 0)) 2 (.slice none 0 0)) 3 (.slice none 0 0)
      refine bodyPost_ret (results_ct rfl _ _ g 26 #[.bool false, .slice none 0 0, .slice none 0 0, .slice none 0 0] (0, 0) _ rfl b4 Try.underlying26 rfl (by kernel_rfl)) rfl ?_
      exact HNO.out (.inr (.inl he0)) _ _ ⟨.slice none 0 0, .slice none 0 0, .slice none 0 0, rfl, Kd.R_nil _ _ _ _ _, Kd.R_nil _ _ _ _ _, Kd.R_nil _ _ _ _ _, below_set (below_set (below_set (below_set (below_step HB0.out HB.out) HG.out) HG.out) HG.out) HG.out⟩
  · go_wp2_with (first
      | (go_at_call 11; refine (HBY.out w7 none 0 B2 c2 B3 c3 (Kd.C_nil _ _) (Nat.le_refl _) C2 l2 C3 l3).mono ?_; rintro e w8 ⟨v0, rfl, r8, hb8⟩; obtain ⟨A0, c0, e0_, l0, C0⟩ := Kd.R_reads r8; subst e0_; clear s0 s1 s2 s3; have n0_ := Aside0.mk (rd_same HD.out (hb8.block rb (rd_lt HD.out))); have n1_ := Aside0.mk (show NodeAt w8 nb _ _ _ _ from blk_below BN.out hb8); have m0_ := Aside0.mk (Kd.R_below R2.out hb8); clear R2; have R2 := m0_; clear m0_; have m1_ := Aside0.mk (Kd.R_below R3.out hb8); clear R3; have R3 := m1_; clear m1_; have n5_ := Aside0.mk (below_step HB.out hb8); have HC0 := Aside0.mk (And.intro l0 C0); clear HD BN HB r8 hb8 l0 C0; have HD := n0_; have BN := n1_; have HB := n5_; clear n0_ n1_ n5_; obtain ⟨Ar, cr, hrd, _, _⟩ := HD.out.r; have z1 : w8.cell? ⟨rb, 1, none⟩ = some (.bool true) := (blk_cell hrd 1).trans rfl; clear hrd; have BGn := Aside0.mk ((HB.out.block g HGL.out).trans BG.out); have t0 : w8.cell? ⟨g, 0, none⟩ = some (.bool false) := (blk_cell BGn.out 0).trans rfl; have t1 : w8.cell? ⟨g, 1, none⟩ = some (.slice none 0 0) := (blk_cell BGn.out 1).trans rfl; have t2 : w8.cell? ⟨g, 2, none⟩ = some (.slice none 0 0) := (blk_cell BGn.out 2).trans rfl; have t3 : w8.cell? ⟨g, 3, none⟩ = some (.slice none 0 0) := (blk_cell BGn.out 3).trans rfl; have f0 := blk_frozen BGn.out 0; have f1 := blk_frozen BGn.out 1; have f2 := blk_frozen BGn.out 2; have f3 := blk_frozen BGn.out 3; have s0 : w8.cell? ⟨nb, 0, none⟩ = some (.bool false) := (blk_cell BN.out 0).trans rfl; have s1 : w8.cell? ⟨nb, 1, none⟩ = some (.slice none 0 0) := (blk_cell BN.out 1).trans rfl; have s2 : w8.cell? ⟨nb, 2, none⟩ = some (.slice B2 ks.length c2) := (blk_cell BN.out 2).trans rfl; have s3 : w8.cell? ⟨nb, 3, none⟩ = some (.slice B3 cs.length c3) := (blk_cell BN.out 3).trans rfl)
      | (go_at_call 36; refine (HEQ.out w8 A0 c0 (some ad) c HC0.out.2 HC0.out.1 (Kd.C_of_reads (d := (0 : Int)) (ReadsInt.below HR0.out HB.out)) HCC.out).mono ?_; rintro e w9 ⟨rfl, ⟨m9, rfl⟩⟩))
    have b4 := blk_set (blk_set (blk_set (blk_set BGn.out 0 (.bool false)) 1 (.slice none 0 0)) 2 (.slice none 0 0)) 3 (.slice none 0 0)
    refine bodyPost_ret (results_ct rfl _ _ g 26 #[.bool false, .slice none 0 0, .slice none 0 0, .slice none 0 0] (0, 0) _ rfl b4 Try.underlying26 rfl (by kernel_rfl)) rfl ?_
    exact HNO.out (.inl (by first | rfl | trivial)) _ _ ⟨.slice none 0 0, .slice none 0 0, .slice none 0 0, rfl, Kd.R_nil _ _ _ _ _, Kd.R_nil _ _ _ _ _, Kd.R_nil _ _ _ _ _, below_set (below_set (below_set (below_set (below_step HB0.out HB.out) HG.out) HG.out) HG.out) HG.out⟩
end Go.Proofs.YtjhenmegcgnkgaaX
