/- (*scan.Scanner).Found: the walk. -/
import Derived.Test.YtkmnjekbacdfoaaScanWrite
import Derived.Test.YtkmnjekbacdfoaaScanSort2
set_option linter.unusedVariables false
set_option linter.unusedSimpArgs false
namespace Go.Proofs.YtkmnjekbacdfoaaX
open Go.RowKit Go.Maps Go.Sort Go.Proofs.YtkmnjekbacdfoaaW.PrintWords Go.Proofs.YtkmnjekbacdfoaaW.PrintLast Go.Proofs.YtkmnjekbacdfoaaW.PrintMore

/-- Sorted, each once. -/
def foundB (fs : List ByteArray) : List ByteArray := (Lib.compact (sortB fs)).map fun l => ⟨l.toArray⟩
theorem foundB_enc (fs : List ByteArray) : (foundB fs).map Value.string = (Lib.compact (sortB fs)).map encStr := by
  unfold foundB
  rw [List.map_map]
  rfl
theorem foundB_length (fs : List ByteArray) : (foundB fs).length = (Lib.compact (sortB fs)).length := by unfold foundB; rw [List.length_map]
theorem compact_own (w : World) (base : Nat) (v : Value) (zs : List (List UInt8)) (ho : w.ownsRow base 9 1 v zs.length (zs.map encStr)) (hz : zs.length ≤ 1000000) :
    Calls Try.prog 20 #[v] w fun e w' => ∃ v', e = .returned v' ∧ w'.ownsRow base 9 1 v' (Lib.compact zs).length ((Lib.compact zs).map encStr) ∧ w.grownBy w' v.ownBlock := by
  rcases ho.2 with ⟨rfl, hz0⟩ | ⟨gb, cap, cur, rfl, hbase, hgb, r1, r2, r3, r4⟩
  · have hz1 : zs = [] := List.eq_nil_of_length_eq_zero hz0
    subst hz1
    refine (Try.slices_Compact_string_empty none 0 w).mono ?_
    rintro e w' ⟨rfl, rfl⟩
    exact ⟨_, rfl, by simpa [Lib.compact, Lib.compactUpTo] using ho, ⟨rfl, rfl, rfl, Nat.le_refl _, fun _ _ _ => rfl⟩⟩
  · have hH : Holds encStr w gb 0 zs.toArray := holds_of_block hgb (by simpa using r4)
    refine (Try.slices_Compact_string gb 0 cap zs w hH (by omega) r1).mono ?_
    rintro e w' ⟨rfl, q, rfl⟩
    have hle := Lib.compact_length_le zs
    have h := ownsRow_sorted (w := w) (n := q) (os := #[]) (ss := zs) (ts := Lib.compact zs ++ List.replicate (zs.length - (Lib.compact zs).length) []) (by simp; omega) hbase hgb r1 r2 r3
    have hg := grownBy_sorted (w := w) (n := q) (os := #[]) (g := gb) (Lib.compact zs ++ List.replicate (zs.length - (Lib.compact zs).length) []).toArray
    have h2 := own_take h hle
    have hgr : ∀ X : World, grow X #[] = X := fun X => by simp [grow]
    rw [hgr] at hg h2
    refine ⟨_, rfl, ?_, hg⟩
    simpa using h2
theorem clone_own (w : World) (base : Nat) (v : Value) (zs : List ByteArray) (ho : w.ownsRow base 9 1 v zs.length (zs.map Value.string)) (hz : zs.length ≤ 1000000) :
    Calls Try.prog 23 #[v] w fun e w' => ∃ v', e = .returned v' ∧ w'.ownsRow w.heap.size 9 1 v' zs.length (zs.map Value.string) ∧ Below w.heap.size w w' := by
  rcases ho.2 with ⟨rfl, hz0⟩ | ⟨gb, cap, cur, rfl, hbase, hgb, r1, r2, r3, r4⟩
  · have hz1 : zs = [] := List.eq_nil_of_length_eq_zero hz0
    subst hz1
    refine (Try.slices_Clone_string_nil 0 0 w).mono ?_
    rintro e w' ⟨rfl, rfl⟩
    exact ⟨_, rfl, World.ownsRow_nil _ _ _ _, Below.refl _ _⟩
  · rcases Nat.eq_zero_or_pos zs.length with h0 | h0
    · have hz1 : zs = [] := List.eq_nil_of_length_eq_zero h0
      subst hz1
      refine (Try.slices_Clone_string_zero ⟨gb, 0, none⟩ cap w).mono ?_
      rintro e w' ⟨v', rfl, h1, _, h2⟩
      exact ⟨_, rfl, h1, h2⟩
    · refine (Try.slices_Clone_string gb 0 zs.length cap zs w (Nat.le_refl _) (by omega) ?_).mono ?_
      · intro j hj
        have h5 := (holds_of_block (ss := rowsOf zs) hgb (by rw [← rows_enc]; simpa [rowsOf] using r4)) j (by simpa [rowsOf] using hj)
        rw [h5.1]
        simp [rowsOf, encStr, List.getElem?_eq_getElem hj]
        done
      · rintro e w' ⟨v', rfl, h1, _, h2⟩
        exact ⟨_, rfl, by simpa using h1, h2⟩
theorem found_step (fs : List ByteArray) (w w1 W2 W3 : World) (v2 v3 : Value) {o : Obj} (h1 : w1 = w.alloc o) (hb2 : Below w1.heap.size w1 W2) (hv2 : W2.ownsRow w1.heap.size 9 1 v2 fs.length ((sortB fs).map encStr))
    (hv3 : W3.ownsRow w1.heap.size 9 1 v3 (Lib.compact (sortB fs)).length ((Lib.compact (sortB fs)).map encStr)) (hg3 : W2.grownBy W3 v2.ownBlock) :
    Aside0 (Below w.heap.size w W3) ∧ Aside0 (Kd.R Kd.string 9 W3 (w.heap.size + 1) (fun _ => True) v3 (foundB fs)) := by
  subst h1
  refine ⟨⟨((below_alloc (Below.refl _ _) _).trans (hb2.mono (by simp))).grown hg3 (by have := hb2.size; simp at this; omega) (fun k hk => by have := own_base hv2 k hk; simp at this; omega)⟩, ⟨Kd.R_of_own (enc := Value.string) ?_ (fun _ _ => trivial)⟩⟩
  show W3.ownsRow _ 9 1 v3 (foundB fs).length ((foundB fs).map Value.string)
  rw [foundB_enc, foundB_length]
  simpa using hv3
set_option maxHeartbeats 4000000 in
set_option maxRecDepth 100000 in
theorem found_calls (B top rlo : Nat) (l : List ByteArray) (rs : List Int) (fs : List ByteArray) (w : World) (hS : Sc w B top rlo l rs fs) (hf : fs.length ≤ 1000000) :
    Calls Try.prog 15 #[.pointer (some ⟨B + 1, 0, none⟩)] w fun e w' => ∃ v, e = .returned (.tuple #[v, .int .i64 0]) ∧ Kept1 B top w w' ∧ Sc w' B top rlo l rs (foundB fs) ∧
      Kd.R Kd.string 9 w' w.heap.size (fun _ => True) v (foundB fs) := by
  obtain ⟨⟨rv, fv, hblk, hR, hF⟩, hT, hle⟩ := hS
  have HR := Aside0.mk hR
  have HF := Aside0.mk hF
  have HT := Aside0.mk hT
  have HBL := Aside0.mk hblk
  have x2 : w.cell? ⟨B + 1, 2, none⟩ = some fv := (blk_cell hblk 2).trans rfl
  have hown : w.ownsRow top 9 1 fv fs.length (fs.map Value.string) := by simpa [encs] using Kd.own_of_R hF
  have hst : Strs (w.heap.size + 1) (w.alloc (.cells #[fv] 23)) fv fs := by
    rcases hown.2 with ⟨rfl, h0⟩ | ⟨g, cap, cur, rfl, hbase, hgb, r1, r2, r3, r4⟩
    · exact .inl ⟨rfl, List.eq_nil_of_length_eq_zero h0⟩
    · refine .inr ⟨g, 0, cap, rfl, by have := blk_lt hgb; omega, fun j hj => ?_⟩
      have hA := Kd.R_alloc hF (.cells #[.slice (some ⟨g, 0, none⟩) fs.length cap] 23 (0, 0))
      have h5 := (Kd.R_cell ByteArray.empty hA (j : Int) (by omega) (by omega)).1
      rw [rd_nat fs j hj, Int.toNat_natCast] at h5
      rw [Nat.zero_add]
      exact h5
  have cS := sorted_calls w.heap.size fv fs hf (w.alloc (.cells #[fv] 23)) (by simp) ((blk_cell (blk_new w (.cells #[fv] 23 (0, 0))) 0).trans rfl) (by simpa using hst)
  have cV := (callsIn_wide (n := 1)).1 (values_in 1 (match fv with | .slice a _ _ => a | _ => none) (match fv with | .slice _ n _ => n | _ => 0) (match fv with | .slice _ _ c => c | _ => 0) w)
  obtain ⟨Af, cf, rfl⟩ := Kd.R_slice hF
  dsimp only at cV
  have hBw : B + 1 < w.heap.size + 1 := by have := hT.lt; omega
  have hfl : (foundB fs).length ≤ 1000000 := by
    rw [foundB_length]
    exact Nat.le_trans (Lib.compact_length_le _) (by rw [sortB_length]; exact hf)
  clear hF hR hT hown hst
  go_enter Try.func15, Try.ntmps15
  go_wp2_with (first
    | (go_at_call 22; refine cV.mono ?_; rintro e W1 ⟨rfl, rfl⟩)
    | (go_at_call 21; refine cS.mono ?_; rintro e W2 ⟨v2, rfl, hv2, hb2⟩)
    | (go_at_call 20; refine (compact_own _ _ v2 (sortB fs) (by rw [sortB_length]; exact hv2) (by rw [sortB_length]; exact hf)).mono ?_; rintro e W3 ⟨v3, rfl, hv3, hg3⟩; obtain ⟨HB3, HR3⟩ := found_step fs w _ W2 W3 v2 v3 rfl hb2 hv2 hv3 hg3; obtain ⟨A3, c3, e3⟩ := Kd.R_slice HR3.out; subst e3; have hblk3 := blk_below HBL.out HB3.out; have y2 := (blk_cell hblk3 2).trans rfl; have fy2 := blk_frozen hblk3 2; have HBL3 := Aside0.mk hblk3; clear hblk3 hv3 hg3 hv2 hb2)
    | (go_at_call 23; refine (clone_own _ (w.heap.size + 1) _ (foundB fs) (by simpa [encs] using Kd.own_of_R (R_set (B := B + 1) (i := 2) (u := .slice A3 (foundB fs).length c3) HR3.out hBw)) hfl).mono ?_; rintro e W5 ⟨v5, rfl, hv5, hb5⟩))
  go_ret2
  have hW4 : w.heap.size ≤ (W3.setCell ⟨B + 1, 2, none⟩ (.slice A3 (foundB fs).length c3)).heap.size := by have := HB3.out.size; simpa [World.setCell] using this
  have hS4 : Sc (W3.setCell ⟨B + 1, 2, none⟩ (.slice A3 (foundB fs).length c3)) B top rlo l rs (foundB fs) := by
    have hS3 := (show Sc w B top rlo l rs fs from ⟨⟨_, _, HBL.out, HR.out, HF.out⟩, HT.out, hle⟩).below HB3.out
    refine ⟨⟨rv, _, blk_put HBL3.out 2 _ rfl, ?_, Kd.R_lower (R_set HR3.out hBw) (by omega)⟩, hS3.tab.kept (fun k h1 h2 => set_kept k h2), Nat.le_trans hle hW4⟩
    obtain ⟨rv', fv', h1, h2, h3⟩ := hS3.ex
    have := HBL3.out.symm.trans h1
    injection this with this
    injection this with this
    have e1 : rv' = rv := by
      have h7 := congrArg Array.toList this
      simp only [List.cons.injEq] at h7
      exact h7.2.1.symm
    subst e1
    refine h2.kept fun k cur hk hr => set_kept k fun e => ?_
    subst e
    rw [h1] at hk
    injection hk with hk
    injection hk with _ hk
    exact absurd hk (by decide)
  refine ⟨v5, rfl, (Kept1.of_below (B := B) HB3.out hle).trans ((Kept1.set W3 2 _).trans (Kept1.of_below hb5 (Nat.le_trans hle hW4))), hS4.below hb5, Kd.R_lower (Kd.R_of_own (enc := Value.string) (by simpa [encs] using hv5) (fun _ _ => trivial)) hW4⟩
end Go.Proofs.YtkmnjekbacdfoaaX
