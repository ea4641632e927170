/- slices.Collect, slices.Sorted over slices.Values at texts: the walks. -/
import Derived.Test.YtkmnjekbacdfoaaScanSorted
import Derived.Sort.OwnSorted
set_option linter.unusedVariables false
set_option linter.unusedSimpArgs false
namespace Go.Proofs.YtkmnjekbacdfoaaX
open Go.RowKit Go.Shelf Go.Sort Go.Proofs.YtkmnjekbacdfoaaW.PrintWords
attribute [local go_sem] Oper.semAt_some

/-- Texts as rows of bytes; sorted. -/
def rowsOf (zs : List ByteArray) : List (List UInt8) := zs.map fun s => s.data.toList
def sortB (zs : List ByteArray) : List (List UInt8) := (rowsOf zs).mergeSort fun x y => decide (x ≤ y)
theorem rows_enc (zs : List ByteArray) : zs.map Value.string = (rowsOf zs).map encStr := by
  unfold rowsOf
  rw [List.map_map]
  refine List.map_congr_left fun s _ => ?_
  rfl
theorem sortB_length (zs : List ByteArray) : (sortB zs).length = zs.length := by unfold sortB rowsOf; simp

set_option maxRecDepth 100000 in
set_option maxHeartbeats 2000000 in
theorem collect_in (n : Nat) (hn : 4 ≤ n) (Bs : Nat) (sv : Value) (zs : List ByteArray) (hz : zs.length ≤ 1000000) (w : World) (hBs : Bs < w.heap.size) (hc : w.cell? ⟨Bs, 0, none⟩ = some sv) (hS : Strs w.heap.size w sv zs) :
    CallsIn Fence.wide n Try.prog 29 #[.func (.func 31) #[] #[.pointer (some ⟨Bs, 0, none⟩)]] w fun e w' =>
      ∃ v, e = .returned v ∧ w'.ownsRow w.heap.size 9 1 v zs.length (zs.map Value.string) ∧ Below w.heap.size w w' := by
  refine callsIn_of_wp Try.func29 rfl trivial ?_ rfl
  simp only [Try.ntmps29, List.size_toArray, List.length_cons, List.length_nil, Nat.reduceAdd, Nat.reduceSub, Array.replicate_succ, Array.replicate_zero, List.push_toArray, List.append_toArray, List.nil_append, List.cons_append]
  have hfA : Fence.wide.fn 36 := trivial
  have cA := appendSeq_in (n - 1) (by omega) Bs sv zs hz w hBs hc hS
  gi_wp2_with (refine ⟨fun _ => by omega, ?_⟩; gi_at_call 36; refine cA.mono ?_; rintro e w' ⟨v, rfl, hown, hb⟩)
  go_ret
  exact ⟨_, rfl, hown, hb⟩
set_option maxRecDepth 100000 in
set_option maxHeartbeats 2000000 in
theorem sorted_calls (Bs : Nat) (sv : Value) (zs : List ByteArray) (hz : zs.length ≤ 1000000) (w : World) (hBs : Bs < w.heap.size) (hc : w.cell? ⟨Bs, 0, none⟩ = some sv) (hS : Strs w.heap.size w sv zs) :
    Calls Try.prog 21 #[.func (.func 31) #[] #[.pointer (some ⟨Bs, 0, none⟩)]] w fun e w' =>
      ∃ v, e = .returned v ∧ w'.ownsRow w.heap.size 9 1 v zs.length ((sortB zs).map encStr) ∧ Below w.heap.size w w' := by
  refine (callsIn_wide (n := 6)).1 ?_
  refine callsIn_of_wp Try.func21 rfl trivial ?_ rfl
  simp only [Try.ntmps21, List.size_toArray, List.length_cons, List.length_nil, Nat.reduceAdd, Nat.reduceSub, Array.replicate_succ, Array.replicate_zero, List.push_toArray, List.append_toArray, List.nil_append, List.cons_append]
  have hfC : Fence.wide.fn 29 := trivial
  have hfS : Fence.wide.fn 30 := trivial
  gi_wp2_with (gi_at_call 29; refine (collect_in _ (by omega) Bs sv zs hz _ hBs hc hS).mono ?_; rintro e W ⟨v, rfl, hrow, hb⟩)
  rcases hrow.2 with ⟨rfl, hz0⟩ | ⟨gb, cap, cur, rfl, hbase, hgb, r1, r2, r3, r4⟩
  · have hz1 : zs = [] := List.eq_nil_of_length_eq_zero hz0
    subst hz1
    gi_wp2_with (gi_at_call 30; refine (callsIn_wide.2 (Try.slices_Sort_string_none none 0 W)).mono ?_; rintro e w' ⟨rfl, rfl⟩)
    go_ret
    exact ⟨_, rfl, by simpa [sortB, rowsOf] using hrow, hb⟩
  · have hlr : (rowsOf zs).length = zs.length := by unfold rowsOf; simp
    have hH : Holds encStr W gb 0 (rowsOf zs).toArray := holds_of_block hgb (by rw [hlr, ← rows_enc]; simpa using r4)
    have hgl : gb < W.heap.size := (Array.getElem?_eq_some_iff.1 hgb).1
    have cS := Try.slices_Sort_string gb 0 cap (rowsOf zs) W hH hgl (by rw [hlr]; omega)
    rw [hlr] at cS
    gi_wp2_with (gi_at_call 30; refine (callsIn_wide.2 cS).mono ?_; rintro e w' ⟨rfl, nn, os, rfl⟩)
    go_ret
    refine ⟨_, rfl, ?_, hb.grown (grownBy_sorted _) hb.size (fun j hj => by cases hj; exact hbase)⟩
    have h := ownsRow_sorted (w := W) (n := nn) (os := os) (ss := rowsOf zs) (ts := sortB zs) (by rw [sortB_length, hlr]) hbase hgb (by rw [hlr]; exact r1) r2 r3
    rw [hlr] at h
    exact h
end Go.Proofs.YtkmnjekbacdfoaaX
