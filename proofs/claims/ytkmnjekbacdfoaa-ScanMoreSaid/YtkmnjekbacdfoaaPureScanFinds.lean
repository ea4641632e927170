/- ScanFinds: the plain statement: what the law's function answers. -/
import Derived.Test.YtkmnjekbacdfoaaScanRefFind
import Derived.Test.YtkmnjekbacdfoaaQScanLx3
set_option linter.unusedVariables false
set_option linter.unusedSimpArgs false
namespace Go.Proofs.YtkmnjekbacdfoaaX
open Go.RowKit Go.Proofs.Ytkmnjekbacdfoaa.PScanL Go.Proofs.YtkmnjekbacdfoaaW.PrintWords Go.Proofs.YtkmnjekbacdfoaaW.PrintLast Go.Proofs.YtkmnjekbacdfoaaW.PrintMore

theorem prog_find (b : List Int) (l : List ByteArray) (hb : b.length ≤ 10000) (hl : l.length ≤ 100) (hs : ∀ s ∈ l, s.size ≤ 1000) : scan_Find.f b l = some (if l.all nameB = true then (findB b l, 0) else ([], 190)) := by
  unfold scan_Find.f
  rw [if_pos]
  refine ⟨by omega, hs, by omega, ?_⟩
  have h1 := hits_len l b (b.length - 31)
  have h2 : (b.length - 31) * l.length ≤ 10000 * 100 := Nat.mul_le_mul (by omega) hl
  omega
theorem find_le (b : List Int) (l : List ByteArray) (hb : b.length ≤ 10000) (hl : l.length ≤ 100) : (findB b l).length ≤ 1000000 := by
  have h0 := foundB_le (hits l b (b.length - 31))
  have h1 := hits_len l b (b.length - 31)
  have h2 : (b.length - 31) * l.length ≤ 10000 * 100 := Nat.mul_le_mul (by omega) hl
  unfold findB
  omega
theorem scanFinds_pure (b : List Int) (l : List ByteArray) : ∃ k, chandlerylaw20_ScanFinds.f k b l = some true := by
  refine Ev.rounds ?_
  obtain ⟨r, hr, hr2⟩ := few_ev b l
  refine Ev.bind (f := fun k t153 => _) hr ?_
  cases r
  · exact Ev.congr (fun k => if_neg Bool.false_ne_true) (Ev.now _)
  obtain ⟨hb, hl, hs⟩ := hr2 rfl
  have hs' : ∀ s ∈ l, s.size ≤ 1000 := fun s h => by have := hs s h; omega
  refine Ev.congr (fun k => if_pos rfl) ?_
  refine Ev.congr (fun k => Option.bind_some _ _) ?_
  refine Ev.congr (fun k => if_pos (by rw [List.length_nil]; omega)) ?_
  refine Ev.congr (fun k => Option.bind_some _ _) ?_
  refine Ev.congr (fun k => if_pos (by rw [List.length_nil]; omega)) ?_
  refine Ev.congr (fun k => Option.bind_some _ _) ?_
  rw [List.nil_append, List.nil_append]
  refine Ev.congr (fun k => by rw [prog_find b l (by omega) (by omega) hs', Option.bind_some]) ?_
  refine Ev.bind (f := fun k bt167 => _) (find_ev b l (by omega) (by omega) hs') ?_
  refine Ev.congr (fun k => Option.bind_some _ _) ?_
  refine Ev.congr (fun k => if_pos rfl) ?_
  refine Ev.congr (fun k => if_pos rfl) ?_
  refine Ev.bind (f := fun k t172 => _) (same_texts l (by omega)) ?_
  refine Ev.congr (fun k => if_pos rfl) ?_
  have hlen : (if l.all nameB = true then (findB b l, (0 : Int)) else ([], 190)).1.length ≤ 1000000 := by
    split
    · exact find_le b l (by omega) (by omega)
    · exact Nat.zero_le _
  refine Ev.bind (f := fun k t173 => _) (same_texts _ hlen) ?_
  refine Ev.congr (fun k => if_pos rfl) ?_
  refine Ev.congr (f := fun _ => some true) (fun k => ?_) (Ev.now _)
  rw [beq_self_eq_true]
end Go.Proofs.YtkmnjekbacdfoaaX
