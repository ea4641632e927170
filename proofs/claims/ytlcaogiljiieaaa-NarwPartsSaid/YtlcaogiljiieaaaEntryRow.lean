/- A row of entries as a law's argument: opened to the entries' four fields. -/
import Derived.Test.YtlcaogiljiieaaaQNarwx0
import Derived.Test.YtlcaogiljiieaaaRows
import Derived.Test.YtlcaogiljiieaaaPlain
import Derived.WalkKit
import Derived.ProofKit
import Derived.OpenShut
import Derived.ShutString
import Derived.ChangeOld
import Derived.ChangeArms
import Derived.ChangeSame
import Derived.WideShapes
import Derived.Below
import Derived.SizedLaws
import Derived.SliceStrings
import Derived.ChangeSlices
import Derived.Deep.Slices
import Derived.Deep.Fields
import Derived.Carry
namespace Go.Proofs.YtlcaogiljiieaaaX
open Go.ChangeShapes Go.WideShapes Go.ChangeAt Go.RowKit Go.Deep Go.Proofs.YtlcaogiljiieaaaW.PrintWords Go.Proofs.Ytlcaogiljiieaaa.PNarw
set_option linter.unusedVariables false
set_option linter.unusedSimpArgs false
section
variable {H : Type} {enc : TypeId × Value → H} {w : World}
theorem entry_cells : Try.prog.cellsOf 27 = 4 := by kernel_rfl
theorem int_cells : Try.prog.cellsOf 3 = 1 := by kernel_rfl
theorem bool_cells : Try.prog.cellsOf 4 = 1 := by kernel_rfl
theorem str_cells : Try.prog.cellsOf 9 = 1 := by kernel_rfl
set_option maxRecDepth 100000 in
theorem open_entries {fuel : Nat} {cs : List Value} {x : DataW H × List MemPlace} (h : DataW.trod enc Try.prog w 0 (fun _ => true) true fuel 22 cs = some x) :
    ∃ (A : Option Addr) (l : List S27) (c : Nat), cs = [.slice A l.length c] ∧ l.length ≤ c ∧ Kd.C k27 w A l.length l := by
  rcases open_slice Try.underlying22 h with ⟨rfl, _⟩ | ⟨a, len, cap, m, n, D, Pl, rfl, hb, hl, hm, hmm, hx, hi⟩
  · exact ⟨none, [], 0, rfl, Nat.le_refl _, ⟨rfl, by decide, fun h => absurd h (Nat.lt_irrefl 0)⟩⟩
  · simp only [if_true] at hmm
    subst hmm
    rw [entry_cells] at hi
    have hex : ∀ i, ∃ p : S27, i < m → (w.cell? (a.add (i * 4)) = some (.string p.f0) ∧ w.cell? (a.add (i * 4 + 1)) = some (.int .i64 p.f1) ∧ w.cell? (a.add (i * 4 + 2)) = some (.bool p.f2) ∧ w.cell? (a.add (i * 4 + 3)) = some (.string p.f3)) := by
      intro i
      by_cases him : i < m
      · obtain ⟨cs', hc, ht'⟩ := hi i him
        obtain ⟨ys, n', hn', hy, hlen, hyl, hf⟩ := DataW.trod_struct Try.underlying27 ht'
        obtain ⟨_, hcl, hat⟩ := World.cells?_some hc
        match cs', hcl, ys, hyl with
        | [z0, z1, z2, z3], _, [y0, y1, y2, y3], _ =>
          have h0 := hf 0 _ rfl
          have h1 := hf 1 _ rfl
          have h2 := hf 2 _ rfl
          have h3 := hf 3 _ rfl
          simp only [str_cells, int_cells, bool_cells, List.drop_zero, List.drop_succ_cons, List.take_succ_cons, List.take_zero, List.getElem?_cons_zero, List.getElem?_cons_succ] at h0 h1 h2 h3
          obtain ⟨s0, e0, rfl, _⟩ := DataW.trod_string Try.underlying9 h0
          obtain ⟨s1, e1, _⟩ := DataW.trod_int Try.underlying3 h1
          obtain ⟨s2, e2, _⟩ := DataW.trod_bool Try.underlying4 h2
          obtain ⟨s3, e3, rfl, _⟩ := DataW.trod_string Try.underlying9 h3
          cases e0
          cases e1
          cases e2
          cases e3
          have c0 := hat 0 (by decide)
          have c1 := hat 1 (by decide)
          have c2 := hat 2 (by decide)
          have c3 := hat 3 (by decide)
          refine ⟨⟨s0, s1, s2, s3⟩, fun _ => ⟨?_, ?_, ?_, ?_⟩⟩
          · have : (a.add (i * 4)).add 0 = a.add (i * 4) := by rw [Go.Deep.add_add]; rfl
            rw [this] at c0
            exact c0
          · rw [Go.Deep.add_add] at c1
            exact c1
          · rw [Go.Deep.add_add] at c2
            exact c2
          · rw [Go.Deep.add_add] at c3
            exact c3
      · exact ⟨z27, fun h => absurd h him⟩
    obtain ⟨g, hg⟩ := Classical.skolem.1 hex
    have hll : ((List.range len).map g).length = len := by simp
    refine ⟨some a, (List.range len).map g, m, by rw [hll], by rw [hll]; exact hl, ⟨rfl, by rw [hll]; simp only [maxLen] at hm; omega, fun hn => ⟨a, rfl, fun j p hj => ?_⟩⟩⟩
    obtain ⟨hjl, hjp⟩ := List.getElem?_eq_some_iff.1 hj
    have hjl' : j < len := by rw [hll] at hjl; exact hjl
    have hp : g j = p := by simpa using hjp
    obtain ⟨q0, q1, q2, q3⟩ := hg j (by omega)
    rw [hp] at q0 q1 q2 q3
    refine ⟨[.string p.f0, .int .i64 p.f1, .bool p.f2, .string p.f3], rfl, k27_mk w p, fun i u hu => ?_⟩
    match i, hu with
    | 0, hu =>
      have : Value.string p.f0 = u := by simpa using hu
      rw [← this]
      exact q0
    | 1, hu =>
      have : Value.int .i64 p.f1 = u := by simpa using hu
      rw [← this]
      exact q1
    | 2, hu =>
      have : Value.bool p.f2 = u := by simpa using hu
      rw [← this]
      exact q2
    | 3, hu =>
      have : Value.string p.f3 = u := by simpa using hu
      rw [← this]
      exact q3
    | k + 4, hu => simp at hu
end
end Go.Proofs.YtlcaogiljiieaaaX
