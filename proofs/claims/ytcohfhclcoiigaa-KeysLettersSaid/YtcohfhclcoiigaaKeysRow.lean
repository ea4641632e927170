/- A key by value as a law's argument: opened to its five fields, and read again in any world. -/
import Derived.Test.YtcohfhclcoiigaaRows
import Derived.WalkKit
import Derived.ProofKit
import Derived.OpenShut
import Derived.ShutString
import Derived.ChangeOld
import Derived.ChangeArms
import Derived.WideShapes
import Derived.Below
import Derived.SizedLaws
namespace Go.Proofs.YtcohfhclcoiigaaX
open Go.ChangeShapes Go.WideShapes Go.ChangeAt Go.RowKit
set_option linter.unusedVariables false

section
variable {H : Type} {enc : TypeId × Value → H} {w : World} {base : Nat} {spare : Nat → Bool} {held : Bool}
theorem key_cells : Try.prog.cellsOf 23 = 5 := by kernel_rfl
theorem int_cells : Try.prog.cellsOf 3 = 1 := by kernel_rfl
theorem str_cells : Try.prog.cellsOf 9 = 1 := by kernel_rfl

theorem open_key {r : Reach} {b0 : Nat} {v : Value} {d : DataW H} {p : List MemPlace} (hv : Value.okWide Try.prog w r b0 23 v) (h : DataW.Trod enc Try.prog w base spare held 23 v d p) :
    ∃ (k : Int) (A B : ByteArray) (N M : Int), v = .agg #[.int .i64 k, .string A, .string B, .int .i64 N, .int .i64 M] ∧
      d = .agg [.lit (.int .i64 k), .lit (.string A.data.toList), .lit (.string B.data.toList), .lit (.int .i64 N), .lit (.int .i64 M)] ∧ p = [] ∧
      (Lit.int .i64 k).wf = true ∧ (Lit.int .i64 N).wf = true ∧ (Lit.int .i64 M).wf = true ∧ A.size ≤ maxLen ∧ B.size ≤ maxLen := by
  obtain ⟨cs, rfl, hsz⟩ := okWide_struct Try.underlying23 hv
  rw [key_cells] at hsz
  obtain ⟨l⟩ := cs
  match l, hsz with
  | [c0, c1, c2, c3, c4], _ =>
    obtain ⟨fuel, hf⟩ := h
    obtain ⟨xs, n, _, hx, _, hlen, hg⟩ := DataW.trod_struct Try.underlying23 hf
    match xs, hlen with
    | [y0, y1, y2, y3, y4], _ =>
      have h0 := hg 0 _ rfl
      have h1 := hg 1 _ rfl
      have h2 := hg 2 _ rfl
      have h3 := hg 3 _ rfl
      have h4 := hg 4 _ rfl
      simp only [Value.cells, List.getElem?_cons_zero, List.getElem?_cons_succ] at h0 h1 h2 h3 h4
      obtain ⟨k, e0, rfl, w0⟩ := DataW.trod_int Try.underlying3 h0
      obtain ⟨A, e1, rfl, w1⟩ := DataW.trod_string Try.underlying9 h1
      obtain ⟨B, e2, rfl, w2⟩ := DataW.trod_string Try.underlying9 h2
      obtain ⟨N, e3, rfl, w3⟩ := DataW.trod_int Try.underlying3 h3
      obtain ⟨M, e4, rfl, w4⟩ := DataW.trod_int Try.underlying3 h4
      cases e0; cases e1; cases e2; cases e3; cases e4
      simp only [Prod.mk.injEq] at hx
      exact ⟨k, A, B, N, M, rfl, hx.1, hx.2, w0, w3, w4, w1, w2⟩

theorem shut_key {k : Int} {A B : ByteArray} {N M : Int} (w0 : (Lit.int .i64 k).wf = true) (w3 : (Lit.int .i64 N).wf = true) (w4 : (Lit.int .i64 M).wf = true) (w1 : A.size ≤ maxLen) (w2 : B.size ≤ maxLen) :
    DataW.Trod enc Try.prog w base spare held 23 (.agg #[.int .i64 k, .string A, .string B, .int .i64 N, .int .i64 M])
      (.agg [.lit (.int .i64 k), .lit (.string A.data.toList), .lit (.string B.data.toList), .lit (.int .i64 N), .lit (.int .i64 M)]) [] := by
  refine ⟨2, ?_⟩
  have hi := Try.underlying3
  have hs := Try.underlying9
  have hk := Try.underlying23
  simp [DataW.trod, Value.cells, hi, hs, hk, key_cells, int_cells, str_cells, w0, w1, w2, w3, w4]

theorem key_sized {ts : List TypeId} {ds : List (DataW H)} (h : (DataW.weightsEach Try.prog ts ds).all (· ≤ reachBytes) = true) {j : Nat} {k : Int} {A B : List UInt8} {N M : Int} (ht : ts[j]? = some 23)
    (hd : ds[j]? = some (.agg [.lit (.int .i64 k), .lit (.string A), .lit (.string B), .lit (.int .i64 N), .lit (.int .i64 M)])) : A.length ≤ reachBytes ∧ B.length ≤ reachBytes := by
  have hk := Try.underlying23
  have m1 := List.all_eq_true.1 h _ (DataW.weights_mem_each ht hd A.length (by simp [DataW.weights, DataW.weightsEach, hk]))
  have m2 := List.all_eq_true.1 h _ (DataW.weights_mem_each ht hd B.length (by simp [DataW.weights, DataW.weightsEach, hk]))
  exact ⟨of_decide_eq_true m1, of_decide_eq_true m2⟩
end
end Go.Proofs.YtcohfhclcoiigaaX
