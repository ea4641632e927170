/- ScanParts: the statement of the given program: called with any arguments that can be read, the law answers true and leaves its arguments alone. Conditions: none beside the row's own. -/
import Derived.Test.YtkmnjekbacdfoaaRows
import Derived.Test.YtkmnjekbacdfoaaQScanLx2
import Derived.Test.YtkmnjekbacdfoaaPureScanParts
import Derived.Test.YtkmnjekbacdfoaaOpenRow
import Derived.WalkKit
import Derived.ProofKit
import Derived.OpenShut
import Derived.ShutString
import Derived.ChangeOld
import Derived.Below
import Derived.SizedLaws
import Derived.Carry
namespace Go.Proofs.Ytkmnjekbacdfoaa.scanParts
open Go.ChangeShapes Go.WideShapes Go.ChangeAt Go.RowKit
open Go.ChangeMaps (open_string shut_string)
set_option linter.unusedVariables false
theorem own : ownKnob Try.prog.godebug = none := by kernel_rfl
theorem laidOut : laidOutB Try.prog = true := by kernel_rfl
set_option maxRecDepth 100000 in
theorem lifted (os : Os) (started : os.Started) (H : Type) (enc : TypeId × Value → H) :
    ReturnsInHanded {} Try.checked os 4 .any (Rows.scanPartsSpec.pre6 enc Try.prog Try.f4 Rows.scanPartsRow.domain false) (Rows.scanPartsSpec.post enc Try.prog Try.f4 false true false false) := by
  refine returnsInHanded_of_change_sized (C := Try.checked) own started (by kernel_rfl) Try.func4
    (ChangeSpec.witness6 (enc := enc) (C := Try.checked) false ⟨#[], #[.slice none 0 0, .slice none 0 0], []⟩ 8 (by kernel_rfl) (by kernel_rfl) (by kernel_rfl) (by kernel_rfl)) ?_
  intro W base args ds gs before hval0 hW hcnd hsz0 _
  have hsz : (DataW.weightsEach Try.prog (Try.f4.params.toList ++ Rows.scanPartsSpec.plain.varTypes Try.prog) (ds ++ gs)).all (· ≤ reachBytes) = true := hsz0
  have hval : ∀ (j : Nat) t v, Try.f4.params[j]? = some t → args[j]? = some v → Value.okWide Try.prog W .any base t v := hval0
  have hW' := hW
  obtain ⟨p, q, hA0, hV, rfl, hfz, hnd⟩ := hW
  have hA : DataW.TrodAll enc Try.prog W 0 (fun _ => true) true Try.f4.params.toList args.toList ds p := hA0
  rw [Try.params4] at hA hval hsz
  obtain ⟨v0, vs0, d0, ds0, p0, q0, hargs, rfl, rfl, h0, r0⟩ := trodAll_cons hA
  obtain ⟨v1, vs1, d1, ds1, p1, q1, rfl, rfl, rfl, h1, r1⟩ := trodAll_cons r0
  obtain ⟨rfl, rfl, rfl⟩ := trodAll_nil r1
  obtain rfl : args = #[v0, v1] := by cases args; simp_all
  obtain ⟨rfl, rfl⟩ := trodVars_none hV
  obtain ⟨a0, len0, cap0, rfl⟩ := okWide_slice Try.underlying30 (hval 0 30 v0 rfl rfl)
  have k0 := h0
  have lt0 : ∀ x ∈ p0, x.block < W.heap.size := by obtain ⟨m, hm⟩ := k0; exact DataW.trod_lt m _ _ _ hm
  obtain ⟨A0, l0, c0, e0, lc0, C0⟩ : ∃ (A : Option Addr) (l : List (List Int)) (c : Nat), (Value.slice a0 len0 cap0).cells.toList = [Value.slice A l.length c] ∧ l.length ≤ c ∧ YtkmnjekbacdfoaaW.PrintWords.Kd.C (YtkmnjekbacdfoaaW.PrintWords.Kd.slice 5 (YtkmnjekbacdfoaaW.PrintWords.Kd.int .u8)) W A l.length l := by
    obtain ⟨fuel, hf⟩ := h0
    exact YtkmnjekbacdfoaaX.open_rows hf
  simp [Value.cells] at e0
  obtain ⟨rfl, rfl, rfl⟩ := e0
  obtain ⟨a1, len1, cap1, rfl⟩ := okWide_slice Try.underlying23 (hval 1 23 v1 rfl rfl)
  have k1 := h1
  have lt1 : ∀ x ∈ p1, x.block < W.heap.size := by obtain ⟨m, hm⟩ := k1; exact DataW.trod_lt m _ _ _ hm
  obtain ⟨A1, l1, c1, e1, lc1, C1⟩ : ∃ (A : Option Addr) (l : List ByteArray) (c : Nat), (Value.slice a1 len1 cap1).cells.toList = [Value.slice A l.length c] ∧ l.length ≤ c ∧ YtkmnjekbacdfoaaW.PrintWords.Kd.C (YtkmnjekbacdfoaaW.PrintWords.Kd.string) W A l.length l := by
    obtain ⟨fuel, hf⟩ := h1
    exact YtkmnjekbacdfoaaX.open_texts hf
  simp [Value.cells] at e1
  obtain ⟨rfl, rfl, rfl⟩ := e1

  clear hA0 hval0 hsz0 hsz
  refine (YtkmnjekbacdfoaaX.parts_walk _ _ l0 _ _ l1 W C0 lc0 C1 lc1 trivial).mono fun e W' ⟨he, bel⟩ => ?_
  subst he
  exact ⟨_, rfl, _, _, _, [], _, [], hW', trodAll_mk1 (shut_bool Try.underlying4 _), (trodAll_cons_mk (Below.trod laidOut (by kernel_rfl) (of_decide_eq_true (by kernel_rfl)) k0 bel lt0) (trodAll_cons_mk (Below.trod laidOut (by kernel_rfl) (of_decide_eq_true (by kernel_rfl)) k1 bel lt1) trodAll_mk0)), rfl, bel.frame _, fun h => by cases h⟩
theorem over : Rows.scanPartsRow.holds Try.pinned (OpenSpec.ofChange Rows.scanPartsSpec) :=
  OpenClaim.holds_of_wide 4 Try.f4 rfl rfl rfl rfl rfl rfl rfl ⟨rfl, rfl, rfl, rfl, rfl⟩ rfl rfl rfl rfl rfl (by kernel_rfl) Try.func4 (by kernel_rfl)
    (of_decide_eq_true (by kernel_rfl)) (by unfold Func.isWrapper; first | (rw [if_pos (by decide +kernel)]; kernel_rfl) | (rw [if_neg (by decide +kernel)]; exact ⟨rfl, rfl⟩))
    (fun os started H enc _ => lifted os started H enc)
theorem proved : Rows.ScanPartsSaid := over
end Go.Proofs.Ytkmnjekbacdfoaa.scanParts
namespace Go.Proofs.Ytkmnjekbacdfoaa
/-- The row, under a short name, for the claim. -/
theorem scanParts_holds : Rows.ScanPartsSaid := scanParts.proved
#print axioms scanParts_holds
end Go.Proofs.Ytkmnjekbacdfoaa
