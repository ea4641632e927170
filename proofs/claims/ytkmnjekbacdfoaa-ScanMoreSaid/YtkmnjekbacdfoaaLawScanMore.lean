/- ScanMore: the statement of the given program: called with any arguments that can be read, the law answers true and leaves its arguments alone. Conditions: none beside the row's own. -/
import Derived.Test.YtkmnjekbacdfoaaRows
import Derived.Test.YtkmnjekbacdfoaaQScanLx3
import Derived.Test.YtkmnjekbacdfoaaPureScanMore
import Derived.Test.YtkmnjekbacdfoaaOpenRow
import Derived.WalkKit
import Derived.ProofKit
import Derived.OpenShut
import Derived.ShutString
import Derived.ChangeOld
import Derived.Below
import Derived.SizedLaws
import Derived.Carry
namespace Go.Proofs.Ytkmnjekbacdfoaa.scanMore
open Go.ChangeShapes Go.WideShapes Go.ChangeAt Go.RowKit
open Go.ChangeMaps (open_string shut_string)
set_option linter.unusedVariables false
theorem own : ownKnob Try.prog.godebug = none := by kernel_rfl
theorem laidOut : laidOutB Try.prog = true := by kernel_rfl
set_option maxRecDepth 100000 in
theorem lifted (os : Os) (started : os.Started) (H : Type) (enc : TypeId × Value → H) :
    ReturnsInHanded {} Try.checked os 5 .any (Rows.scanMoreSpec.pre6 enc Try.prog Try.f5 Rows.scanMoreRow.domain false) (Rows.scanMoreSpec.post enc Try.prog Try.f5 false true false false) := by
  refine returnsInHanded_of_change_sized (C := Try.checked) own started (by kernel_rfl) Try.func5
    (ChangeSpec.witness6 (enc := enc) (C := Try.checked) false ⟨#[], #[.slice none 0 0, .slice none 0 0, .slice none 0 0, .slice none 0 0, .slice none 0 0], []⟩ 8 (by kernel_rfl) (by kernel_rfl) (by kernel_rfl) (by kernel_rfl)) ?_
  intro W base args ds gs before hval0 hW hcnd hsz0 _
  have hsz : (DataW.weightsEach Try.prog (Try.f5.params.toList ++ Rows.scanMoreSpec.plain.varTypes Try.prog) (ds ++ gs)).all (· ≤ reachBytes) = true := hsz0
  have hval : ∀ (j : Nat) t v, Try.f5.params[j]? = some t → args[j]? = some v → Value.okWide Try.prog W .any base t v := hval0
  have hW' := hW
  obtain ⟨p, q, hA0, hV, rfl, hfz, hnd⟩ := hW
  have hA : DataW.TrodAll enc Try.prog W 0 (fun _ => true) true Try.f5.params.toList args.toList ds p := hA0
  rw [Try.params5] at hA hval hsz
  obtain ⟨v0, vs0, d0, ds0, p0, q0, hargs, rfl, rfl, h0, r0⟩ := trodAll_cons hA
  obtain ⟨v1, vs1, d1, ds1, p1, q1, rfl, rfl, rfl, h1, r1⟩ := trodAll_cons r0
  obtain ⟨v2, vs2, d2, ds2, p2, q2, rfl, rfl, rfl, h2, r2⟩ := trodAll_cons r1
  obtain ⟨v3, vs3, d3, ds3, p3, q3, rfl, rfl, rfl, h3, r3⟩ := trodAll_cons r2
  obtain ⟨v4, vs4, d4, ds4, p4, q4, rfl, rfl, rfl, h4, r4⟩ := trodAll_cons r3
  obtain ⟨rfl, rfl, rfl⟩ := trodAll_nil r4
  obtain rfl : args = #[v0, v1, v2, v3, v4] := by cases args; simp_all
  obtain ⟨rfl, rfl⟩ := trodVars_none hV
  obtain ⟨a0, len0, cap0, rfl⟩ := okWide_slice Try.underlying22 (hval 0 22 v0 rfl rfl)
  have k0 := h0
  have lt0 : ∀ x ∈ p0, x.block < W.heap.size := by obtain ⟨m, hm⟩ := k0; exact DataW.trod_lt m _ _ _ hm
  obtain ⟨A0, l0, c0, e0, lc0, C0⟩ : ∃ (A : Option Addr) (l : List Int) (c : Nat), (Value.slice a0 len0 cap0).cells.toList = [Value.slice A l.length c] ∧ l.length ≤ c ∧ YtkmnjekbacdfoaaW.PrintWords.Kd.C (YtkmnjekbacdfoaaW.PrintWords.Kd.int .u8) W A l.length l := by
    obtain ⟨fuel, hf⟩ := h0
    exact YtkmnjekbacdfoaaX.open_bytes hf
  simp [Value.cells] at e0
  obtain ⟨rfl, rfl, rfl⟩ := e0
  obtain ⟨a1, len1, cap1, rfl⟩ := okWide_slice Try.underlying22 (hval 1 22 v1 rfl rfl)
  have k1 := h1
  have lt1 : ∀ x ∈ p1, x.block < W.heap.size := by obtain ⟨m, hm⟩ := k1; exact DataW.trod_lt m _ _ _ hm
  obtain ⟨A1, l1, c1, e1, lc1, C1⟩ : ∃ (A : Option Addr) (l : List Int) (c : Nat), (Value.slice a1 len1 cap1).cells.toList = [Value.slice A l.length c] ∧ l.length ≤ c ∧ YtkmnjekbacdfoaaW.PrintWords.Kd.C (YtkmnjekbacdfoaaW.PrintWords.Kd.int .u8) W A l.length l := by
    obtain ⟨fuel, hf⟩ := h1
    exact YtkmnjekbacdfoaaX.open_bytes hf
  simp [Value.cells] at e1
  obtain ⟨rfl, rfl, rfl⟩ := e1
  obtain ⟨a2, len2, cap2, rfl⟩ := okWide_slice Try.underlying22 (hval 2 22 v2 rfl rfl)
  have k2 := h2
  have lt2 : ∀ x ∈ p2, x.block < W.heap.size := by obtain ⟨m, hm⟩ := k2; exact DataW.trod_lt m _ _ _ hm
  obtain ⟨A2, l2, c2, e2, lc2, C2⟩ : ∃ (A : Option Addr) (l : List Int) (c : Nat), (Value.slice a2 len2 cap2).cells.toList = [Value.slice A l.length c] ∧ l.length ≤ c ∧ YtkmnjekbacdfoaaW.PrintWords.Kd.C (YtkmnjekbacdfoaaW.PrintWords.Kd.int .u8) W A l.length l := by
    obtain ⟨fuel, hf⟩ := h2
    exact YtkmnjekbacdfoaaX.open_bytes hf
  simp [Value.cells] at e2
  obtain ⟨rfl, rfl, rfl⟩ := e2
  obtain ⟨a3, len3, cap3, rfl⟩ := okWide_slice Try.underlying23 (hval 3 23 v3 rfl rfl)
  have k3 := h3
  have lt3 : ∀ x ∈ p3, x.block < W.heap.size := by obtain ⟨m, hm⟩ := k3; exact DataW.trod_lt m _ _ _ hm
  obtain ⟨A3, l3, c3, e3, lc3, C3⟩ : ∃ (A : Option Addr) (l : List ByteArray) (c : Nat), (Value.slice a3 len3 cap3).cells.toList = [Value.slice A l.length c] ∧ l.length ≤ c ∧ YtkmnjekbacdfoaaW.PrintWords.Kd.C (YtkmnjekbacdfoaaW.PrintWords.Kd.string) W A l.length l := by
    obtain ⟨fuel, hf⟩ := h3
    exact YtkmnjekbacdfoaaX.open_texts hf
  simp [Value.cells] at e3
  obtain ⟨rfl, rfl, rfl⟩ := e3
  obtain ⟨a4, len4, cap4, rfl⟩ := okWide_slice Try.underlying23 (hval 4 23 v4 rfl rfl)
  have k4 := h4
  have lt4 : ∀ x ∈ p4, x.block < W.heap.size := by obtain ⟨m, hm⟩ := k4; exact DataW.trod_lt m _ _ _ hm
  obtain ⟨A4, l4, c4, e4, lc4, C4⟩ : ∃ (A : Option Addr) (l : List ByteArray) (c : Nat), (Value.slice a4 len4 cap4).cells.toList = [Value.slice A l.length c] ∧ l.length ≤ c ∧ YtkmnjekbacdfoaaW.PrintWords.Kd.C (YtkmnjekbacdfoaaW.PrintWords.Kd.string) W A l.length l := by
    obtain ⟨fuel, hf⟩ := h4
    exact YtkmnjekbacdfoaaX.open_texts hf
  simp [Value.cells] at e4
  obtain ⟨rfl, rfl, rfl⟩ := e4

  clear hA0 hval0 hsz0 hsz
  obtain ⟨fuel, hf⟩ : ∃ fuel, PScanL.chandlerylaw20_ScanMore.f fuel l0 l1 l2 l3 l4 = some true := YtkmnjekbacdfoaaX.scanMore_pure l0 l1 l2 l3 l4
  refine (PScanL.chandlerylaw20_ScanMore.calls fuel _ _ l0 _ _ l1 _ _ l2 _ _ l3 _ _ l4 true W C0 lc0 C1 lc1 C2 lc2 C3 lc3 C4 lc4 hf).mono fun e W' ⟨he, bel⟩ => ?_
  subst he
  exact ⟨_, rfl, _, _, _, [], _, [], hW', trodAll_mk1 (shut_bool Try.underlying4 _), (trodAll_cons_mk (Below.trod laidOut (by kernel_rfl) (of_decide_eq_true (by kernel_rfl)) k0 bel lt0) (trodAll_cons_mk (Below.trod laidOut (by kernel_rfl) (of_decide_eq_true (by kernel_rfl)) k1 bel lt1) (trodAll_cons_mk (Below.trod laidOut (by kernel_rfl) (of_decide_eq_true (by kernel_rfl)) k2 bel lt2) (trodAll_cons_mk (Below.trod laidOut (by kernel_rfl) (of_decide_eq_true (by kernel_rfl)) k3 bel lt3) (trodAll_cons_mk (Below.trod laidOut (by kernel_rfl) (of_decide_eq_true (by kernel_rfl)) k4 bel lt4) trodAll_mk0))))), rfl, bel.frame _, fun h => by cases h⟩
theorem over : Rows.scanMoreRow.holds Try.pinned (OpenSpec.ofChange Rows.scanMoreSpec) :=
  OpenClaim.holds_of_wide 5 Try.f5 rfl rfl rfl rfl rfl rfl rfl ⟨rfl, rfl, rfl, rfl, rfl⟩ rfl rfl rfl rfl rfl (by kernel_rfl) Try.func5 (by kernel_rfl)
    (of_decide_eq_true (by kernel_rfl)) (by unfold Func.isWrapper; first | (rw [if_pos (by decide +kernel)]; kernel_rfl) | (rw [if_neg (by decide +kernel)]; exact ⟨rfl, rfl⟩))
    (fun os started H enc _ => lifted os started H enc)
theorem proved : Rows.ScanMoreSaid := over
end Go.Proofs.Ytkmnjekbacdfoaa.scanMore
namespace Go.Proofs.Ytkmnjekbacdfoaa
/-- The row, under a short name, for the claim. -/
theorem scanMore_holds : Rows.ScanMoreSaid := scanMore.proved
#print axioms scanMore_holds
end Go.Proofs.Ytkmnjekbacdfoaa
