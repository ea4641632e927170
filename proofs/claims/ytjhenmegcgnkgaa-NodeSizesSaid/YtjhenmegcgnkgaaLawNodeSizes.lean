/- NodeSizes: the statement of the given program: called with any arguments that can be read, the law answers true and leaves its arguments alone. Conditions: none beside the row's own. -/
import Derived.Test.YtjhenmegcgnkgaaRows
import Derived.Test.YtjhenmegcgnkgaaQNodex11
import Derived.Test.YtjhenmegcgnkgaaPureNodeSizes
import Derived.Test.YtjhenmegcgnkgaaNodeRow
import Derived.WalkKit
import Derived.ProofKit
import Derived.OpenShut
import Derived.ShutString
import Derived.ChangeOld
import Derived.Below
import Derived.SizedLaws
import Derived.Carry
namespace Go.Proofs.Ytjhenmegcgnkgaa.nodeSizes
open Go.ChangeShapes Go.WideShapes Go.ChangeAt Go.RowKit
open Go.ChangeMaps (open_string shut_string)
set_option linter.unusedVariables false
theorem own : ownKnob Try.prog.godebug = none := by kernel_rfl
theorem laidOut : laidOutB Try.prog = true := by kernel_rfl
set_option maxRecDepth 100000 in
theorem lifted (os : Os) (started : os.Started) (H : Type) (enc : TypeId × Value → H) :
    ReturnsInHanded {} Try.checked os 5 .any (Rows.nodeSizesSpec.pre6 enc Try.prog Try.f5 Rows.nodeSizesRow.domain false) (Rows.nodeSizesSpec.post enc Try.prog Try.f5 false true false false) := by
  refine returnsInHanded_of_change_sized (C := Try.checked) own started (by kernel_rfl) Try.func5
    (ChangeSpec.witness6 (enc := enc) (C := Try.checked) false ⟨#[], #[.agg #[.bool false, .slice none 0 0, .slice none 0 0, .slice none 0 0], .string ByteArray.empty, .string ByteArray.empty, .int .i64 0], []⟩ 8 (by kernel_rfl) (by kernel_rfl) (by kernel_rfl) (by kernel_rfl)) ?_
  intro W base args ds gs before hval0 hW hcnd hsz0 _
  have hsz : (DataW.weightsEach Try.prog (Try.f5.params.toList ++ Rows.nodeSizesSpec.plain.varTypes Try.prog) (ds ++ gs)).all (· ≤ reachBytes) = true := hsz0
  have hval : ∀ (j : Nat) t v, Try.f5.params[j]? = some t → args[j]? = some v → Value.okWide Try.prog W .any base t v := hval0
  have hW' := hW
  obtain ⟨p, q, hA0, hV, rfl, hfz, hnd⟩ := hW
  have hA : DataW.TrodAll enc Try.prog W 0 (fun _ => true) true Try.f5.params.toList args.toList ds p := hA0
  rw [Try.params5] at hA hval hsz
  obtain ⟨v0, vs0, d0, ds0, p0, q0, hargs, rfl, rfl, h0, r0⟩ := trodAll_cons hA
  obtain ⟨v1, vs1, d1, ds1, p1, q1, rfl, rfl, rfl, h1, r1⟩ := trodAll_cons r0
  obtain ⟨v2, vs2, d2, ds2, p2, q2, rfl, rfl, rfl, h2, r2⟩ := trodAll_cons r1
  obtain ⟨v3, vs3, d3, ds3, p3, q3, rfl, rfl, rfl, h3, r3⟩ := trodAll_cons r2
  obtain ⟨rfl, rfl, rfl⟩ := trodAll_nil r3
  obtain rfl : args = #[v0, v1, v2, v3] := by cases args; simp_all
  obtain ⟨rfl, rfl⟩ := trodVars_none hV
  have k0 := h0
  have lt0 : ∀ x ∈ p0, x.block < W.heap.size := by obtain ⟨m, hm⟩ := k0; exact DataW.trod_lt m _ _ _ hm
  have wt0 : (d0.weights Try.prog 26).all (· ≤ reachBytes) = true := List.all_eq_true.2 fun n hn => List.all_eq_true.1 hsz n (DataW.weights_mem_each (j := 0) rfl rfl n hn)
  obtain ⟨b0, A0_1, l0_1, c0_1, A0_2, l0_2, c0_2, A0_3, l0_3, c0_3, rfl, lc0_1, C0_1, sp0, lc0_2, C0_2, sk0, lc0_3, C0_3, wn0⟩ := YtjhenmegcgnkgaaX.open_node (hval 0 26 v0 rfl rfl) k0 wt0
  obtain ⟨t1, rfl, rfl, rfl, y1⟩ := open_string Try.underlying9 (hval 1 9 v1 rfl rfl) h1
  obtain ⟨t2, rfl, rfl, rfl, y2⟩ := open_string Try.underlying9 (hval 2 9 v2 rfl rfl) h2
  obtain ⟨i3, rfl, rfl, rfl, y3⟩ := open_int Try.underlying3 (hval 3 3 v3 rfl rfl) h3
  have st1 := sized_string hsz (j := 1) (t := 9) rfl rfl
  have st2 := sized_string hsz (j := 2) (t := 9) rfl rfl
  clear hA0 hval0 hsz0 hsz
  obtain ⟨fuel, hf⟩ : ∃ fuel, PNode.chandlerylaw08_NodeSizes.f fuel b0 l0_1 l0_2 l0_3 t1 t2 i3 = some true := Pure.nodeSizes b0 l0_1 l0_2 l0_3 t1 t2 i3 sp0 st1 st2
  refine (PNode.chandlerylaw08_NodeSizes.calls fuel b0 A0_1 c0_1 l0_1 A0_2 c0_2 l0_2 A0_3 c0_3 l0_3 t1 t2 i3 true W C0_1 lc0_1 C0_2 lc0_2 C0_3 lc0_3 hf).mono fun e W' ⟨he, bel⟩ => ?_
  subst he
  exact ⟨_, rfl, _, _, _, [], _, [], hW', trodAll_mk1 (shut_bool Try.underlying4 _), (trodAll_cons_mk (Below.trod laidOut (by kernel_rfl) (of_decide_eq_true (by kernel_rfl)) k0 bel lt0) (trodAll_cons_mk (shut_string Try.underlying9 y1) (trodAll_cons_mk (shut_string Try.underlying9 y2) (trodAll_cons_mk (shut_int Try.underlying3 y3) trodAll_mk0)))), rfl, bel.frame _, fun h => by cases h⟩
theorem over : Rows.nodeSizesRow.holds Try.pinned (OpenSpec.ofChange Rows.nodeSizesSpec) :=
  OpenClaim.holds_of_wide 5 Try.f5 rfl rfl rfl rfl rfl rfl rfl ⟨rfl, rfl, rfl, rfl, rfl⟩ rfl rfl rfl rfl rfl (by kernel_rfl) Try.func5 (by kernel_rfl)
    (of_decide_eq_true (by kernel_rfl)) (by unfold Func.isWrapper; first | (rw [if_pos (by decide +kernel)]; kernel_rfl) | (rw [if_neg (by decide +kernel)]; exact ⟨rfl, rfl⟩))
    (fun os started H enc _ => lifted os started H enc)
theorem proved : Rows.NodeSizesSaid := over
end Go.Proofs.Ytjhenmegcgnkgaa.nodeSizes
namespace Go.Proofs.Ytjhenmegcgnkgaa
/-- The row, under a short name, for the claim. -/
theorem nodeSizes_holds : Rows.NodeSizesSaid := nodeSizes.proved
#print axioms nodeSizes_holds
end Go.Proofs.Ytjhenmegcgnkgaa
