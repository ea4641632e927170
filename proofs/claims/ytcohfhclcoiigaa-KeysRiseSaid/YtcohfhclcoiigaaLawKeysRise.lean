/- KeysRise: the statement of the given program: called with any arguments that can be read, the law answers true and leaves its arguments alone. Conditions: none beside the row's own. -/
import Derived.Test.YtcohfhclcoiigaaRows
import Derived.Test.YtcohfhclcoiigaaQKeysx15
import Derived.Test.YtcohfhclcoiigaaPureKeysRise
import Derived.Test.YtcohfhclcoiigaaKeysRow
import Derived.WalkKit
import Derived.ProofKit
import Derived.OpenShut
import Derived.ShutString
import Derived.ChangeOld
import Derived.Below
import Derived.SizedLaws
namespace Go.Proofs.Ytcohfhclcoiigaa.keysRise
open Go.ChangeShapes Go.WideShapes Go.ChangeAt Go.RowKit
open Go.ChangeMaps (open_string shut_string)
set_option linter.unusedVariables false
theorem own : ownKnob Try.prog.godebug = none := by kernel_rfl
set_option maxRecDepth 100000 in
theorem lifted (os : Os) (started : os.Started) (H : Type) (enc : TypeId × Value → H) :
    ReturnsInHanded {} Try.checked os 7 .any (Rows.keysRiseSpec.pre6 enc Try.prog Try.f7 Rows.keysRiseRow.domain false) (Rows.keysRiseSpec.post enc Try.prog Try.f7 false true false false) := by
  refine returnsInHanded_of_change_sized (C := Try.checked) own started (by kernel_rfl) Try.func7
    (ChangeSpec.witness6 (enc := enc) (C := Try.checked) false ⟨#[], #[.agg #[.int .i64 0, .string ByteArray.empty, .string ByteArray.empty, .int .i64 0, .int .i64 0], .int .i64 0, .int .i64 0, .int .i64 0, .int .i64 0], []⟩ 8 (by kernel_rfl) (by kernel_rfl) (by kernel_rfl) (by kernel_rfl)) ?_
  intro W base args ds gs before hval0 hW hcnd hsz0 _
  have hsz : (DataW.weightsEach Try.prog (Try.f7.params.toList ++ Rows.keysRiseSpec.plain.varTypes Try.prog) (ds ++ gs)).all (· ≤ reachBytes) = true := hsz0
  have hval : ∀ (j : Nat) t v, Try.f7.params[j]? = some t → args[j]? = some v → Value.okWide Try.prog W .any base t v := hval0
  have hW' := hW
  obtain ⟨p, q, hA0, hV, rfl, hfz, hnd⟩ := hW
  have hA : DataW.TrodAll enc Try.prog W 0 (fun _ => true) true Try.f7.params.toList args.toList ds p := hA0
  rw [Try.params7] at hA hval hsz
  obtain ⟨v0, vs0, d0, ds0, p0, q0, hargs, rfl, rfl, h0, r0⟩ := trodAll_cons hA
  obtain ⟨v1, vs1, d1, ds1, p1, q1, rfl, rfl, rfl, h1, r1⟩ := trodAll_cons r0
  obtain ⟨v2, vs2, d2, ds2, p2, q2, rfl, rfl, rfl, h2, r2⟩ := trodAll_cons r1
  obtain ⟨v3, vs3, d3, ds3, p3, q3, rfl, rfl, rfl, h3, r3⟩ := trodAll_cons r2
  obtain ⟨v4, vs4, d4, ds4, p4, q4, rfl, rfl, rfl, h4, r4⟩ := trodAll_cons r3
  obtain ⟨rfl, rfl, rfl⟩ := trodAll_nil r4
  obtain rfl : args = #[v0, v1, v2, v3, v4] := by cases args; simp_all
  obtain ⟨rfl, rfl⟩ := trodVars_none hV
  obtain ⟨k0, A0, B0, N0, M0, rfl, rfl, rfl, z0, n0, m0, sa0, sb0⟩ := YtcohfhclcoiigaaX.open_key (hval 0 23 v0 rfl rfl) h0
  obtain ⟨i1, rfl, rfl, rfl, y1⟩ := open_int Try.underlying3 (hval 1 3 v1 rfl rfl) h1
  obtain ⟨i2, rfl, rfl, rfl, y2⟩ := open_int Try.underlying3 (hval 2 3 v2 rfl rfl) h2
  obtain ⟨i3, rfl, rfl, rfl, y3⟩ := open_int Try.underlying3 (hval 3 3 v3 rfl rfl) h3
  obtain ⟨i4, rfl, rfl, rfl, y4⟩ := open_int Try.underlying3 (hval 4 3 v4 rfl rfl) h4
  have s0 := YtcohfhclcoiigaaX.key_sized hsz (j := 0) rfl rfl
  clear hA0 hval0 hsz0 hsz
  obtain ⟨fuel, hf⟩ : ∃ fuel, PKeys.chandlerylaw11_KeysRise.f fuel k0 A0 B0 N0 M0 i1 i2 i3 i4 = some true := Pure.keysRise k0 A0 B0 N0 M0 i1 i2 i3 i4 s0.1 s0.2
  refine (PKeys.chandlerylaw11_KeysRise.calls fuel k0 A0 B0 N0 M0 i1 i2 i3 i4 true W hf).mono fun e W' ⟨he, bel⟩ => ?_
  subst he
  exact ⟨_, rfl, _, _, _, [], _, [], hW', trodAll_mk1 (shut_bool Try.underlying4 _), (trodAll_cons_mk (YtcohfhclcoiigaaX.shut_key z0 n0 m0 sa0 sb0) (trodAll_cons_mk (shut_int Try.underlying3 y1) (trodAll_cons_mk (shut_int Try.underlying3 y2) (trodAll_cons_mk (shut_int Try.underlying3 y3) (trodAll_cons_mk (shut_int Try.underlying3 y4) trodAll_mk0))))), rfl, bel.frame _, fun h => by cases h⟩
theorem over : Rows.keysRiseRow.holds Try.pinned (OpenSpec.ofChange Rows.keysRiseSpec) :=
  OpenClaim.holds_of_wide 7 Try.f7 rfl rfl rfl rfl rfl rfl rfl ⟨rfl, rfl, rfl, rfl, rfl⟩ rfl rfl rfl rfl rfl (by kernel_rfl) Try.func7 (by kernel_rfl)
    (of_decide_eq_true (by kernel_rfl)) (by unfold Func.isWrapper; first | (rw [if_pos (by decide +kernel)]; kernel_rfl) | (rw [if_neg (by decide +kernel)]; exact ⟨rfl, rfl⟩))
    (fun os started H enc _ => lifted os started H enc)
theorem proved : Rows.KeysRiseSaid := over
end Go.Proofs.Ytcohfhclcoiigaa.keysRise
namespace Go.Proofs.Ytcohfhclcoiigaa
/-- The row, under a short name, for the claim. -/
theorem keysRise_holds : Rows.KeysRiseSaid := keysRise.proved
#print axioms keysRise_holds
end Go.Proofs.Ytcohfhclcoiigaa
