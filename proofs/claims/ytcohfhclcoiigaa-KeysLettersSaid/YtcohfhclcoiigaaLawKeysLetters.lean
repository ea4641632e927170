/- KeysLetters: the statement of the given program: called with any arguments that can be read, the law answers true and leaves its arguments alone. Conditions: none beside the row's own. -/
import Derived.Test.YtcohfhclcoiigaaRows
import Derived.Test.YtcohfhclcoiigaaQKeysx16
import Derived.Test.YtcohfhclcoiigaaPureKeysLetters
import Derived.Test.YtcohfhclcoiigaaKeysRow
import Derived.WalkKit
import Derived.ProofKit
import Derived.OpenShut
import Derived.ShutString
import Derived.ChangeOld
import Derived.Below
import Derived.SizedLaws
namespace Go.Proofs.Ytcohfhclcoiigaa.keysLetters
open Go.ChangeShapes Go.WideShapes Go.ChangeAt Go.RowKit
open Go.ChangeMaps (open_string shut_string)
set_option linter.unusedVariables false
theorem own : ownKnob Try.prog.godebug = none := by kernel_rfl
set_option maxRecDepth 100000 in
theorem lifted (os : Os) (started : os.Started) (H : Type) (enc : TypeId × Value → H) :
    ReturnsInHanded {} Try.checked os 8 .any (Rows.keysLettersSpec.pre6 enc Try.prog Try.f8 Rows.keysLettersRow.domain false) (Rows.keysLettersSpec.post enc Try.prog Try.f8 false true false false) := by
  refine returnsInHanded_of_change_sized (C := Try.checked) own started (by kernel_rfl) Try.func8
    (ChangeSpec.witness6 (enc := enc) (C := Try.checked) false ⟨#[], #[.agg #[.int .i64 0, .string ByteArray.empty, .string ByteArray.empty, .int .i64 0, .int .i64 0], .agg #[.int .i64 0, .string ByteArray.empty, .string ByteArray.empty, .int .i64 0, .int .i64 0]], []⟩ 8 (by kernel_rfl) (by kernel_rfl) (by kernel_rfl) (by kernel_rfl)) ?_
  intro W base args ds gs before hval0 hW hcnd hsz0 _
  have hsz : (DataW.weightsEach Try.prog (Try.f8.params.toList ++ Rows.keysLettersSpec.plain.varTypes Try.prog) (ds ++ gs)).all (· ≤ reachBytes) = true := hsz0
  have hval : ∀ (j : Nat) t v, Try.f8.params[j]? = some t → args[j]? = some v → Value.okWide Try.prog W .any base t v := hval0
  have hW' := hW
  obtain ⟨p, q, hA0, hV, rfl, hfz, hnd⟩ := hW
  have hA : DataW.TrodAll enc Try.prog W 0 (fun _ => true) true Try.f8.params.toList args.toList ds p := hA0
  rw [Try.params8] at hA hval hsz
  obtain ⟨v0, vs0, d0, ds0, p0, q0, hargs, rfl, rfl, h0, r0⟩ := trodAll_cons hA
  obtain ⟨v1, vs1, d1, ds1, p1, q1, rfl, rfl, rfl, h1, r1⟩ := trodAll_cons r0
  obtain ⟨rfl, rfl, rfl⟩ := trodAll_nil r1
  obtain rfl : args = #[v0, v1] := by cases args; simp_all
  obtain ⟨rfl, rfl⟩ := trodVars_none hV
  obtain ⟨k0, A0, B0, N0, M0, rfl, rfl, rfl, z0, n0, m0, sa0, sb0⟩ := YtcohfhclcoiigaaX.open_key (hval 0 23 v0 rfl rfl) h0
  obtain ⟨k1, A1, B1, N1, M1, rfl, rfl, rfl, z1, n1, m1, sa1, sb1⟩ := YtcohfhclcoiigaaX.open_key (hval 1 23 v1 rfl rfl) h1
  have s0 := YtcohfhclcoiigaaX.key_sized hsz (j := 0) rfl rfl
  have s1 := YtcohfhclcoiigaaX.key_sized hsz (j := 1) rfl rfl
  clear hA0 hval0 hsz0 hsz
  obtain ⟨fuel, hf⟩ : ∃ fuel, PKeys.chandlerylaw11_KeysLetters.f fuel k0 A0 B0 N0 M0 k1 A1 B1 N1 M1 = some true := Pure.keysLetters k0 A0 B0 N0 M0 k1 A1 B1 N1 M1 s0.1 s0.2 s1.1 s1.2
  refine (PKeys.chandlerylaw11_KeysLetters.calls fuel k0 A0 B0 N0 M0 k1 A1 B1 N1 M1 true W hf).mono fun e W' ⟨he, bel⟩ => ?_
  subst he
  exact ⟨_, rfl, _, _, _, [], _, [], hW', trodAll_mk1 (shut_bool Try.underlying4 _), (trodAll_cons_mk (YtcohfhclcoiigaaX.shut_key z0 n0 m0 sa0 sb0) (trodAll_cons_mk (YtcohfhclcoiigaaX.shut_key z1 n1 m1 sa1 sb1) trodAll_mk0)), rfl, bel.frame _, fun h => by cases h⟩
theorem over : Rows.keysLettersRow.holds Try.pinned (OpenSpec.ofChange Rows.keysLettersSpec) :=
  OpenClaim.holds_of_wide 8 Try.f8 rfl rfl rfl rfl rfl rfl rfl ⟨rfl, rfl, rfl, rfl, rfl⟩ rfl rfl rfl rfl rfl (by kernel_rfl) Try.func8 (by kernel_rfl)
    (of_decide_eq_true (by kernel_rfl)) (by unfold Func.isWrapper; first | (rw [if_pos (by decide +kernel)]; kernel_rfl) | (rw [if_neg (by decide +kernel)]; exact ⟨rfl, rfl⟩))
    (fun os started H enc _ => lifted os started H enc)
theorem proved : Rows.KeysLettersSaid := over
end Go.Proofs.Ytcohfhclcoiigaa.keysLetters
namespace Go.Proofs.Ytcohfhclcoiigaa
/-- The row, under a short name, for the claim. -/
theorem keysLetters_holds : Rows.KeysLettersSaid := keysLetters.proved
#print axioms keysLetters_holds
end Go.Proofs.Ytcohfhclcoiigaa
