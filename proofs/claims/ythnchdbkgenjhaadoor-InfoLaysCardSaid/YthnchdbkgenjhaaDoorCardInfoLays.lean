/- InfoLays: the statement of the given program and its tied card: called with any arguments that can be read, the law answers true and leaves its arguments alone. Conditions: none beside the row's own. -/
/- InfoLays: the statement of the given program: called with any arguments that can be read, the law answers true and leaves its arguments alone. Conditions: none beside the row's own. -/
import Derived.Test.YthnchdbkgenjhaaDoorRows
import Derived.Test.YthnchdbkgenjhaaDoorTie
import Derived.Test.YthnchdbkgenjhaaDoorCards
import Derived.LaidMore
import Derived.Lay
import Derived.LaidOnce
import Derived.SevenTiedAt
import Derived.Test.YthnchdbkgenjhaaDoorQInfoLx3
import Derived.Test.YthnchdbkgenjhaaDoorPureInfoLays
import Derived.ChangeArms
import Derived.Test.YthnchdbkgenjhaaDoorInfoRow
import Derived.WalkKit
import Derived.ProofKit
import Derived.OpenShut
import Derived.ShutString
import Derived.ChangeOld
import Derived.Below
import Derived.SizedLaws
import Derived.Carry
namespace Go.Proofs.YthnchdbkgenjhaaDoor.infoLays
open Go.ChangeShapes Go.WideShapes Go.ChangeAt Go.RowKit
open Go.ChangeMaps (open_string shut_string)
set_option linter.unusedVariables false
theorem own : ownKnob Tryd.prog.godebug = none := by kernel_rfl
theorem laidOut : laidOutB Tryd.prog = true := by kernel_rfl
set_option maxRecDepth 100000 in
theorem lifted (os : Os) (started : os.Started) (H : Type) (enc : TypeId × Value → H) :
    ReturnsInHanded {} Tryd.checked os 3 .any (fun w args => (Rows.infoLaysSpec.pre enc Tryd.prog Tryd.f3 [] false w args ∧ laidMetH Tryd.prog Rows.infoLaysRow.laid w) ∧ sizedMet enc Tryd.prog Tryd.f3 (OpenSpec.ofChange Rows.infoLaysSpec) false w args) (Rows.infoLaysSpec.post enc Tryd.prog Tryd.f3 false true false false) := by
  refine returnsInHanded_of_change_and (C := Tryd.checked) (X := fun w _ => laidMetH Tryd.prog Rows.infoLaysRow.laid w) (fun _ _ _ hh h => h.of_heap hh) own started (by kernel_rfl) Tryd.func3
    (ChangeSpec.witness_shaped (enc := enc) (C := Tryd.checked) (os := os) (X := fun w _ => laidMetH Tryd.prog Rows.infoLaysRow.laid w) false (World.laidAll Tryd.prog os Rows.infoLaysRow.laid) #[.string ByteArray.empty, .agg #[.string ByteArray.empty, .int .i64 0, .slice none 0 0]] 8 (World.laidAll_os _ _ _)
      (World.shaped_of_ZipB (by kernel_rfl) (by kernel_rfl)) (by kernel_rfl) (by kernel_rfl) (by kernel_rfl)
      (by rw [MakeChecks.laidMetH_plain _ _ _ (by kernel_rfl)]; exact laidMet_laidAll _ (by kernel_rfl) (by kernel_rfl))) ?_
  intro W base args ds gs before hval0 hW hcnd hsz0 hL _
  have hsz : (DataW.weightsEach Tryd.prog (Tryd.f3.params.toList ++ Rows.infoLaysSpec.plain.varTypes Tryd.prog) (ds ++ gs)).all (· ≤ reachBytes) = true := hsz0
  have hval : ∀ (j : Nat) t v, Tryd.f3.params[j]? = some t → args[j]? = some v → Value.okWide Tryd.prog W .any base t v := hval0
  have hW' := hW
  obtain ⟨p, q, hA0, hV, rfl, hfz, hnd⟩ := hW
  have hA : DataW.TrodAll enc Tryd.prog W 0 (fun _ => true) true Tryd.f3.params.toList args.toList ds p := hA0
  rw [Tryd.params3] at hA hval hsz
  obtain ⟨v0, vs0, d0, ds0, p0, q0, hargs, rfl, rfl, h0, r0⟩ := trodAll_cons hA
  obtain ⟨v1, vs1, d1, ds1, p1, q1, rfl, rfl, rfl, h1, r1⟩ := trodAll_cons r0
  obtain ⟨rfl, rfl, rfl⟩ := trodAll_nil r1
  obtain rfl : args = #[v0, v1] := by cases args; simp_all
  obtain ⟨rfl, rfl⟩ := trodVars_none hV
  obtain ⟨t0, rfl, rfl, rfl, y0⟩ := open_string Tryd.underlying9 (hval 0 9 v0 rfl rfl) h0
  have k1 := h1
  have lt1 : ∀ x ∈ p1, x.block < W.heap.size := by obtain ⟨m, hm⟩ := k1; exact DataW.trod_lt m _ _ _ hm
  have wt1 : (d1.weights Tryd.prog 24).all (· ≤ reachBytes) = true := List.all_eq_true.2 fun n hn => List.all_eq_true.1 hsz n (DataW.weights_mem_each (j := 1) rfl rfl n hn)
  obtain ⟨hs1, n1, A1, l1, c1, rfl, lc1, C1, sh1⟩ := YthnchdbkgenjhaaDoorX.open_info (hval 1 24 v1 rfl rfl) k1 wt1
  have st0 := sized_string hsz (j := 0) (t := 9) rfl rfl
  clear hA0 hval0 hsz0 hsz
  obtain ⟨fuel, hf⟩ : ∃ fuel, PInfoL.chandlerylaw22_InfoLays.f fuel t0 hs1 n1 l1 = some true := (YthnchdbkgenjhaaDoorX.ev_some (YthnchdbkgenjhaaDoorX.lays_ev t0 hs1 n1 l1 (Nat.le_trans st0 (by decide)) (Nat.le_trans sh1 (by decide))))
  refine (PInfoL.chandlerylaw22_InfoLays.calls fuel t0 hs1 n1 _ _ l1 true W C1 lc1 hf).mono fun e W' ⟨he, bel⟩ => ?_
  subst he
  exact ⟨_, rfl, _, _, _, [], _, [], hW', trodAll_mk1 (shut_bool Tryd.underlying4 _), (trodAll_cons_mk (shut_string Tryd.underlying9 y0) (trodAll_cons_mk (Below.trod laidOut (by kernel_rfl) (of_decide_eq_true (by kernel_rfl)) k1 bel lt1) trodAll_mk0)), rfl, bel.frame _, fun h => by cases h⟩
theorem over : Rows.infoLaysRow.holds Tryd.pinned (OpenSpec.ofChange Rows.infoLaysSpec) :=
  OpenClaim.holds_of_wide 3 Tryd.f3 rfl rfl rfl rfl rfl rfl rfl ⟨rfl, rfl, rfl, rfl, rfl⟩ rfl rfl rfl rfl rfl (by kernel_rfl) Tryd.func3 (by kernel_rfl)
    (of_decide_eq_true (by kernel_rfl)) (by unfold Func.isWrapper; first | (rw [if_pos (by decide +kernel)]; kernel_rfl) | (rw [if_neg (by decide +kernel)]; exact ⟨rfl, rfl⟩))
    (fun os started H enc _ => lifted os started H enc)
theorem proved : Rows.InfoLaysSaid := over
end Go.Proofs.YthnchdbkgenjhaaDoor.infoLays
namespace Go.Proofs.YthnchdbkgenjhaaDoor
/-- The row, under a short name, for the claim. -/
theorem infoLays_holds : Rows.InfoLaysSaid := infoLays.proved
#print axioms infoLays_holds
/-- The tied card. -/
theorem infoLays_card : Rows.InfoLaysCardSaid :=
  Claim7.holds_tied_plain_at .later [] [.data, .pinned] true (true, "ae861f59f64a8183b4b5a1915d911a2a260708550cb7858e293fe53cf6908b4a") false
    infoLays_holds (fun _ h => by cases h) (by kernel_rfl) (fun _ h => by cases h) infoLays_row_tie rfl ⟨rfl, rfl⟩ (by kernel_rfl) rfl
    (fun f fn hf hfn => by
      obtain rfl : f = 3 := Option.some.inj ((show Tryd.prog.funcNamed "chandlery/chandlerylaw22.InfoLays" = some 3 by kernel_rfl).symm.trans hf) |>.symm
      obtain rfl : fn = Tryd.f3 := (Option.some.inj (Tryd.func3.symm.trans hfn)).symm
      exact ⟨by kernel_rfl, fun j t ht => by
        rw [Tryd.params3] at ht
        have hm : t ∈ [9, 24] := by simpa using Array.mem_of_getElem? ht
        have hall : ([9, 24].all fun u => !Tryd.prog.wantsStandIn u) = true := by kernel_rfl
        exact (show Tryd.prog.wantsStandIn t = false by simpa using List.all_eq_true.1 hall t hm)⟩)
    (by kernel_rfl)
#print axioms infoLays_card
end Go.Proofs.YthnchdbkgenjhaaDoor
