/- node.kinds: the map of the two closures. -/
import Derived.Test.YtjhenmegcgnkgaaNodeKinds
import Derived.Maps.Own
import Derived.Maps.Keyed
set_option linter.unusedVariables false
set_option linter.unusedSimpArgs false
namespace Go.Proofs.YtjhenmegcgnkgaaX
open Go.RowKit Go.Maps Go.Proofs.YtjhenmegcgnkgaaW.PrintWords Go.Proofs.YtjhenmegcgnkgaaW.PrintLast Go.Proofs.YtjhenmegcgnkgaaW.PrintMore Go.Proofs.Ytjhenmegcgnkgaa

/-- What a function's value reads as. -/
def fnR (v : Value) : Option (DataW Nat × List MemPlace) :=
  match v with
  | .func (.func f) ⟨[]⟩ ⟨[]⟩ => some (.lit (.int .i64 (f : Int)), [])
  | .nilFunc => some (.nil, [])
  | _ => none
theorem fnR_lit {v : Value} {n : Int} {ps : List MemPlace} (h : fnR v = some (.lit (.int .i64 n), ps)) : ∃ f : Nat, v = .func (.func f) #[] #[] ∧ (f : Int) = n := by
  unfold fnR at h
  split at h
  · injection h with h
    injection h with h1 h2
    injection h1 with h1
    injection h1 with _ h1
    exact ⟨_, rfl, h1⟩
  · injection h with h
    injection h with h1 h2
    cases h1
  · cases h
theorem fnR_nil {v : Value} {ps : List MemPlace} (h : fnR v = some (.nil, ps)) : v = .nilFunc := by
  unfold fnR at h
  split at h
  · injection h with h
    injection h with h1 h2
    cases h1
  · rfl
  · cases h
theorem law8 : Keyed Try.prog 5 := int_keyed Try.underlying5
def kindsD : DataW Nat := ((DataW.map []).put (.int .u8 1) (.lit (.int .i64 46))).put (.int .u8 2) (.lit (.int .i64 48))
def Kinds (w : World) (b : Nat) : Prop := w.ownsMap Try.prog 5 fnR b 2 kindsD
theorem key8 {x : Int} (h : 0 ≤ x ∧ x ≤ 255) : keyOf Try.prog 5 (.int .u8 x) = some (.int .u8 x) := keyOf_int_mk Try.underlying5 (by
  simp [Lit.wf, IntKind.min, IntKind.max, IntKind.signed, IntKind.bits]
  omega)
theorem zero68 (w : World) : (zeroValue 68).run Try.prog w = .ok .nilFunc w := by kernel_rfl
theorem kinds_look {w : World} {b : Nat} (h : Kinds w b) (x : Int) (hx : 0 ≤ x ∧ x ≤ 255) : ∃ v, (Instr.lookup 69 (.map (some b)) (.int .u8 x) false).run Try.prog w = .ok v w ∧ ((x = 1 ∧ v = .func (.func 46) #[] #[]) ∨ (x = 2 ∧ v = .func (.func 48) #[] #[]) ∨ (x ≠ 1 ∧ x ≠ 2 ∧ v = .nilFunc)) := by
  obtain ⟨v, ps, hrun, hR⟩ := World.ownsMap.lookup h law8 Try.underlying69 (zero68 w) (zd := .nil) (zp := []) rfl (key8 hx)
  refine ⟨v, hrun, ?_⟩
  by_cases h1 : x = 1
  · subst h1
    have e : kindsD.atKey (.int .u8 1) (.nil : DataW Nat) = .lit (.int .i64 46) := by kernel_rfl
    rw [e] at hR
    obtain ⟨f, rfl, hf⟩ := fnR_lit hR
    have : f = 46 := by omega
    subst this
    exact .inl ⟨rfl, rfl⟩
  · by_cases h2 : x = 2
    · subst h2
      have e : kindsD.atKey (.int .u8 2) (.nil : DataW Nat) = .lit (.int .i64 48) := by kernel_rfl
      rw [e] at hR
      obtain ⟨f, rfl, hf⟩ := fnR_lit hR
      have : f = 48 := by omega
      subst this
      exact .inr (.inl ⟨rfl, rfl⟩)
    · have hD : kindsD = .map [(.int .u8 1, .lit (.int .i64 46)), (.int .u8 2, .lit (.int .i64 48))] := by kernel_rfl
      have e : kindsD.atKey (.int .u8 x) (.nil : DataW Nat) = .nil := by
        rw [hD]
        have n1 : ¬ (1 : Int) = x := fun h => h1 h.symm
        have n2 : ¬ (2 : Int) = x := fun h => h2 h.symm
        simp [DataW.atKey, List.find?, Lit.sameKey, n1, n2]
      rw [e] at hR
      exact .inr (.inr ⟨h1, h2, fnR_nil hR⟩)

theorem neq_nil0 (w : World) : (binOp .neq 68 .nilFunc .nilFunc).run Try.prog w = .ok (.bool false) w := by kernel_rfl
theorem neq_nil46 (w : World) : (binOp .neq 68 (.func (.func 46) #[] #[]) .nilFunc).run Try.prog w = .ok (.bool true) w := by kernel_rfl
theorem neq_nil48 (w : World) : (binOp .neq 68 (.func (.func 48) #[] #[]) .nilFunc).run Try.prog w = .ok (.bool true) w := by kernel_rfl
theorem kinds_calls (w : World) : Calls Try.prog 35 #[] w fun e w' => ∃ b, e = .returned (.map (some b)) ∧ Kinds w' b ∧ w.heap.size ≤ b ∧ Below w.heap.size w w' := by
  have hmm := @run_makeMap Try.prog
  have m0 := World.ownsMap_made w Try.prog 5 fnR
  obtain ⟨w1, r1, m1, g1⟩ := World.ownsMap.update m0 law8 Try.underlying69 (by unfold maxLen; omega) (key8 (x := 1) (by decide)) (val := .func (.func 46) #[] #[]) (d := .lit (.int .i64 46)) (ps := []) rfl
  obtain ⟨w2, r2, m2, g2⟩ := World.ownsMap.update m1 law8 Try.underlying69 (by unfold maxLen; omega) (key8 (x := 2) (by decide)) (val := .func (.func 48) #[] #[]) (d := .lit (.int .i64 48)) (ps := []) rfl
  have HM := Aside0.mk m2
  have HB := Aside0.mk ((((Below.refl w.heap.size w).alloc (Nat.le_refl _) (.map #[] 0)).grown g1 (by simp) (fun k hk => by injection hk with hk; omega)).grown g2 (Nat.le_trans (by simp) g1.size) (fun k hk => by injection hk with hk; omega))
  clear m0 m1 m2 g1 g2
  go_enter Try.func35, Try.ntmps35
  go_wp2
  go_ret
  exact ⟨_, rfl, HM.out, Nat.le_refl _, HB.out⟩
end Go.Proofs.YtjhenmegcgnkgaaX
