/- narw's writer: kinds, file, link. -/
import Derived.Test.YtlcaogiljiieaaaNarwPut
set_option linter.unusedVariables false
set_option linter.unusedSimpArgs false
namespace Go.Proofs.YtlcaogiljiieaaaX
open Go.RowKit Go.Maps Go.Proofs.YtlcaogiljiieaaaW.PrintWords Go.Proofs.YtlcaogiljiieaaaW.PrintLast Go.Proofs.YtlcaogiljiieaaaW.PrintMore

/-- What a method's value reads as: the function, the receiver. -/
def meR (v : Value) : Option (DataW Nat × List MemPlace) :=
  match v with
  | .func (.func f) ⟨[.pointer (some ⟨b, 0, none⟩)]⟩ ⟨[]⟩ => some (.agg [.lit (.int .i64 (f : Int)), .lit (.int .i64 (b : Int))], [])
  | .nilFunc => some (.nil, [])
  | _ => none
theorem meR_agg {v : Value} {n m : Int} {ps : List MemPlace} (h : meR v = some (.agg [.lit (.int .i64 n), .lit (.int .i64 m)], ps)) : ∃ f b : Nat, v = .func (.func f) #[.pointer (some ⟨b, 0, none⟩)] #[] ∧ (f : Int) = n ∧ (b : Int) = m := by
  unfold meR at h
  split at h
  · injection h with h
    injection h with h1 h2
    injection h1 with h1
    injection h1 with h3 h4
    injection h3 with h3
    injection h3 with _ h3
    injection h4 with h4
    injection h4 with h4
    injection h4 with _ h4
    exact ⟨_, _, rfl, h3, h4⟩
  · injection h with h
    injection h with h1 h2
    cases h1
  · cases h
theorem law3 : Keyed Try.prog 3 := int_keyed Try.underlying3
def agF (f b : Nat) : DataW Nat := .agg [.lit (.int .i64 (f : Int)), .lit (.int .i64 (b : Int))]
def kindsW (b : Nat) : DataW Nat := (((DataW.map []).put (.int .i64 1) (agF 70 b)).put (.int .i64 2) (agF 71 b)).put (.int .i64 3) (agF 72 b)
def KindsW (w : World) (g b : Nat) : Prop := w.ownsMap Try.prog 3 meR g 3 (kindsW b)
theorem key64 {x : Int} (h : 0 ≤ x ∧ x ≤ 255) : keyOf Try.prog 3 (.int .i64 x) = some (.int .i64 x) := keyOf_int_mk Try.underlying3 (by
  simp [Lit.wf, IntKind.min, IntKind.max, IntKind.signed, IntKind.bits]
  omega)
theorem zeroF (w : World) : (zeroValue 75).run Try.prog w = .ok .nilFunc w := by kernel_rfl
theorem kindsW_look {w : World} {g b : Nat} (h : KindsW w g b) (x : Int) (f : Nat) (hx : (x = 1 ∧ f = 70) ∨ (x = 2 ∧ f = 71) ∨ (x = 3 ∧ f = 72)) :
    (Instr.lookup 76 (.map (some g)) (.int .i64 x) false).run Try.prog w = .ok (.func (.func f) #[.pointer (some ⟨b, 0, none⟩)] #[]) w := by
  obtain ⟨v, ps, hrun, hR⟩ := World.ownsMap.lookup h law3 Try.underlying76 (zeroF w) (zd := .nil) (zp := []) rfl (key64 (x := x) (by omega))
  have e : (kindsW b).atKey (.int .i64 x) (.nil : DataW Nat) = agF f b := by
    rcases hx with ⟨rfl, rfl⟩ | ⟨rfl, rfl⟩ | ⟨rfl, rfl⟩ <;> kernel_rfl
  rw [e] at hR
  obtain ⟨f', b', rfl, hf, hb⟩ := meR_agg hR
  have e1 : f' = f := by omega
  have e2 : b' = b := by omega
  rw [hrun, e1, e2]
set_option maxHeartbeats 2000000 in
set_option maxRecDepth 100000 in
theorem kindsW_calls (b : Nat) (w : World) : Calls Try.prog 59 #[.pointer (some ⟨b, 0, none⟩)] w fun e w' => ∃ g, e = .returned (.map (some g)) ∧ KindsW w' g b ∧ w.heap.size ≤ g ∧ Below w.heap.size w w' := by
  have hmm := @run_makeMap Try.prog
  have hmf : ∀ (fn : Fn) (first cap : Array Value) (w : World), (Instr.makeFunc fn first cap).run Try.prog w = .ok (.func fn first cap) w := fun _ _ _ _ => rfl
  have m0 := World.ownsMap_made w Try.prog 3 meR
  obtain ⟨w1, r1, m1, g1⟩ := World.ownsMap.update m0 law3 Try.underlying76 (by unfold maxLen; omega) (key64 (x := 1) (by decide)) (val := .func (.func 70) #[.pointer (some ⟨b, 0, none⟩)] #[]) (d := agF 70 b) (ps := []) rfl
  obtain ⟨w2, r2, m2, g2⟩ := World.ownsMap.update m1 law3 Try.underlying76 (by unfold maxLen; omega) (key64 (x := 2) (by decide)) (val := .func (.func 71) #[.pointer (some ⟨b, 0, none⟩)] #[]) (d := agF 71 b) (ps := []) rfl
  obtain ⟨w3, r3, m3, g3⟩ := World.ownsMap.update m2 law3 Try.underlying76 (by unfold maxLen; omega) (key64 (x := 3) (by decide)) (val := .func (.func 72) #[.pointer (some ⟨b, 0, none⟩)] #[]) (d := agF 72 b) (ps := []) rfl
  have HM := Aside0.mk m3
  have HB := Aside0.mk (((((Below.refl w.heap.size w).alloc (Nat.le_refl _) (.map #[] 0)).grown g1 (by simp) (fun k hk => by injection hk with hk; omega)).grown g2 (Nat.le_trans (by simp) g1.size) (fun k hk => by injection hk with hk; omega)).grown g3 (Nat.le_trans (Nat.le_trans (by simp) g1.size) g2.size) (fun k hk => by injection hk with hk; omega))
  clear m0 m1 m2 m3 g1 g2 g3
  go_enter Try.func59, Try.ntmps59
  go_wp2
  go_ret
  exact ⟨_, rfl, HM.out, Nat.le_refl _, HB.out⟩
end Go.Proofs.YtlcaogiljiieaaaX
