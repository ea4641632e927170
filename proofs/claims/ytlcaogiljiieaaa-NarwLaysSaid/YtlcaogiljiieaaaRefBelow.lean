/- chandleryref16.below: the walk. -/
import Derived.Test.YtlcaogiljiieaaaTreeCheck
set_option linter.unusedVariables false
set_option linter.unusedSimpArgs false
namespace Go.Proofs.YtlcaogiljiieaaaX
open Go.RowKit Go.Proofs.YtlcaogiljiieaaaW.PrintWords Go.Proofs.YtlcaogiljiieaaaW.PrintLast Go.Proofs.YtlcaogiljiieaaaW.PrintMore
/-- A path's rest behind a directory's, and does it lie below it? -/
def belowB (p d : ByteArray) : ByteArray × Bool :=
  if d.toList = [] then (p, !p.toList.isEmpty) else
  if h : d.size < p.size then (if (p.extract 0 d.size).toList = d.toList ∧ p[d.size] = 47 then (p.extract (d.size + 1) p.size, true) else (⟨#[]⟩, false)) else (⟨#[]⟩, false)
set_option maxHeartbeats 1000000 in
set_option maxRecDepth 100000 in
theorem rbelow_calls (p d : ByteArray) (hp : p.size ≤ 1000000) (hd : d.size ≤ 1000000) (w : World) : Calls Try.prog 42 #[.string p, .string d] w fun e w' => e = .returned (.tuple #[.string (belowB p d).1, .bool (belowB p d).2]) ∧ w' = w := by
  unfold belowB
  by_cases h1 : d.toList = []
  · have hb : (d.toList == []) = true := beq_iff_eq.2 h1
    rw [if_pos h1]
    clear h1
    go_enter Try.func42, Try.ntmps42
    go_wp2
    go_ret2
    exact ⟨rfl, rfl⟩
  · have hb : (d.toList == []) = false := beq_eq_false_iff_ne.2 h1
    rw [if_neg h1]
    clear h1
    by_cases h2 : d.size < p.size
    · rw [dif_pos h2]
      have hz : (d.size : Int) < (p.size : Int) := by omega
      have hz2 : (d.size : Int) ≤ (p.size : Int) := by omega
      have hz3 : (0 : Int) ≤ (d.size : Int) := by omega
      have hw : wrap64 ((d.size : Int) + 1) = ((d.size + 1 : Nat) : Int) := by unfold wrap64; omega
      have hz4 : ((d.size + 1 : Nat) : Int) ≤ (p.size : Int) := by omega
      by_cases h3 : (p.extract 0 d.size).toList = d.toList
      · have hb3 : ((p.extract 0 d.size).toList == d.toList) = true := beq_iff_eq.2 h3
        by_cases h4 : p[d.size] = 47
        · have h4i : ((p[d.size].toNat : Int) == 47) = true := by rw [h4]; rfl
          rw [if_pos ⟨h3, h4⟩]
          clear h3 h4
          go_enter Try.func42, Try.ntmps42
          go_wp2
          go_ret2
          exact ⟨rfl, rfl⟩
        · have h4i : ((p[d.size].toNat : Int) == 47) = false := beq_eq_false_iff_ne.2 (fun e => h4 (UInt8.toNat_inj.1 (by have h9 : ((p[d.size]).toNat : Int) = 47 := e; show (p[d.size]).toNat = 47; omega)))
          rw [if_neg (fun h => h4 h.2)]
          clear h3 h4
          go_enter Try.func42, Try.ntmps42
          go_wp2
          go_ret2
          exact ⟨rfl, rfl⟩
      · have hb3 : ((p.extract 0 d.size).toList == d.toList) = false := beq_eq_false_iff_ne.2 h3
        rw [if_neg (fun h => h3 h.1)]
        clear h3
        go_enter Try.func42, Try.ntmps42
        go_wp2
        go_ret2
        exact ⟨rfl, rfl⟩
    · rw [dif_neg h2]
      have hz : ¬ (d.size : Int) < (p.size : Int) := by omega
      have hz2 : (p.size : Int) ≤ (d.size : Int) := by omega
      have hz5 : decide ((d.size : Int) < (p.size : Int)) = false := decide_eq_false hz
      go_enter Try.func42, Try.ntmps42
      go_wp2
      go_ret2
      exact ⟨rfl, rfl⟩
end Go.Proofs.YtlcaogiljiieaaaX
