/- keys.value: the walk. -/
import Derived.Test.YtcohfhclcoiigaaProg
import Derived.Test.YtcohfhclcoiigaaWMore
import Derived.Test.YtcohfhclcoiigaaWLast
import Derived.WalkKit
import Derived.WalkSpells
import Derived.Outline
import Derived.KernelRfl
import Derived.Lib.Hide
import Derived.Lib.ConvBytes
set_option linter.unusedVariables false
namespace Go.Proofs.YtcohfhclcoiigaaX
open Go.RowKit Go.Proofs.YtcohfhclcoiigaaW.PrintWords Go.Proofs.YtcohfhclcoiigaaW.PrintLast Go.Proofs.YtcohfhclcoiigaaW.PrintMore

/-- The number of some bytes, the highest first, as the loop reckons it. -/
def valB (l : List UInt8) : Int := l.foldl (fun n x => Go.bits .or .i64 (wrap64 (n * 256)) (x.toNat : Int)) 0

theorem valB_snoc (l : List UInt8) (x : UInt8) : valB (l ++ [x]) = Go.bits .or .i64 (wrap64 (valB l * 256)) (x.toNat : Int) := by
  simp [valB]

set_option maxHeartbeats 1000000 in
set_option maxRecDepth 100000 in
theorem value_calls (s : ByteArray) (w : World) (hs : s.size ≤ 1000000) :
    Calls Try.prog 32 #[.string s] w fun e w' => e = .returned (.int .i64 (valB s.data.toList)) ∧ Below w.heap.size w w' := by
  have hcv := fun W => print_bytes (P := Try.prog) 9 45 5 Try.underlying9 Try.underlying45 Try.underlying5 s W
  have hrd := bytes_reads w 5 s (by omega)
  have hbel := bytes_below (Below.refl w.heap.size w) (Nat.le_refl _) 5 s
  go_enter Try.func32, Try.ntmps32
  go_wp2_with fail
  generalize hW : Lib.bytesWorld w 5 s = W at hrd hbel ⊢
  clear hW hcv
  have HR := Lib.hid hrd
  have HBl := Lib.hid hbel
  clear hrd hbel
  go_loop [3, 5, 9] (fun n x i => ∃ k : Nat, k ≤ s.size ∧ i = .int .i64 k ∧ n = .int .i64 (valB (s.data.toList.take k))) (fun _ _ i => s.size - (intOf i).toNat)
  case atStart => exact ⟨0, Nat.zero_le _, rfl, rfl⟩
  case round =>
    obtain ⟨k, hk, rfl, rfl⟩ := hrel
    by_cases hlt : k < s.size
    · obtain ⟨ad, had, hx⟩ := HR.out.at_ k (by omega) (by omega)
      obtain rfl := (Option.some.inj had).symm
      clear had
      have hkl : k < s.data.toList.length := by rw [Array.length_toList]; exact hlt
      have hbt : rd (bytesOf s) (k : Int) = ((s.data.toList[k].toNat : Nat) : Int) := by
        unfold rd bytesOf
        rw [Int.toNat_natCast, List.getD_eq_getElem?_getD, List.getElem?_map, List.getElem?_eq_getElem hkl]
        rfl
      rw [hbt, Int.toNat_natCast, add_plain] at hx
      have hsn := valB_snoc (s.data.toList.take k) (s.data.toList[k])
      rw [← List.take_succ_eq_append_getElem hkl] at hsn
      have HS := Lib.hid hsn
      clear hsn hbt
      have hx1 : s.data.toList[k].toNat < 256 := UInt8.toNat_lt _
      generalize s.data.toList[k].toNat = x at hx HS hx1
      go_wp2
      go_round
      case rel => exact ⟨k + 1, by omega, by go_num, by rw [HS.out]⟩
      case measure => simp [intOf]; omega
    · have hk2 : k = s.size := by omega
      subst hk2
      go_wp2
      go_ret
      have e : s.data.toList.take s.size = s.data.toList := List.take_of_length_le (by rw [Array.length_toList]; exact Nat.le_refl _)
      exact ⟨by rw [e]; rfl, HBl.out⟩
end Go.Proofs.YtcohfhclcoiigaaX
