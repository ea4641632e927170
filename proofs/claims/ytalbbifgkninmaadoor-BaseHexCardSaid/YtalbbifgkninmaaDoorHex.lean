/- base.Hex: the walk. -/
import Derived.Test.YtalbbifgkninmaaDoorBuilder
import Derived.Test.YtalbbifgkninmaaDoorWMore
import Derived.Test.YtalbbifgkninmaaDoorWLast
import Derived.Deep.DeepFit
import Derived.Outline
import Derived.Lib.Hide
set_option linter.unusedVariables false
namespace Go.Proofs.YtalbbifgkninmaaDoorX
open Go.RowKit Go.Proofs.YtalbbifgkninmaaDoorW.PrintWords Go.Proofs.YtalbbifgkninmaaDoorW.PrintLast Go.Proofs.YtalbbifgkninmaaDoorW.PrintMore

/-- One digit of the base 16. -/
def hexD (n : Nat) : UInt8 := if h : n < 16 then (⟨#[48, 49, 50, 51, 52, 53, 54, 55, 56, 57, 97, 98, 99, 100, 101, 102]⟩ : ByteArray)[n]'h else 0
def hexL (l : List Int) : List UInt8 := l.flatMap fun x => [hexD (x / 16).toNat, hexD (x % 16).toNat]

theorem rd_mem (l : List Int) (k : Nat) (h : k < l.length) : rd l k ∈ l := by
  unfold rd
  rw [Int.toNat_natCast, List.getD_eq_getElem?_getD, List.getElem?_eq_getElem h]
  exact List.getElem_mem h

theorem rd_get (l : List Int) (k : Nat) (h : k < l.length) : rd l k = l[k] := by
  unfold rd
  rw [Int.toNat_natCast, List.getD_eq_getElem?_getD, List.getElem?_eq_getElem h]
  rfl

theorem hexL_length (l : List Int) : (hexL l).length = 2 * l.length := by
  unfold hexL
  induction l with
  | nil => rfl
  | cons x l ih => simp only [List.flatMap_cons, List.length_append, List.length_cons, List.length_nil, ih]; omega

theorem hex_step (l : List Int) (k : Nat) (hk : k < l.length) (x : Int) (hx : rd l k = x) (h1 : (x / 16).toNat < 16) (h2 : (x % 16).toNat < 16) :
    Lib.byteCells (hexL (l.take (k + 1))) = Lib.byteCells (hexL (l.take k)) ++ [Value.int .u8 ((⟨#[48, 49, 50, 51, 52, 53, 54, 55, 56, 57, 97, 98, 99, 100, 101, 102]⟩ : ByteArray)[(x / 16).toNat]'h1).toNat] ++ [Value.int .u8 ((⟨#[48, 49, 50, 51, 52, 53, 54, 55, 56, 57, 97, 98, 99, 100, 101, 102]⟩ : ByteArray)[(x % 16).toNat]'h2).toNat] := by
  rw [List.take_succ_eq_append_getElem hk, ← rd_get l k hk, hx]
  unfold hexL
  rw [List.flatMap_append]
  simp only [List.flatMap_cons, List.flatMap_nil, List.append_nil]
  have e1 : hexD (x / 16).toNat = (⟨#[48, 49, 50, 51, 52, 53, 54, 55, 56, 57, 97, 98, 99, 100, 101, 102]⟩ : ByteArray)[(x / 16).toNat]'h1 := by unfold hexD; rw [dif_pos h1]
  have e2 : hexD (x % 16).toNat = (⟨#[48, 49, 50, 51, 52, 53, 54, 55, 56, 57, 97, 98, 99, 100, 101, 102]⟩ : ByteArray)[(x % 16).toNat]'h2 := by unfold hexD; rw [dif_pos h2]
  rw [e1, e2]
  simp [Lib.byteCells]

theorem cells_length (l : List UInt8) : (Lib.byteCells l).length = l.length := by simp [Lib.byteCells]

set_option maxHeartbeats 1000000 in
set_option maxRecDepth 100000 in
theorem Hex_calls (A0 : Option Addr) (c0 : Nat) (l0 : List Int) (w : World) (hr0 : Kd.C (Kd.int .u8) w A0 l0.length l0) (hc0 : l0.length ≤ c0)
    (hb : ∀ x ∈ l0, 0 ≤ x ∧ x ≤ 255) (hlen : l0.length ≤ 70000000000000) :
    Calls Tryd.prog 9 #[.slice A0 l0.length c0] w fun e w' => e = .returned (.string ⟨(hexL l0).toArray⟩) ∧ Below w.heap.size w w' := by
  go_enter Tryd.func9, Tryd.ntmps9
  go_wp2_with fail
  go_loopw [5, 8] (fun x i wr => ∃ k : Nat, k ≤ l0.length ∧ i = .int .i64 k ∧ Lib.IsBuilder 41 5 w.heap.size w.heap.size (Lib.byteCells (hexL (l0.take k))) wr ∧ Below w.heap.size w wr) (fun _ i _ => l0.length - (intOf i).toNat)
  case atStart =>
    refine ⟨0, Nat.zero_le _, rfl, .inl ⟨Nat.le_refl _, .slice none 0 0, ?_, own_nil _ _ _ _, by simp [Value.ownBlock]⟩, (Below.refl _ _).alloc (Nat.le_refl _) _⟩
    exact heap_alloc_new w _
  case round =>
    obtain ⟨k, hk, rfl, hB, hbl⟩ := hrel
    by_cases hlt : k < l0.length
    · obtain ⟨ad, rfl, hx⟩ := Kd.at_int hr0 k (by omega) (by omega)
      replace hx := (hbl.cell (World.block_lt_of_cell? w _ hx)).trans hx
      have hxb := hb (rd l0 k) (rd_mem l0 k hlt)
      rw [Int.toNat_natCast] at hx
      generalize hxd : rd l0 k = x at *
      have hst := hex_step l0 k hlt x hxd (by omega) (by omega)
      have HX := Lib.hid hst
      clear hxd hst
      obtain ⟨hx0, hx1⟩ := hxb
      have hl : (Lib.byteCells (hexL (l0.take k))).length ≤ 2 * k := by rw [cells_length, hexL_length, List.length_take]; omega
      go_wp2_with fail
      refine (WriteByte w.heap.size w.heap.size _ _ _ hB (by omega) hbl.size).mono ?_
      rintro e w1 ⟨rfl, hB1, hb1⟩
      go_wp2_with fail
      refine (WriteByte w.heap.size w.heap.size _ _ _ (.inr hB1) (by rw [List.length_append]; simp only [List.length_singleton]; omega) (Nat.le_trans hbl.size hb1.size)).mono ?_
      rintro e w2 ⟨rfl, hB2, hb2⟩
      go_wp2
      go_roundw
      case rel => exact ⟨k + 1, by omega, by go_num, by rw [HX.out]; exact .inr hB2, (hbl.trans hb1).trans hb2⟩
      case measure => simp [intOf]; omega
    · have hk2 : k = l0.length := by omega
      subst hk2
      rw [List.take_length] at hB
      go_wp2_with fail
      refine (Tryd.Builder_String_any w.heap.size w.heap.size (hexL l0) _ hB hbl.size).mono ?_
      rintro e w1 ⟨rfl, hb1⟩
      go_wp2
      go_ret
      exact ⟨rfl, hbl.trans hb1⟩
end Go.Proofs.YtalbbifgkninmaaDoorX
