/- The digits of the base 32, by numbers. No program. -/
import Derived.Test.YtalbbifgkninmaaDoorNum
import Derived.Test.YtalbbifgkninmaaDoorPlain
set_option linter.unusedVariables false
namespace Go.Proofs.YtalbbifgkninmaaDoorX
open Go.RowKit Go.Proofs.YtalbbifgkninmaaDoorW.PrintWords Go.Proofs.YtalbbifgkninmaaDoorW.PrintLast Go.Proofs.YtalbbifgkninmaaDoorW.PrintMore

def digTab : ByteArray := ⟨#[48, 49, 50, 51, 52, 53, 54, 55, 56, 57, 97, 98, 99, 100, 102, 103, 104, 105, 106, 107, 108, 109, 110, 112, 113, 114, 115, 118, 119, 120, 121, 122]⟩
def dgt (n : Nat) : UInt8 := if h : n < 32 then digTab[n]'h else 0
def sz (n : Nat) : Nat := (8 * n + 4) / 5
def nats (l : List Int) : List Nat := l.map Int.toNat
/-- Bytes. -/
def Byt (l : List Int) : Prop := ∀ x ∈ l, 0 ≤ x ∧ x ≤ 255
def encD (l : List Int) : List Nat := dig 32 (sz l.length) (und 256 (nats l))
def encL (l : List Int) : List UInt8 := ((encD l).map dgt).reverse

theorem nats_length (l : List Int) : (nats l).length = l.length := by simp [nats]
theorem nats_lt (l : List Int) (h : Byt l) : ∀ d ∈ nats l, d < 256 := by
  intro d hd
  obtain ⟨x, hx, rfl⟩ := List.mem_map.1 hd
  have := h x hx
  omega
theorem rd_nats (l : List Int) (h : Byt l) (q : Nat) (hq : q < l.length) : rd l q = ((und 256 (nats l) / 256 ^ q % 256 : Nat) : Int) := by
  have hq' : q < (nats l).length := by rw [nats_length]; exact hq
  rw [und_get 256 (by decide) (nats l) (nats_lt l h) q hq']
  unfold rd
  rw [Int.toNat_natCast, List.getD_eq_getElem?_getD, List.getElem?_eq_getElem hq]
  have := h l[q] (List.getElem_mem hq)
  simp only [nats, List.getElem_map, Option.getD_some]
  omega
theorem bt_dig (d : Nat) (hd : d < 32) : bt digTab (d : Int) = ((dgt d).toNat : Int) := by
  have hs : ((d : Int)).toNat < digTab.size := by rw [Int.toNat_natCast]; exact hd
  rw [← bt_at digTab d hs]
  simp only [dgt, dif_pos hd]
  rfl

/-- Five bits out of two bytes. -/
theorem five (W r : Nat) (hr : r < 8) : W / 2 ^ r % 32 = (W % 256 / 2 ^ r + W / 256 % 256 * 2 ^ (8 - r)) % 32 := by
  match r, hr with
  | 0, _ => omega
  | 1, _ => omega
  | 2, _ => omega
  | 3, _ => omega
  | 4, _ => omega
  | 5, _ => omega
  | 6, _ => omega
  | 7, _ => omega

theorem pow32 (i : Nat) : 32 ^ i = 256 ^ (5 * i / 8) * 2 ^ (5 * i % 8) := by
  have e1 : (32 : Nat) = 2 ^ 5 := rfl
  have e2 : (256 : Nat) = 2 ^ 8 := rfl
  rw [e1, e2, ← Nat.pow_mul, ← Nat.pow_mul, ← Nat.pow_add]
  congr 1
  omega

/-- The digit at place i, by the bytes. -/
theorem digit_at (V i : Nat) : V / 32 ^ i % 32 = (V / 256 ^ (5 * i / 8) % 256 / 2 ^ (5 * i % 8) + V / 256 ^ (5 * i / 8 + 1) % 256 * 2 ^ (8 - 5 * i % 8)) % 32 := by
  rw [pow32, ← Nat.div_div_eq_div_mul, five _ _ (Nat.mod_lt _ (by decide)), Nat.pow_succ, Nat.div_div_eq_div_mul]

theorem set_mid (m : Nat) (z x : Int) (t : List Int) : (List.replicate (m + 1) z ++ t).set m x = List.replicate m z ++ x :: t := by
  induction m with
  | zero => rfl
  | succ m ih =>
    rw [List.replicate_succ, List.cons_append, List.set_cons_succ, ih]
    rfl

theorem strOfNums_bytes (l : List UInt8) : strOfNums (l.map fun b => (b.toNat : Int)) = ⟨l.toArray⟩ := by
  unfold strOfNums
  rw [List.map_map]
  congr 2
  conv => rhs; rw [← List.map_id l]
  apply List.map_congr_left
  intro a _
  simp

end Go.Proofs.YtalbbifgkninmaaDoorX
