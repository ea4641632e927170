/- Node: what is laid down is read back as itself. No walk. -/
import Derived.Test.YtjhenmegcgnkgaaNodeSim
import Derived.Test.YtjhenmegcgnkgaaNodeLawsD
set_option linter.unusedVariables false
namespace Go.Proofs.YtjhenmegcgnkgaaX
open Go.RowKit Go.Proofs.Ytjhenmegcgnkgaa.PNode Go.Proofs.YtjhenmegcgnkgaaW.PrintWords Go.Proofs.YtjhenmegcgnkgaaW.PrintLast Go.Proofs.YtjhenmegcgnkgaaW.PrintMore

theorem trip_str (s : ByteArray) : strOfNums (bytesOf s) = s := by
  have h : (strOfNums (bytesOf s)).data.toList = s.data.toList := by
    show ((s.data.toList.map fun b => (b.toNat : Int)).map fun n : Int => UInt8.ofNat n.toNat) = s.data.toList
    rw [List.map_map]
    conv => rhs; rw [← List.map_id s.data.toList]
    refine List.map_congr_left fun x _ => ?_
    show UInt8.ofNat ((x.toNat : Int)).toNat = x
    rw [Int.toNat_natCast]
    exact UInt8.ofNat_toNat
  have h2 : (strOfNums (bytesOf s)).data = s.data := Array.toList_inj.1 h
  cases s
  cases hx : strOfNums (bytesOf _) with
  | mk d =>
    rw [hx] at h2
    cases h2
    rfl
theorem bytes_oct (s : ByteArray) : Oct (bytesOf s) := fun x hx => by
  obtain ⟨b, _, rfl⟩ := List.mem_map.1 hx
  have := b.toNat_lt
  omega
theorem oct_append {a b : List Int} (ha : Oct a) (hb : Oct b) : Oct (a ++ b) := fun x hx => by
  rcases List.mem_append.1 hx with h | h
  · exact ha x h
  · exact hb x h
theorem mod_oct (x : Int) : 0 ≤ x % 256 ∧ x % 256 ≤ 255 := by omega
theorem tx_oct (s : ByteArray) : Oct (tx s) := fun x hx => by
  rcases List.mem_cons.1 hx with rfl | h
  · exact mod_oct _
  · exact bytes_oct s x h
theorem ch_oct (c : Int) : Oct (ch c) := fun x hx => by
  unfold ch at hx
  simp only [List.mem_cons, List.not_mem_nil, or_false] at hx
  rcases hx with rfl | rfl | rfl <;> exact mod_oct _
theorem zero_oct (n : Nat) : Oct (List.replicate n (0 : Int)) := fun x hx => by
  rw [(List.mem_replicate.1 hx).2]
  omega

def flatP : List S42 → List Int
  | [] => []
  | p :: r => tx p.f0 ++ (tx p.f1 ++ flatP r)
def flatK : List ByteArray → List Int
  | [] => []
  | s :: r => tx s ++ flatK r
def flatC : List Int → List Int
  | [] => []
  | c :: r => ch c ++ flatC r
theorem flatP_append : ∀ a b : List S42, flatP (a ++ b) = flatP a ++ flatP b
  | [], b => rfl
  | p :: r, b => by
    show tx p.f0 ++ (tx p.f1 ++ flatP (r ++ b)) = (tx p.f0 ++ (tx p.f1 ++ flatP r)) ++ flatP b
    rw [flatP_append r b, List.append_assoc, List.append_assoc]
theorem flatK_append : ∀ a b : List ByteArray, flatK (a ++ b) = flatK a ++ flatK b
  | [], b => rfl
  | p :: r, b => by
    show tx p ++ flatK (r ++ b) = (tx p ++ flatK r) ++ flatK b
    rw [flatK_append r b, List.append_assoc]
theorem flatC_append : ∀ a b : List Int, flatC (a ++ b) = flatC a ++ flatC b
  | [], b => rfl
  | p :: r, b => by
    show ch p ++ flatC (r ++ b) = (ch p ++ flatC r) ++ flatC b
    rw [flatC_append r b, List.append_assoc]
theorem flatP_oct : ∀ a : List S42, Oct (flatP a)
  | [] => fun x hx => by cases hx
  | p :: r => oct_append (tx_oct _) (oct_append (tx_oct _) (flatP_oct r))
theorem flatK_oct : ∀ a : List ByteArray, Oct (flatK a)
  | [] => fun x hx => by cases hx
  | p :: r => oct_append (tx_oct _) (flatK_oct r)
theorem flatC_oct : ∀ a : List Int, Oct (flatC a)
  | [] => fun x hx => by cases hx
  | p :: r => oct_append (ch_oct _) (flatC_oct r)
theorem take_one {α : Type} (l : List α) (d : α) (j : Nat) (h : j < l.length) : l.take (j + 1) = l.take j ++ [l.getD j d] := by
  rw [List.take_add_one, List.getElem?_eq_getElem h, List.getD_eq_getElem?_getD, List.getElem?_eq_getElem h]
  rfl
theorem oP_flat (l : List S42) (H : List Int) : ∀ j, j ≤ l.length → oP l H j = H ++ flatP (l.take j)
  | 0, _ => by rw [List.take_zero]; exact (List.append_nil H).symm
  | j + 1, h => by
    rw [take_one l z42 j (by omega), flatP_append, ← List.append_assoc, ← oP_flat l H j (by omega)]
    show (oP l H j ++ tx (l.getD ((j : Int)).toNat z42).f0) ++ tx (l.getD ((j : Int)).toNat z42).f1 = oP l H j ++ (tx (l.getD j z42).f0 ++ (tx (l.getD j z42).f1 ++ []))
    rw [Int.toNat_natCast, List.append_nil, List.append_assoc]
theorem oK_flat (l : List ByteArray) (H : List Int) : ∀ j, j ≤ l.length → oK l H j = H ++ flatK (l.take j)
  | 0, _ => by rw [List.take_zero]; exact (List.append_nil H).symm
  | j + 1, h => by
    rw [take_one l ByteArray.empty j (by omega), flatK_append, ← List.append_assoc, ← oK_flat l H j (by omega)]
    show oK l H j ++ tx (l.getD ((j : Int)).toNat ByteArray.empty) = oK l H j ++ (tx (l.getD j ByteArray.empty) ++ [])
    rw [Int.toNat_natCast, List.append_nil]
theorem oC_flat (l : List Int) (H : List Int) : ∀ j, j ≤ l.length → oC l H j = H ++ flatC (l.take j)
  | 0, _ => by rw [List.take_zero]; exact (List.append_nil H).symm
  | j + 1, h => by
    rw [take_one l 0 j (by omega), flatC_append, ← List.append_assoc, ← oC_flat l H j (by omega)]
    show oC l H j ++ ch (l.getD ((j : Int)).toNat 0) = oC l H j ++ (ch (l.getD j 0) ++ [])
    rw [Int.toNat_natCast, List.append_nil]

theorem text_trip (s : ByteArray) (hs : s.size ≤ 255) (r : List Int) : textR (tx s ++ r) false = (s, r, false) := by
  show textR (((s.size : Int) % 256) :: (bytesOf s ++ r)) false = _
  have e : (s.size : Int) % 256 = (s.size : Int) := by omega
  have hl : (bytesOf s).length = s.size := bytesOf_length s
  rw [textR_cons, e, takeR_go (by rw [List.length_append, hl]; omega), Int.toNat_natCast]
  have e1 : (bytesOf s ++ r).take s.size = bytesOf s := by rw [← hl]; exact List.take_left
  have e2 : (bytesOf s ++ r).drop s.size = r := by rw [← hl]; exact List.drop_left
  rw [e1, e2, trip_str]
theorem child_trip (c : Int) (h0 : 0 ≤ c) (h1 : c ≤ 16777215) (r : List Int) : childR (ch c ++ r) false = (c, r, false) := by
  have hl : (ch c).length = 3 := rfl
  unfold childR
  rw [takeR_go (by rw [List.length_append, hl]; omega)]
  have e1 : (ch c ++ r).take (3 : Int).toNat = ch c := rfl
  have e2 : (ch c ++ r).drop (3 : Int).toNat = r := rfl
  rw [e1, e2]
  show ((c / 65536) % 256 * 65536 + (c / 256) % 256 * 256 + c % 256, r, false) = (c, r, false)
  have : (c / 65536) % 256 * 65536 + (c / 256) % 256 * 256 + c % 256 = c := by omega
  rw [this]
theorem leaf_trip : ∀ (l : List S42) (acc : List S42) (r : List Int), (∀ p ∈ l, p.f0.size ≤ 255 ∧ p.f1.size ≤ 255) → leafR l.length (flatP l ++ r) false acc = (acc ++ l, r, false)
  | [], acc, r, _ => by
    show (acc, r, false) = _
    rw [List.append_nil]
  | p :: l, acc, r, h => by
    have hp := h p (List.mem_cons_self ..)
    show leafR (l.length + 1) ((tx p.f0 ++ (tx p.f1 ++ flatP l)) ++ r) false acc = _
    rw [leafR_go, List.append_assoc, List.append_assoc, text_trip _ hp.1, text_trip _ hp.2]
    rw [leaf_trip l _ r (fun q hq => h q (List.mem_cons_of_mem _ hq)), List.append_assoc]
    rfl
theorem keys_trip : ∀ (l : List ByteArray) (acc : List ByteArray) (r : List Int), (∀ p ∈ l, p.size ≤ 255) → keysR l.length (flatK l ++ r) false acc = (acc ++ l, r, false)
  | [], acc, r, _ => by
    show (acc, r, false) = _
    rw [List.append_nil]
  | p :: l, acc, r, h => by
    have hp := h p (List.mem_cons_self ..)
    show keysR (l.length + 1) ((tx p ++ flatK l) ++ r) false acc = _
    rw [keysR_go, List.append_assoc, text_trip _ hp]
    rw [keys_trip l _ r (fun q hq => h q (List.mem_cons_of_mem _ hq)), List.append_assoc]
    rfl
theorem kids_trip : ∀ (l : List Int) (acc : List Int) (r : List Int), (∀ p ∈ l, 0 ≤ p ∧ p ≤ 16777215) → kidsR l.length (flatC l ++ r) false acc = (acc ++ l, r, false)
  | [], acc, r, _ => by
    show (acc, r, false) = _
    rw [List.append_nil]
  | p :: l, acc, r, h => by
    have hp := h p (List.mem_cons_self ..)
    show kidsR (l.length + 1) ((ch p ++ flatC l) ++ r) false acc = _
    rw [kidsR_go, List.append_assoc, child_trip _ hp.1 hp.2]
    rw [kids_trip l _ r (fun q hq => h q (List.mem_cons_of_mem _ hq)), List.append_assoc]
    rfl
end Go.Proofs.YtjhenmegcgnkgaaX
