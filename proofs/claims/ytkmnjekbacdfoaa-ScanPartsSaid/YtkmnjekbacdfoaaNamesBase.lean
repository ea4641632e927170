/- names.Base: the walk. -/
import Derived.Test.YtkmnjekbacdfoaaNamesMay
import Derived.Lib.IndexAny
set_option linter.unusedVariables false
namespace Go.Proofs.YtkmnjekbacdfoaaX
open Go.RowKit

def byteOK (b : UInt8) : Bool := decide (b.toNat < 128) && mayI (b.toNat : Int)
/-- Is it a base? -/
def baseB (s : ByteArray) : Bool := decide (1 ≤ s.size) && decide (s.size ≤ 31) && !(s.data.toList.head? == some 46) && s.data.toList.all byteOK
theorem iterPos_of {w : World} {k : Nat} {s : ByteArray} {p : Nat} (h : w.heap[k]? = some (.stringIter s p)) : w.iterPos k = p := by simp [World.iterPos, h]
theorem may_high (c : Int) (h : 128 ≤ c) : mayI c = false := by
  unfold mayI
  rw [decide_eq_false (by omega), decide_eq_false (by omega), decide_eq_false (by omega), decide_eq_false (by omega)]
  rfl
theorem all_take {l : List UInt8} {p : UInt8 → Bool} (h : (l.take l.length).all p = true) : l.all p = true := by rwa [List.take_length] at h
theorem take_next {l : List UInt8} {p : UInt8 → Bool} {i : Nat} {x : UInt8} (h : (l.take i).all p = true) (hx : l[i]? = some x) (hp : p x = true) : (l.take (i + 1)).all p = true := by
  rw [List.take_add_one, hx, List.all_append, h]
  simp [hp]
theorem not_all {l : List UInt8} {p : UInt8 → Bool} {i : Nat} {x : UInt8} (hx : l[i]? = some x) (hp : p x = false) : l.all p = false := by
  rw [List.all_eq_false]
  exact ⟨x, List.mem_of_getElem? hx, by rw [hp]; exact Bool.false_ne_true⟩
set_option maxHeartbeats 4000000 in
set_option maxRecDepth 100000 in
theorem Base_calls (s : ByteArray) (w : World) (hs : s.size ≤ 1000000) :
    Calls Try.prog 26 #[.string s] w fun e w' => e = .returned (.int .i64 (if baseB s = true then 0 else 190)) ∧ Below w.heap.size w w' := by
  unfold baseB
  by_cases a0 : s.size = 0
  · have h0 : s = ByteArray.empty := by
      cases s with
      | mk d => congr 1; exact Array.eq_empty_of_size_eq_zero a0
    subst h0
    go_enter Try.func26, Try.ntmps26
    go_wp2
    go_ret
    exact ⟨rfl, Below.refl _ _⟩
  have hemp : s.toList.isEmpty = false := by
    rw [ByteArray.toList_eq]
    cases hl : s.data.toList with
    | nil =>
      have : s.data.toList.length = 0 := by rw [hl]; rfl
      rw [Array.length_toList] at this
      exact absurd this a0
    | cons a l => rfl
  have a1 : 1 ≤ s.size := by omega
  rw [decide_eq_true a1]
  by_cases a2 : s.size ≤ 31
  case neg =>
    rw [decide_eq_false a2]
    have b1 : (31 : Int) < (s.size : Int) := by omega
    clear a1 a2 a0
    go_enter Try.func26, Try.ntmps26
    go_wp2
    go_ret
    exact ⟨rfl, Below.refl _ _⟩
  rw [decide_eq_true a2]
  have b1 : ¬ (31 : Int) < (s.size : Int) := by omega
  have hsz0 : 0 < s.size := by omega
  obtain ⟨x, hx⟩ : ∃ x : UInt8, s[0]'hsz0 = x := ⟨_, rfl⟩
  have hxl : s.data.toList.head? = some x := by
    rw [List.head?_eq_getElem?, ← hx]
    exact Lib.data_getElem? s 0 hsz0
  rw [hxl]
  by_cases a3 : x = 46
  · subst a3
    have b2 : (((46 : UInt8).toNat : Int) == 46) = true := by decide
    clear a0 a2 hxl
    go_enter Try.func26, Try.ntmps26
    go_wp2
    go_ret
    exact ⟨rfl, Below.refl _ _⟩
  have e3 : ((some x == some (46 : UInt8))) = false := by simpa using a3
  rw [e3]
  have b2 : ((x.toNat : Int) == 46) = false := beq_eq_false_iff_ne.2 fun h => a3 (UInt8.toNat_inj.1 (by show x.toNat = 46; omega))
  show Calls _ _ _ _ fun e w' => e = .returned (.int .i64 (if s.data.toList.all byteOK = true then 0 else 190)) ∧ Below w.heap.size w w'
  clear e3 a3 hxl a0 a2
  have hlen : s.data.toList.length = s.size := Array.length_toList
  obtain ⟨v, hv⟩ : ∃ v, (if s.data.toList.all byteOK = true then (0 : Int) else 190) = v := ⟨_, rfl⟩
  rw [hv]
  have HV : Aside ((if s.data.toList.all byteOK = true then (0 : Int) else 190) = v) := hv
  clear hv
  go_enter Try.func26, Try.ntmps26
  go_wp2
  go_loopw [4] (fun _ wx => ∃ i : Nat, wx.heap[w.heap.size]? = some (.stringIter s i) ∧ Below w.heap.size w wx ∧ i ≤ s.size ∧ Aside ((s.data.toList.take i).all byteOK = true)) (fun _ wx => s.size - wx.iterPos w.heap.size)
  case atStart => exact ⟨0, World.iter_heap w s 0, (Below.refl _ _).alloc (Nat.le_refl _) _, Nat.zero_le _, rfl⟩
  case round =>
    obtain ⟨i, hit, hbw, hle, HN⟩ := hrel
    have hpos0 := iterPos_of hit
    by_cases hp : i < s.size
    · obtain ⟨y, hy⟩ : ∃ y : UInt8, s[i]'hp = y := ⟨_, rfl⟩
      have hyl : s.data.toList[i]? = some y := by rw [← hy]; exact Lib.data_getElem? s i hp
      by_cases hy128 : y.toNat < 128
      · have hnx := fun ty => Lib.run_next_ascii_at (P := Try.prog) wr w.heap.size s i ty hit hp (by rw [hy]; exact hy128)
        rw [hy] at hnx
        have hit2 := Lib.iterAt_heap wr w.heap.size s i (i + 1) hit
        have hbw2 := Lib.below_iterAt hbw (k := w.heap.size) (Nat.le_refl _) s (i + 1)
        generalize wr.iterAt w.heap.size s (i + 1) = W1 at hnx hit2 hbw2
        have hlt1 : w.heap.size < W1.heap.size := (Array.getElem?_eq_some_iff.1 hit2).1
        have Hy : Aside (s.data.toList[i]? = some y) := hyl
        clear hyl hy
        cases hin : mayI (y.toNat : Int)
        · go_wp2_with (go_at_call 33; refine (may_calls _ _ (by omega) (by omega)).mono ?_; rintro e W2 ⟨rfl, hB2⟩; rw [hin]; have hbw3 : Below w.heap.size w W2 := hbw2.trans (hB2.mono (by omega)))
          go_ret
          refine ⟨?_, hbw3⟩
          have HV' : (if s.data.toList.all byteOK = true then (0 : Int) else 190) = v := HV
          have hb : byteOK y = false := by unfold byteOK; rw [hin, Bool.and_false]
          rw [not_all Hy hb, if_neg Bool.false_ne_true] at HV'
          rw [← HV']
          rfl
        · go_wp2_with (go_at_call 33; refine (may_calls _ _ (by omega) (by omega)).mono ?_; rintro e W2 ⟨rfl, hB2⟩; rw [hin]; have hit3 := (hB2.block w.heap.size hlt1).trans hit2; have hbw3 : Below w.heap.size w W2 := hbw2.trans (hB2.mono (by omega)))
          go_roundw
          case rel => exact ⟨i + 1, hit3, hbw3, by omega, take_next HN Hy (by unfold byteOK; rw [hin, Bool.and_true]; exact decide_eq_true hy128)⟩
          case measure => rw [iterPos_of hit3, hpos0]; omega
      · have hnx := fun ty => Lib.run_next_any_at (P := Try.prog) wr w.heap.size s i ty hit hp
        have hge128 : 128 ≤ (s[i]'hp).toNat := by rw [hy]; omega
        obtain ⟨hd1, hd2⟩ := decode_high s i hp hge128
        have hd3 := decode_le s i
        have hit2 := Lib.iterAt_heap wr w.heap.size s i (i + (Utf8.decode s i).2) hit
        have hbw2 := Lib.below_iterAt hbw (k := w.heap.size) (Nat.le_refl _) s (i + (Utf8.decode s i).2)
        generalize wr.iterAt w.heap.size s (i + (Utf8.decode s i).2) = W1 at hnx hit2 hbw2
        have hlt1 : w.heap.size < W1.heap.size := (Array.getElem?_eq_some_iff.1 hit2).1
        generalize (Utf8.decode s i).2 = dn at *
        generalize (Utf8.decode s i).1 = dr at *
        have hin := may_high (dr : Int) (by omega)
        have Hy : Aside (s.data.toList[i]? = some y) := hyl
        have Hb : Aside (byteOK y = false) := by
          show byteOK y = false
          unfold byteOK
          rw [decide_eq_false hy128, Bool.false_and]
        clear hyl hy hge128
        go_wp2_with (go_at_call 33; refine (may_calls _ _ (by omega) (by omega)).mono ?_; rintro e W2 ⟨rfl, hB2⟩; rw [hin]; have hbw3 : Below w.heap.size w W2 := hbw2.trans (hB2.mono (by omega)))
        go_ret
        refine ⟨?_, hbw3⟩
        have HV' : (if s.data.toList.all byteOK = true then (0 : Int) else 190) = v := HV
        rw [not_all Hy Hb, if_neg Bool.false_ne_true] at HV'
        rw [← HV']
        rfl
    · have hnx := fun ty => Lib.run_next_end_at (P := Try.prog) wr w.heap.size s i ty hit hp
      obtain rfl : i = s.size := by omega
      go_wp2
      go_ret
      refine ⟨?_, hbw⟩
      have HV' : (if s.data.toList.all byteOK = true then (0 : Int) else 190) = v := HV
      rw [if_pos (all_take (by rw [hlen]; exact HN))] at HV'
      rw [← HV']
      rfl
end Go.Proofs.YtkmnjekbacdfoaaX
