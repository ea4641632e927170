/- names.Check, names.Refs: the walks. -/
import Derived.Test.YthnchdbkgenjhaaDoorScanParts
import Derived.Test.YthnchdbkgenjhaaDoorSortU
set_option linter.unusedVariables false
set_option linter.unusedSimpArgs false
namespace Go.Proofs.YthnchdbkgenjhaaDoorX
open Go.RowKit Go.Sort Go.Proofs.YthnchdbkgenjhaaDoorW.PrintWords Go.Proofs.YthnchdbkgenjhaaDoorW.PrintLast Go.Proofs.YthnchdbkgenjhaaDoorW.PrintMore
theorem check_name (s : ByteArray) (hs : s.size ≤ 1000000) (w : World) : Calls Tryd.prog 19 #[.string s] w fun e w' => e = .returned (.int .i64 (if nameB s = true then 0 else 190)) ∧ Below w.heap.size w w' := by
  have cP := Parts_calls s hs w
  have e1 : (partsB s).2.2 = if nameB s = true then 0 else 190 := by
    unfold partsB
    split <;> rfl
  rw [e1] at cP
  generalize (partsB s).1 = a at cP
  generalize (partsB s).2.1 = b at cP
  generalize (if nameB s = true then (0 : Int) else 190) = q at cP ⊢
  go_enter Tryd.func19, Tryd.ntmps19
  go_wp2_with (go_at_call 39; refine cP.mono ?_; rintro e W1 ⟨rfl, hb1⟩)
  go_ret
  exact ⟨rfl, hb1⟩
/-- What Refs answers. -/
def refsB (l : List ByteArray) : List ByteArray × Int := if l.all nameB = true then (if (foundB l).length ≤ 32 then (foundB l, 0) else ([], 2)) else ([], 190)
def RefsOK (w : World) (l : List ByteArray) (e : Ending) (w' : World) : Prop := ∃ v, e = .returned (.tuple #[v, .int .i64 (refsB l).2]) ∧ Kd.R Kd.string 9 w' w.heap.size (fun _ => True) v (refsB l).1 ∧ Below w.heap.size w w'
theorem strs_of {w : World} {A : Option Addr} {c : Nat} {l : List ByteArray} (h : Kd.C Kd.string w A l.length l) : Strs w.heap.size w (.slice A l.length c) l := by
  rcases Nat.eq_zero_or_pos l.length with h0 | h0
  · exact .inl ⟨⟨A, c, by rw [h0]⟩, List.eq_nil_of_length_eq_zero h0⟩
  · obtain ⟨_, _, h3⟩ := h
    obtain ⟨ad, rfl, hc⟩ := h3 h0
    have hcell : ∀ j (hj : j < l.length), w.cell? (ad.add j) = some (.string l[j]) := fun j hj => by
      obtain ⟨c', _, hK, hat⟩ := hc j l[j] (List.getElem?_eq_getElem hj)
      have hK2 : c' = [.string l[j]] := hK
      subst hK2
      have := hat 0 _ rfl
      simpa [Kd.string, Kd.scalar] using this
    have h00 := hcell 0 h0
    have hsp : ad.spot = none := by
      have : (ad.add 0) = ad := rfl
      rw [this] at h00
      unfold World.cell? at h00
      cases hs : ad.spot with
      | none => rfl
      | some p =>
        rw [hs] at h00
        cases hb : w.heap[ad.block]? with
        | none => rw [hb] at h00; cases h00
        | some o => rw [hb] at h00; cases o <;> simp at h00
    obtain ⟨b, off, spot⟩ := ad
    simp only at hsp
    subst hsp
    refine .inr ⟨b, off, c, rfl, World.block_lt_of_cell? w _ h00, fun j hj => ?_⟩
    have := hcell j hj
    unfold Addr.add at this
    split at this
    · rename_i hj0
      subst hj0
      simpa using this
    · exact this
theorem all_next {l : List ByteArray} {k : Nat} (hk : k < l.length) (h : ∀ s ∈ l.take k, nameB s = true) (hn : nameB l[k] = true) : ∀ s ∈ l.take (k + 1), nameB s = true := by
  rw [List.take_add_one, List.getElem?_eq_getElem hk]
  intro s hs
  rcases List.mem_append.1 hs with hs | hs
  · exact h s hs
  · simp at hs
    subst hs
    exact hn
theorem refs_step (l : List ByteArray) (w w1 W2 W3 : World) (v2 v3 : Value) {o : Obj} {w0 : World} (h0 : Below w0.heap.size w0 w) (h1 : w1 = w.alloc o) (hb2 : Below w1.heap.size w1 W2) (hv2 : W2.ownsRow w1.heap.size 9 1 v2 l.length ((sortB l).map encStr))
    (hv3 : W3.ownsRow w1.heap.size 9 1 v3 (Lib.compact (sortB l)).length ((Lib.compact (sortB l)).map encStr)) (hg3 : W2.grownBy W3 v2.ownBlock) :
    Below w0.heap.size w0 W3 ∧ Kd.R Kd.string 9 W3 w0.heap.size (fun _ => True) v3 (foundB l) := by
  subst h1
  have h4 : Below w.heap.size w W3 := ((below_alloc (Below.refl _ _) _).trans (hb2.mono (by simp))).grown hg3 (by have := hb2.size; simp at this; omega) (fun k hk => by have := own_base hv2 k hk; simp at this; omega)
  refine ⟨h0.trans (h4.mono h0.size), Kd.R_lower (Kd.R_of_own (enc := Value.string) (base := w.heap.size + 1) ?_ (fun _ _ => trivial)) (by have := h0.size; omega)⟩
  show W3.ownsRow _ _ 1 v3 (foundB l).length ((foundB l).map Value.string)
  rw [foundB_enc, foundB_length]
  simpa using hv3
set_option maxHeartbeats 4000000 in
set_option maxRecDepth 100000 in
theorem refs_calls (A : Option Addr) (c : Nat) (l : List ByteArray) (w : World) (hl : l.length ≤ 1000000) (hs : ∀ s ∈ l, s.size ≤ 1000000) (hC : Kd.C Kd.string w A l.length l) :
    Calls Tryd.prog 20 #[.slice A l.length c] w (RefsOK w l) := by
  have HC := Aside0.mk hC
  have HS := Aside0.mk hs
  have HL := Aside0.mk hl
  clear hC hs
  go_enter Tryd.func20, Tryd.ntmps20
  go_wp2
  go_loopw [10] (fun i wr => ∃ k : Nat, i = .int .i64 k ∧ k ≤ l.length ∧ Below w.heap.size w wr ∧ (∀ s ∈ l.take k, nameB s = true)) (fun i _ => l.length - (intOf i).toNat)
  case atStart => exact ⟨0, rfl, Nat.zero_le _, Below.refl _ _, fun s h => by simp at h⟩
  case round =>
    obtain ⟨k, rfl, hk, hB, hnm⟩ := hrel
    have HB := Aside0.mk hB
    have HN := Aside0.mk hnm
    clear hB hnm
    by_cases hlt : k < l.length
    · have hd : decide ((k : Int) < (l.length : Int)) = true := decide_eq_true (by omega)
      have p0 : 0 ≤ (k : Int) := by omega
      have q0 : (k : Int) < (l.length : Int) := by omega
      obtain ⟨ad, eA, hx⟩ := Kd.at_string HC.out (k : Int) p0 q0
      cases eA
      have hrd : rdOf ByteArray.empty l (k : Int) = l[k] := by
        unfold rdOf
        rw [Int.toNat_natCast, List.getD_eq_getElem?_getD, List.getElem?_eq_getElem hlt]
        rfl
      have HNX := Aside0.mk (all_next hlt HN.out)
      have HNO := Aside0.mk (fun h : nameB l[k] = false => (show l.all nameB = false from List.all_eq_false.2 ⟨_, List.getElem_mem hlt, by rw [h]; exact Bool.false_ne_true⟩))
      have hss : l[k].size ≤ 1000000 := HS.out _ (List.getElem_mem hlt)
      obtain ⟨s, hsk⟩ : ∃ s, l[k] = s := ⟨_, rfl⟩
      rw [hrd, Int.toNat_natCast, hsk] at hx
      rw [hsk] at HNX HNO hss
      replace hx := (HB.out.cell (World.block_lt_of_cell? w _ hx)).trans hx
      clear hrd hsk
      have cP := fun W => check_name s hss W
      cases hname : nameB s
      · rw [hname, if_neg Bool.false_ne_true] at cP
        go_wp2_with (go_at_call 19; refine (cP _).mono ?_; rintro e W1 ⟨rfl, hb1⟩)
        go_ret2
        have hall := HNO.out hname
        have e1 : refsB l = ([], 190) := by
          unfold refsB
          rw [hall, if_neg Bool.false_ne_true]
        unfold RefsOK
        rw [e1]
        exact ⟨_, rfl, Kd.R_nil _ _ _ _ _, HB.out.trans (hb1.mono HB.out.size)⟩
      · rw [hname, if_pos rfl] at cP
        have HNY := Aside0.mk (HNX.out hname)
        go_wp2_with (go_at_call 19; refine (cP _).mono ?_; rintro e W1 ⟨rfl, hb1⟩; have HB1 := Aside0.mk (show Below w.heap.size w W1 from HB.out.trans (hb1.mono HB.out.size)); clear hb1)
        go_roundw
        case rel => exact ⟨k + 1, by first | go_num | simp, by omega, HB1.out, HNY.out⟩
        case measure => simp [intOf]; omega
    · obtain rfl : k = l.length := by omega
      have hd : decide ((l.length : Int) < (l.length : Int)) = false := decide_eq_false (by omega)
      have hall : l.all nameB = true := by
        have := HN.out
        rw [List.take_length] at this
        exact List.all_eq_true.2 this
      have HALL := Aside0.mk hall
      have hst := (strs_of (Kd.C_below HC.out HB.out) : Strs wr.heap.size wr (.slice A l.length c) l)
      have hst2 : Strs (wr.alloc (.cells #[.slice A l.length c] 22)).heap.size (wr.alloc (.cells #[.slice A l.length c] 22)) (.slice A l.length c) l := by
        have h1 := hst.below (below_alloc (Below.refl _ _) (.cells #[.slice A l.length c] 22))
        rcases h1 with h1 | ⟨b, off, cap, e1, h2, h3⟩
        · exact .inl h1
        · exact .inr ⟨b, off, cap, e1, by simp; omega, h3⟩
      have cV := (callsIn_wide (n := 1)).1 (values_in 1 A l.length c wr)
      have cS := sorted_calls wr.heap.size (.slice A l.length c) l HL.out (wr.alloc (.cells #[.slice A l.length c] 22)) (by simp) ((blk_cell (blk_new wr (.cells #[.slice A l.length c] 22 (0, 0))) 0).trans rfl) hst2
      clear hst hst2 hall
      by_cases h32 : (foundB l).length ≤ 32
      · have d32 : ¬ (32 : Int) < ((foundB l).length : Int) := by omega
        have HE := Aside0.mk (show refsB l = (foundB l, 0) by unfold refsB; rw [HALL.out, if_pos rfl, if_pos h32])
        clear h32
        go_wp2_with (first
          | (go_at_call 42; refine cV.mono ?_; rintro e W1 ⟨rfl, rfl⟩; clear cV)
          | (go_at_call 41; refine cS.mono ?_; rintro e W2 ⟨v2, rfl, hv2, hb2⟩; clear cS)
          | (go_at_call 40; refine (compact_own _ _ v2 (sortB l) (by rw [sortB_length]; exact hv2) (by rw [sortB_length]; exact HL.out)).mono ?_; rintro e W3 ⟨v3, rfl, hv3, hg3⟩; have HF := Aside0.mk (refs_step l wr _ W2 W3 v2 v3 HB.out rfl hb2 hv2 hv3 hg3); clear hv2 hb2 hv3 hg3; obtain ⟨A3, c3, e3⟩ := Kd.R_slice HF.out.2; subst e3))
        go_ret2
        unfold RefsOK
        rw [HE.out]
        exact ⟨_, rfl, HF.out.2, HF.out.1⟩
      · have d32 : (32 : Int) < ((foundB l).length : Int) := by omega
        have HE := Aside0.mk (show refsB l = ([], 2) by unfold refsB; rw [HALL.out, if_pos rfl, if_neg h32])
        clear h32
        go_wp2_with (first
          | (go_at_call 42; refine cV.mono ?_; rintro e W1 ⟨rfl, rfl⟩; clear cV)
          | (go_at_call 41; refine cS.mono ?_; rintro e W2 ⟨v2, rfl, hv2, hb2⟩; clear cS)
          | (go_at_call 40; refine (compact_own _ _ v2 (sortB l) (by rw [sortB_length]; exact hv2) (by rw [sortB_length]; exact HL.out)).mono ?_; rintro e W3 ⟨v3, rfl, hv3, hg3⟩; have HF := Aside0.mk (refs_step l wr _ W2 W3 v2 v3 HB.out rfl hb2 hv2 hv3 hg3); clear hv2 hb2 hv3 hg3; obtain ⟨A3, c3, e3⟩ := Kd.R_slice HF.out.2; subst e3))
        go_ret2
        unfold RefsOK
        rw [HE.out]
        exact ⟨_, rfl, Kd.R_nil _ _ _ _ _, HF.out.1⟩
end Go.Proofs.YthnchdbkgenjhaaDoorX
