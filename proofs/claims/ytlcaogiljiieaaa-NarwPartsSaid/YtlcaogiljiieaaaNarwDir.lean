/- narw's writer: dir, over what node adds. -/
import Derived.Test.YtlcaogiljiieaaaNarwNode
import Derived.Test.YtlcaogiljiieaaaNarwPlain
import Derived.Deep.QuietTactic
import Derived.BigQuiet
set_option linter.unusedVariables false
set_option linter.unusedSimpArgs false
namespace Go.Proofs.YtlcaogiljiieaaaX
open Go.RowKit Go.Maps Go.Proofs.YtlcaogiljiieaaaW.PrintWords Go.Proofs.YtlcaogiljiieaaaW.PrintLast Go.Proofs.YtlcaogiljiieaaaW.PrintMore
def tDirectory : ByteArray := ⟨#[100, 105, 114, 101, 99, 116, 111, 114, 121]⟩
def tEntry : ByteArray := ⟨#[101, 110, 116, 114, 121]⟩
def tName : ByteArray := ⟨#[110, 97, 109, 101]⟩
def tNodeT : ByteArray := ⟨#[110, 111, 100, 101]⟩
def entOf (e : EntB) : Ent := ⟨e.path.data.toList, e.kind, e.exec, e.data.data.toList⟩
def fileL (e : Ent) : List Tx := (tRegular.data.toList :: (if e.exec = true then [tExecutable.data.toList, []] else [])) ++ [tContents.data.toList, e.data]
def linkL (e : Ent) : List Tx := [tSymlink.data.toList, tTarget.data.toList, e.data]
abbrev nodeL := nodeW tOpen.data.toList tType.data.toList tShut.data.toList tDirectory.data.toList tEntry.data.toList tName.data.toList tNodeT.data.toList fileL linkL
abbrev dirL := dirW tOpen.data.toList tType.data.toList tShut.data.toList tDirectory.data.toList tEntry.data.toList tName.data.toList tNodeT.data.toList fileL linkL
theorem Wr.at0 {W : World} {b : Nat} {A : Option Addr} {n c : Nat} {i : Int} {xs : List ByteArray} (h : Wr W b A n c i xs) : W.cell? ⟨b, 0, none⟩ = some (.slice A n c) := by
  obtain ⟨v, h1, _⟩ := h.blk
  exact (blk_cell h1 0).trans rfl
def placeOf (W : World) (b : Nat) : Nat := match W.cell? ⟨b, 1, none⟩ with
  | some (.int _ i) => i.toNat
  | _ => 0
theorem place_of {W : World} {b k : Nat} (h : W.cell? ⟨b, 1, none⟩ = some (.int .i64 (k : Int))) : placeOf W b = k := by
  unfold placeOf
  rw [h]
  simp
theorem dir_fuel {F : Nat} {p : List UInt8} {s : List Ent} {z} (h : dirL F p s = some z) : ∃ F3, F = F3 + 1 := by
  cases F with
  | zero => unfold dirL at h; rw [dirW] at h; cases h
  | succ F => exact ⟨F, rfl⟩
theorem drop_at {l : List EntB} {k : Nat} {e : EntB} (hlt : k < l.length) (he : l[k] = e) : (l.drop k).map entOf = entOf e :: (l.drop (k + 1)).map entOf := by
  rw [List.drop_eq_getElem_cons hlt, he]
  rfl
theorem dir_end {l : List EntB} {F k : Nat} {p : List UInt8} {U : List Tx} {r : List Ent} (hk : k = l.length) (h : dirL F p ((l.drop k).map entOf) = some (U, r)) : U = [] ∧ r = [] := by
  obtain ⟨F, rfl⟩ := dir_fuel h
  unfold dirL at h
  rw [hk, List.drop_length, List.map_nil, dirW] at h
  injection h with h
  injection h with h1 h2
  exact ⟨h1.symm, h2.symm⟩
theorem dir_no {l : List EntB} {F k : Nat} {p : List UInt8} {U : List Tx} {r : List Ent} {e : EntB} (hlt : k < l.length) (he : l[k] = e) (hp : Lib.hasPrefix e.path.data.toList p = false) (h : dirL (F + 1) p ((l.drop k).map entOf) = some (U, r)) : U = [] ∧ r = (l.drop k).map entOf := by
  unfold dirL at h
  rw [drop_at hlt he, dirW, if_neg (by rw [show p.isPrefixOf (entOf e).path = false from hp]; decide)] at h
  injection h with h
  injection h with h1 h2
  exact ⟨h1.symm, by rw [drop_at hlt he]; exact h2.symm⟩
theorem dir_yes {l : List EntB} {F k : Nat} {p : List UInt8} {U : List Tx} {r : List Ent} {e : EntB} (hlt : k < l.length) (he : l[k] = e) (hp : Lib.hasPrefix e.path.data.toList p = true) (h : dirL (F + 1) p ((l.drop k).map entOf) = some (U, r)) :
    ∃ t r1 u, nodeL F ((l.drop k).map entOf) = some (t, r1) ∧ dirL F p r1 = some (u, r) ∧ U = [tEntry.data.toList, tOpen.data.toList, tName.data.toList, e.path.data.toList.drop p.length, tNodeT.data.toList] ++ t ++ [tShut.data.toList] ++ u := by
  unfold dirL at h
  rw [drop_at hlt he, dirW, if_pos (show p.isPrefixOf (entOf e).path = true from hp)] at h
  obtain ⟨⟨t, r1⟩, ht, h⟩ := Option.bind_eq_some_iff.mp h
  obtain ⟨⟨u, r2⟩, hu, h⟩ := Option.map_eq_some_iff.mp h
  injection h with h1 h2
  dsimp only at h1 h2
  subst h2
  exact ⟨t, r1, u, by rw [drop_at hlt he]; exact ht, hu, h1.symm⟩
theorem cut_no {s p : List UInt8} (h : Lib.hasPrefix s p = false) : Lib.trimPrefix s p = s := by unfold Lib.trimPrefix; rw [h]; rfl
theorem cut_yes {s p : List UInt8} (h : Lib.hasPrefix s p = true) : Lib.trimPrefix s p = s.drop p.length := by unfold Lib.trimPrefix; rw [h]; rfl
theorem cutp_no {s p : ByteArray} (h : Lib.hasPrefix s.data.toList p.data.toList = false) (w : World) : Calls Try.prog 56 #[.string s, .string p] w fun e w' => e = .returned (.tuple #[.string s, .bool false]) ∧ w' = w := by
  have hx := Try.strings_CutPrefix s p w
  rw [h, cut_no h] at hx
  exact hx
theorem cutp_yes {s p : ByteArray} (h : Lib.hasPrefix s.data.toList p.data.toList = true) (R : ByteArray) (hR : ba (s.data.toList.drop p.data.toList.length) = R) (w : World) : Calls Try.prog 56 #[.string s, .string p] w fun e w' => e = .returned (.tuple #[.string R, .bool true]) ∧ w' = w := by
  have hx := Try.strings_CutPrefix s p w
  rw [h, cut_yes h] at hx
  subst hR
  exact hx
theorem ents_stay {W W' : World} {l : List EntB} {ad : Addr} {b : Nat} (h : EntsAt W (some ad) l) (had : ad.block < b) (hB : Below b W W') : EntsAt W' (some ad) l := by
  intro i hi
  obtain ⟨ad', e, q0, q1, q2, q3⟩ := h i hi
  injection e with e
  subst e
  have hb : ∀ j, (ad.add j).block < b := fun j => by unfold Addr.add; split <;> exact had
  exact ⟨ad, rfl, (hB.cell (hb _)).trans q0, (hB.cell (hb _)).trans q1, (hB.cell (hb _)).trans q2, (hB.cell (hb _)).trans q3⟩
/-- What node adds with so much fuel. -/
def NodeAt (l : List EntB) (ad : Addr) (c F : Nat) : Prop := ∀ (W : World) (b k : Nat) (xs : List ByteArray) (T : List Tx) (r2 : List Ent), Wr W b (some ad) l.length c (k : Int) xs → k < l.length → EntsAt W (some ad) l → ad.block < b → nodeL F ((l.drop k).map entOf) = some (T, r2) → xs.length + T.length ≤ 800000 →
  Calls Try.prog 41 #[.pointer (some ⟨b, 0, none⟩)] W fun x W' => x = .returned (.tuple #[]) ∧ ∃ k3, k3 ≤ l.length ∧ k < k3 ∧ r2 = (l.drop k3).map entOf ∧ Wr W' b (some ad) l.length c (k3 : Int) (xs ++ T.map ba) ∧ Stays b W W'
set_option maxHeartbeats 4000000 in
set_option maxRecDepth 100000 in
theorem dir_calls (l : List EntB) (ad : Addr) (c F : Nat) (hN : ∀ F2, F2 < F → NodeAt l ad c F2) (W : World) (b k : Nat) (xs : List ByteArray) (hW : Wr W b (some ad) l.length c (k : Int) xs) (hk : k ≤ l.length) (hn : l.length ≤ 100000) (hE : EntsAt W (some ad) l) (had : ad.block < b) (e : EntB) (hep : e.path.size ≤ 1000000)
    (U : List Tx) (r2 : List Ent) (hU : dirL F (ahead e.path.data.toList) ((l.drop k).map entOf) = some (U, r2)) (hl : xs.length + U.length ≤ 800000) :
    Calls Try.prog 71 #[.pointer (some ⟨b, 0, none⟩), entV e] W fun x W' => x = .returned (.tuple #[]) ∧ ∃ k3, k3 ≤ l.length ∧ k ≤ k3 ∧ r2 = (l.drop k3).map entOf ∧ Wr W' b (some ad) l.length c (k3 : Int) (xs ++ [tDirectory] ++ U.map ba) ∧ Stays b W W' := by
  obtain ⟨ep, ek, ex, ed⟩ := e
  have HW := Aside0.mk hW
  have hlt0 := Aside0.mk (Nat.le_of_lt hW.lt)
  have hbk := Aside0.mk hW.lt
  have HE := Aside0.mk hE
  have HN := Aside0.mk hN
  have HAD : Aside0 (∀ {j : Nat} {v : Value}, W.cell? (ad.add j) = some v → (ad.add j).block < b) := Aside0.mk (fun {j v} _ => by unfold Addr.add; split <;> exact had)
  dsimp only at hU hep
  clear hW hE hN
  by_cases he : ep.data.toList = []
  · have hemp : ep.toList.isEmpty = true := by rw [ByteArray.toList_eq, he]; rfl
    have hU' : dirL F ep.data.toList ((l.drop k).map entOf) = some (U, r2) := by rw [he]; rw [ahead, if_pos he] at hU; exact hU
    have HU := Aside0.mk hU'
    clear hU hU' he
    go_enter Try.func71, Try.ntmps71
    go_wp2_with (go_at_call 40; refine (put_calls _ b (some ad) l.length c (k : Int) xs [tDirectory] (wr_alloc (wr_alloc HW.out _) _) (W.heap.size + 1) 1 1 rfl ?hc ?hl).mono ?_; (case hc => exact lit_cells _ [tDirectory] _ (by simp)); (case hl => simp; omega); rintro x W1 ⟨rfl, h9, s9⟩; have H1 := Aside0.mk h9; have S1 := Aside0.mk ((stays_alloc (stays_alloc (Stays.refl b W) hlt0.out _) (by simp; have := hlt0.out; omega) _).trans s9); have B1 := s9.same W.heap.size (.cells #[.string ep, .int .i64 ek, .bool ex, .string ed] 27) ((Below.heap_alloc _ _ _ (by simp)).trans (World.alloc_heap_new W _)) (by have := hbk.out; omega) (by intro cs h; cases h); have x0 : W1.cell? ⟨W.heap.size, 0, none⟩ = some (.string ep) := (blk_cell B1 0).trans rfl; clear h9 s9 B1)
    go_loopw [16] (fun _ wx => ∃ (k2 F2 : Nat) (xs2 : List ByteArray) (U2 : List Tx), k2 ≤ l.length ∧ k ≤ k2 ∧ Wr wx b (some ad) l.length c (k2 : Int) xs2 ∧ Stays b W wx ∧ F2 ≤ F ∧ dirL F2 ep.data.toList ((l.drop k2).map entOf) = some (U2, r2) ∧ xs2 ++ U2.map ba = xs ++ [tDirectory] ++ U.map ba) (fun _ wx => l.length - placeOf wx b)
    case atStart => exact ⟨k, F, xs ++ [tDirectory], U, hk, Nat.le_refl _, H1.out, S1.out, Nat.le_refl _, HU.out, rfl⟩
    case round =>
      obtain ⟨k2, F2, xs2, U2, hk2, hkk, hw2, hs2, hF2, hd2, hx2⟩ := hrel
      have H2 := Aside0.mk hw2
      have S2 := Aside0.mk hs2
      have D2 := Aside0.mk hd2
      have X2 := Aside0.mk hx2
      have P2 := Aside0.mk (place_of hw2.at_)
      have y1 := hw2.at_
      have y0 := hw2.at0
      clear hw2 hs2 hd2 hx2
      by_cases hlt : k2 < l.length
      · have hd : decide ((k2 : Int) < (l.length : Int)) = true := decide_eq_true (by omega)
        have hlti : (k2 : Int) < (l.length : Int) := by omega
        have hk0 : (0 : Int) ≤ (k2 : Int) := by omega
        have hk0n : 0 ≤ k2 := by omega
        obtain ⟨ad', hA, q0, -⟩ := HE.out k2 hlt
        injection hA with hA
        subst hA
        have r0 := (S2.out.below.cell (HAD.out q0)).trans q0
        obtain ⟨e2, he2⟩ : ∃ e2, l[k2] = e2 := ⟨_, rfl⟩
        rw [he2] at r0
        have HE2 := Aside0.mk he2
        clear q0 he2
        obtain ⟨ep2, ek2, ex2, ed2⟩ := e2
        dsimp only at r0
        obtain ⟨F3, rfl⟩ := dir_fuel D2.out
        cases hpre : Lib.hasPrefix ep2.data.toList ep.data.toList
        · obtain ⟨hU2, hr2⟩ := dir_no (e := ⟨ep2, ek2, ex2, ed2⟩) hlt HE2.out hpre D2.out
          have X3 := Aside0.mk X2.out
          rw [hU2] at X3
          have hr2' := Aside0.mk hr2
          clear hr2 hU2
          go_wp2
          go_quiet (fail)
          have z0 : (wr.drewN nq).cell? ⟨b, 0, none⟩ = some (.slice (some ad) l.length c) := y0
          have z1 : (wr.drewN nq).cell? ⟨b, 1, none⟩ = some (.int .i64 k2) := y1
          have z2 : (wr.drewN nq).cell? (ad.add (k2 * 4)) = some (.string ep2) := r0
          have Hq := Aside0.mk (H2.out.below (W' := wr.drewN nq) ⟨rfl, rfl, rfl, Nat.le_refl _, fun _ _ => rfl⟩)
          have Sq := Aside0.mk (S2.out.trans (Stays.of_below (W' := wr.drewN nq) ⟨rfl, rfl, rfl, Nat.le_refl _, fun _ _ => rfl⟩ (Nat.le_of_lt H2.out.lt)))
          clear y0 y1 r0 H2 S2
          generalize wr.drewN nq = wq at z0 z1 z2 Hq Sq ⊢
          go_wp2
          go_quiet (first | (go_at_call 56; exact Calls.quiet_of_same (cutp_no hpre _)))
          go_wp2
          refine bodyPost_ret (results_none rfl _ _ _) rfl ?_
          refine ⟨rfl, k2, hk2, hkk, hr2'.out, ?_, ?_⟩
          · have e3 := X3.out
            simp only [List.map_nil, List.append_nil] at e3
            rw [← e3]
            exact Hq.out.below ⟨rfl, rfl, rfl, Nat.le_refl _, fun _ _ => rfl⟩
          · exact Sq.out.trans (Stays.of_below ⟨rfl, rfl, rfl, Nat.le_refl _, fun _ _ => rfl⟩ (Nat.le_of_lt Hq.out.lt))
        · obtain ⟨t, r1, u, ht, hu, hUe⟩ := dir_yes (e := ⟨ep2, ek2, ex2, ed2⟩) hlt HE2.out hpre D2.out
          have HT := Aside0.mk ht
          have HU2 := Aside0.mk hu
          have HUE := Aside0.mk hUe
          clear ht hu hUe
          go_wp2
          go_quiet (fail)
          have z0 : (wr.drewN nq).cell? ⟨b, 0, none⟩ = some (.slice (some ad) l.length c) := y0
          have z1 : (wr.drewN nq).cell? ⟨b, 1, none⟩ = some (.int .i64 k2) := y1
          have z2 : (wr.drewN nq).cell? (ad.add (k2 * 4)) = some (.string ep2) := r0
          have Hq := Aside0.mk (H2.out.below (W' := wr.drewN nq) ⟨rfl, rfl, rfl, Nat.le_refl _, fun _ _ => rfl⟩)
          have Sq := Aside0.mk (S2.out.trans (Stays.of_below (W' := wr.drewN nq) ⟨rfl, rfl, rfl, Nat.le_refl _, fun _ _ => rfl⟩ (Nat.le_of_lt H2.out.lt)))
          clear y0 y1 r0 H2 S2
          generalize wr.drewN nq = wq at z0 z1 z2 Hq Sq ⊢
          go_wp2
          obtain ⟨R, hR⟩ : ∃ R, ba (ep2.data.toList.drop ep.data.toList.length) = R := ⟨_, rfl⟩
          have HR := Aside0.mk hR
          clear hR
          go_quiet (first | (go_at_call 56; exact Calls.quiet_of_same (cutp_yes hpre R HR.out _)))
          have H5 := Aside0.mk (Hq.out.below (W' := wq.drewN nq) ⟨rfl, rfl, rfl, Nat.le_refl _, fun _ _ => rfl⟩)
          have S5 := Aside0.mk (Sq.out.trans (Stays.of_below (W' := wq.drewN nq) ⟨rfl, rfl, rfl, Nat.le_refl _, fun _ _ => rfl⟩ (Nat.le_of_lt Hq.out.lt)))
          clear z0 z1 z2 Hq Sq
          generalize wq.drewN nq = w5 at H5 S5 ⊢
          have hlen := congrArg List.length X2.out
          have hlen2 := congrArg List.length HUE.out
          simp only [List.length_append, List.length_map, List.length_cons, List.length_nil] at hlen hlen2
          have LEN := Aside0.mk (show xs2.length + 5 + t.length + 1 + u.length ≤ 800001 by omega)
          clear hlen hlen2
          go_wp2_with (first
            | (go_at_call 40; first
              | (refine (put_calls _ b (some ad) l.length c (k2 : Int) xs2 [tEntry, tOpen, tName, R, tNodeT] (wr_alloc H5.out _) w5.heap.size 5 5 rfl ?hc ?hl).mono ?_; (case hc => exact lit_cells _ [tEntry, tOpen, tName, R, tNodeT] _ rfl); (case hl => have := LEN.out; simp; omega); rintro x W6 ⟨rfl, h9, s9⟩; have H6 := Aside0.mk h9; have S6 := Aside0.mk ((stays_alloc S5.out (Nat.le_of_lt H5.out.lt) _).trans s9); clear h9 s9 H5)
              | (refine (put_calls _ b (some ad) l.length c (k4 : Int) (xs2 ++ [tEntry, tOpen, tName, R, tNodeT] ++ t.map ba) [tShut] (wr_alloc H7.out _) W7.heap.size 1 1 rfl ?hc ?hl).mono ?_; (case hc => exact lit_cells _ [tShut] _ rfl); (case hl => have := LEN.out; simp; omega); rintro x W8 ⟨rfl, h9, s9⟩; have H8 := Aside0.mk h9; have S8 := Aside0.mk ((stays_alloc S7.out (Nat.le_of_lt H7.out.lt) _).trans s9); clear h9 s9))
            | (go_at_call 41; refine (HN.out F3 (by omega) W6 b k2 _ t r1 H6.out hlt (ents_stay HE.out had S6.out.below) had HT.out ?hl).mono ?_; (case hl => have := LEN.out; simp; omega); rintro x W7 ⟨rfl, k4, hk4, hk24, hr1, h9, s9⟩; have H7 := Aside0.mk h9; have S7 := Aside0.mk (S6.out.trans s9); have HR1 := Aside0.mk hr1; clear h9 s9 hr1))
          go_roundw
          case rel =>
            refine ⟨k4, F3, _, u, hk4, by omega, H8.out, S8.out, by omega, by rw [← HR1.out]; exact HU2.out, ?_⟩
            rw [← X2.out, HUE.out]
            simp only [List.map_append, List.map_cons, List.map_nil, HR.out, List.append_assoc, List.cons_append, List.nil_append]
            rfl
          case measure => rw [place_of H8.out.at_, P2.out]; omega
      · have hd : decide ((k2 : Int) < (l.length : Int)) = false := decide_eq_false (by omega)
        have hlti : ¬ (k2 : Int) < (l.length : Int) := by omega
        have hke : k2 = l.length := by omega
        obtain ⟨hU2, hr2⟩ := dir_end hke D2.out
        go_wp2
        go_quiet (fail)
        go_wp2
        go_end0
        refine ⟨rfl, k2, hk2, hkk, by rw [hr2, hke, List.drop_length]; rfl, ?_, S2.out.trans (Stays.of_below ⟨rfl, rfl, rfl, Nat.le_refl _, fun _ _ => rfl⟩ (Nat.le_of_lt H2.out.lt))⟩
        have e3 := X2.out
        rw [hU2] at e3
        simp only [List.map_nil, List.append_nil] at e3
        rw [← e3]
        exact H2.out.below ⟨rfl, rfl, rfl, Nat.le_refl _, fun _ _ => rfl⟩
  · have hemp : ep.toList.isEmpty = false := by rw [ByteArray.toList_eq]; cases h : ep.data.toList with | nil => exact absurd h he | cons a b => rfl
    have hU' : dirL F (ep ++ ⟨#[47]⟩ : ByteArray).data.toList ((l.drop k).map entOf) = some (U, r2) := by rw [ahead, if_neg he] at hU; rw [ByteArray.data_append, Array.toList_append]; exact hU
    have HU := Aside0.mk hU'
    clear hU hU' he
    go_enter Try.func71, Try.ntmps71
    go_wp2_with (go_at_call 40; refine (put_calls _ b (some ad) l.length c (k : Int) xs [tDirectory] (wr_alloc (wr_alloc HW.out _) _) (W.heap.size + 1) 1 1 rfl ?hc ?hl).mono ?_; (case hc => exact lit_cells _ [tDirectory] _ (by simp)); (case hl => simp; omega); rintro x W1 ⟨rfl, h9, s9⟩; have H1 := Aside0.mk h9; have S1 := Aside0.mk ((stays_alloc (stays_alloc (Stays.refl b W) hlt0.out _) (by simp; have := hlt0.out; omega) _).trans s9); have B1 := s9.same W.heap.size (.cells #[.string ep, .int .i64 ek, .bool ex, .string ed] 27) ((Below.heap_alloc _ _ _ (by simp)).trans (World.alloc_heap_new W _)) (by have := hbk.out; omega) (by intro cs h; cases h); have x0 : W1.cell? ⟨W.heap.size, 0, none⟩ = some (.string ep) := (blk_cell B1 0).trans rfl; clear h9 s9 B1)
    go_loopw [16] (fun _ wx => ∃ (k2 F2 : Nat) (xs2 : List ByteArray) (U2 : List Tx), k2 ≤ l.length ∧ k ≤ k2 ∧ Wr wx b (some ad) l.length c (k2 : Int) xs2 ∧ Stays b W wx ∧ F2 ≤ F ∧ dirL F2 (ep ++ ⟨#[47]⟩ : ByteArray).data.toList ((l.drop k2).map entOf) = some (U2, r2) ∧ xs2 ++ U2.map ba = xs ++ [tDirectory] ++ U.map ba) (fun _ wx => l.length - placeOf wx b)
    case atStart => exact ⟨k, F, xs ++ [tDirectory], U, hk, Nat.le_refl _, H1.out, S1.out, Nat.le_refl _, HU.out, rfl⟩
    case round =>
      obtain ⟨k2, F2, xs2, U2, hk2, hkk, hw2, hs2, hF2, hd2, hx2⟩ := hrel
      have H2 := Aside0.mk hw2
      have S2 := Aside0.mk hs2
      have D2 := Aside0.mk hd2
      have X2 := Aside0.mk hx2
      have P2 := Aside0.mk (place_of hw2.at_)
      have y1 := hw2.at_
      have y0 := hw2.at0
      clear hw2 hs2 hd2 hx2
      by_cases hlt : k2 < l.length
      · have hd : decide ((k2 : Int) < (l.length : Int)) = true := decide_eq_true (by omega)
        have hlti : (k2 : Int) < (l.length : Int) := by omega
        have hk0 : (0 : Int) ≤ (k2 : Int) := by omega
        have hk0n : 0 ≤ k2 := by omega
        obtain ⟨ad', hA, q0, -⟩ := HE.out k2 hlt
        injection hA with hA
        subst hA
        have r0 := (S2.out.below.cell (HAD.out q0)).trans q0
        obtain ⟨e2, he2⟩ : ∃ e2, l[k2] = e2 := ⟨_, rfl⟩
        rw [he2] at r0
        have HE2 := Aside0.mk he2
        clear q0 he2
        obtain ⟨ep2, ek2, ex2, ed2⟩ := e2
        dsimp only at r0
        obtain ⟨F3, rfl⟩ := dir_fuel D2.out
        cases hpre : Lib.hasPrefix ep2.data.toList (ep ++ ⟨#[47]⟩ : ByteArray).data.toList
        · obtain ⟨hU2, hr2⟩ := dir_no (e := ⟨ep2, ek2, ex2, ed2⟩) hlt HE2.out hpre D2.out
          have X3 := Aside0.mk X2.out
          rw [hU2] at X3
          have hr2' := Aside0.mk hr2
          clear hr2 hU2
          go_wp2
          go_quiet (fail)
          have z0 : (wr.drewN nq).cell? ⟨b, 0, none⟩ = some (.slice (some ad) l.length c) := y0
          have z1 : (wr.drewN nq).cell? ⟨b, 1, none⟩ = some (.int .i64 k2) := y1
          have z2 : (wr.drewN nq).cell? (ad.add (k2 * 4)) = some (.string ep2) := r0
          have Hq := Aside0.mk (H2.out.below (W' := wr.drewN nq) ⟨rfl, rfl, rfl, Nat.le_refl _, fun _ _ => rfl⟩)
          have Sq := Aside0.mk (S2.out.trans (Stays.of_below (W' := wr.drewN nq) ⟨rfl, rfl, rfl, Nat.le_refl _, fun _ _ => rfl⟩ (Nat.le_of_lt H2.out.lt)))
          clear y0 y1 r0 H2 S2
          generalize wr.drewN nq = wq at z0 z1 z2 Hq Sq ⊢
          go_wp2
          go_quiet (first | (go_at_call 56; exact Calls.quiet_of_same (cutp_no hpre _)))
          go_wp2
          refine bodyPost_ret (results_none rfl _ _ _) rfl ?_
          refine ⟨rfl, k2, hk2, hkk, hr2'.out, ?_, ?_⟩
          · have e3 := X3.out
            simp only [List.map_nil, List.append_nil] at e3
            rw [← e3]
            exact Hq.out.below ⟨rfl, rfl, rfl, Nat.le_refl _, fun _ _ => rfl⟩
          · exact Sq.out.trans (Stays.of_below ⟨rfl, rfl, rfl, Nat.le_refl _, fun _ _ => rfl⟩ (Nat.le_of_lt Hq.out.lt))
        · obtain ⟨t, r1, u, ht, hu, hUe⟩ := dir_yes (e := ⟨ep2, ek2, ex2, ed2⟩) hlt HE2.out hpre D2.out
          have HT := Aside0.mk ht
          have HU2 := Aside0.mk hu
          have HUE := Aside0.mk hUe
          clear ht hu hUe
          go_wp2
          go_quiet (fail)
          have z0 : (wr.drewN nq).cell? ⟨b, 0, none⟩ = some (.slice (some ad) l.length c) := y0
          have z1 : (wr.drewN nq).cell? ⟨b, 1, none⟩ = some (.int .i64 k2) := y1
          have z2 : (wr.drewN nq).cell? (ad.add (k2 * 4)) = some (.string ep2) := r0
          have Hq := Aside0.mk (H2.out.below (W' := wr.drewN nq) ⟨rfl, rfl, rfl, Nat.le_refl _, fun _ _ => rfl⟩)
          have Sq := Aside0.mk (S2.out.trans (Stays.of_below (W' := wr.drewN nq) ⟨rfl, rfl, rfl, Nat.le_refl _, fun _ _ => rfl⟩ (Nat.le_of_lt H2.out.lt)))
          clear y0 y1 r0 H2 S2
          generalize wr.drewN nq = wq at z0 z1 z2 Hq Sq ⊢
          go_wp2
          obtain ⟨R, hR⟩ : ∃ R, ba (ep2.data.toList.drop (ep ++ ⟨#[47]⟩ : ByteArray).data.toList.length) = R := ⟨_, rfl⟩
          have HR := Aside0.mk hR
          clear hR
          go_quiet (first | (go_at_call 56; exact Calls.quiet_of_same (cutp_yes hpre R HR.out _)))
          have H5 := Aside0.mk (Hq.out.below (W' := wq.drewN nq) ⟨rfl, rfl, rfl, Nat.le_refl _, fun _ _ => rfl⟩)
          have S5 := Aside0.mk (Sq.out.trans (Stays.of_below (W' := wq.drewN nq) ⟨rfl, rfl, rfl, Nat.le_refl _, fun _ _ => rfl⟩ (Nat.le_of_lt Hq.out.lt)))
          clear z0 z1 z2 Hq Sq
          generalize wq.drewN nq = w5 at H5 S5 ⊢
          have hlen := congrArg List.length X2.out
          have hlen2 := congrArg List.length HUE.out
          simp only [List.length_append, List.length_map, List.length_cons, List.length_nil] at hlen hlen2
          have LEN := Aside0.mk (show xs2.length + 5 + t.length + 1 + u.length ≤ 800001 by omega)
          clear hlen hlen2
          go_wp2_with (first
            | (go_at_call 40; first
              | (refine (put_calls _ b (some ad) l.length c (k2 : Int) xs2 [tEntry, tOpen, tName, R, tNodeT] (wr_alloc H5.out _) w5.heap.size 5 5 rfl ?hc ?hl).mono ?_; (case hc => exact lit_cells _ [tEntry, tOpen, tName, R, tNodeT] _ rfl); (case hl => have := LEN.out; simp; omega); rintro x W6 ⟨rfl, h9, s9⟩; have H6 := Aside0.mk h9; have S6 := Aside0.mk ((stays_alloc S5.out (Nat.le_of_lt H5.out.lt) _).trans s9); clear h9 s9 H5)
              | (refine (put_calls _ b (some ad) l.length c (k4 : Int) (xs2 ++ [tEntry, tOpen, tName, R, tNodeT] ++ t.map ba) [tShut] (wr_alloc H7.out _) W7.heap.size 1 1 rfl ?hc ?hl).mono ?_; (case hc => exact lit_cells _ [tShut] _ rfl); (case hl => have := LEN.out; simp; omega); rintro x W8 ⟨rfl, h9, s9⟩; have H8 := Aside0.mk h9; have S8 := Aside0.mk ((stays_alloc S7.out (Nat.le_of_lt H7.out.lt) _).trans s9); clear h9 s9))
            | (go_at_call 41; refine (HN.out F3 (by omega) W6 b k2 _ t r1 H6.out hlt (ents_stay HE.out had S6.out.below) had HT.out ?hl).mono ?_; (case hl => have := LEN.out; simp; omega); rintro x W7 ⟨rfl, k4, hk4, hk24, hr1, h9, s9⟩; have H7 := Aside0.mk h9; have S7 := Aside0.mk (S6.out.trans s9); have HR1 := Aside0.mk hr1; clear h9 s9 hr1))
          go_roundw
          case rel =>
            refine ⟨k4, F3, _, u, hk4, by omega, H8.out, S8.out, by omega, by rw [← HR1.out]; exact HU2.out, ?_⟩
            rw [← X2.out, HUE.out]
            simp only [List.map_append, List.map_cons, List.map_nil, HR.out, List.append_assoc, List.cons_append, List.nil_append]
            rfl
          case measure => rw [place_of H8.out.at_, P2.out]; omega
      · have hd : decide ((k2 : Int) < (l.length : Int)) = false := decide_eq_false (by omega)
        have hlti : ¬ (k2 : Int) < (l.length : Int) := by omega
        have hke : k2 = l.length := by omega
        obtain ⟨hU2, hr2⟩ := dir_end hke D2.out
        go_wp2
        go_quiet (fail)
        go_wp2
        go_end0
        refine ⟨rfl, k2, hk2, hkk, by rw [hr2, hke, List.drop_length]; rfl, ?_, S2.out.trans (Stays.of_below ⟨rfl, rfl, rfl, Nat.le_refl _, fun _ _ => rfl⟩ (Nat.le_of_lt H2.out.lt))⟩
        have e3 := X2.out
        rw [hU2] at e3
        simp only [List.map_nil, List.append_nil] at e3
        rw [← e3]
        exact H2.out.below ⟨rfl, rfl, rfl, Nat.le_refl _, fun _ _ => rfl⟩
end Go.Proofs.YtlcaogiljiieaaaX
