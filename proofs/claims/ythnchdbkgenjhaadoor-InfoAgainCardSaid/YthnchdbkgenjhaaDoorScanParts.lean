/- names.Parts: what it answers: plain laws, no walk. -/
import Derived.Test.YthnchdbkgenjhaaDoorQScanx1
import Derived.Test.YthnchdbkgenjhaaDoorEvFind
set_option linter.unusedVariables false
set_option linter.unusedSimpArgs false
namespace Go.Proofs.YthnchdbkgenjhaaDoorX
open Go.RowKit Go.Proofs.YthnchdbkgenjhaaDoor.PScan Go.Proofs.YthnchdbkgenjhaaDoorW.PrintWords Go.Proofs.YthnchdbkgenjhaaDoorW.PrintLast Go.Proofs.YthnchdbkgenjhaaDoorW.PrintMore
def digitsB : ByteArray := ⟨#[48, 49, 50, 51, 52, 53, 54, 55, 56, 57, 97, 98, 99, 100, 102, 103, 104, 105, 106, 107, 108, 109, 110, 112, 113, 114, 115, 118, 119, 120, 121, 122]⟩
def digOK (c : UInt8) : Bool := decide (0 ≤ Lib.indexByte digitsB.data.toList c)
theorem index_lt : ∀ (l : List UInt8) (c : UInt8), Lib.indexByte l c < (l.length : Int) + (if l = [] then 1 else 0)
  | [], c => by simp [Lib.indexByte]
  | x :: l, c => by
    have h := index_lt l c
    rw [Lib.indexByte, List.length_cons, if_neg (show ¬ (x :: l = []) by simp)]
    by_cases h1 : (x == c) = true
    · rw [if_pos h1]; omega
    · rw [if_neg h1]
      by_cases h2 : (Lib.indexByte l c == -1) = true
      · rw [if_pos h2]; omega
      · rw [if_neg h2]
        by_cases h3 : l = []
        · subst h3
          exact absurd rfl h2
        · rw [if_neg h3] at h
          omega
theorem digit_lt (c : UInt8) : Lib.indexByte digitsB.data.toList c < 32 := by
  have h := index_lt digitsB.data.toList c
  have e : digitsB.data.toList.length = 32 := rfl
  have e2 : (if digitsB.data.toList = [] then (1 : Int) else 0) = 0 := if_neg (by intro h; cases h)
  rw [e, e2] at h
  omega
structure Nums32 (n i q m : Nat) : Prop where
  e1 : wrap64 (wrap64 ((n : Int) - 1) - (i : Int)) = ((31 - i : Nat) : Int)
  e2 : wrap64 (5 * (i : Int)) = ((5 * i : Nat) : Int)
  e3 : Int.tmod ((5 * i : Nat) : Int) 8 = (m : Int)
  e4 : Int.tdiv ((5 * i : Nat) : Int) 8 = (q : Int)
  e5 : wrap64 (q : Int) = (q : Int)
  e6 : wrap64 ((q : Int) + 1) = ((q + 1 : Nat) : Int)
  e7 : wrap64 ((i : Int) + 1) = ((i + 1 : Nat) : Int)
  c1 : (i : Int) < (n : Int)
  c2 : (0 : Int) ≤ ((31 - i : Nat) : Int)
  c3 : ((31 - i : Nat) : Int) < (n : Int)
  c5 : (0 : Int) ≤ (q : Int)
  c6 : (q : Int) < ((20 : Nat) : Int)
  c8 : (0 : Int) ≤ ((q + 1 : Nat) : Int)
  hm : 0 ≤ (m : Int)
theorem nums32 (n i : Nat) (hn : n = 32) (hi : i ≤ 31) : Nums32 n i (5 * i / 8) (5 * i % 8) where
  e1 := by rw [w64 (x := (n : Int) - 1) (by omega) (by omega), w64 (by omega) (by omega)]; omega
  e2 := by rw [w64 (by omega) (by omega)]; omega
  e3 := by rw [Int.tmod_eq_emod_of_nonneg (by omega)]; omega
  e4 := by rw [Int.tdiv_eq_ediv_of_nonneg (by omega)]; omega
  e5 := w64 (by omega) (by omega)
  e6 := by rw [w64 (by omega) (by omega)]; omega
  e7 := by rw [w64 (by omega) (by omega)]; omega
  c1 := by omega
  c2 := by omega
  c3 := by omega
  c5 := by omega
  c6 := by omega
  c8 := by omega
  hm := by omega
theorem dec_step (s : ByteArray) (hs : s.size = 32) (i : Nat) (hi : i < 31) (y : List Int) (hy : y.length = 20) (t : Int) (c4 : ¬ t < 0) (hix : strings_IndexByte.f digitsB (bt s ((31 - i : Nat) : Int)) = some t) : ∃ x2 : List Int, x2.length = 20 ∧ ∀ k, base_Decode.l0 (k + 1) s y (s.size : Int) (i : Int) = base_Decode.l0 k s x2 (s.size : Int) ((i + 1 : Nat) : Int) := by
  have c7 : ((5 * i / 8 + 1 : Nat) : Int) < ((20 : Nat) : Int) := by omega
  obtain ⟨e1, e2, e3, e4, e5, e6, e7, c1, c2, c3, c5, c6, c8, hm⟩ := nums32 s.size i hs (by omega)
  generalize 5 * i % 8 = m5 at *
  generalize 5 * i / 8 = q5 at *
  rw [← hy] at c6 c7
  refine ⟨(y.set ((q5 : Int)).toNat (Go.bits .or .u8 (rd y (q5 : Int)) ((shl .i64 t (m5 : Int)) % 256))).set (((q5 + 1 : Nat) : Int)).toNat (Go.bits .or .u8 (rd (y.set ((q5 : Int)).toNat (Go.bits .or .u8 (rd y (q5 : Int)) ((shl .i64 t (m5 : Int)) % 256))) ((q5 + 1 : Nat) : Int)) (((shl .i64 t (m5 : Int)) / 256) % 256)), by rw [List.length_set, List.length_set]; exact hy, fun k => ?_⟩
  rw [base_Decode.l0, if_pos c1, e1, if_pos c2, if_pos c3]
  rw [show (⟨#[48, 49, 50, 51, 52, 53, 54, 55, 56, 57, 97, 98, 99, 100, 102, 103, 104, 105, 106, 107, 108, 109, 110, 112, 113, 114, 115, 118, 119, 120, 121, 122]⟩ : ByteArray) = digitsB from rfl, hix, Option.bind_some, if_neg c4, e2, e3, if_pos hm, e4, e5, if_pos c5, if_pos c6, Option.bind_some, e6, if_pos c7, if_pos c8, e7]
theorem shl31 (t : Int) (h0 : 0 ≤ t) (h1 : t < 32) : (shl .i64 t ((5 * 31 % 8 : Nat) : Int)) / 256 = 0 := by
  have : shl .i64 t ((5 * 31 % 8 : Nat) : Int) = t * 8 := by
    show IntKind.i64.wrap (t * 2 ^ 3) = t * 8
    rw [wraps_i64 _ (by omega) (by omega)]
    omega
  rw [this]
  omega
theorem dec_last (s : ByteArray) (hs : s.size = 32) (y : List Int) (hy : y.length = 20) (t : Int) (c4 : ¬ t < 0) (h1 : t < 32) (hix : strings_IndexByte.f digitsB (bt s ((31 - 31 : Nat) : Int)) = some t) : ∃ x2 : List Int, x2.length = 20 ∧ ∀ k, base_Decode.l0 (k + 1) s y (s.size : Int) ((31 : Nat) : Int) = base_Decode.l0 k s x2 (s.size : Int) ((31 + 1 : Nat) : Int) := by
  have hsh := shl31 t (by omega) h1
  have c7 : ¬ ((5 * 31 / 8 + 1 : Nat) : Int) < ((20 : Nat) : Int) := by omega
  obtain ⟨e1, e2, e3, e4, e5, e6, e7, c1, c2, c3, c5, c6, c8, hm⟩ := nums32 s.size 31 hs (by omega)
  rw [← hy] at c6 c7
  generalize ((5 * 31 % 8 : Nat)) = m5 at *
  generalize (5 * 31 / 8 : Nat) = q5 at *
  refine ⟨y.set ((q5 : Int)).toNat (Go.bits .or .u8 (rd y (q5 : Int)) ((shl .i64 t (m5 : Int)) % 256)), by rw [List.length_set]; exact hy, fun k => ?_⟩
  rw [base_Decode.l0, if_pos c1, e1, if_pos c2, if_pos c3]
  rw [show (⟨#[48, 49, 50, 51, 52, 53, 54, 55, 56, 57, 97, 98, 99, 100, 102, 103, 104, 105, 106, 107, 108, 109, 110, 112, 113, 114, 115, 118, 119, 120, 121, 122]⟩ : ByteArray) = digitsB from rfl, hix, Option.bind_some, if_neg c4, e2, e3, if_pos hm, e4, e5, if_pos c5, if_pos c6, Option.bind_some, e6, if_neg c7, if_pos hsh, e7]
def allDig (s : ByteArray) : Bool := s.data.toList.all digOK
theorem bt_back (s : ByteArray) (j : Nat) (h : j < s.data.toList.length) : (bt s (j : Int)).toNat.toUInt8 = s.data.toList[j] := by
  rw [bt_list s j h]
  simp
theorem dec_loop32 (s : ByteArray) (hs : s.size = 32) (hl : s.data.toList.length = 32) : ∀ m i : Nat, ∀ x : List Int, i + m = 32 → x.length = 20 → ∃ r, Ev (fun k => base_Decode.l0 k s x (s.size : Int) (i : Int)) r ∧ (r.2 = 0 ↔ ∀ j (h : j < 32), j + i ≤ 31 → digOK (s.data.toList[j]'(by rw [hl]; exact h)) = true)
  | 0, i, x, hi, hx => by
    have c : ¬ ((i : Int) < (s.size : Int)) := by omega
    refine ⟨(x, 0), Ev.step (f := fun _ => some _) (fun k => by rw [base_Decode.l0, if_neg c]) (Ev.now _), fun _ j hj h => by omega, fun _ => rfl⟩
  | m + 1, i, x, hi, hx => by
    have hlt : 31 - i < s.data.toList.length := by rw [hl]; omega
    have hd := digit_lt s.data.toList[31 - i]
    have hix : strings_IndexByte.f digitsB (bt s ((31 - i : Nat) : Int)) = some (Lib.indexByte digitsB.data.toList s.data.toList[31 - i]) := by
      unfold strings_IndexByte.f
      rw [bt_back s _ hlt]
    by_cases hdig : digOK s.data.toList[31 - i] = true
    · have hge : ¬ Lib.indexByte digitsB.data.toList s.data.toList[31 - i] < 0 := by
        have := of_decide_eq_true hdig
        omega
      have hstep : ∃ x2 : List Int, x2.length = 20 ∧ ∀ k, base_Decode.l0 (k + 1) s x (s.size : Int) (i : Int) = base_Decode.l0 k s x2 (s.size : Int) ((i + 1 : Nat) : Int) := by
        by_cases h31 : i = 31
        · subst h31
          exact dec_last s hs x hx _ hge hd hix
        · exact dec_step s hs i (by omega) x hx _ hge hix
      obtain ⟨x2, hx2, hst⟩ := hstep
      obtain ⟨r, hr, hr2⟩ := dec_loop32 s hs hl m (i + 1) x2 (by omega) hx2
      refine ⟨r, Ev.step hst hr, fun h j hj hij => ?_, fun h => hr2.2 fun j hj hij => h j hj (by omega)⟩
      by_cases hji : j = 31 - i
      · subst hji
        exact hdig
      · exact hr2.1 h j hj (by omega)
    · have hlt0 : Lib.indexByte digitsB.data.toList s.data.toList[31 - i] < 0 := by
        unfold digOK at hdig
        rw [decide_eq_true_iff] at hdig
        omega
      have n1 : 31 - i < 32 := by omega
      have n2 : 31 - i + i ≤ 31 := by omega
      obtain ⟨e1, e2, e3, e4, e5, e6, e7, c1, c2, c3, c5, c6, c8, hm⟩ := nums32 s.size i hs (by omega)
      have n4 : ¬ (4 : Int) = 0 := by decide
      refine ⟨([], 4), ?_, fun h => absurd h n4, fun h => absurd (h (31 - i) n1 n2) hdig⟩
      refine Ev.step (f := fun _ => some (([] : List Int), (4 : Int))) (fun k => ?_) (Ev.now _)
      rw [base_Decode.l0, if_pos c1, e1, if_pos c2, if_pos c3]
      rw [show (⟨#[48, 49, 50, 51, 52, 53, 54, 55, 56, 57, 97, 98, 99, 100, 102, 103, 104, 105, 106, 107, 108, 109, 110, 112, 113, 114, 115, 118, 119, 120, 121, 122]⟩ : ByteArray) = digitsB from rfl, hix, Option.bind_some, if_pos hlt0]
theorem dec_ev (s : ByteArray) (hs : s.size = 32) : ∃ r, Ev (fun k => base_Decode.f k s) r ∧ (r.2 = 0 ↔ allDig s = true) := by
  have hl : s.data.toList.length = 32 := by rw [← ba_size, hs]
  obtain ⟨r, hr, hr2⟩ := dec_loop32 s hs hl 32 0 (List.replicate 20 0) rfl (by simp)
  refine ⟨r, Ev.congr (fun k => ?_) hr, ?_⟩
  · unfold base_Decode.f
    have e1 : wrap64 (Int.tdiv (wrap64 ((s.size : Int) * 5)) 8) = 20 := by
      rw [hs, w64 (x := ((32 : Nat) : Int) * 5) (by decide) (by decide), show Int.tdiv (((32 : Nat) : Int) * 5) 8 = 20 from rfl, w64 (by decide) (by decide)]
    have e2 : base_size.f ((20 : Nat) : Int) = some 32 := by
      unfold base_size.f
      rw [w64 (x := 8 * ((20 : Nat) : Int)) (by decide) (by decide), w64 (x := 8 * ((20 : Nat) : Int) + 5) (by decide) (by decide), w64 (x := 8 * ((20 : Nat) : Int) + 5 - 1) (by decide) (by decide), show Int.tdiv (8 * ((20 : Nat) : Int) + 5 - 1) 5 = 32 from rfl, w64 (by decide) (by decide)]
    rw [e1, if_pos (by decide), if_pos (by decide), Option.bind_some, show (20 : Int).toNat = 20 from rfl, List.length_replicate, e2, Option.bind_some, if_pos (by rw [hs]; rfl)]
    rfl
  · rw [hr2]
    unfold allDig
    rw [List.all_eq_true]
    constructor
    · intro h c hc
      obtain ⟨j, hj, rfl⟩ := List.mem_iff_getElem.1 hc
      exact h j (by omega) (by omega)
    · intro h j hj _
      exact h _ (List.getElem_mem _)
/-- Is a text a name of the store? -/
def nameB (s : ByteArray) : Bool := decide (33 < s.size) && (s.data.toList[32]? == some 45) && baseB (s.extract 33 s.size) && allDig (s.extract 0 32)
def partsB (s : ByteArray) : ByteArray × ByteArray × Int := if nameB s = true then (s.extract 0 32, s.extract 33 s.size, 0) else (⟨#[]⟩, ⟨#[]⟩, 190)
theorem parts_ev (s : ByteArray) (hs : s.size ≤ 1000000) : Ev (fun k => names_Parts.f k s) (partsB s) := by
  have hbad : Ev (fun k => names_Parts.j0 k s true) (⟨#[]⟩, ⟨#[]⟩, 190) := Ev.step (f := fun _ => some _) (fun k => by
    show names_Parts.j0 (k + 1) _ _ = _
    rw [names_Parts.j0, if_pos rfl]) (Ev.now _)
  have hno : ∀ {g : Nat → Option (ByteArray × ByteArray × Int)}, nameB s = false → (∀ k, g k = names_Parts.j0 k s true) → Ev g (partsB s) := fun h hg => by
    unfold partsB
    rw [h, if_neg Bool.false_ne_true]
    exact Ev.congr hg hbad
  by_cases h1 : 33 < s.size
  case neg =>
    exact hno (by unfold nameB; rw [decide_eq_false h1]; rfl) (fun k => by unfold names_Parts.f; rw [if_pos (by omega)])
  have hl : 32 < s.data.toList.length := by rw [← ba_size]; omega
  have e32 : bt s 32 = (s.data.toList[32].toNat : Int) := bt_list s 32 hl
  by_cases h2 : s.data.toList[32] = 45
  case neg =>
    refine hno ?_ (fun k => ?_)
    · unfold nameB
      rw [List.getElem?_eq_getElem hl, show (some s.data.toList[32] == some (45 : UInt8)) = false by simpa using h2, Bool.and_false]
      rfl
    · unfold names_Parts.f
      rw [if_neg (by omega), if_pos (by omega), e32, if_neg]
      intro hc
      exact h2 (UInt8.toNat_inj.1 (by show _ = 45; omega))
  have hbase : names_Base.f (s.extract 33 s.size) = some (if baseB (s.extract 33 s.size) = true then 0 else 190) := by
    unfold names_Base.f
    rw [if_pos (by rw [ByteArray.size_extract]; omega)]
  have hstart : ∀ k, names_Parts.f k s = names_Parts.j0 k s ((if baseB (s.extract 33 s.size) = true then (0 : Int) else 190) != 0) := fun k => by
    unfold names_Parts.f
    rw [if_neg (by omega), if_pos (by omega), e32, if_pos (by rw [h2]; rfl), if_pos (by omega), hbase, Option.bind_some]
  cases h3 : baseB (s.extract 33 s.size)
  · refine hno (by unfold nameB; rw [h3, Bool.and_false]; rfl) (fun k => ?_)
    rw [hstart, h3, if_neg Bool.false_ne_true]
    rfl
  · refine Ev.congr hstart ?_
    rw [h3, if_pos rfl]
    have hs32 : (s.extract 0 32).size = 32 := by rw [ByteArray.size_extract]; omega
    obtain ⟨r, hr, hr2⟩ := dec_ev _ hs32
    refine Ev.step (f := fun k => (base_Decode.f k (s.extract 0 32)).bind fun bt112 => (if bt112.2 = 0 then (if 33 ≤ (s.size : Int) then (some (s.extract 0 32, s.extract 33 s.size, 0)) else (none)) else (some ((⟨#[]⟩ : ByteArray), (⟨#[]⟩ : ByteArray), 190)))) (fun k => ?_) ?_
    · show names_Parts.j0 (k + 1) _ _ = _
      rw [names_Parts.j0, if_neg (by decide), if_pos (by decide), if_pos (by omega)]
    · refine Ev.bind (f := fun k t => _) hr ?_
      have hn : nameB s = allDig (s.extract 0 32) := by
        unfold nameB
        rw [h3, decide_eq_true h1, List.getElem?_eq_getElem hl, h2]
        rfl
      unfold partsB
      rw [hn]
      by_cases h4 : allDig (s.extract 0 32) = true
      · rw [if_pos h4]
        refine Ev.congr (fun k => if_pos (hr2.2 h4)) (Ev.congr (fun k => if_pos (by omega)) (Ev.now _))
      · rw [if_neg h4]
        exact Ev.congr (fun k => if_neg (fun h => h4 (hr2.1 h))) (Ev.now _)
/-- names.Parts: its contract. -/
theorem Parts_calls (s : ByteArray) (hs : s.size ≤ 1000000) (w : World) : Calls Tryd.prog 39 #[.string s] w fun e w' => e = .returned (.tuple #[.string (partsB s).1, .string (partsB s).2.1, .int .i64 (partsB s).2.2]) ∧ Below w.heap.size w w' := by
  obtain ⟨k, hk⟩ := parts_ev s hs
  exact names_Parts.calls k s _ _ _ w (hk k (Nat.le_refl _))
end Go.Proofs.YthnchdbkgenjhaaDoorX
