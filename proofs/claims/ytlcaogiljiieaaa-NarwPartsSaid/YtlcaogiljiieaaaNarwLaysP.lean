import Derived.Test.YtlcaogiljiieaaaQNarwx3
import Derived.Test.YtlcaogiljiieaaaEv
import Derived.Test.YtlcaogiljiieaaaPathD
import Derived.Test.YtlcaogiljiieaaaQNarwx4
import Derived.Test.YtlcaogiljiieaaaTreeCheck
import Derived.Test.YtlcaogiljiieaaaNarwPlain
import Derived.Test.YtlcaogiljiieaaaQNarwx6
import Derived.Test.YtlcaogiljiieaaaQNarwx7
import Derived.Test.YtlcaogiljiieaaaQNarwx8
import Derived.Test.YtlcaogiljiieaaaQNarwx5
set_option linter.unusedVariables false
set_option linter.unusedSimpArgs false
/- What the reference answers of names and paths: plain laws, no walk. -/
namespace Go.Proofs.YtlcaogiljiieaaaX
open Go.RowKit Go.Proofs.Ytlcaogiljiieaaa.PNarw Go.Proofs.YtlcaogiljiieaaaW.PrintWords Go.Proofs.YtlcaogiljiieaaaW.PrintLast Go.Proofs.YtlcaogiljiieaaaW.PrintMore
theorem u8_zero (x : UInt8) : ((x.toNat : Int) = 0) ↔ x = 0 := by
  constructor
  · intro h; exact UInt8.toNat_inj.1 (by show x.toNat = 0; omega)
  · rintro rfl; rfl
theorem u8_slash (x : UInt8) : ((x.toNat : Int) = 47) ↔ x = 47 := by
  constructor
  · intro h; exact UInt8.toNat_inj.1 (by show x.toNat = 47; omega)
  · rintro rfl; rfl
theorem no_any (l : List UInt8) : Lib.containsAny l [0, 47] = true ↔ ∃ x ∈ l, x = 0 ∨ x = 47 := by
  unfold Lib.containsAny
  induction l with
  | nil => simp [Lib.indexAny]
  | cons b l ih =>
    have hge := Lib.indexAny_ge [0, 47] l
    unfold Lib.indexAny
    by_cases hb : ([0, 47] : List UInt8).contains b = true
    · rw [if_pos hb]
      have : b = 0 ∨ b = 47 := by simpa using hb
      simp [this]
    · rw [if_neg hb]
      have hb' : ¬ (b = 0 ∨ b = 47) := by simpa using hb
      by_cases h1 : Lib.indexAny l [0, 47] = -1
      · rw [h1] at ih
        simp at ih
        simp [h1, hb', ih]
        exact fun x hx => ih x hx
      · have h2 : 0 ≤ Lib.indexAny l [0, 47] := by omega
        have h3 := ih.1 (decide_eq_true h2)
        obtain ⟨x, hx, hxx⟩ := h3
        have e : (Lib.indexAny l [0, 47] == -1) = false := by simp [h1]
        rw [e]
        constructor
        · intro _
          exact ⟨x, List.mem_cons_of_mem _ hx, hxx⟩
        · intro _
          simp
          omega
theorem name_iff (s : ByteArray) : nameB s = true ↔ s.size ≥ 1 ∧ s.size ≤ 64 ∧ ∀ x ∈ s.data.toList, x ≠ 0 ∧ x ≠ 47 := by
  have e : Lib.containsAny s.data.toList [0, 47] = false ↔ ∀ x ∈ s.data.toList, x ≠ 0 ∧ x ≠ 47 := by
    rw [← Bool.not_eq_true, no_any]
    constructor
    · intro h x hx
      exact ⟨fun h0 => h ⟨x, hx, Or.inl h0⟩, fun h0 => h ⟨x, hx, Or.inr h0⟩⟩
    · rintro h ⟨x, hx, h0 | h0⟩
      · exact (h x hx).1 h0
      · exact (h x hx).2 h0
  unfold nameB
  rw [ba_toList, Bool.and_eq_true, Bool.and_eq_true, Bool.not_eq_true', Bool.not_eq_true', e, decide_eq_true_iff, ba_size]
  cases s.data.toList with
  | nil => simp
  | cons a l => simp; intro _; omega
theorem ev_name11 (s : ByteArray) (hs : s.size ≤ 1000000) : Ev (fun k => chandleryref11_Name.f k s) (nameB s) := by
  have hsz := ba_size s
  have hgo : ∀ i, i < s.size → (∀ h : i < s.data.toList.length, s.data.toList[i] ≠ 0 ∧ s.data.toList[i] ≠ 47) → ∀ k, chandleryref11_Name.l0 (k + 1) s (i : Int) = chandleryref11_Name.l0 k s ((i + 1 : Nat) : Int) := by
    intro i hi ok k
    obtain ⟨h0, h1⟩ := ok (by omega)
    rw [chandleryref11_Name.l0, if_pos (by omega), if_pos (by omega), bt_list s i (by omega), if_neg (fun h => h0 ((u8_zero _).1 h)), if_neg (fun h => h1 ((u8_slash _).1 h)), w1 hi (by omega)]
  have hbad : ∀ i, i < s.size → (¬ ∀ h : i < s.data.toList.length, s.data.toList[i] ≠ 0 ∧ s.data.toList[i] ≠ 47) → ∀ k, chandleryref11_Name.l0 (k + 1) s (i : Int) = some false := by
    intro i hi no k
    rw [chandleryref11_Name.l0, if_pos (by omega), if_pos (by omega), bt_list s i (by omega)]
    by_cases h0 : s.data.toList[i]'(by omega) = 0
    · rw [if_pos ((u8_zero _).2 h0)]
    · rw [if_neg (fun h => h0 ((u8_zero _).1 h))]
      by_cases h1 : s.data.toList[i]'(by omega) = 47
      · rw [if_pos ((u8_slash _).2 h1)]
      · exact absurd (fun hh => ⟨h0, h1⟩) no
  have hend : Ev (fun k => chandleryref11_Name.l0 k s ((s.size : Nat) : Int)) (decide (s.size ≥ 1 ∧ s.size ≤ 64)) := by
    refine Ev.step (f := fun _ => some (decide (s.size ≥ 1 ∧ s.size ≤ 64))) (fun k => ?_) (Ev.now _)
    rw [chandleryref11_Name.l0, if_neg (by omega)]
    by_cases h1 : (s.size : Int) ≥ 1
    · rw [if_pos h1]
      congr 1
      rw [decide_eq_decide]
      exact ⟨fun h => ⟨by omega, by omega⟩, fun h => by omega⟩
    · rw [if_neg h1]
      congr 1
      symm
      rw [decide_eq_false_iff_not]
      exact fun h => h1 (by omega)
  rcases ev_all (fun i k => chandleryref11_Name.l0 k s (i : Int)) s.size (fun i => ∀ h : i < s.data.toList.length, s.data.toList[i] ≠ 0 ∧ s.data.toList[i] ≠ 47) (bad := false) hgo hbad hend with ⟨hall, h⟩ | ⟨⟨j, hj, hno⟩, h⟩
  · have hb : nameB s = decide (s.size ≥ 1 ∧ s.size ≤ 64) := by
      rw [Bool.eq_iff_iff, name_iff, decide_eq_true_iff]
      refine ⟨fun h => ⟨h.1, h.2.1⟩, fun h => ⟨h.1, h.2, fun x hx => ?_⟩⟩
      obtain ⟨i, hi, rfl⟩ := List.mem_iff_getElem.1 hx
      exact hall i (by omega) hi
    rw [hb]
    exact h
  · have hb : nameB s = false := by
      rw [← Bool.not_eq_true, name_iff]
      rintro ⟨_, _, h2⟩
      exact hno fun hh => h2 _ (List.getElem_mem hh)
    rw [hb]
    exact h
theorem ev_name14 (s : ByteArray) (hs : s.size ≤ 1000000) : Ev (fun k => chandleryref14_Name.f k s) (namedB s) := by
  refine Ev.bind (ev_name11 s hs) ?_
  unfold namedB
  cases nameB s
  · exact Ev.congr (fun k => if_neg (by decide)) (Ev.now _)
  · refine Ev.congr (fun k => if_pos rfl) ?_
    by_cases h : s.toList = [46]
    · refine Ev.congr (fun k => if_pos h) ?_
      rw [h]
      exact Ev.now _
    · refine Ev.congr (fun k => if_neg h) ?_
      rw [show (s.toList != [46]) = true from bne_iff_ne.2 h]
      exact Ev.now _
/-- What the reference answers of a path that is not too long. -/
def pathR (s : ByteArray) : List ByteArray × Bool := if (pathNames s).all namedB = true then (pathNames s, true) else ([], false)
theorem path_loop (s : ByteArray) (hs : s.size ≤ 1000) : ∀ n i fr : Nat, ∀ out : List ByteArray, n + i = s.size → fr ≤ i → (47 : UInt8) ∉ (s.data.toList.drop fr).take (i - fr) → out.length ≤ i →
    Ev (fun k => chandleryref15_Path.l0 k s out (fr : Int) (i : Int)) (if ((parts (s.data.toList.drop fr)).map ba).all namedB = true then (out ++ (parts (s.data.toList.drop fr)).map ba, true) else ([], false))
  | 0, i, fr, out, hi, hf, hno, ho => by
    have hsz := ba_size s
    have hi : i = s.size := by omega
    subst hi
    have hp : parts (s.data.toList.drop fr) = [s.data.toList.drop fr] := parts_noslash _ (by rwa [List.take_of_length_le (by rw [List.length_drop]; omega)] at hno)
    have hx : s.extract fr s.size = ba (s.data.toList.drop fr) := ba_ext (by rw [ba_extract, List.take_of_length_le (by rw [List.length_drop]; omega)]; rfl)
    refine Ev.step (f := fun k => chandleryref15_Path.j1 k s out (fr : Int) ((s.size : Nat) : Int) false) (fun k => by rw [chandleryref15_Path.l0, if_pos (by omega), if_neg (by omega)]) ?_
    rw [hp]
    refine Ev.step (f := fun k => (chandleryref14_Name.f k (ba (s.data.toList.drop fr))).bind fun t107 => (if t107 = true then (if out.length < 8796093022208 then (chandleryref15_Path.l0 k s (out ++ [ba (s.data.toList.drop fr)]) (wrap64 (((s.size : Nat) : Int) + 1)) (wrap64 (((s.size : Nat) : Int) + 1))) else (none)) else (some (([] : List ByteArray), false)))) (fun k => by
      rw [chandleryref15_Path.j1, if_neg (by decide), if_pos (by omega), if_pos (by omega), if_pos (by omega), Int.toNat_natCast, Int.toNat_natCast, hx]) ?_
    refine Ev.bind (ev_name14 _ (by rw [ba_size]; show (s.data.toList.drop fr).length ≤ _; rw [List.length_drop]; omega)) ?_
    cases hn : namedB (ba (s.data.toList.drop fr))
    · refine Ev.congr (fun k => if_neg (by decide)) ?_
      simp only [List.map_cons, List.map_nil, List.all_cons, hn, Bool.false_and]
      exact Ev.now _
    · refine Ev.congr (fun k => if_pos rfl) ?_
      refine Ev.congr (fun k => if_pos (by omega)) ?_
      simp only [List.map_cons, List.map_nil, List.all_cons, hn, List.all_nil, Bool.and_self, if_true]
      refine Ev.step (f := fun _ => some (out ++ [ba (s.data.toList.drop fr)], true)) (fun k => ?_) (Ev.now _)
      rw [chandleryref15_Path.l0, w64 (by omega) (by omega), if_neg (by omega), decide_eq_true (by omega)]
  | n + 1, i, fr, out, hi, hf, hno, ho => by
    have hsz := ba_size s
    have hlt : i < s.data.toList.length := by omega
    refine Ev.step (f := fun k => chandleryref15_Path.j1 k s out (fr : Int) (i : Int) (((s.data.toList[i]).toNat : Int) != 47)) (fun k => by rw [chandleryref15_Path.l0, if_pos (by omega), if_pos (by omega), if_pos (by omega), bt_list s i hlt]) ?_
    have hsplit : s.data.toList.drop fr = (s.data.toList.drop fr).take (i - fr) ++ s.data.toList[i] :: s.data.toList.drop (i + 1) := by
      rw [← List.drop_eq_getElem_cons hlt]
      conv => lhs; rw [← List.take_append_drop (i - fr) (s.data.toList.drop fr)]
      rw [List.drop_drop, show fr + (i - fr) = i by omega]
    by_cases h47 : s.data.toList[i] = 47
    · rw [show (((s.data.toList[i]).toNat : Int) != 47) = false by rw [h47]; rfl]
      have hp : parts (s.data.toList.drop fr) = (s.data.toList.drop fr).take (i - fr) :: parts (s.data.toList.drop (i + 1)) := by
        rw [h47] at hsplit
        conv => lhs; rw [hsplit]
        exact parts_split _ _ hno
      have hx : s.extract fr i = ba ((s.data.toList.drop fr).take (i - fr)) := ba_ext (by rw [ba_extract]; rfl)
      refine Ev.step (f := fun k => (chandleryref14_Name.f k (ba ((s.data.toList.drop fr).take (i - fr)))).bind fun t107 => (if t107 = true then (if out.length < 8796093022208 then (chandleryref15_Path.l0 k s (out ++ [ba ((s.data.toList.drop fr).take (i - fr))]) (wrap64 ((i : Int) + 1)) (wrap64 ((i : Int) + 1))) else (none)) else (some (([] : List ByteArray), false)))) (fun k => by
        rw [chandleryref15_Path.j1, if_neg (by decide), if_pos (by omega), if_pos (by omega), if_pos (by omega), Int.toNat_natCast, Int.toNat_natCast, hx]) ?_
      refine Ev.bind (ev_name14 _ (by rw [ba_size]; show ((s.data.toList.drop fr).take (i - fr)).length ≤ _; rw [List.length_take, List.length_drop]; omega)) ?_
      rw [hp]
      cases hn : namedB (ba ((s.data.toList.drop fr).take (i - fr)))
      · refine Ev.congr (fun k => if_neg (by decide)) ?_
        simp only [List.map_cons, List.all_cons, hn, Bool.false_and]
        exact Ev.now _
      · refine Ev.congr (fun k => if_pos rfl) ?_
        refine Ev.congr (fun k => if_pos (by omega)) ?_
        have ih := path_loop s hs n (i + 1) (i + 1) (out ++ [ba ((s.data.toList.drop fr).take (i - fr))]) (by omega) (by omega) (by simp) (by simp; omega)
        simp only [List.map_cons, List.all_cons, hn, Bool.true_and]
        rw [w64 (by omega) (by omega)]
        rw [List.append_assoc] at ih
        exact ih
    · rw [show (((s.data.toList[i]).toNat : Int) != 47) = true from bne_iff_ne.2 fun h => h47 ((u8_slash _).1 h)]
      refine Ev.step (f := fun k => chandleryref15_Path.l0 k s out (fr : Int) ((i + 1 : Nat) : Int)) (fun k => by rw [chandleryref15_Path.j1, if_pos rfl, w64 (by omega) (by omega)]; rfl) ?_
      refine path_loop s hs n (i + 1) fr out (by omega) (by omega) (fun h => ?_) (by omega)
      rw [show i + 1 - fr = (i - fr) + 1 by omega, List.take_add_one, List.getElem?_drop, show fr + (i - fr) = i by omega, List.getElem?_eq_getElem hlt] at h
      rcases List.mem_append.1 h with h | h
      · exact hno h
      · have e : (47 : UInt8) = s.data.toList[i] := by simpa using h
        exact h47 e.symm
theorem ev_path (s : ByteArray) (hs : s.size ≤ 1000) : Ev (fun k => chandleryref15_Path.f k s) (pathR s) := by
  unfold pathR pathNames
  by_cases h : s.toList = []
  · rw [if_pos h]
    exact Ev.congr (fun k => if_pos h) (Ev.now _)
  · rw [if_neg h]
    refine Ev.congr (fun k => if_neg h) ?_
    have := path_loop s hs s.size 0 0 [] (by omega) (by omega) (by simp) (by simp)
    simpa [piecesB] using this
end Go.Proofs.YtlcaogiljiieaaaX
/- What the reference and the program answer of two paths' order, and of a path's directory: plain laws, no walk. -/
namespace Go.Proofs.YtlcaogiljiieaaaX
open Go.RowKit Go.Proofs.Ytlcaogiljiieaaa.PNarw Go.Proofs.YtlcaogiljiieaaaW.PrintWords Go.Proofs.YtlcaogiljiieaaaW.PrintLast Go.Proofs.YtlcaogiljiieaaaW.PrintMore
theorem bl_eq : ∀ x y : List UInt8, Op.bytesLess x y = bl x y
  | x, [] => by cases x <;> rfl
  | [], _ :: _ => rfl
  | a :: x, b :: y => by
    rw [Op.bytesLess, bl_eq x y]
    rfl
def nmB (l : List ByteArray) : Nm := l.map fun s => s.data.toList
theorem nmB_path (s : ByteArray) : nmB (pathNames s) = pnames s.data.toList := by
  unfold nmB pathNames pnames piecesB
  rw [ba_toList]
  by_cases h : s.data.toList = []
  · rw [if_pos h, if_pos h]; rfl
  · rw [if_neg h, if_neg h, List.map_map]
    conv => rhs; rw [← List.map_id (parts s.data.toList)]
    rfl
theorem rdB_at (l : List ByteArray) (i : Nat) (hi : i < l.length) : rdOf ByteArray.empty l (i : Int) = l[i] := by
  unfold rdOf
  rw [Int.toNat_natCast, List.getD_eq_getElem?_getD, List.getElem?_eq_getElem hi]
  rfl
theorem nlt_same (a : List UInt8) (x y : Nm) : nlt (a :: x) (a :: y) = nlt x y := by
  show (bl a a || (a == a && nlt x y)) = nlt x y
  rw [bl_ord.irr]
  simp
theorem nlt_diff {a b : List UInt8} (h : a ≠ b) (x y : Nm) : nlt (a :: x) (b :: y) = bl a b := by
  show (bl a b || (a == b && nlt x y)) = bl a b
  rw [show (a == b) = false from beq_eq_false_iff_ne.2 h]
  simp
theorem nlt_none (x : Nm) : nlt x [] = false := by cases x <;> rfl
theorem nmB_at {l : List ByteArray} {i : Nat} (hi : i < l.length) : nmB (l.drop i) = l[i].data.toList :: nmB (l.drop (i + 1)) := by
  unfold nmB
  rw [List.drop_eq_getElem_cons hi]
  rfl
theorem nmB_end {l : List ByteArray} {i : Nat} (hi : l.length ≤ i) : nmB (l.drop i) = [] := by
  unfold nmB
  rw [List.drop_of_length_le hi]
  rfl
theorem ahead_loop (x y : List ByteArray) (hx : x.length ≤ 1000000) (hy : y.length ≤ 1000000) : ∀ n i : Nat, n + i = x.length → i ≤ y.length → Ev (fun k => chandleryref16_Ahead.l0 k x y (i : Int)) (nlt (nmB (x.drop i)) (nmB (y.drop i)))
  | 0, i, hi, hl => by
    refine Ev.step (f := fun k => chandleryref16_Ahead.j1 k x y (i : Int) false) (fun k => by rw [chandleryref16_Ahead.l0, if_neg (by omega)]) ?_
    refine Ev.step (f := fun k => some (decide ((x.length : Int) < (y.length : Int)))) (fun k => by rw [chandleryref16_Ahead.j1, if_neg (by decide)]) ?_
    rw [nmB_end (show x.length ≤ i by omega)]
    by_cases h : i < y.length
    · rw [nmB_at h, decide_eq_true (by omega)]
      exact Ev.now _
    · rw [nmB_end (show y.length ≤ i by omega), decide_eq_false (by omega)]
      exact Ev.now _
  | n + 1, i, hi, hl => by
    have hxi : i < x.length := by omega
    by_cases h : i < y.length
    · refine Ev.step (f := fun k => chandleryref16_Ahead.j1 k x y (i : Int) true) (fun k => by rw [chandleryref16_Ahead.l0, if_pos (by omega), decide_eq_true (by omega)]) ?_
      rw [nmB_at hxi, nmB_at h]
      by_cases he : x[i].data.toList = y[i].data.toList
      · refine Ev.step (f := fun k => chandleryref16_Ahead.l0 k x y ((i + 1 : Nat) : Int)) (fun k => by rw [chandleryref16_Ahead.j1, if_pos rfl, if_pos (by omega), if_pos (by omega), if_pos (by omega), rdB_at x i hxi, rdB_at y i h, ba_toList, ba_toList, if_pos he, w1 hxi (by omega)]) ?_
        rw [he, nlt_same]
        exact ahead_loop x y hx hy n (i + 1) (by omega) (by omega)
      · refine Ev.step (f := fun k => some (bl x[i].data.toList y[i].data.toList)) (fun k => by rw [chandleryref16_Ahead.j1, if_pos rfl, if_pos (by omega), if_pos (by omega), if_pos (by omega), rdB_at x i hxi, rdB_at y i h, ba_toList, ba_toList, if_neg he, bl_eq]) ?_
        rw [nlt_diff he]
        exact Ev.now _
    · refine Ev.step (f := fun k => chandleryref16_Ahead.j1 k x y (i : Int) false) (fun k => by rw [chandleryref16_Ahead.l0, if_pos (by omega), decide_eq_false (by omega)]) ?_
      refine Ev.step (f := fun k => some (decide ((x.length : Int) < (y.length : Int)))) (fun k => by rw [chandleryref16_Ahead.j1, if_neg (by decide)]) ?_
      rw [nmB_end (show y.length ≤ i by omega), nlt_none, decide_eq_false (by omega)]
      exact Ev.now _
theorem cmp_said (a b : ByteArray) : cmp_Compare_string.f a b = some (if bl a.data.toList b.data.toList = true then -1 else if bl b.data.toList a.data.toList = true then 1 else 0) := by
  have hn : ∀ s : ByteArray, cmp_isNaN_string.f s = some false := fun s => by unfold cmp_isNaN_string.f; simp
  unfold cmp_Compare_string.f
  rw [hn, hn, Option.bind_some, Option.bind_some, if_neg (by decide), if_neg (by decide), bl_eq, bl_eq, ba_toList, ba_toList]
  split
  · rfl
  · split <;> rfl
theorem compare_loop (x y : List ByteArray) (hx : x.length ≤ 1000000) (hy : y.length ≤ 1000000) : ∀ n i : Nat, n + i = x.length → i ≤ y.length → ∃ c, Ev (fun k => slices_Compare_string_string.l0 k x y x (x.length : Int) (i : Int)) c ∧ decide (c < 0) = nlt (nmB (x.drop i)) (nmB (y.drop i))
  | 0, i, hi, hl => by
    rw [nmB_end (show x.length ≤ i by omega)]
    by_cases h : i < y.length
    · refine ⟨-1, Ev.step (f := fun k => some (-1)) (fun k => by rw [slices_Compare_string_string.l0, if_neg (by omega), if_pos (by omega)]) (Ev.now _), ?_⟩
      rw [nmB_at h]
      rfl
    · refine ⟨0, Ev.step (f := fun k => some 0) (fun k => by rw [slices_Compare_string_string.l0, if_neg (by omega), if_neg (by omega)]) (Ev.now _), ?_⟩
      rw [nmB_end (show y.length ≤ i by omega)]
      rfl
  | n + 1, i, hi, hl => by
    have hxi : i < x.length := by omega
    by_cases h : i < y.length
    · have hs : ∀ k, slices_Compare_string_string.l0 (k + 1) x y x (x.length : Int) (i : Int) = (fun t137 : Int => if t137 = 0 then (slices_Compare_string_string.l0 k x y x (x.length : Int) ((i + 1 : Nat) : Int)) else (some t137)) (if bl x[i].data.toList y[i].data.toList = true then -1 else if bl y[i].data.toList x[i].data.toList = true then 1 else 0) := fun k => by
        rw [slices_Compare_string_string.l0, if_pos (by omega), if_pos (by omega), if_pos (by omega), if_neg (by omega), if_pos (by omega), rdB_at x i hxi, rdB_at y i h, cmp_said, Option.bind_some, w1 hxi (by omega)]
      rw [nmB_at hxi, nmB_at h]
      by_cases he : x[i].data.toList = y[i].data.toList
      · obtain ⟨c, hc, hd⟩ := compare_loop x y hx hy n (i + 1) (by omega) (by omega)
        refine ⟨c, Ev.step (fun k => ?_) hc, ?_⟩
        · rw [hs, he, bl_ord.irr]
          rfl
        · rw [he, nlt_same]
          exact hd
      · rw [nlt_diff he]
        cases h1 : bl x[i].data.toList y[i].data.toList
        · have h2 : bl y[i].data.toList x[i].data.toList = true := by
            cases h2 : bl y[i].data.toList x[i].data.toList
            · exact absurd (bl_ord.tot _ _ h1 h2) he
            · rfl
          refine ⟨1, Ev.step (f := fun _ => some 1) (fun k => ?_) (Ev.now _), rfl⟩
          rw [hs, h1, h2]
          rfl
        · refine ⟨-1, Ev.step (f := fun _ => some (-1)) (fun k => ?_) (Ev.now _), rfl⟩
          rw [hs, h1]
          rfl
    · refine ⟨1, Ev.step (f := fun _ => some 1) (fun k => ?_) (Ev.now _), ?_⟩
      · rw [slices_Compare_string_string.l0, if_pos (by omega), if_pos (by omega), if_pos (by omega), if_pos (by omega)]
      · rw [nmB_end (show y.length ≤ i by omega), nlt_none]
        rfl
theorem ev_parent (s : ByteArray) (hs : s.size ≤ 1000000) : Ev (fun k => chandleryref16_Parent.f k s) (aboveB s) := by
  have hsz := ba_size s
  have main : ∀ n : Nat, n ≤ s.size → Ev (fun k => chandleryref16_Parent.l0 k s ((n : Int) - 1)) (s.extract 0 (max (Lib.lastIdx s 47 n) 0).toNat) := by
    intro n
    induction n with
    | zero =>
      intro _
      refine Ev.step (f := fun _ => some (⟨#[]⟩ : ByteArray)) (fun k => by rw [chandleryref16_Parent.l0, if_neg (by omega)]) ?_
      have : s.extract 0 (max (Lib.lastIdx s 47 0) 0).toNat = ⟨#[]⟩ := ba_ext (by rw [ba_extract]; rfl)
      rw [this]
      exact Ev.now _
    | succ n ih =>
      intro hn
      have hlt : n < s.data.toList.length := by omega
      have hb : ((s.data[n]!).toNat : Int) = ((s.data.toList[n]).toNat : Int) := by
        rw [getElem!_pos s.data n (by rw [Array.length_toList] at hlt; exact hlt), Array.getElem_toList]
      have hbt := bt_list s n hlt
      rw [show (((n + 1 : Nat) : Int) - 1) = (n : Int) by omega, Lib.lastIdx, hb]
      by_cases h : ((s.data.toList[n]).toNat : Int) = 47
      · rw [if_pos h]
        refine Ev.step (f := fun _ => some (s.extract 0 n)) (fun k => ?_) ?_
        · rw [chandleryref16_Parent.l0, if_pos (by omega), if_pos (by omega), if_pos (by omega), hbt, if_pos h, if_pos (by omega), Int.toNat_natCast]
        · rw [show (max (n : Int) 0).toNat = n by omega]
          exact Ev.now _
      · rw [if_neg h]
        refine Ev.step (fun k => ?_) (ih (by omega))
        rw [chandleryref16_Parent.l0, if_pos (by omega), if_pos (by omega), if_pos (by omega), hbt, if_neg h, w64 (by omega) (by omega)]
  unfold aboveB lastB Lib.lastIndexByte
  refine Ev.congr (fun k => ?_) (main s.size (Nat.le_refl _))
  unfold chandleryref16_Parent.f
  rw [w64 (by omega) (by omega)]
end Go.Proofs.YtlcaogiljiieaaaX
/- What both Checks answer of entries of no long paths, and that what passes is a tree: plain laws, no walk. -/
namespace Go.Proofs.YtlcaogiljiieaaaX
open Go.RowKit Go.Proofs.Ytlcaogiljiieaaa.PNarw Go.Proofs.YtlcaogiljiieaaaW.PrintWords Go.Proofs.YtlcaogiljiieaaaW.PrintLast Go.Proofs.YtlcaogiljiieaaaW.PrintMore
def kindOK (k : Int) (x : Bool) (d : ByteArray) : Bool := if k = 1 then decide ((d.size : Int) ≤ 65536) else if k = 2 then (if x = true then false else d.toList == []) else if k = 3 then (if x = true then false else if (d.size : Int) ≥ 1 then decide ((d.size : Int) ≤ 40) else false) else false
theorem kind_said (k : Int) (x : Bool) (d : ByteArray) : (if k = 1 then (some (decide ((d.size : Int) ≤ 65536))) else (if k = 2 then (if x = true then (some false) else (some (d.toList == ([] : List UInt8)))) else (if k = 3 then (if x = true then (some false) else (if (d.size : Int) ≥ 1 then (some (decide ((d.size : Int) ≤ 40))) else (some false))) else (some false)))) = some (kindOK k x d) := by
  unfold kindOK
  by_cases h1 : k = 1
  · rw [if_pos h1, if_pos h1]
  · rw [if_neg h1, if_neg h1]
    by_cases h2 : k = 2
    · rw [if_pos h2, if_pos h2]
      cases x <;> rfl
    · rw [if_neg h2, if_neg h2]
      by_cases h3 : k = 3
      · rw [if_pos h3, if_pos h3]
        cases x
        · show (if (d.size : Int) ≥ 1 then (some (decide ((d.size : Int) ≤ 40))) else (some false)) = some (if (d.size : Int) ≥ 1 then decide ((d.size : Int) ≤ 40) else false)
          split <;> rfl
        · rfl
      · rw [if_neg h3, if_neg h3]
def entOK (e : S27) : Bool := (pathNames e.f0).all namedB && kindOK e.f1 e.f2 e.f3
theorem ev_entry (e : S27) (hs : e.f0.size ≤ 1000) : Ev (fun k => chandleryref16_Entry.f k e.f0 e.f1 e.f2 e.f3) (entOK e) := by
  have h1 := ev_path e.f0 hs
  unfold pathR at h1
  unfold entOK
  cases h : (pathNames e.f0).all namedB
  · rw [h, if_neg Bool.false_ne_true] at h1
    exact Ev.bind h1 (Ev.congr (fun k => if_neg Bool.false_ne_true) (Ev.now _))
  · rw [h, if_pos rfl] at h1
    refine Ev.bind h1 (Ev.congr (fun k => if_pos rfl) ?_)
    rw [kind_said]
    exact Ev.now _
theorem path_said (s : ByteArray) (hs : s.size ≤ 1000) : fsys_Path.f s = some (if (pathNames s).all namedB = true then (pathNames s, 0) else ([], 1)) := by
  unfold fsys_Path.f pathF
  rw [if_pos (by omega)]
  by_cases h : (pathNames s).all namedB = true
  · rw [if_pos ⟨h, .inr hs⟩, if_pos h]
  · rw [if_neg (fun q => h q.1), if_neg h]
theorem may_said (e : S27) (hs : e.f0.size ≤ 1000) : tree_may.f e.f0 e.f1 e.f2 e.f3 = some (entOK e) := by
  unfold tree_may.f entOK
  rw [path_said e.f0 hs, Option.bind_some]
  cases (pathNames e.f0).all namedB
  · rfl
  · rw [if_pos rfl, if_pos rfl, kind_said]
    rfl
abbrev pnm (e : S27) : Nm := pnames e.f0.data.toList
theorem names_len (s : ByteArray) (hs : s.size ≤ 1000) : (pathNames s).length ≤ 1000000 := by have := pathNames_le s; omega
theorem ev_ahead (a b : ByteArray) (ha : a.size ≤ 1000) (hb : b.size ≤ 1000) (na : (pathNames a).all namedB = true) (nb : (pathNames b).all namedB = true) : Ev (fun k => chandleryref16_Ahead.f k a b) (nlt (pnames a.data.toList) (pnames b.data.toList)) := by
  have h1 := ev_path a ha
  have h2 := ev_path b hb
  unfold pathR at h1 h2
  rw [if_pos na] at h1
  rw [if_pos nb] at h2
  refine Ev.bind h1 (Ev.bind h2 ?_)
  have := ahead_loop (pathNames a) (pathNames b) (names_len a ha) (names_len b hb) _ 0 rfl (by omega)
  rw [List.drop_zero, List.drop_zero, nmB_path, nmB_path] at this
  exact this
theorem ev_compare (d e : S27) (ha : d.f0.size ≤ 1000) (hb : e.f0.size ≤ 1000) (na : (pathNames d.f0).all namedB = true) (nb : (pathNames e.f0).all namedB = true) : ∃ c, Ev (fun k => tree_compare.f k d.f0 d.f1 d.f2 d.f3 e.f0 e.f1 e.f2 e.f3) c ∧ decide (c < 0) = nlt (pnm d) (pnm e) := by
  obtain ⟨c, hc, hd⟩ := compare_loop (pathNames d.f0) (pathNames e.f0) (names_len _ ha) (names_len _ hb) _ 0 rfl (by omega)
  rw [List.drop_zero, List.drop_zero, nmB_path, nmB_path] at hd
  refine ⟨c, ?_, hd⟩
  refine Ev.congr (fun k => ?_) hc
  unfold tree_compare.f
  rw [path_said _ ha, path_said _ hb, if_pos na, if_pos nb, Option.bind_some, Option.bind_some]
  show (slices_Compare_string_string.f k (pathNames d.f0) (pathNames e.f0)).bind _ = _
  unfold slices_Compare_string_string.f
  cases slices_Compare_string_string.l0 k (pathNames d.f0) (pathNames e.f0) (pathNames d.f0) ((pathNames d.f0).length : Int) 0 <;> rfl
theorem rd27_at (l : List S27) (i : Nat) (hi : i < l.length) : rd_T27 l (i : Int) = l[i] := by
  unfold rd_T27
  rw [Int.toNat_natCast, List.getD_eq_getElem?_getD, List.getElem?_eq_getElem hi]
  rfl
def foundR : Option S27 → ByteArray × Int × Bool × ByteArray × Bool
  | some e => (e.f0, e.f1, e.f2, e.f3, true)
  | none => (⟨#[]⟩, 0, false, ⟨#[]⟩, false)
def findR (l : List S27) (p : ByteArray) : Option S27 := l.find? fun e => e.f0.data.toList == p.data.toList
theorem find_loop (l : List S27) (p : ByteArray) (hl : l.length ≤ 1000000) : ∀ n i : Nat, n + i = l.length → Ev (fun k => chandleryref16_Find.l0 k l p (i : Int)) (foundR (findR (l.drop i) p))
  | 0, i, hi => by
    rw [List.drop_of_length_le (by omega)]
    exact Ev.step (f := fun _ => some _) (fun k => by rw [chandleryref16_Find.l0, if_neg (by omega)]; rfl) (Ev.now _)
  | n + 1, i, hi => by
    have hlt : i < l.length := by omega
    rw [List.drop_eq_getElem_cons hlt]
    unfold findR
    by_cases h : l[i].f0.data.toList = p.data.toList
    · have e : (l[i].f0.data.toList == p.data.toList) = true := beq_iff_eq.2 h
      simp only [List.find?_cons, e]
      exact Ev.step (f := fun _ => some _) (fun k => by rw [chandleryref16_Find.l0, if_pos (by omega), if_pos (by omega), rd27_at l i hlt, ba_toList, ba_toList, if_pos h]; rfl) (Ev.now _)
    · have e : (l[i].f0.data.toList == p.data.toList) = false := beq_eq_false_iff_ne.2 h
      simp only [List.find?_cons, e]
      exact Ev.step (fun k => by rw [chandleryref16_Find.l0, if_pos (by omega), if_pos (by omega), rd27_at l i hlt, ba_toList, ba_toList, if_neg h, w1 hlt (by omega)]) (find_loop l p hl n (i + 1) (by omega))
theorem ev_find (l : List S27) (p : ByteArray) (hl : l.length ≤ 1000000) : Ev (fun k => chandleryref16_Find.f k l p) (foundR (findR l p)) := find_loop l p hl _ 0 rfl
def dirIn (pre : List S27) (p : ByteArray) : Bool := pre.any fun d => decide (d.f1 = 2) && d.f0.data.toList == p.data.toList
def stepOK (pre : List S27) (e : S27) : Bool := entOK e && (match pre.getLast? with
  | none => true
  | some d => dirIn pre (aboveB e.f0) && nlt (pnm d) (pnm e))
def specGo : List S27 → List S27 → Int
  | _, [] => 0
  | pre, e :: l => if stepOK pre e = true then specGo (pre ++ [e]) l else 1
def spec (l : List S27) : Int := if 256 < l.length then 2 else match l with
  | [] => 1
  | e :: l => if e.f0.data.toList = [] then specGo [] (e :: l) else 1
theorem ok_named {e : S27} (h : entOK e = true) : (pathNames e.f0).all namedB = true := by
  unfold entOK at h
  rw [Bool.and_eq_true] at h
  exact h.1
theorem step_ent {pre : List S27} {e : S27} (h : stepOK pre e = true) : entOK e = true := by
  unfold stepOK at h
  rw [Bool.and_eq_true] at h
  exact h.1
theorem ev_treeGo : ∀ (l pre : List S27) (seen : List ByteArray), (∀ p : ByteArray, (seen.any fun q => q.data.toList == p.data.toList) = dirIn pre p) → (∀ e ∈ l, e.f0.size ≤ 1000) → (∀ d ∈ pre, d.f0.size ≤ 1000 ∧ entOK d = true) → Ev (fun k => tree_CheckGo k pre.getLast? seen l) (specGo pre l)
  | [], pre, seen, _, _, _ => Ev.now _
  | e :: l, pre, seen, hseen, hl, hp => by
    have hse := hl e List.mem_cons_self
    have hgo : stepOK pre e = true → Ev (fun k => tree_CheckGo k (some e) (if e.f1 = 2 then e.f0 :: seen else seen) l) (specGo (pre ++ [e]) l) := fun hs => by
      have := ev_treeGo l (pre ++ [e]) (if e.f1 = 2 then e.f0 :: seen else seen) (fun p => by
        unfold dirIn
        rw [List.any_append]
        have h0 := hseen p
        unfold dirIn at h0
        by_cases h2 : e.f1 = 2
        · rw [if_pos h2, List.any_cons, h0, List.any_cons, List.any_nil, decide_eq_true h2, Bool.true_and, Bool.or_false, Bool.or_comm]
        · rw [if_neg h2, h0, List.any_cons, List.any_nil, decide_eq_false h2, Bool.false_and, Bool.or_false, Bool.or_false])
        (fun x hx => hl x (List.mem_cons_of_mem _ hx)) (fun d hd => by
          rcases List.mem_append.1 hd with hd | hd
          · exact hp d hd
          · rw [List.mem_singleton.1 hd]
            exact ⟨hse, step_ent hs⟩)
      rwa [List.getLast?_concat] at this
    have hrow : ∀ k, tree_CheckGo k pre.getLast? seen (e :: l) = if entOK e = true then (match pre.getLast? with
      | none => some true
      | some d => if (seen.any fun q => q.data.toList == (aboveB e.f0).data.toList) = true then (tree_compare.f k d.f0 d.f1 d.f2 d.f3 e.f0 e.f1 e.f2 e.f3).bind fun c => some (decide (c < 0)) else some false).bind (fun ok => if ok = true then tree_CheckGo k (some e) (if e.f1 = 2 then e.f0 :: seen else seen) l else some 1) else some 1 := fun k => by
      show (if e.f0.size ≤ 1000000 then (tree_may.f e.f0 e.f1 e.f2 e.f3).bind _ else none) = _
      rw [if_pos (by omega), may_said e hse, Option.bind_some]
      rfl
    refine Ev.congr hrow ?_
    rw [specGo]
    cases hent : entOK e
    · have : stepOK pre e = false := by unfold stepOK; rw [hent]; rfl
      rw [this, if_neg Bool.false_ne_true]
      exact Ev.congr (fun k => if_neg Bool.false_ne_true) (Ev.now _)
    · refine Ev.congr (fun k => if_pos rfl) ?_
      have fin : ∀ b, stepOK pre e = b → Ev (fun k => if b = true then tree_CheckGo k (some e) (if e.f1 = 2 then e.f0 :: seen else seen) l else some 1) (if b = true then specGo (pre ++ [e]) l else 1) := fun b hb => by
        cases b
        · exact Ev.now _
        · exact hgo hb
      have hst : stepOK pre e = (match pre.getLast? with
        | none => true
        | some d => dirIn pre (aboveB e.f0) && nlt (pnm d) (pnm e)) := by unfold stepOK; rw [hent, Bool.true_and]
      refine Ev.bind (a := stepOK pre e) ?_ (fin _ rfl)
      cases hlast : pre.getLast? with
      | none =>
        rw [hlast] at hst
        rw [hst]
        exact Ev.now _
      | some d =>
        rw [hlast] at hst
        dsimp only at hst ⊢
        rw [hst, hseen]
        cases hd : dirIn pre (aboveB e.f0)
        · exact Ev.congr (fun k => if_neg Bool.false_ne_true) (Ev.now _)
        · refine Ev.congr (fun k => if_pos rfl) ?_
          obtain ⟨hds, hdo⟩ := hp d (List.mem_of_getLast? hlast)
          obtain ⟨c, hc, hcn⟩ := ev_compare d e hds hse (ok_named hdo) (ok_named hent)
          rw [Bool.true_and, ← hcn]
          exact Ev.bind hc (Ev.now _)
theorem ev_tree (l : List S27) (hl : ∀ e ∈ l, e.f0.size ≤ 1000) : Ev (fun k => tree_Check.f k l) (spec l) := by
  unfold spec
  by_cases h : 256 < l.length
  · rw [if_pos h]
    exact Ev.congr (fun k => if_pos h) (Ev.now _)
  · rw [if_neg h]
    refine Ev.congr (fun k => if_neg h) ?_
    cases l with
    | nil => exact Ev.now _
    | cons e l =>
      dsimp only
      by_cases he : e.f0.data.toList = []
      · rw [if_pos he]
        refine Ev.congr (fun k => if_pos he) ?_
        exact ev_treeGo (e :: l) [] [] (fun p => rfl) hl (by simp)
      · rw [if_neg he]
        exact Ev.congr (fun k => if_neg he) (Ev.now _)
end Go.Proofs.YtlcaogiljiieaaaX
/- The reference's Check answers alike, and what passes is a tree: plain laws, no walk. -/
namespace Go.Proofs.YtlcaogiljiieaaaX
open Go.RowKit Go.Proofs.Ytlcaogiljiieaaa.PNarw Go.Proofs.YtlcaogiljiieaaaW.PrintWords Go.Proofs.YtlcaogiljiieaaaW.PrintLast Go.Proofs.YtlcaogiljiieaaaW.PrintMore
def Sorted (l : List S27) : Prop := l.Pairwise fun a b => nlt (pnm a) (pnm b) = true
theorem pw_uniq : ∀ {l : List S27}, Sorted l → ∀ d ∈ l, ∀ x ∈ l, pnm d = pnm x → d = x
  | [], _, d, hd, _, _, _ => by cases hd
  | a :: l, h, d, hd, x, hx, he => by
    obtain ⟨h1, h2⟩ := List.pairwise_cons.1 h
    rcases List.mem_cons.1 hd with e1 | hd2
    · rcases List.mem_cons.1 hx with e2 | hx2
      · rw [e1, e2]
      · have := h1 x hx2
        rw [← e1, he, nlt_ord.irr] at this
        cases this
    · rcases List.mem_cons.1 hx with e2 | hx2
      · have := h1 d hd2
        rw [← e2, he, nlt_ord.irr] at this
        cases this
      · exact pw_uniq h2 d hd2 x hx2 he
theorem pw_last {l : List S27} {d : S27} (h : Sorted l) (hd : l.getLast? = some d) : ∀ x ∈ l, x = d ∨ nlt (pnm x) (pnm d) = true := by
  obtain ⟨m, rfl⟩ := List.getLast?_eq_some_iff.1 hd
  intro x hx
  rcases List.mem_append.1 hx with hx | hx
  · exact .inr ((List.pairwise_append.1 h).2.2 x hx d (by simp))
  · exact .inl (List.mem_singleton.1 hx)
theorem step_sorted {pre : List S27} {e : S27} (h : Sorted pre) (hs : stepOK pre e = true) : Sorted (pre ++ [e]) := by
  refine List.pairwise_append.2 ⟨h, List.pairwise_singleton _ _, fun x hx y hy => ?_⟩
  rw [List.mem_singleton.1 hy]
  unfold stepOK at hs
  rw [Bool.and_eq_true] at hs
  cases hl : pre.getLast? with
  | none => rw [List.getLast?_eq_none_iff.1 hl] at hx; cases hx
  | some d =>
    rw [hl] at hs
    have h2 := hs.2
    dsimp only at h2
    rw [Bool.and_eq_true] at h2
    rcases pw_last h hl x hx with rfl | h3
    · exact h2.2
    · exact nlt_ord.tr _ _ _ h3 h2.2
theorem dir_find {pre : List S27} (h : Sorted pre) (q : ByteArray) : dirIn pre q = decide ((foundR (findR pre q)).2.2.2.2 = true ∧ (foundR (findR pre q)).2.1 = 2) := by
  unfold dirIn findR
  cases hf : pre.find? (fun e => e.f0.data.toList == q.data.toList) with
  | none =>
    rw [show decide ((foundR none).2.2.2.2 = true ∧ (foundR none).2.1 = 2) = false by decide, List.any_eq_false]
    intro d hd
    have := List.find?_eq_none.1 hf d hd
    rw [Bool.and_eq_true]
    exact fun hc => this hc.2
  | some x =>
    have hx := List.mem_of_find?_eq_some hf
    have hp := List.find?_some hf
    rw [beq_iff_eq] at hp
    rw [Bool.eq_iff_iff, List.any_eq_true, decide_eq_true_iff]
    constructor
    · rintro ⟨d, hd, hc⟩
      rw [Bool.and_eq_true, decide_eq_true_iff, beq_iff_eq] at hc
      have : d = x := pw_uniq h d hd x hx (by unfold pnm; rw [hc.2, hp])
      subst this
      exact ⟨rfl, hc.1⟩
    · rintro ⟨_, h2⟩
      exact ⟨x, hx, by rw [Bool.and_eq_true, decide_eq_true_iff, beq_iff_eq]; exact ⟨h2, hp⟩⟩
theorem ev_refGo : ∀ (l pre all : List S27), all = pre ++ l → all.length ≤ 1000000 → (∀ e ∈ all, e.f0.size ≤ 1000) → (∀ d ∈ pre, entOK d = true) → Sorted pre → Ev (fun k => refCheckGo k all pre.getLast? pre.length l) (specGo pre l)
  | [], pre, all, _, _, _, _, _ => Ev.now _
  | e :: l, pre, all, hall, hlen, hl, hp, hsrt => by
    have hse := hl e (by rw [hall]; simp)
    have hgo : stepOK pre e = true → Ev (fun k => refCheckGo k all (some e) (pre.length + 1) l) (specGo (pre ++ [e]) l) := fun hs => by
      have := ev_refGo l (pre ++ [e]) all (by rw [hall]; simp) hlen hl (fun d hd => by
          rcases List.mem_append.1 hd with hd | hd
          · exact hp d hd
          · rw [List.mem_singleton.1 hd]
            exact step_ent hs) (step_sorted hsrt hs)
      rwa [List.getLast?_concat, List.length_append] at this
    rw [specGo]
    have fin : ∀ b, stepOK pre e = b → Ev (fun k => if b = true then refCheckGo k all (some e) (pre.length + 1) l else some 1) (if b = true then specGo (pre ++ [e]) l else 1) := fun b hb => by
      cases b
      · exact Ev.now _
      · exact hgo hb
    refine Ev.congr (f := fun k => (chandleryref16_Entry.f k e.f0 e.f1 e.f2 e.f3).bind fun b => if b = true then (match pre.getLast? with
      | none => some true
      | some d => (chandleryref16_Parent.f k e.f0).bind fun q => (chandleryref16_Find.f k (all.take pre.length) q).bind fun t => if t.2.2.2.2 = true ∧ t.2.1 = 2 then chandleryref16_Ahead.f k d.f0 e.f0 else some false).bind fun ok => if ok = true then refCheckGo k all (some e) (pre.length + 1) l else some 1 else some 1) (fun k => rfl) ?_
    refine Ev.bind (ev_entry e hse) ?_
    cases hent : entOK e
    · have : stepOK pre e = false := by unfold stepOK; rw [hent]; rfl
      rw [this, if_neg Bool.false_ne_true]
      exact Ev.congr (fun k => if_neg Bool.false_ne_true) (Ev.now _)
    · refine Ev.congr (fun k => if_pos rfl) ?_
      have hst : stepOK pre e = (match pre.getLast? with
        | none => true
        | some d => dirIn pre (aboveB e.f0) && nlt (pnm d) (pnm e)) := by unfold stepOK; rw [hent, Bool.true_and]; try rfl
      refine Ev.bind (a := stepOK pre e) ?_ (fin _ rfl)
      cases hlast : pre.getLast? with
      | none =>
        rw [hlast] at hst
        rw [hst]
        exact Ev.now _
      | some d =>
        rw [hlast] at hst
        dsimp only at hst ⊢
        have hd := List.mem_of_getLast? hlast
        have htake : all.take pre.length = pre := by rw [hall]; simp
        rw [hst, dir_find hsrt]
        refine Ev.bind (ev_parent e.f0 (by omega)) ?_
        rw [htake]
        refine Ev.bind (ev_find pre _ (by rw [hall, List.length_append] at hlen; omega)) ?_
        by_cases hc : (foundR (findR pre (aboveB e.f0))).2.2.2.2 = true ∧ (foundR (findR pre (aboveB e.f0))).2.1 = 2
        · refine Ev.congr (fun k => if_pos hc) ?_
          rw [decide_eq_true hc, Bool.true_and]
          exact ev_ahead d.f0 e.f0 (hl d (by rw [hall]; simp [hd])) hse (ok_named (hp d hd)) (ok_named hent)
        · refine Ev.congr (fun k => if_neg hc) ?_
          rw [decide_eq_false hc, Bool.false_and]
          exact Ev.now _
theorem ev_ref (l : List S27) (hl : ∀ e ∈ l, e.f0.size ≤ 1000) : Ev (fun k => chandleryref16_Check.f k l) (spec l) := by
  unfold spec
  by_cases h : 256 < l.length
  · rw [if_pos h]
    exact Ev.congr (fun k => if_pos h) (Ev.now _)
  · rw [if_neg h]
    refine Ev.congr (fun k => if_neg h) ?_
    cases l with
    | nil => exact Ev.now _
    | cons e l =>
      dsimp only
      by_cases he : e.f0.data.toList = []
      · rw [if_pos he]
        refine Ev.congr (fun k => if_pos he) ?_
        exact ev_refGo (e :: l) [] (e :: l) rfl (by omega) hl (by simp) List.Pairwise.nil
      · rw [if_neg he]
        exact Ev.congr (fun k => if_neg he) (Ev.now _)
theorem kind_three {k : Int} {x : Bool} {d : ByteArray} (h : kindOK k x d = true) : k = 1 ∨ k = 2 ∨ k = 3 := by
  unfold kindOK at h
  by_cases h1 : k = 1
  · exact .inl h1
  · rw [if_neg h1] at h
    by_cases h2 : k = 2
    · exact .inr (.inl h2)
    · rw [if_neg h2] at h
      by_cases h3 : k = 3
      · exact .inr (.inr h3)
      · rw [if_neg h3] at h
        cases h
theorem named_ne {s : ByteArray} (h : namedB s = true) : s.data.toList ≠ [] := by
  unfold namedB at h
  rw [Bool.and_eq_true, name_iff, ba_size] at h
  intro hc
  rw [hc] at h
  simp at h
theorem above_names {s : ByteArray} (hs : s.data.toList ≠ []) (hn : (pathNames s).all namedB = true) : pnames (aboveB s).data.toList = (pnames s.data.toList).dropLast := by
  have hp : pnames s.data.toList = parts s.data.toList := by unfold pnames; rw [if_neg hs]
  have hsz := ba_size s
  have hat : ∀ j, (hj : j < s.data.toList.length) → ((s.data[j]!).toNat : Int) = ((s.data.toList[j]).toNat : Int) := fun j hj => by
    rw [getElem!_pos s.data j (by rw [Array.length_toList] at hj; exact hj), Array.getElem_toList]
  rw [hp]
  rcases Lib.lastIndexByte_spec s 47 with ⟨e, hno⟩ | ⟨i, hi, e, hc, hno⟩
  · have h0 : (aboveB s).data.toList = [] := by
      unfold aboveB lastB
      rw [e, ba_extract]
      rfl
    have h1 : (47 : UInt8) ∉ s.data.toList := by
      intro hm
      obtain ⟨j, hj, he⟩ := List.mem_iff_getElem.1 hm
      refine hno j (by omega) ?_
      rw [hat j hj, he]
      rfl
    rw [h0, parts_noslash _ h1]
    rfl
  · have hlt : i < s.data.toList.length := by omega
    have h47 : s.data.toList[i] = 47 := by
      rw [hat i hlt] at hc
      exact (u8_slash _).1 hc
    have hsp : s.data.toList = s.data.toList.take i ++ 47 :: s.data.toList.drop (i + 1) := by
      rw [← h47, ← List.drop_eq_getElem_cons hlt, List.take_append_drop]
    have h0 : (aboveB s).data.toList = s.data.toList.take i := by
      unfold aboveB lastB
      rw [e, ba_extract, show (max (i : Int) 0).toNat = i by omega]
      rfl
    have h1 : (47 : UInt8) ∉ s.data.toList.drop (i + 1) := by
      intro hm
      obtain ⟨j, hj, he⟩ := List.mem_iff_getElem.1 hm
      rw [List.length_drop] at hj
      rw [List.getElem_drop] at he
      refine hno (i + 1 + j) (by omega) (by omega) ?_
      rw [hat (i + 1 + j) (by omega), he]
      rfl
    have h2 : parts s.data.toList = parts (s.data.toList.take i) ++ [s.data.toList.drop (i + 1)] := by
      conv => lhs; rw [hsp]
      rw [parts_app, parts_noslash _ h1]
    rw [h0, h2, List.dropLast_concat]
    unfold pnames
    by_cases ht : s.data.toList.take i = []
    · exfalso
      rw [ht] at h2
      have h3 : ba [] ∈ pathNames s := by
        unfold pathNames piecesB
        rw [ba_toList, if_neg hs, h2]
        simp [parts]
      exact named_ne (List.all_eq_true.1 hn _ h3) rfl
    · rw [if_neg ht]
abbrev entS (e : S27) : Ent := entOf (enB e)
/-- What has passed so far. -/
structure Past (pre : List S27) : Prop where
  sorted : Sorted pre
  ok : ∀ e ∈ pre, entOK e = true
  par : ∀ e ∈ pre, e.f0.data.toList = [] ∨ ∃ d ∈ pre, d.f1 = 2 ∧ pnm d = (pnm e).dropLast
theorem past_go : ∀ (l pre : List S27), specGo pre l = 0 → (pre = [] → ∀ e, l.head? = some e → e.f0.data.toList = []) → Past pre → Past (pre ++ l)
  | [], pre, _, _, hp => by rwa [List.append_nil]
  | e :: l, pre, h, h0, hp => by
    rw [specGo] at h
    cases hs : stepOK pre e
    · rw [hs, if_neg Bool.false_ne_true] at h
      cases h
    · rw [hs, if_pos rfl] at h
      have hnew : Past (pre ++ [e]) := by
        refine ⟨step_sorted hp.sorted hs, fun x hx => ?_, fun x hx => ?_⟩
        · rcases List.mem_append.1 hx with hx | hx
          · exact hp.ok x hx
          · rw [List.mem_singleton.1 hx]; exact step_ent hs
        · rcases List.mem_append.1 hx with hx | hx
          · rcases hp.par x hx with h1 | ⟨d, hd, h1⟩
            · exact .inl h1
            · exact .inr ⟨d, List.mem_append_left _ hd, h1⟩
          · rw [List.mem_singleton.1 hx]
            by_cases hpe : pre = []
            · exact .inl (h0 hpe e rfl)
            · by_cases hee : e.f0.data.toList = []
              · exact .inl hee
              · refine .inr ?_
                have hs2 := hs
                unfold stepOK at hs2
                rw [Bool.and_eq_true] at hs2
                cases hl : pre.getLast? with
                | none => exact absurd (List.getLast?_eq_none_iff.1 hl) hpe
                | some d =>
                  rw [hl] at hs2
                  have h2 := hs2.2
                  dsimp only at h2
                  rw [Bool.and_eq_true] at h2
                  obtain ⟨x2, hx2, hc⟩ := List.any_eq_true.1 h2.1
                  rw [Bool.and_eq_true, decide_eq_true_iff, beq_iff_eq] at hc
                  refine ⟨x2, List.mem_append_left _ hx2, hc.1, ?_⟩
                  unfold pnm
                  rw [hc.2]
                  exact above_names hee (ok_named (step_ent hs))
      have := past_go l (pre ++ [e]) h (fun hc => by simp at hc) hnew
      rwa [List.append_assoc] at this
theorem spec_past {l : List S27} (h : spec l = 0) : l.length ≤ 256 ∧ l ≠ [] ∧ Past l ∧ ∀ e, l.head? = some e → e.f0.data.toList = [] := by
  unfold spec at h
  by_cases hl : 256 < l.length
  · rw [if_pos hl] at h; cases h
  · rw [if_neg hl] at h
    cases l with
    | nil => cases h
    | cons e l =>
      dsimp only at h
      by_cases he : e.f0.data.toList = []
      · rw [if_pos he] at h
        have h0 : ∀ x, (e :: l).head? = some x → x.f0.data.toList = [] := fun x hx => by
          injection hx with hx
          rw [← hx]
          exact he
        have := past_go (e :: l) [] h (fun _ => h0) ⟨List.Pairwise.nil, by simp, by simp⟩
        exact ⟨by omega, by simp, this, h0⟩
      · rw [if_neg he] at h
        cases h
theorem past_tree {l : List S27} (h : Past l) : Tree (l.map entS) ∧ ∀ e ∈ l.map entS, e.kind = 1 ∨ e.kind = 2 ∨ e.kind = 3 := by
  refine ⟨⟨?_, ?_⟩, ?_⟩
  · rw [List.pairwise_map]
    exact h.sorted
  · intro e he hne
    obtain ⟨x, hx, rfl⟩ := List.mem_map.1 he
    rcases h.par x hx with h1 | ⟨d, hd, h1, h2⟩
    · exact absurd (show pnames x.f0.data.toList = [] by rw [h1]; rfl) hne
    · exact ⟨entS d, List.mem_map_of_mem hd, h2, h1⟩
  · intro e he
    obtain ⟨x, hx, rfl⟩ := List.mem_map.1 he
    have := h.ok x hx
    unfold entOK at this
    rw [Bool.and_eq_true] at this
    exact kind_three this.2
end Go.Proofs.YtlcaogiljiieaaaX
/- What narw.Texts answers of entries of no long paths: plain laws, no walk. -/
namespace Go.Proofs.YtlcaogiljiieaaaX
open Go.RowKit Go.Proofs.Ytlcaogiljiieaaa.PNarw Go.Proofs.YtlcaogiljiieaaaW.PrintWords Go.Proofs.YtlcaogiljiieaaaW.PrintLast Go.Proofs.YtlcaogiljiieaaaW.PrintMore
theorem fileL_len (e : Ent) : (fileL e).length ≤ 5 := by
  unfold fileL
  split <;> simp
theorem text_count : ∀ F,
    (∀ s T r, nodeL F s = some (T, r) → T.length + 14 * r.length + 6 ≤ 14 * s.length) ∧
    (∀ p s U r, dirL F p s = some (U, r) → U.length + 14 * r.length ≤ 14 * s.length)
  | 0 => ⟨fun s T r h => by (unfold nodeL at h; rw [nodeW] at h; cases h), fun p s U r h => by (unfold dirL at h; rw [dirW] at h; cases h)⟩
  | F + 1 => by
    obtain ⟨ihN, ihD⟩ := text_count F
    constructor
    · intro s T r h
      unfold nodeL at h
      cases s with
      | nil => rw [nodeW] at h; cases h
      | cons e s =>
        rw [nodeW] at h
        by_cases h1 : e.kind = 1
        · rw [if_pos h1] at h
          injection h with h
          injection h with ht h
          subst h
          subst ht
          have := fileL_len e
          unfold nodeT
          simp
          omega
        · rw [if_neg h1] at h
          by_cases h2 : e.kind = 2
          · rw [if_pos h2] at h
            obtain ⟨⟨U, r3⟩, hU, hT⟩ := Option.map_eq_some_iff.mp h
            injection hT with hT1 hT2
            dsimp only at hT2 hT1
            subst hT2
            subst hT1
            have := ihD _ _ _ _ hU
            unfold nodeT
            simp
            omega
          · rw [if_neg h2] at h
            by_cases h3 : e.kind = 3
            · rw [if_pos h3] at h
              injection h with h
              injection h with ht h
              subst h
              subst ht
              unfold nodeT linkL
              simp
              omega
            · rw [if_neg h3] at h
              cases h
    · intro p s U r h
      unfold dirL at h
      cases s with
      | nil =>
        rw [dirW] at h
        injection h with h
        injection h with ht h
        subst h
        subst ht
        simp
      | cons y s =>
        rw [dirW] at h
        by_cases hp : p.isPrefixOf y.path = true
        · rw [if_pos hp] at h
          obtain ⟨⟨t, r1⟩, ht, h⟩ := Option.bind_eq_some_iff.mp h
          obtain ⟨⟨u, r2⟩, hu, h⟩ := Option.map_eq_some_iff.mp h
          injection h with h1 h2
          dsimp only at h2 h1
          subst h2
          subst h1
          have e1 := ihD _ _ _ _ hu
          have e2 := ihN _ _ _ ht
          simp at e1 e2 ⊢
          omega
        · rw [if_neg hp] at h
          injection h with h
          injection h with ht h
          subst h
          subst ht
          simp
abbrev RefL := Ref tOpen.data.toList tType.data.toList tShut.data.toList tDirectory.data.toList tEntry.data.toList tName.data.toList tNodeT.data.toList fileL linkL
/-- What passes has its texts, and they are the document's. -/
theorem whole_said {l : List S27} (hl : ∀ e ∈ l, e.f0.size ≤ 1000) (h : spec l = 0) : ∃ e r T, l = e :: r ∧ e.f0.data.toList = [] ∧ wholeOf l = some (T.map ba) ∧ RefL (l.map entS) (.inl (entS e)) T ∧ T.length ≤ 3584 := by
  obtain ⟨h256, hne, hpast, hroot⟩ := spec_past h
  obtain ⟨htree, hkinds⟩ := past_tree hpast
  cases l with
  | nil => exact absurd rfl hne
  | cons e r =>
    obtain ⟨T, hT, hR⟩ := (walkW tOpen.data.toList tType.data.toList tShut.data.toList tDirectory.data.toList tEntry.data.toList tName.data.toList tNodeT.data.toList fileL linkL htree hkinds (e :: r).length).1 [] (entS e) (r.map entS) rfl (by simp) (2 * (e :: r).length) (Nat.le_refl _)
    have hlen := (text_count _).1 _ _ _ hT
    simp only [List.length_cons, List.length_map] at hlen h256
    refine ⟨e, r, T, rfl, hroot e rfl, ?_, hR, by omega⟩
    unfold wholeOf
    rw [if_pos ⟨by simp, h256, List.all_eq_true.2 fun x hx => decide_eq_true (by have := hl x hx; omega)⟩]
    have hmap : (entsOf (e :: r)).map entOf = entS e :: r.map entS := by unfold entsOf; simp
    rw [hmap, show nodeL (2 * (e :: r).length) (entS e :: r.map entS) = _ from hT, Option.bind_some, if_pos (by dsimp only; omega)]
theorem ev_texts {l : List S27} (hl : ∀ e ∈ l, e.f0.size ≤ 1000) : (spec l ≠ 0 ∧ Ev (fun k => narw_Texts.f k l) ([], spec l)) ∨ (spec l = 0 ∧ ∃ e r T, l = e :: r ∧ e.f0.data.toList = [] ∧ RefL (l.map entS) (.inl (entS e)) T ∧ T.length ≤ 3584 ∧ Ev (fun k => narw_Texts.f k l) ([tMagic] ++ T.map ba, 0)) := by
  have ht := ev_tree l hl
  by_cases h : spec l = 0
  · obtain ⟨e, r, T, h1, h2, h3, h4, h5⟩ := whole_said hl h
    refine .inr ⟨h, e, r, T, h1, h2, h4, h5, Ev.bind ht ?_⟩
    refine Ev.congr (fun k => if_pos h) ?_
    rw [h3]
    exact Ev.now _
  · refine .inl ⟨h, Ev.bind ht ?_⟩
    exact Ev.congr (fun k => if_neg h) (Ev.now _)
end Go.Proofs.YtlcaogiljiieaaaX
/- What the reference's Names answers of a tree and a directory of it: plain laws, no walk. -/
namespace Go.Proofs.YtlcaogiljiieaaaX
open Go.RowKit Go.Proofs.Ytlcaogiljiieaaa.PNarw Go.Proofs.YtlcaogiljiieaaaW.PrintWords Go.Proofs.YtlcaogiljiieaaaW.PrintLast Go.Proofs.YtlcaogiljiieaaaW.PrintMore
theorem prefix_slash (p y : List UInt8) : (p ++ [47]) <+: y ↔ ∃ h : p.length < y.length, y.take p.length = p ∧ y[p.length] = 47 := by
  constructor
  · rintro ⟨t, rfl⟩
    refine ⟨by simp, by simp, by simp⟩
  · rintro ⟨h, h1, h2⟩
    refine ⟨y.drop (p.length + 1), ?_⟩
    conv => rhs; rw [← List.take_append_drop p.length y, List.drop_eq_getElem_cons h, h1, h2]
    simp
theorem below_is (y p : ByteArray) : (belowB y p).2 = ((ahead p.data.toList).isPrefixOf y.data.toList && !y.data.toList.isEmpty) := by
  have hy := ba_size y
  have hp := ba_size p
  unfold belowB ahead
  rw [ba_toList, ba_toList]
  by_cases h : p.data.toList = []
  · rw [if_pos h, if_pos h]
    simp
  · rw [if_neg h, if_neg h]
    rw [Bool.eq_iff_iff, Bool.and_eq_true, List.isPrefixOf_iff_prefix, prefix_slash]
    by_cases hl : p.size < y.size
    · rw [dif_pos hl]
      have e1 : (y.extract 0 p.size).toList = y.data.toList.take p.data.toList.length := by rw [ba_toList, ba_extract, hp]; simp
      have e2 : y[p.size] = y.data.toList[p.data.toList.length]'(by omega) := by
        show y.data[p.size] = _
        rw [← Array.getElem_toList]
        simp only [hp]
      rw [e1, e2]
      by_cases hc : y.data.toList.take p.data.toList.length = p.data.toList ∧ y.data.toList[p.data.toList.length]'(by omega) = 47
      · rw [if_pos hc]
        refine ⟨fun _ => ⟨⟨by rw [← hp, ← hy]; exact hl, hc⟩, ?_⟩, fun _ => rfl⟩
        cases hh : y.data.toList with
        | nil => rw [hh] at hy; have h9 : y.size = 0 := hy; omega
        | cons a b => rfl
      · rw [if_neg hc]
        refine ⟨fun q => (by cases q), fun q => ?_⟩
        obtain ⟨⟨_, q1⟩, _⟩ := q
        exact absurd q1 hc
    · rw [dif_neg hl]
      refine ⟨fun q => (by cases q), fun q => ?_⟩
      obtain ⟨⟨q1, _⟩, _⟩ := q
      omega
theorem below_rest (y p : ByteArray) (h : (belowB y p).2 = true) : (belowB y p).1 = ba (y.data.toList.drop (ahead p.data.toList).length) := by
  have hy := ba_size y
  have hp := ba_size p
  unfold belowB at h ⊢
  unfold ahead
  rw [ba_toList] at h ⊢
  by_cases h0 : p.data.toList = []
  · rw [if_pos h0, if_pos h0]
    rfl
  · rw [if_neg h0] at h ⊢
    rw [if_neg h0]
    by_cases hl : p.size < y.size
    · rw [dif_pos hl] at h ⊢
      by_cases hc : (y.extract 0 p.size).toList = p.data.toList ∧ y[p.size] = 47
      · rw [if_pos hc]
        refine ba_ext ?_
        rw [ba_extract, List.take_of_length_le (by rw [List.length_drop]; omega), hp]
        simp [ba]
      · rw [if_neg hc] at h
        cases h
    · rw [dif_neg hl] at h
      cases h
theorem pnames_nil {p : List UInt8} : pnames p = [] ↔ p = [] := by
  unfold pnames
  by_cases h : p = []
  · rw [if_pos h]; simp [h]
  · rw [if_neg h]; exact ⟨fun q => absurd q (parts_ne _), fun q => absurd q h⟩
theorem child_said (e y : S27) (hy : entOK y = true) : childB (entS e) (entS y) = ((belowB y.f0 e.f0).2 && ((aboveB (belowB y.f0 e.f0).1).data.toList == [])) ∧ (childB (entS e) (entS y) = true → (belowB y.f0 e.f0).1 = ba (lastName (entS y))) := by
  have hn := ok_named hy
  by_cases hye : y.f0.data.toList = []
  · have h1 : childB (entS e) (entS y) = false := by
      unfold childB
      have : desc (entS e).nm (entS y).nm = false := by
        rw [Bool.eq_false_iff, ne_eq, desc_iff]
        rintro ⟨t, ht, hc⟩
        rw [show (entS y).nm = [] from pnames_nil.2 hye] at hc
        exact ht (List.append_eq_nil_iff.1 hc.symm).2
      rw [this]
      rfl
    have h2 : (belowB y.f0 e.f0).2 = false := by rw [below_is, hye]; simp
    rw [h1, h2]
    exact ⟨rfl, fun h => by cases h⟩
  · have hd : (belowB y.f0 e.f0).2 = desc (entS e).nm (entS y).nm := by
      rw [below_is, ← ahead_desc (e := entS e) (y := entS y) hye]
      show (_ && !y.f0.data.toList.isEmpty) = _
      cases hh : y.f0.data.toList with
      | nil => exact absurd hh hye
      | cons a b => show (_ && true) = _; rw [Bool.and_true]; show _ = (ahead (entS e).path).isPrefixOf y.f0.data.toList; rw [hh]; rfl
    cases hb : (belowB y.f0 e.f0).2
    · rw [hb] at hd
      have h1 : childB (entS e) (entS y) = false := by unfold childB; rw [← hd]; rfl
      rw [h1]
      exact ⟨rfl, fun h => by cases h⟩
    · rw [hb] at hd
      have hr := below_rest _ _ hb
      rw [below_is, Bool.and_eq_true, List.isPrefixOf_iff_prefix] at hb
      obtain ⟨⟨rest, hrest⟩, _⟩ := hb
      rw [← hrest, List.drop_left] at hr
      have hnm : (entS y).nm = (entS e).nm ++ parts rest := by
        show pnames y.f0.data.toList = pnames e.f0.data.toList ++ parts rest
        rw [← hrest]
        unfold ahead
        by_cases he : e.f0.data.toList = []
        · rw [if_pos he, pnames_nil.2 he, List.nil_append, List.nil_append]
          unfold pnames
          rw [if_neg (fun q => hye (by rw [← hrest]; unfold ahead; rw [if_pos he, List.nil_append]; exact q))]
        · rw [if_neg he]
          unfold pnames
          rw [if_neg he, if_neg (by simp), List.append_assoc]
          exact parts_app _ _
      have hall : ∀ t ∈ parts rest, namedB (ba t) = true := fun t ht => by
        have h3 : ba t ∈ pathNames y.f0 := by
          have h4 : t ∈ pnames y.f0.data.toList := by
            show t ∈ (entS y).nm
            rw [hnm]
            exact List.mem_append_right _ ht
          unfold pnames at h4
          rw [if_neg hye] at h4
          unfold pathNames piecesB
          rw [ba_toList, if_neg hye]
          exact List.mem_map_of_mem h4
        exact List.all_eq_true.1 hn _ h3
      have hrne : rest ≠ [] := fun hc => by
        have := hall [] (by rw [hc]; simp [parts])
        exact named_ne this rfl
      have hab : pnames (aboveB (ba rest)).data.toList = (parts rest).dropLast := by
        have h5 := above_names (s := ba rest) hrne (by
          unfold pathNames piecesB
          rw [ba_toList, if_neg (show ¬ (ba rest).data.toList = [] from hrne), List.all_eq_true]
          intro x hx
          obtain ⟨t, ht, rfl⟩ := List.mem_map.1 hx
          exact hall t ht)
        rw [h5]
        show (pnames rest).dropLast = _
        unfold pnames
        rw [if_neg hrne]
      have h1 : childB (entS e) (entS y) = ((aboveB (ba rest)).data.toList == []) := by
        unfold childB
        rw [← hd, Bool.true_and, hnm, List.dropLast_append_of_ne_nil (parts_ne _), Bool.eq_iff_iff, beq_iff_eq, beq_iff_eq, ← pnames_nil, hab]
        simp
      rw [hr, Bool.true_and]
      refine ⟨h1, fun hc => ?_⟩
      rw [← child_name hc]
      show ba rest = ba (y.f0.data.toList.drop (ahead e.f0.data.toList).length)
      rw [← hrest, List.drop_left]
theorem names_loop (l : List S27) (e : S27) (hl : l.length ≤ 1000000) (hs : ∀ y ∈ l, y.f0.size ≤ 1000 ∧ entOK y = true) (he : e.f0.size ≤ 1000) : ∀ n i : Nat, ∀ acc : List ByteArray, n + i = l.length → acc.length ≤ i → Ev (fun k => chandleryref16_Names.l0 k l e.f0 acc (i : Int)) (acc ++ ((l.drop i).filter fun y => childB (entS e) (entS y)).map fun y => ba (lastName (entS y)))
  | 0, i, acc, hi, ha => by
    rw [List.drop_of_length_le (by omega)]
    simp only [List.filter_nil, List.map_nil, List.append_nil]
    exact Ev.step (f := fun _ => some acc) (fun k => by rw [chandleryref16_Names.l0, if_neg (by omega)]) (Ev.now _)
  | n + 1, i, acc, hi, ha => by
    have hlt : i < l.length := by omega
    obtain ⟨hys, hyo⟩ := hs l[i] (List.getElem_mem hlt)
    obtain ⟨hc, hname⟩ := child_said e l[i] hyo
    rw [List.drop_eq_getElem_cons hlt]
    have hrs : (belowB l[i].f0 e.f0).2 = true → (belowB l[i].f0 e.f0).1.size ≤ 1000000 := fun h => by
      rw [below_rest _ _ h, ba_size]
      show (l[i].f0.data.toList.drop _).length ≤ _
      have := ba_size l[i].f0
      rw [List.length_drop]
      omega
    refine Ev.step (f := fun k => if (belowB l[i].f0 e.f0).2 = true then ((chandleryref16_Parent.f k (belowB l[i].f0 e.f0).1).bind fun t243 => (if t243.toList = ([] : List UInt8) then (if acc.length < 8796093022208 then (chandleryref16_Names.l0 k l e.f0 (acc ++ [(belowB l[i].f0 e.f0).1]) ((i + 1 : Nat) : Int)) else (none)) else (chandleryref16_Names.l0 k l e.f0 acc ((i + 1 : Nat) : Int)))) else (chandleryref16_Names.l0 k l e.f0 acc ((i + 1 : Nat) : Int))) (fun k => by
      rw [chandleryref16_Names.l0, if_pos (by omega), if_pos (by omega), rd27_at l i hlt, w1 hlt (by omega)]
      unfold chandleryref16_below.f
      rw [if_pos ⟨by omega, by omega⟩, Option.bind_some]) ?_
    cases hb : (belowB l[i].f0 e.f0).2
    · rw [hb, Bool.false_and] at hc
      rw [List.filter_cons_of_neg (p := fun y => childB (entS e) (entS y)) (by rw [hc]; exact Bool.false_ne_true)]
      exact Ev.congr (fun k => if_neg Bool.false_ne_true) (names_loop l e hl hs he n (i + 1) acc (by omega) (by omega))
    · rw [hb, Bool.true_and] at hc
      refine Ev.congr (fun k => if_pos rfl) (Ev.bind (ev_parent _ (hrs hb)) ?_)
      rw [ba_toList]
      by_cases h0 : (aboveB (belowB l[i].f0 e.f0).1).data.toList = []
      · rw [beq_iff_eq.2 h0] at hc
        rw [List.filter_cons_of_pos (p := fun y => childB (entS e) (entS y)) hc]
        refine Ev.congr (fun k => if_pos h0) (Ev.congr (fun k => if_pos (by omega)) ?_)
        have ih := names_loop l e hl hs he n (i + 1) (acc ++ [(belowB l[i].f0 e.f0).1]) (by omega) (by simp; omega)
        rw [List.append_assoc, hname hc] at ih
        rw [hname hc, List.map_cons]
        exact ih
      · rw [beq_eq_false_iff_ne.2 h0] at hc
        rw [List.filter_cons_of_neg (p := fun y => childB (entS e) (entS y)) (by rw [hc]; exact Bool.false_ne_true)]
        exact Ev.congr (fun k => if_neg h0) (names_loop l e hl hs he n (i + 1) acc (by omega) (by omega))
end Go.Proofs.YtlcaogiljiieaaaX
/- What the reference's Texts answers of a tree: plain laws, no walk. -/
namespace Go.Proofs.YtlcaogiljiieaaaX
open Go.RowKit Go.Proofs.Ytlcaogiljiieaaa.PNarw Go.Proofs.YtlcaogiljiieaaaW.PrintWords Go.Proofs.YtlcaogiljiieaaaW.PrintLast Go.Proofs.YtlcaogiljiieaaaW.PrintMore
abbrev nameOf (y : S27) : ByteArray := ba (lastName (entS y))
theorem find_own {l : List S27} (h : Sorted l) {x : S27} (hx : x ∈ l) : findR l x.f0 = some x := by
  unfold findR
  cases hf : l.find? (fun e => e.f0.data.toList == x.f0.data.toList) with
  | none => exact absurd (beq_self_eq_true _) (List.find?_eq_none.1 hf x hx)
  | some y =>
    have hp := List.find?_some hf
    rw [beq_iff_eq] at hp
    rw [pw_uniq h y (List.mem_of_find?_eq_some hf) x hx (by unfold pnm; rw [hp])]
theorem child_path {d y : S27} (h : childB (entS d) (entS y) = true) (hy : y.f0.data.toList ≠ []) : y.f0 = if d.f0.toList = [] then nameOf y else (d.f0 ++ ⟨#[47]⟩) ++ nameOf y := by
  have h1 := child_desc h
  rw [← ahead_desc (e := entS d) (y := entS y) hy, List.isPrefixOf_iff_prefix] at h1
  obtain ⟨t, ht⟩ := h1
  have h2 := child_name h
  rw [← ht, List.drop_left] at h2
  have ht' : ahead d.f0.data.toList ++ t = y.f0.data.toList := ht
  rw [ba_toList]
  unfold ahead at ht'
  by_cases hd : d.f0.data.toList = []
  · rw [if_pos hd] at ht' ⊢
    refine ba_ext ?_
    show y.f0.data.toList = lastName (entS y)
    rw [← h2, ← ht', List.nil_append]
  · rw [if_neg hd] at ht' ⊢
    refine ba_ext ?_
    rw [ba_append, ba_append]
    show y.f0.data.toList = (d.f0.data.toList ++ [47]) ++ lastName (entS y)
    rw [← h2, ← ht']
theorem ref_node {l : List S27} (hp : Past l) (h256 : l.length ≤ 256) (hs : ∀ y ∈ l, y.f0.size ≤ 1000) : ∀ {z T}, RefL (l.map entS) z T → 
    (∀ x ∈ l, z = .inl (entS x) → T.length ≤ 100000 → Ev (fun k => chandleryref17_node.f k l x.f0) (T.map ba)) ∧
    (∀ (ys : List S27) (d : S27), d ∈ l → (∀ y ∈ ys, y ∈ l ∧ childB (entS d) (entS y) = true) → z = .inr (ys.map entS) → ∀ pre acc : List ByteArray, pre.length + ys.length ≤ 100000 → T.length ≤ 100000 → acc.length + T.length ≤ 200000 → Ev (fun k => chandleryref17_node.l0 k l d.f0 acc (pre ++ ys.map nameOf) (pre.length : Int)) (acc ++ T.map ba ++ [tShut])) := by
  intro z T h
  have hsok : ∀ y ∈ l, y.f0.size ≤ 1000 ∧ entOK y = true := fun y hy => ⟨hs y hy, hp.ok y hy⟩
  induction h with
  | @file e hk =>
    refine ⟨fun x hx hz hT => ?_, fun ys d _ _ hz => by cases hz⟩
    injection hz with hz
    subst hz
    obtain ⟨K, hK⟩ := ev_find l x.f0 (by omega)
    refine ⟨K + 1, fun k hk2 => ?_⟩
    obtain ⟨m, rfl⟩ : ∃ m, k = m + 1 := ⟨k - 1, by omega⟩
    have h1 : x.f1 = 1 := hk
    show chandleryref17_node.f (m + 1) l x.f0 = _
    have hf : chandleryref16_Find.f m l x.f0 = some (foundR (findR l x.f0)) := hK m (by omega)
    rw [chandleryref17_node.f, hf, find_own hp.sorted hx, foundR, Option.bind_some]
    dsimp only
    rw [Option.bind_some, if_pos h1, if_pos (by simp), Option.bind_some]
    cases h2 : x.f2
    · rw [if_neg Bool.false_ne_true, Option.bind_some, if_pos (by simp), Option.bind_some, if_pos (by simp)]
      have : fileL (entS x) = [tRegular.data.toList, tContents.data.toList, x.f3.data.toList] := by
        unfold fileL
        rw [show (entS x).exec = false from h2]
        rfl
      rw [this]
      rfl
    · rw [if_pos rfl, Option.bind_some, if_pos (by simp), Option.bind_some, Option.bind_some, if_pos (by simp), Option.bind_some, if_pos (by simp)]
      have : fileL (entS x) = [tRegular.data.toList, tExecutable.data.toList, [], tContents.data.toList, x.f3.data.toList] := by
        unfold fileL
        rw [show (entS x).exec = true from h2]
        rfl
      rw [this]
      rfl
  | @link e hk =>
    refine ⟨fun x hx hz hT => ?_, fun ys d _ _ hz => by cases hz⟩
    injection hz with hz
    subst hz
    obtain ⟨K, hK⟩ := ev_find l x.f0 (by omega)
    refine ⟨K + 1, fun k hk2 => ?_⟩
    obtain ⟨m, rfl⟩ : ∃ m, k = m + 1 := ⟨k - 1, by omega⟩
    have h1 : x.f1 = 3 := hk
    show chandleryref17_node.f (m + 1) l x.f0 = _
    have hf : chandleryref16_Find.f m l x.f0 = some (foundR (findR l x.f0)) := hK m (by omega)
    rw [chandleryref17_node.f, hf, find_own hp.sorted hx, foundR, Option.bind_some]
    dsimp only
    rw [Option.bind_some, if_neg (by omega), if_pos h1, Option.bind_some, if_pos (by simp), Option.bind_some, if_pos (by simp)]
    rfl
  | @dir e U hk hU ih =>
    refine ⟨fun x hx hz hT => ?_, fun ys d _ _ hz => by cases hz⟩
    injection hz with hz
    subst hz
    have h1 : x.f1 = 2 := hk
    have hUl : U.length + 4 ≤ 100000 := by unfold nodeT at hT; simp at hT; omega
    obtain ⟨K, hK⟩ := ev_find l x.f0 (by omega)
    have hn := names_loop l x (by omega) hsok (hs x hx) _ 0 [] rfl (Nat.le_refl _)
    rw [List.drop_zero, List.nil_append] at hn
    obtain ⟨K2, hK2⟩ := hn
    have hi := ih.2 (l.filter fun y => childB (entS x) (entS y)) x hx (fun y hy => List.mem_filter.1 hy) (by rw [List.filter_map]; rfl) [] ([tOpen, tType] ++ [tDirectory]) (by have := List.length_filter_le (fun y => childB (entS x) (entS y)) l; simp only [List.length_nil]; omega) (by omega) (by simp; omega)
    obtain ⟨K3, hK3⟩ := hi
    refine ⟨K + K2 + K3 + 1, fun k hk2 => ?_⟩
    obtain ⟨m, rfl⟩ : ∃ m, k = m + 1 := ⟨k - 1, by omega⟩
    show chandleryref17_node.f (m + 1) l x.f0 = _
    have hf : chandleryref16_Find.f m l x.f0 = some (foundR (findR l x.f0)) := hK m (by omega)
    rw [chandleryref17_node.f, hf, find_own hp.sorted hx, foundR, Option.bind_some]
    dsimp only
    rw [Option.bind_some, if_neg (by omega), if_neg (by omega), if_pos (by simp)]
    unfold chandleryref16_Names.f
    have h3 : chandleryref16_Names.l0 m l x.f0 [] 0 = some ((l.filter fun y => childB (entS x) (entS y)).map nameOf) := hK2 m (by omega)
    have h4 : chandleryref17_node.l0 m l x.f0 ([tOpen, tType] ++ [tDirectory]) ((l.filter fun y => childB (entS x) (entS y)).map nameOf) 0 = _ := hK3 m (by omega)
    rw [h3, Option.bind_some]
    refine h4.trans ?_
    unfold nodeT
    simp only [List.map_append, List.map_cons, List.map_nil, List.append_assoc, List.cons_append, List.nil_append]
    rfl
  | nil =>
    refine ⟨fun x hx hz => (by cases hz), fun ys d hd hys hz pre acc hpr hT ha => ?_⟩
    injection hz with hz
    have : ys = [] := List.map_eq_nil_iff.1 hz.symm
    subst this
    refine Ev.step (f := fun _ => some (acc ++ [tShut])) (fun k => ?_) ?_
    · simp only [List.map_nil, List.append_nil]
      rw [chandleryref17_node.l0, if_neg (by omega), if_pos (by simp at ha; omega)]
      rfl
    · simp only [List.map_nil, List.append_nil]
      exact Ev.now _
  | @cons x xs t u hx ht hu iht ihu =>
    refine ⟨fun x hx hz => (by cases hz), fun ys d hd hys hz pre acc hpr hT ha => ?_⟩
    injection hz with hz
    cases ys with
    | nil => cases hz
    | cons y ys =>
      rw [List.map_cons] at hz
      injection hz with hz1 hz2
      subst hz1
      obtain ⟨hyl2, hch⟩ := hys y List.mem_cons_self
      have hyne : y.f0.data.toList ≠ [] := fun hc => by
        obtain ⟨t', ht', he'⟩ := desc_iff.1 (child_desc hch)
        rw [show (entS y).nm = [] from pnames_nil.2 hc] at he'
        exact ht' (List.append_eq_nil_iff.1 he'.symm).2
      have hpath := child_path hch hyne
      simp only [List.length_append, List.length_cons, List.length_nil] at ha hT hpr
      obtain ⟨K, hK⟩ := iht.1 y hyl2 rfl (by omega)
      obtain ⟨K2, hK2⟩ := ihu.2 ys d hd (fun z hz => hys z (List.mem_cons_of_mem _ hz)) (by rw [hz2]) (pre ++ [nameOf y]) (acc ++ [tEntry, tOpen, tName, nameOf y, tNodeT] ++ t.map ba ++ [tShut]) (by simp; omega) (by omega) (by simp; omega)
      refine ⟨K + K2 + 1, fun k hk2 => ?_⟩
      obtain ⟨m, rfl⟩ : ∃ m, k = m + 1 := ⟨k - 1, by omega⟩
      have h3 : chandleryref17_node.f m l y.f0 = some (t.map ba) := hK m (by omega)
      have h4 := hK2 m (by omega)
      have hrd : rdOf ByteArray.empty (pre ++ (y :: ys).map nameOf) (pre.length : Int) = nameOf y := by
        rw [rdB_at _ _ (by simp)]
        simp
      show chandleryref17_node.l0 (m + 1) l d.f0 acc (pre ++ (y :: ys).map nameOf) (pre.length : Int) = _
      have h5 : chandleryref17_node.l0 m l d.f0 (acc ++ [tEntry, tOpen, tName, nameOf y, tNodeT] ++ t.map ba ++ [tShut]) (pre ++ (y :: ys).map nameOf) (wrap64 ((pre.length : Int) + 1)) = some (acc ++ [tEntry, tOpen, tName, nameOf y, tNodeT] ++ t.map ba ++ [tShut] ++ u.map ba ++ [tShut]) := by
        have e1 : pre ++ [nameOf y] ++ ys.map nameOf = pre ++ (y :: ys).map nameOf := by simp
        have e2 : (((pre ++ [nameOf y]).length : Nat) : Int) = wrap64 ((pre.length : Int) + 1) := by rw [w64 (by omega) (by omega), List.length_append]; rfl
        rw [← e1, ← e2]
        exact h4
      have e3 : acc ++ [tEntry, tOpen, tName, nameOf y, tNodeT] ++ t.map ba ++ [tShut] ++ u.map ba ++ [tShut] = acc ++ ([tEntry.data.toList, tOpen.data.toList, tName.data.toList, lastName (entS y), tNodeT.data.toList] ++ t ++ [tShut.data.toList] ++ u).map ba ++ [tShut] := by
        simp only [List.map_append, List.map_cons, List.map_nil, List.append_assoc, List.cons_append, List.nil_append]
        rfl
      rw [← e3, ← h5]
      have hysz := hs y hyl2
      rw [chandleryref17_node.l0, if_pos (by simp; omega), if_pos (by omega), hrd]
      by_cases hd0 : d.f0.toList = []
      · rw [if_pos hd0] at hpath ⊢
        rw [Option.bind_some, if_pos (by simp; omega), Option.bind_some, ← hpath, h3, Option.bind_some, if_pos (by simp; omega), Option.bind_some, if_pos (by simp; omega)]
        rfl
      · rw [if_neg hd0] at hpath ⊢
        have hsz : (d.f0 ++ (⟨#[47]⟩ : ByteArray)).size + (nameOf y).size = y.f0.size := by
          conv => rhs; rw [hpath]
          rw [ByteArray.size_append (a := d.f0 ++ (⟨#[47]⟩ : ByteArray))]
        have hsz2 : (d.f0 ++ (⟨#[47]⟩ : ByteArray)).size = d.f0.size + 1 := by rw [ByteArray.size_append]; rfl
        rw [if_pos (by omega), if_pos (by omega), Option.bind_some, if_pos (by simp; omega), Option.bind_some, ← hpath, h3, Option.bind_some, if_pos (by simp; omega), Option.bind_some, if_pos (by simp; omega)]
        rfl
/-- Both Texts answer alike. -/
theorem both_texts {l : List S27} (hl : ∀ e ∈ l, e.f0.size ≤ 1000) (h : spec l = 0) : ∃ T : List ByteArray, T.length ≤ 3585 ∧ Ev (fun k => narw_Texts.f k l) (T, 0) ∧ Ev (fun k => chandleryref17_Texts.f k l) T := by
  rcases ev_texts hl with ⟨h0, _⟩ | ⟨_, e, r, T, he, hroot, hR, hT, hx⟩
  · exact absurd h h0
  · obtain ⟨h256, _, hp, _⟩ := spec_past h
    have hn := (ref_node hp h256 hl hR).1 e (by rw [he]; simp) rfl (by omega)
    refine ⟨[tMagic] ++ T.map ba, by simp; omega, hx, ?_⟩
    have e0 : e.f0 = ⟨#[]⟩ := ba_ext hroot
    rw [e0] at hn
    unfold chandleryref17_Texts.f
    refine Ev.congr (f := fun k => (chandleryref17_node.f k l (⟨#[]⟩ : ByteArray)).bind fun t338 => (if ([(⟨#[110, 105, 120, 45, 97, 114, 99, 104, 105, 118, 101, 45, 49]⟩ : ByteArray)] : List ByteArray).length + t338.length < 8796093022208 then (some ([(⟨#[110, 105, 120, 45, 97, 114, 99, 104, 105, 118, 101, 45, 49]⟩ : ByteArray)] ++ t338)) else (none))) (fun k => rfl) ?_
    refine Ev.bind hn ?_
    refine Ev.congr (fun k => if_pos (by simp; omega)) ?_
    exact Ev.now _
end Go.Proofs.YtlcaogiljiieaaaX
/- What texts are laid down as, by the program and by the document: plain laws, no walk. -/
namespace Go.Proofs.YtlcaogiljiieaaaX
open Go.RowKit Go.Proofs.Ytlcaogiljiieaaa.PNarw Go.Proofs.YtlcaogiljiieaaaW.PrintWords Go.Proofs.YtlcaogiljiieaaaW.PrintLast Go.Proofs.YtlcaogiljiieaaaW.PrintMore
/-- How many bytes a text is laid down as. -/
def len8 (n : Nat) : Nat := 8 + (n + 7) / 8 * 8
def sum8 : List ByteArray → Nat
  | [] => 0
  | t :: l => len8 t.size + sum8 l
theorem sum8_app : ∀ a b, sum8 (a ++ b) = sum8 a + sum8 b
  | [], b => by simp [sum8]
  | t :: a, b => by rw [List.cons_append, sum8, sum8, sum8_app a b]; omega
theorem sum8_take (l : List ByteArray) (i : Nat) (hi : i < l.length) : sum8 (l.take (i + 1)) = sum8 (l.take i) + len8 l[i].size := by
  rw [List.take_add_one, List.getElem?_eq_getElem hi, sum8_app]
  rfl
theorem sum8_take_le (l : List ByteArray) (i : Nat) : sum8 (l.take i) ≤ sum8 l := by
  conv => rhs; rw [← List.take_append_drop i l, sum8_app]
  omega
theorem tdiv8 (n : Nat) (h : n ≤ 100000000) : wrap64 (8 + wrap64 (wrap64 (Int.tdiv (wrap64 ((n : Int) + 7)) 8) * 8)) = ((len8 n : Nat) : Int) := by
  have e1 : wrap64 ((n : Int) + 7) = (n : Int) + 7 := w64 (by omega) (by omega)
  have e2 : Int.tdiv ((n : Int) + 7) 8 = ((n : Int) + 7) / 8 := Int.tdiv_eq_ediv_of_nonneg (by omega)
  have e3 : wrap64 (((n : Int) + 7) / 8) = ((n : Int) + 7) / 8 := w64 (by omega) (by omega)
  have e4 : wrap64 (((n : Int) + 7) / 8 * 8) = ((n : Int) + 7) / 8 * 8 := w64 (by omega) (by omega)
  rw [e1, e2, e3, e4, w64 (by omega) (by omega)]
  unfold len8
  omega
theorem size_ev (l : List S27) (ts : List ByteArray) (e : Int) (h : Ev (fun k => narw_Texts.f k l) (ts, e)) (hs : ∀ t ∈ ts, t.size ≤ 100000000) (hb : sum8 ts ≤ 4000000000) (hn : ts.length ≤ 1000000) : Ev (fun k => narw_Size.f k l) (((sum8 ts : Nat) : Int), e) := by
  refine Ev.bind (f := fun k t => _) h ?_
  refine ev_go (fun i k => narw_Size.l0 k e ((sum8 (ts.take i) : Nat) : Int) ts (ts.length : Int) (i : Int)) ts.length (fun i hi k => ?_) ?_
  · show narw_Size.l0 (k + 1) _ _ _ _ _ = _
    rw [narw_Size.l0, if_pos (by omega), if_pos (by omega), if_pos (by omega), rdB_at ts i hi, tdiv8 _ (hs _ (List.getElem_mem hi)), w1 hi (by omega)]
    have h1 := sum8_take ts i hi
    have h2 := sum8_take_le ts (i + 1)
    rw [w64 (by omega) (by omega), h1]
    congr 1
  · refine Ev.step (f := fun _ => some (((sum8 ts : Nat) : Int), e)) (fun k => ?_) (Ev.now _)
    show narw_Size.l0 (k + 1) _ _ _ _ _ = _
    rw [narw_Size.l0, if_neg (by omega), List.take_length]
/-- A number's eight bytes. -/
def num8 (n : Nat) : List Int := (List.range 8).map fun j : Nat => ((n / 256 ^ j % 256 : Nat) : Int)
def textOf (s : ByteArray) : List Int := num8 s.size ++ bytesOf s ++ List.replicate ((8 - s.size % 8) % 8) 0
theorem num8_len (n : Nat) : (num8 n).length = 8 := by unfold num8; simp
theorem textOf_len (s : ByteArray) : (textOf s).length = len8 s.size := by unfold textOf; simp [bytesOf_length, num8_len, len8]; omega
theorem shr_num (n j : Nat) (hj : j < 8) : (shr .i64 (n : Int) (wrap64 (8 * (j : Int)))) % 256 = ((n / 256 ^ j % 256 : Nat) : Int) := by
  rw [w64 (by omega) (by omega), shr64 (by omega), show (8 * (j : Int)).toNat = 8 * j by omega, Nat.pow_mul' 2 8 j |> fun h => show (2 : Int) ^ (8 * j) = ((256 ^ j : Nat) : Int) by rw [Int.pow_mul]; norm_cast]
  omega
theorem put_ev (n : Nat) (h1 : n ≤ 2147483647) : Ev (fun k => wire_Put.f k [] (n : Int)) (num8 n, 0) := by
  have hj : Ev (fun k => wire_Put.j0 k [] (n : Int) false) (num8 n, 0) := by
    refine Ev.step (f := fun k => wire_Put.l0 k (n : Int) [] 0) (fun k => ?_) ?_
    · rw [wire_Put.j0, if_neg (by decide)]
      unfold slices_Clone_byte_byte.f
      rw [if_pos (by decide), Option.bind_some]
    · refine ev_go (fun i k => wire_Put.l0 k (n : Int) ((List.range i).map (fun j : Nat => ((n / 256 ^ j % 256 : Nat) : Int))) (i : Int)) 8 (fun i hi k => ?_) ?_
      · show wire_Put.l0 (k + 1) _ _ _ = _
        rw [wire_Put.l0, if_pos (by omega), if_pos (by rw [w64 (by omega) (by omega)]; omega), if_pos (by simp; omega), w1 hi (by omega), shr_num n i hi, List.range_succ, List.map_append]
        rfl
      · refine Ev.step (f := fun _ => some (num8 n, (0 : Int))) (fun k => ?_) (Ev.now _)
        show wire_Put.l0 (k + 1) _ _ _ = _
        rw [wire_Put.l0, if_neg (by decide)]
        rfl
  refine Ev.congr (fun k => ?_) hj
  unfold wire_Put.f
  rw [if_neg (by omega), decide_eq_false (by omega)]
theorem putText_ev (s : ByteArray) (hs : s.size ≤ 100000000) : Ev (fun k => wire_PutText.f k [] s) (textOf s) := by
  have hr := put_ev s.size (by omega)
  have hl := num8_len s.size
  have hpad : wire_pad.f (s.size : Int) = some (((8 - s.size % 8) % 8 : Nat) : Int) := by
    unfold wire_pad.f
    have e1 : Int.tmod (s.size : Int) 8 = (s.size : Int) % 8 := Int.tmod_eq_emod_of_nonneg (by omega)
    have e2 : wrap64 (8 - (s.size : Int) % 8) = 8 - (s.size : Int) % 8 := w64 (by omega) (by omega)
    have e3 : Int.tmod (8 - (s.size : Int) % 8) 8 = (8 - (s.size : Int) % 8) % 8 := Int.tmod_eq_emod_of_nonneg (by omega)
    rw [e1, e2, e3]
    congr 1
    omega
  refine Ev.bind (f := fun k t => _) hr ?_
  refine Ev.congr (fun k => ?_) (Ev.now _)
  have hl2 : (num8 s.size ++ bytesOf s).length = 8 + s.size := by rw [List.length_append, bytesOf_length, hl]
  rw [if_pos (show (num8 s.size).length + s.size < 140737488355328 by omega), Option.bind_some, hpad, Option.bind_some, if_pos (by omega), if_pos (by rw [hl2, Int.toNat_natCast]; omega), Int.toNat_natCast]
  rfl
def layOf : List ByteArray → List Int
  | [] => []
  | t :: l => textOf t ++ layOf l
theorem layOf_len : ∀ l, (layOf l).length = sum8 l
  | [] => rfl
  | t :: l => by rw [layOf, List.length_append, textOf_len, layOf_len l, sum8]
theorem bytes_ev (l : List S27) (ts : List ByteArray) (h : Ev (fun k => narw_Texts.f k l) (ts, 0)) (hs : ∀ t ∈ ts, t.size ≤ 100000000) (hb : sum8 ts ≤ 4000000000) (hn : ts.length ≤ 1000000) : Ev (fun k => narw_Bytes.f k l) (layOf ts, 0) := by
  have key : ∀ m i (acc : List Int), i + m = ts.length → acc.length = sum8 (ts.take i) → Ev (fun k => narw_Bytes.l0 k acc ts (ts.length : Int) (i : Int)) (acc ++ layOf (ts.drop i), 0) := by
    intro m
    induction m with
    | zero =>
      intro i acc hi ha
      refine Ev.step (f := fun _ => some (acc ++ layOf (ts.drop i), (0 : Int))) (fun k => ?_) (Ev.now _)
      show narw_Bytes.l0 (k + 1) _ _ _ _ = _
      rw [narw_Bytes.l0, if_neg (by omega), List.drop_of_length_le (by omega), layOf, List.append_nil]
    | succ m ih =>
      intro i acc hi ha
      have hlt : i < ts.length := by omega
      have hp := putText_ev ts[i] (hs _ (List.getElem_mem hlt))
      have hpl := textOf_len ts[i]
      have h1 := sum8_take ts i hlt
      have h2 := sum8_take_le ts (i + 1)
      have hr := ih (i + 1) (acc ++ textOf ts[i]) (by omega) (by rw [List.length_append, ha, hpl, h1])
      rw [List.append_assoc] at hr
      rw [List.drop_eq_getElem_cons hlt, layOf]
      refine Ev.step (f := fun k => (wire_PutText.f k [] ts[i]).bind fun t => if acc.length + t.length < 140737488355328 then narw_Bytes.l0 k (acc ++ t) ts (ts.length : Int) ((i + 1 : Nat) : Int) else none) (fun k => ?_) (Ev.bind (f := fun k t => _) hp (Ev.congr (fun k => if_pos (by omega)) hr))
      show narw_Bytes.l0 (k + 1) _ _ _ _ = _
      rw [narw_Bytes.l0, if_pos (by omega), if_pos (by omega), if_pos (by omega), rdB_at ts i hlt, w1 hlt (by omega)]
  have hr := key ts.length 0 [] (by omega) rfl
  exact Ev.bind (f := fun k t => _) h (Ev.congr (fun k => if_pos rfl) hr)
end Go.Proofs.YtlcaogiljiieaaaX
/- What the document lays texts down as: plain laws, no walk. -/
namespace Go.Proofs.YtlcaogiljiieaaaX
open Go.RowKit Go.Proofs.Ytlcaogiljiieaaa.PNarw Go.Proofs.YtlcaogiljiieaaaW.PrintWords Go.Proofs.YtlcaogiljiieaaaW.PrintLast Go.Proofs.YtlcaogiljiieaaaW.PrintMore
theorem number_ev (n : Nat) (hn : n ≤ 2147483647) : Ev (fun k => chandleryref01_Number.f k (n : Int)) (num8 n) := by
  have hnum : ∀ m i, i + m = 8 → Ev (fun k => chandleryref01_Number.l0 k ((n / 256 ^ i : Nat) : Int) ((List.range i).map fun j : Nat => ((n / 256 ^ j % 256 : Nat) : Int)) (i : Int)) (num8 n) := by
    intro m
    induction m with
    | zero =>
      intro i hi
      obtain rfl : i = 8 := by omega
      refine Ev.step (f := fun _ => some (num8 n)) (fun k => ?_) (Ev.now _)
      rw [chandleryref01_Number.l0, if_neg (by decide)]
      rfl
    | succ m ih =>
      intro i hi
      have h := ih (i + 1) (by omega)
      refine Ev.step (fun k => ?_) h
      have hle : n / 256 ^ i ≤ n := Nat.div_le_self _ _
      have e3 : n / 256 ^ (i + 1) = n / 256 ^ i / 256 := by rw [Nat.pow_succ, Nat.div_div_eq_div_mul]
      rw [chandleryref01_Number.l0, if_pos (by omega), if_pos (by simp; omega), w1 (n := 8) (by omega) (by omega), List.range_succ, List.map_append, e3]
      show _ = chandleryref01_Number.l0 k ((n / 256 ^ i / 256 : Nat) : Int) (_ ++ [((n / 256 ^ i % 256 : Nat) : Int)]) _
      generalize n / 256 ^ i = q at hle
      have e1 : Int.tdiv ((q : Nat) : Int) 256 = ((q / 256 : Nat) : Int) := by
        rw [Int.tdiv_eq_ediv_of_nonneg (by omega)]
        omega
      have e2 : Int.tmod ((q : Nat) : Int) 256 % 256 = ((q % 256 : Nat) : Int) := by
        rw [Int.tmod_eq_emod_of_nonneg (by omega)]
        omega
      rw [e1, e2, w64 (by omega) (by omega)]
  have h := hnum 8 0 rfl
  rw [show (n / 256 ^ 0 : Nat) = n by simp] at h
  exact h
theorem rtext_ev (s : ByteArray) (hs : s.size ≤ 100000000) : Ev (fun k => chandleryref01_Text.f k s) (textOf s) := by
  have hpad : ∀ m (acc : List Int), (acc.length + m) % 8 = 0 → m < 8 → acc.length ≤ 1000000000 → Ev (fun k => chandleryref01_Text.l0 k acc) (acc ++ List.replicate m 0) := by
    intro m
    induction m with
    | zero =>
      intro acc ha _ _
      refine Ev.step (f := fun _ => some (acc ++ List.replicate 0 0)) (fun k => ?_) (Ev.now _)
      rw [chandleryref01_Text.l0, if_pos (by omega)]
      simp
    | succ m ih =>
      intro acc ha hm hl
      have h := ih (acc ++ [0]) (by simp; omega) (by omega) (by simp; omega)
      rw [List.append_assoc, show [0] ++ List.replicate m (0 : Int) = List.replicate (m + 1) 0 from rfl] at h
      refine Ev.step (fun k => ?_) h
      rw [chandleryref01_Text.l0, if_neg (by omega), if_pos (by omega)]
  have hr := number_ev s.size (by omega)
  have hrl := num8_len s.size
  refine Ev.bind (f := fun k t => _) hr ?_
  refine Ev.congr (fun k => if_pos (by omega)) ?_
  exact hpad _ _ (by rw [List.length_append, bytesOf_length, hrl]; omega) (by omega) (by rw [List.length_append, bytesOf_length, hrl]; omega)
theorem rbytes_ev (l : List S27) (ts : List ByteArray) (h : Ev (fun k => chandleryref17_Texts.f k l) ts) (hs : ∀ t ∈ ts, t.size ≤ 100000000) (hb : sum8 ts ≤ 4000000000) (hn : ts.length ≤ 1000000) : Ev (fun k => chandleryref17_Bytes.f k l) (layOf ts) := by
  have key : ∀ m i (acc : List Int), i + m = ts.length → acc.length = sum8 (ts.take i) → Ev (fun k => chandleryref17_Bytes.l0 k acc ts (i : Int)) (acc ++ layOf (ts.drop i)) := by
    intro m
    induction m with
    | zero =>
      intro i acc hi ha
      refine Ev.step (f := fun _ => some (acc ++ layOf (ts.drop i))) (fun k => ?_) (Ev.now _)
      rw [chandleryref17_Bytes.l0, if_neg (by omega), List.drop_of_length_le (by omega), layOf, List.append_nil]
    | succ m ih =>
      intro i acc hi ha
      have hlt : i < ts.length := by omega
      have hp := rtext_ev ts[i] (hs _ (List.getElem_mem hlt))
      have hpl := textOf_len ts[i]
      have h1 := sum8_take ts i hlt
      have h2 := sum8_take_le ts (i + 1)
      have hr := ih (i + 1) (acc ++ textOf ts[i]) (by omega) (by rw [List.length_append, ha, hpl, h1])
      rw [List.append_assoc] at hr
      rw [List.drop_eq_getElem_cons hlt, layOf]
      refine Ev.step (f := fun k => (chandleryref01_Text.f k ts[i]).bind fun t => if acc.length + t.length < 140737488355328 then chandleryref17_Bytes.l0 k (acc ++ t) ts ((i + 1 : Nat) : Int) else none) (fun k => ?_) (Ev.bind (f := fun k t => _) hp (Ev.congr (fun k => if_pos (by omega)) hr))
      rw [chandleryref17_Bytes.l0, if_pos (by omega), if_pos (by omega), rdB_at ts i hlt, w1 hlt (by omega)]
  have hr := key ts.length 0 [] (by omega) rfl
  exact Ev.bind (f := fun k t => _) h hr
end Go.Proofs.YtlcaogiljiieaaaX
/- The laws' own 'few', and two rows that are one: plain laws, no walk. -/
namespace Go.Proofs.YtlcaogiljiieaaaX
open Go.RowKit Go.Proofs.Ytlcaogiljiieaaa.PNarw Go.Proofs.YtlcaogiljiieaaaW.PrintWords Go.Proofs.YtlcaogiljiieaaaW.PrintLast Go.Proofs.YtlcaogiljiieaaaW.PrintMore
theorem few_ev (l : List S27) : ∃ b, Ev (fun k => chandlerylaw17_few.f k l) b ∧ (b = true → l.length ≤ 300 ∧ ∀ e ∈ l, e.f0.size ≤ 300 ∧ e.f3.size ≤ 1000) := by
  have hno : Ev (fun k => chandlerylaw17_few.j0 k l true) false := Ev.step (f := fun _ => some false) (fun k => by rw [chandlerylaw17_few.j0, if_pos rfl]) (Ev.now _)
  by_cases hlen : l.length ≤ 300
  · have hgo : ∀ i, i < l.length → (∀ h : i < l.length, l[i].f0.size ≤ 300 ∧ l[i].f3.size ≤ 1000) → ∀ k, chandlerylaw17_few.l0 (k + 1) l (i : Int) = chandlerylaw17_few.l0 k l ((i + 1 : Nat) : Int) := by
      intro i hi ok k
      obtain ⟨h0, h1⟩ := ok hi
      rw [chandlerylaw17_few.l0, if_pos (by omega), if_pos (by omega), rd27_at l i hi, if_neg (by omega), if_neg (by omega), w1 hi (by omega)]
    have hbad : ∀ i, i < l.length → (¬ ∀ h : i < l.length, l[i].f0.size ≤ 300 ∧ l[i].f3.size ≤ 1000) → ∀ k, chandlerylaw17_few.l0 (k + 1) l (i : Int) = some false := by
      intro i hi no k
      rw [chandlerylaw17_few.l0, if_pos (by omega), if_pos (by omega), rd27_at l i hi]
      by_cases h0 : (l[i].f0.size : Int) > 300
      · rw [if_pos h0]
      · rw [if_neg h0]
        by_cases h1 : (l[i].f3.size : Int) > 1000
        · rw [if_pos h1]
        · exact absurd (fun hh => ⟨by omega, by omega⟩) no
    have hend : Ev (fun k => chandlerylaw17_few.l0 k l ((l.length : Nat) : Int)) true := Ev.step (f := fun _ => some true) (fun k => by rw [chandlerylaw17_few.l0, if_neg (by omega)]) (Ev.now _)
    have hloop : ∃ b, Ev (fun k => chandlerylaw17_few.j0 k l false) b ∧ (b = true → l.length ≤ 300 ∧ ∀ e ∈ l, e.f0.size ≤ 300 ∧ e.f3.size ≤ 1000) := by
      have hj : ∀ b, Ev (fun k => chandlerylaw17_few.l0 k l ((0 : Nat) : Int)) b → Ev (fun k => chandlerylaw17_few.j0 k l false) b := fun b h => Ev.step (fun k => by rw [chandlerylaw17_few.j0, if_neg Bool.false_ne_true]; rfl) h
      rcases ev_all (fun i k => chandlerylaw17_few.l0 k l (i : Int)) l.length (fun i => ∀ h : i < l.length, l[i].f0.size ≤ 300 ∧ l[i].f3.size ≤ 1000) (bad := false) hgo hbad hend with ⟨hall, h⟩ | ⟨_, h⟩
      · refine ⟨true, hj _ h, fun _ => ⟨hlen, fun e he => ?_⟩⟩
        obtain ⟨i, hi, rfl⟩ := List.mem_iff_getElem.1 he
        exact hall i hi hi
      · exact ⟨false, hj _ h, fun h => by cases h⟩
    by_cases h60 : (l.length : Int) > 60
    · by_cases h256 : (l.length : Int) ≤ 256
      · exact ⟨false, Ev.congr (fun k => by unfold chandlerylaw17_few.f; rw [if_pos h60, if_pos h256]) hno, fun h => by cases h⟩
      · obtain ⟨b, hb, hb2⟩ := hloop
        exact ⟨b, Ev.congr (fun k => by unfold chandlerylaw17_few.f; rw [if_pos h60, if_neg h256, decide_eq_false (by omega)]) hb, hb2⟩
    · obtain ⟨b, hb, hb2⟩ := hloop
      exact ⟨b, Ev.congr (fun k => by unfold chandlerylaw17_few.f; rw [if_neg h60, decide_eq_false (by omega)]) hb, hb2⟩
  · exact ⟨false, Ev.congr (fun k => by unfold chandlerylaw17_few.f; rw [if_pos (by omega), if_neg (by omega), decide_eq_true (by omega)]) hno, fun h => by cases h⟩
theorem rows_same (l : List S27) (hl : l.length ≤ 1000000) : Ev (fun k => chandleryref16_Rows.f k l l) true := by
  unfold chandleryref16_Rows.f
  refine Ev.congr (fun k => if_pos rfl) ?_
  refine ev_go (fun i k => chandleryref16_Rows.l0 k l l (i : Int)) l.length (fun i hi k => ?_) ?_
  · show chandleryref16_Rows.l0 (k + 1) _ _ _ = _
    rw [chandleryref16_Rows.l0, if_pos (by omega), if_pos (by omega), if_pos (by omega), if_neg (by simp), w1 hi (by omega)]
  · refine Ev.step (f := fun _ => some true) (fun k => ?_) (Ev.now _)
    show chandleryref16_Rows.l0 (k + 1) _ _ _ = _
    rw [chandleryref16_Rows.l0, if_neg (by omega)]
theorem same_textsN (l : List ByteArray) (hl : l.length ≤ 1000000) : Ev (fun k => chandleryref01_Texts.f k l l) true := by
  refine Ev.congr (fun k => if_pos rfl) ?_
  refine ev_go (fun i k => chandleryref01_Texts.l0 k l l (i : Int)) l.length (fun i hi k => ?_) ?_
  · show chandleryref01_Texts.l0 (k + 1) _ _ _ = _
    rw [chandleryref01_Texts.l0, if_pos (by omega), if_pos (by omega), if_pos (by omega), if_pos rfl, w1 hi (by omega)]
  · refine Ev.step (f := fun _ => some true) (fun k => ?_) (Ev.now _)
    show chandleryref01_Texts.l0 (k + 1) _ _ _ = _
    rw [chandleryref01_Texts.l0, if_neg (by omega)]
end Go.Proofs.YtlcaogiljiieaaaX
/- How long a tree's texts are: plain laws, no walk. -/
namespace Go.Proofs.YtlcaogiljiieaaaX
open Go.RowKit Go.Proofs.Ytlcaogiljiieaaa.PNarw Go.Proofs.YtlcaogiljiieaaaW.PrintWords Go.Proofs.YtlcaogiljiieaaaW.PrintLast Go.Proofs.YtlcaogiljiieaaaW.PrintMore
theorem part_len : ∀ (l p : List UInt8), p ∈ parts l → p.length ≤ l.length
  | [], p, h => by simp [parts] at h; subst h; simp
  | c :: l, p, h => by
    have ih := part_len l
    rw [parts] at h
    split at h
    · rcases List.mem_cons.1 h with rfl | h
      · simp
      · have := ih p h
        simp only [List.length_cons]
        omega
    · split at h
      · rename_i hp; exact absurd hp (parts_ne l)
      · rename_i q qs hq
        rw [hq] at ih
        rcases List.mem_cons.1 h with rfl | h
        · have := ih q List.mem_cons_self
          simp only [List.length_cons]
          omega
        · have := ih p (List.mem_cons_of_mem _ h)
          simp only [List.length_cons]
          omega
theorem lastName_len (x : Ent) : (lastName x).length ≤ x.path.length := by
  unfold lastName
  cases h : x.nm.getLast? with
  | none => simp
  | some p =>
    have hm := List.mem_of_getLast? h
    unfold Ent.nm pnames at hm
    by_cases hp : x.path = []
    · rw [if_pos hp] at hm; cases hm
    · rw [if_neg hp] at hm
      exact part_len _ _ hm
theorem ref_small {l : List Ent} (hs : ∀ e ∈ l, e.path.length ≤ 1000 ∧ e.data.length ≤ 1000) : ∀ {z T}, RefL l z T → (∀ e, z = .inl e → e ∈ l) → ∀ t ∈ T, t.length ≤ 1000 := by
  intro z T h
  induction h with
  | @file e hk =>
    intro hz t ht
    have hd := (hs e (hz e rfl)).2
    have h3 : ∀ t ∈ fileL e, t.length ≤ 1000 := by
      intro t ht
      unfold fileL at ht
      rcases List.mem_append.1 ht with h1 | h1
      · rcases List.mem_cons.1 h1 with h2 | h1
        · rw [h2]; decide
        · split at h1
          · rcases List.mem_cons.1 h1 with h2 | h1
            · rw [h2]; decide
            · rw [List.mem_singleton.1 h1]; decide
          · cases h1
      · rcases List.mem_cons.1 h1 with h2 | h1
        · rw [h2]; decide
        · rw [List.mem_singleton.1 h1]; exact hd
    unfold nodeT at ht
    rcases List.mem_append.1 ht with ht | ht
    · rcases List.mem_append.1 ht with ht | ht
      · rcases List.mem_cons.1 ht with ht | ht
        · rw [ht]; decide
        · rw [List.mem_singleton.1 ht]; decide
      · exact h3 t ht
    · rw [List.mem_singleton.1 ht]; decide
  | @link e hk =>
    intro hz t ht
    have hd := (hs e (hz e rfl)).2
    unfold nodeT linkL at ht
    simp only [List.mem_append, List.mem_cons, List.not_mem_nil, or_false] at ht
    rcases ht with ((ht | ht) | (ht | ht | ht)) | ht
    all_goals first | (rw [ht]; exact hd) | (rw [ht]; decide)
  | @dir e U hk hU ih =>
    intro hz t ht
    unfold nodeT at ht
    rcases List.mem_append.1 ht with ht | ht
    · rcases List.mem_append.1 ht with ht | ht
      · rcases List.mem_cons.1 ht with ht | ht
        · rw [ht]; decide
        · rw [List.mem_singleton.1 ht]; decide
      · rcases List.mem_cons.1 ht with ht | ht
        · rw [ht]; decide
        · exact ih (fun e he => by cases he) t ht
    · rw [List.mem_singleton.1 ht]; decide
  | nil => intro _ t ht; cases ht
  | @cons x xs t u hx ht hu iht ihu =>
    intro hz w hw
    have hl := (hs x hx).1
    have hn := lastName_len x
    rcases List.mem_append.1 hw with hw | hw
    · rcases List.mem_append.1 hw with hw | hw
      · rcases List.mem_append.1 hw with hw | hw
        · simp only [List.mem_cons, List.not_mem_nil, or_false] at hw
          rcases hw with hw | hw | hw | hw | hw
          all_goals first | (rw [hw]; decide) | (rw [hw]; omega)
        · exact iht (fun e he => by injection he with he; rw [← he]; exact hx) w hw
      · rw [List.mem_singleton.1 hw]; decide
    · exact ihu (fun e he => by cases he) w hw
theorem sum8_small : ∀ l : List ByteArray, (∀ t ∈ l, t.size ≤ 1000) → sum8 l ≤ 1016 * l.length
  | [], _ => by simp [sum8]
  | t :: l, h => by
    have h1 := h t List.mem_cons_self
    have h2 := sum8_small l fun x hx => h x (List.mem_cons_of_mem _ hx)
    rw [sum8, List.length_cons]
    unfold len8
    omega
end Go.Proofs.YtlcaogiljiieaaaX
/- The laws' own example: plain laws, no walk. -/
namespace Go.Proofs.YtlcaogiljiieaaaX
open Go.RowKit Go.Proofs.Ytlcaogiljiieaaa.PNarw Go.Proofs.YtlcaogiljiieaaaW.PrintWords Go.Proofs.YtlcaogiljiieaaaW.PrintLast Go.Proofs.YtlcaogiljiieaaaW.PrintMore
def abcE : S27 := ⟨⟨#[]⟩, 1, false, ⟨#[97, 98, 99]⟩⟩
def abcT : List ByteArray := [tMagic, tOpen, tType, tRegular, tContents, ⟨#[97, 98, 99]⟩, tShut]
theorem abc_spec : spec [abcE] = 0 := by
  have h1 : entOK abcE = true := by
    unfold entOK abcE pathNames
    rw [ba_toList]
    rfl
  have h2 : stepOK [] abcE = true := by
    unfold stepOK
    rw [h1]
    rfl
  show (if abcE.f0.data.toList = [] then specGo [] [abcE] else 1) = 0
  rw [if_pos (show abcE.f0.data.toList = [] from rfl), specGo, h2, if_pos rfl]
  rfl
theorem abc_whole : wholeOf [abcE] = some [tOpen, tType, tRegular, tContents, ⟨#[97, 98, 99]⟩, tShut] := by
  unfold wholeOf
  rw [if_pos ⟨by simp, by simp, by rfl⟩]
  have : nodeL (2 * [abcE].length) ((entsOf [abcE]).map entOf) = some (nodeT tOpen.data.toList tType.data.toList tShut.data.toList (fileL (entS abcE)), []) := by
    show nodeW _ _ _ _ _ _ _ _ _ (1 + 1) [entS abcE] = _
    rw [nodeW, if_pos (show (entS abcE).kind = 1 from rfl)]
  rw [this, Option.bind_some]
  rfl
theorem abc_texts : Ev (fun k => narw_Texts.f k [abcE]) (abcT, 0) := by
  have ht := ev_tree [abcE] (by intro e he; rw [List.mem_singleton.1 he]; decide)
  rw [abc_spec] at ht
  refine Ev.bind ht ?_
  refine Ev.congr (fun k => if_pos rfl) ?_
  rw [abc_whole]
  exact Ev.now _
theorem awakeN : Ev (fun k => chandlerylaw17_awake.f k) true := by
  have hs : ∀ t ∈ abcT, t.size ≤ 100000000 := by
    intro t ht
    simp only [abcT, List.mem_cons, List.not_mem_nil, or_false] at ht
    rcases ht with rfl | rfl | rfl | rfl | rfl | rfl | rfl <;> decide
  have hsum : sum8 abcT = 120 := by decide
  have hss := size_ev _ _ _ abc_texts hs (by rw [hsum]; decide) (by decide)
  refine Ev.bind (f := fun k t => _) abc_texts ?_
  refine Ev.bind (f := fun k t => _) hss ?_
  refine Ev.bind (f := fun k t => _) (same_textsN abcT (by decide)) ?_
  refine Ev.congr (fun k => ?_) (Ev.now true)
  rw [if_pos rfl, if_pos rfl, hsum]
  rfl
end Go.Proofs.YtlcaogiljiieaaaX
/- NarwLays: what the law's function answers: plain, no walk. -/
namespace Go.Proofs.YtlcaogiljiieaaaX
open Go.RowKit Go.Proofs.Ytlcaogiljiieaaa.PNarw Go.Proofs.YtlcaogiljiieaaaW.PrintWords Go.Proofs.YtlcaogiljiieaaaW.PrintLast Go.Proofs.YtlcaogiljiieaaaW.PrintMore
/-- Both Texts, and how long they are. -/
theorem texts_known {l : List S27} (hl : ∀ e ∈ l, e.f0.size ≤ 300 ∧ e.f3.size ≤ 1000) (h : spec l = 0) : ∃ T : List ByteArray, T.length ≤ 3585 ∧ (∀ t ∈ T, t.size ≤ 1000) ∧ Ev (fun k => narw_Texts.f k l) (T, 0) ∧ Ev (fun k => chandleryref17_Texts.f k l) T := by
  have hl1 : ∀ e ∈ l, e.f0.size ≤ 1000 := fun e he => by have := (hl e he).1; omega
  obtain ⟨T, h1, h2, h3⟩ := both_texts hl1 h
  refine ⟨T, h1, ?_, h2, h3⟩
  rcases ev_texts hl1 with ⟨h0, _⟩ | ⟨_, e, r, T2, he, hroot, hR, hT, hx⟩
  · exact absurd h h0
  · have he1 := ev_eq h2 hx
    injection he1 with he1 _
    rw [he1]
    intro t ht
    rcases List.mem_append.1 ht with ht | ht
    · rw [List.mem_singleton.1 ht]; decide
    · obtain ⟨s, hs, rfl⟩ := List.mem_map.1 ht
      have := ref_small (l := l.map entS) (fun x hx2 => by
        obtain ⟨y, hy, rfl⟩ := List.mem_map.1 hx2
        have h5 := hl y hy
        have e0 := ba_size y.f0
        have e3 := ba_size y.f3
        show y.f0.data.toList.length ≤ 1000 ∧ y.f3.data.toList.length ≤ 1000
        omega) hR (fun x hx2 => by
          injection hx2 with hx2
          rw [← hx2, he]
          simp) s hs
      rw [ba_size]
      exact this
end Go.Proofs.YtlcaogiljiieaaaX
