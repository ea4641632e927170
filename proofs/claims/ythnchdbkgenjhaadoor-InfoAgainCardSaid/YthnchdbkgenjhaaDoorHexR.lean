import Derived.Test.YthnchdbkgenjhaaDoorQInfoAx5
import Derived.Test.YthnchdbkgenjhaaDoorHex
import Derived.Test.YthnchdbkgenjhaaDoorEvFind
import Derived.Test.YthnchdbkgenjhaaDoorQInfoAx3
set_option linter.unusedVariables false
/- base.Unhex: what its printed loop answers. -/
namespace Go.Proofs.YthnchdbkgenjhaaDoorX
open Go.RowKit Go.Proofs.YthnchdbkgenjhaaDoor.PInfoA Go.Proofs.YthnchdbkgenjhaaDoorW.PrintWords Go.Proofs.YthnchdbkgenjhaaDoorW.PrintLast Go.Proofs.YthnchdbkgenjhaaDoorW.PrintMore
def Byt (l : List Int) : Prop := ∀ x ∈ l, 0 ≤ x ∧ x ≤ 255
theorem succ_of_lt {d k : Nat} (h : d < k) : ∃ m, k = m + 1 := ⟨k - 1, by omega⟩
def hexTab : ByteArray := ⟨#[48, 49, 50, 51, 52, 53, 54, 55, 56, 57, 97, 98, 99, 100, 101, 102]⟩
/-- What a digit of the base 16 stands for; 16: none. -/
def hv (c : UInt8) : Nat := if Lib.indexByte hexTab.data.toList c = -1 then 16 else (Lib.indexByte hexTab.data.toList c).toNat
theorem hv_facts : ∀ n : Fin 256, hv (UInt8.ofNat n.val) ≤ 16 ∧ Lib.indexByte hexTab.data.toList (UInt8.ofNat n.val) = (if hv (UInt8.ofNat n.val) = 16 then -1 else ((hv (UInt8.ofNat n.val) : Nat) : Int)) ∧
    (hv (UInt8.ofNat n.val) < 16 → hexD (hv (UInt8.ofNat n.val)) = UInt8.ofNat n.val) ∧ (hexTab.data.toList.contains (UInt8.ofNat n.val) = decide (hv (UInt8.ofNat n.val) < 16)) := by decide +kernel
theorem hv_all (c : UInt8) : hv c ≤ 16 ∧ Lib.indexByte hexTab.data.toList c = (if hv c = 16 then -1 else ((hv c : Nat) : Int)) ∧ (hv c < 16 → hexD (hv c) = c) ∧ hexTab.data.toList.contains c = decide (hv c < 16) := by
  have h := hv_facts ⟨c.toNat, c.toNat_lt⟩
  simpa only [UInt8.ofNat_toNat] using h
theorem hv_hexD (n : Nat) (h : n < 16) : hv (hexD n) = n := by
  have h' : ∀ m : Fin 16, hv (hexD m.val) = m.val := by decide +kernel
  exact h' ⟨n, h⟩
/-- Bytes of pairs of digits. -/
def unh : List UInt8 → List Int
  | a :: b :: r => (((16 * hv a + hv b : Nat)) : Int) :: unh r
  | _ => []
def HexOK (s : List UInt8) : Prop := s.length % 2 = 0 ∧ ∀ c ∈ s, hv c < 16
theorem unh_hexL (l : List Int) (h : Byt l) : unh (hexL l) = l := by
  unfold hexL
  induction l with
  | nil => rfl
  | cons x l ih =>
    have hx := h x List.mem_cons_self
    simp only [List.flatMap_cons, List.cons_append, List.nil_append, unh]
    rw [ih (fun y hy => h y (List.mem_cons_of_mem _ hy)), hv_hexD _ (by omega), hv_hexD _ (by omega)]
    congr 1
    omega
theorem hexL_ok (l : List Int) (h : Byt l) : HexOK (hexL l) := by
  refine ⟨by rw [hexL_length]; omega, fun c hc => ?_⟩
  unfold hexL at hc
  obtain ⟨x, hx, hc⟩ := List.mem_flatMap.1 hc
  have hx' := h x hx
  simp only [List.mem_cons, List.mem_nil_iff, or_false] at hc
  rcases hc with rfl | rfl
  · rw [hv_hexD _ (by omega)]; omega
  · rw [hv_hexD _ (by omega)]; omega
theorem unh_byt : ∀ s : List UInt8, (∀ c ∈ s, hv c < 16) → Byt (unh s)
  | [], _ => by intro x hx; cases hx
  | [_], _ => by intro x hx; cases hx
  | a :: b :: r, h => by
    intro x hx
    simp only [unh, List.mem_cons] at hx
    rcases hx with rfl | hx
    · have h1 := h a (by simp)
      have h2 := h b (by simp)
      omega
    · exact unh_byt r (fun c hc => h c (by simp [hc])) x hx
theorem hexL_unh : ∀ s : List UInt8, HexOK s → hexL (unh s) = s
  | [], _ => rfl
  | [_], h => by have := h.1; simp at this
  | a :: b :: r, h => by
    have h1 := h.2 a (by simp)
    have h2 := h.2 b (by simp)
    have ih := hexL_unh r ⟨by have := h.1; simp only [List.length_cons] at this; omega, fun c hc => h.2 c (by simp [hc])⟩
    unfold hexL at ih ⊢
    simp only [unh, List.flatMap_cons, ih, List.cons_append, List.nil_append]
    rw [show ((16 * hv a + hv b : Nat) : Int) / 16 = ((hv a : Nat) : Int) by omega, show ((16 * hv a + hv b : Nat) : Int) % 16 = ((hv b : Nat) : Int) by omega, Int.toNat_natCast, Int.toNat_natCast, (hv_all a).2.2.1 h1, (hv_all b).2.2.1 h2]
theorem unh_length : ∀ s : List UInt8, (unh s).length = s.length / 2
  | [] => rfl
  | [_] => by simp [unh]
  | a :: b :: r => by simp only [unh, List.length_cons, unh_length r]; omega
theorem unh_get : ∀ (s : List UInt8) (i : Nat) (h : 2 * i + 1 < s.length), (unh s)[i]? = some (((16 * hv (s[2 * i]) + hv (s[2 * i + 1]) : Nat)) : Int)
  | [], i, h => by simp at h
  | [_], i, h => by simp at h
  | a :: b :: r, 0, h => rfl
  | a :: b :: r, i + 1, h => by
    have := unh_get r i (by simp only [List.length_cons] at h; omega)
    simp only [unh, List.getElem?_cons_succ, this]
    rfl
theorem all_takeWhile {p : UInt8 → Bool} : ∀ {l : List UInt8} {x : UInt8}, x ∈ l.takeWhile p → p x = true
  | [], x, h => by simp at h
  | y :: l, x, h => by
    rw [List.takeWhile_cons] at h
    by_cases c : p y = true
    · rw [if_pos c] at h
      rcases List.mem_cons.1 h with rfl | h
      · exact c
      · exact all_takeWhile h
    · rw [if_neg c] at h
      cases h
theorem dropWhile_all {p : UInt8 → Bool} : ∀ {l : List UInt8}, (∀ x ∈ l, p x = true) → l.dropWhile p = []
  | [], _ => rfl
  | y :: l, h => by
    rw [List.dropWhile_cons, if_pos (h y List.mem_cons_self)]
    exact dropWhile_all (fun x hx => h x (List.mem_cons_of_mem _ hx))
theorem dropWhile_head {p : UInt8 → Bool} : ∀ {l : List UInt8} {y : UInt8} {t : List UInt8}, l.dropWhile p = y :: t → p y = false
  | [], y, t, h => by simp at h
  | z :: l, y, t, h => by
    rw [List.dropWhile_cons] at h
    by_cases c : p z = true
    · rw [if_pos c] at h
      exact dropWhile_head h
    · rw [if_neg c] at h
      have := (List.cons.inj h).1
      rw [← this]
      simpa using c
/-- Trimmed to nothing: all of it was of the cutset. -/
theorem trimS_nil (l cs : List UInt8) : Lib.trimS l cs = [] ↔ ∀ c ∈ l, cs.contains c = true := by
  unfold Lib.trimS Lib.trimLeftS Lib.trimRightS
  constructor
  · intro h c hc
    have h1 : ∀ x ∈ (l.reverse.dropWhile (cs.contains ·)).reverse, cs.contains x = true := by
      intro x hx
      by_cases hp : cs.contains x = true
      · exact hp
      · exfalso
        have : x ∈ (l.reverse.dropWhile (cs.contains ·)).reverse.dropWhile (cs.contains ·) := by
          have hs : (l.reverse.dropWhile (cs.contains ·)).reverse = (l.reverse.dropWhile (cs.contains ·)).reverse.takeWhile (cs.contains ·) ++ (l.reverse.dropWhile (cs.contains ·)).reverse.dropWhile (cs.contains ·) := (List.takeWhile_append_dropWhile).symm
          rw [hs] at hx
          rcases List.mem_append.1 hx with hx | hx
          · exact absurd (all_takeWhile (p := (cs.contains ·)) hx) hp
          · exact hx
        rw [h] at this
        cases this
    have h2 : l.reverse.dropWhile (cs.contains ·) = [] := by
      cases hd : l.reverse.dropWhile (cs.contains ·) with
      | nil => rfl
      | cons y t =>
        exfalso
        have h3 := h1 y (by rw [hd]; simp)
        have h4 := dropWhile_head (p := (cs.contains ·)) hd
        rw [h3] at h4
        cases h4
    have h5 : l.reverse = l.reverse.takeWhile (cs.contains ·) := by
      conv => lhs; rw [← List.takeWhile_append_dropWhile (p := (cs.contains ·)) (l := l.reverse)]
      rw [h2, List.append_nil]
    have hc' : c ∈ l.reverse := List.mem_reverse.2 hc
    rw [h5] at hc'
    exact all_takeWhile (p := (cs.contains ·)) hc'
  · intro h
    have h1 : l.reverse.dropWhile (cs.contains ·) = [] := by
      refine dropWhile_all (fun x hx => ?_)
      exact h x (List.mem_reverse.1 hx)
    rw [h1]
    rfl
theorem trim_hex (s : List UInt8) : Lib.trimS s hexTab.data.toList = [] ↔ ∀ c ∈ s, hv c < 16 := by
  rw [trimS_nil]
  constructor
  · intro h c hc
    have := h c hc
    rw [(hv_all c).2.2.2] at this
    exact of_decide_eq_true this
  · intro h c hc
    rw [(hv_all c).2.2.2]
    exact decide_eq_true (h c hc)
theorem hexidx (c : UInt8) : strings_IndexByte.f hexTab ((c.toNat : Nat) : Int) = some (if hv c = 16 then -1 else ((hv c : Nat) : Int)) := by
  unfold strings_IndexByte.f
  rw [Int.toNat_natCast, show c.toNat.toUInt8 = c from UInt8.ofNat_toNat, (hv_all c).2.1]
theorem or_hex (a b : Nat) (ha : a < 16) (hb : b < 16) : Go.bits .or .i64 (wrap64 (((a : Nat) : Int) * 16)) ((b : Nat) : Int) % 256 = ((16 * a + b : Nat) : Int) := by
  rw [w64 (by omega) (by omega), or64 4 (by omega) (by rw [show (2 : Int) ^ 4 = 16 from by decide]; omega) (by omega) (by omega) (by rw [show (2 : Int) ^ 4 = 16 from by decide]; omega) (by omega)]
  omega
theorem set_take (l : List Int) (i d : Nat) (h : i < l.length) : (l.take i ++ List.replicate (d + 1) (0 : Int)).set i (l[i]) = l.take (i + 1) ++ List.replicate d 0 := by
  have hl : (l.take i).length = i := by rw [List.length_take]; omega
  rw [List.set_append, hl, if_neg (Nat.lt_irrefl _), Nat.sub_self, List.replicate_succ, List.set_cons_zero, List.take_succ_eq_append_getElem h, List.append_assoc]
  rfl
theorem unhex_loop (s : ByteArray) (hs : s.size ≤ 1000000) (h2 : s.size % 2 = 0) (hok : ∀ c ∈ s.data.toList, hv c < 16) (d : Nat) : ∀ k i, i + d = s.size / 2 → d < k →
    base_Unhex.l0 k s ((unh s.data.toList).take i ++ List.replicate d 0) ((s.size / 2 : Nat) : Int) (i : Int) = some (unh s.data.toList, 0) := by
  have hsl : s.data.toList.length = s.size := (ba_size s).symm
  have hul : (unh s.data.toList).length = s.size / 2 := by rw [unh_length, hsl]
  induction d with
  | zero =>
    intro k i hi hk
    obtain ⟨k, rfl⟩ := succ_of_lt hk
    rw [base_Unhex.l0, if_neg (by omega), List.replicate_zero, List.append_nil, List.take_of_length_le (by omega)]
  | succ d ih =>
    intro k i hi hk
    obtain ⟨k, rfl⟩ := succ_of_lt hk
    have ihk := ih k (i + 1) (by omega) (by omega)
    have q1 : (i : Int) < ((s.size / 2 : Nat) : Int) := by omega
    have e2 : wrap64 (2 * (i : Int)) = ((2 * i : Nat) : Int) := by rw [w64 (by omega) (by omega)]; omega
    have e3 : wrap64 (((2 * i : Nat) : Int) + 1) = ((2 * i + 1 : Nat) : Int) := by rw [w64 (by omega) (by omega)]; omega
    have ei : wrap64 ((i : Int) + 1) = ((i + 1 : Nat) : Int) := by rw [w64 (by omega) (by omega)]; omega
    have q2 : (0 : Int) ≤ ((2 * i : Nat) : Int) := by omega
    have q3 : ((2 * i : Nat) : Int) < (s.size : Int) := by omega
    have q4 : (0 : Int) ≤ ((2 * i + 1 : Nat) : Int) := by omega
    have q5 : ((2 * i + 1 : Nat) : Int) < (s.size : Int) := by omega
    have q6 : (0 : Int) ≤ (i : Int) := by omega
    have hl : ((unh s.data.toList).take i ++ List.replicate (d + 1) (0 : Int)).length = s.size / 2 := by rw [List.length_append, List.length_take, List.length_replicate]; omega
    have q7 : (i : Int) < ((((unh s.data.toList).take i ++ List.replicate (d + 1) (0 : Int)).length : Nat) : Int) := by rw [hl]; exact q1
    have hj0 : 2 * i < s.data.toList.length := by omega
    have hj1 : 2 * i + 1 < s.data.toList.length := by omega
    have hiu : i < (unh s.data.toList).length := by omega
    have b0 := bt_list s (2 * i) hj0
    have b1 := bt_list s (2 * i + 1) hj1
    have h0 := hok _ (List.getElem_mem hj0)
    have h1 := hok _ (List.getElem_mem hj1)
    have hg := unh_get s.data.toList i hj1
    rw [List.getElem?_eq_getElem hiu] at hg
    have hg' := Option.some.inj hg
    have x0 := hexidx (s.data.toList[2 * i])
    have x1 := hexidx (s.data.toList[2 * i + 1])
    rw [if_neg (Nat.ne_of_lt h0)] at x0
    rw [if_neg (Nat.ne_of_lt h1)] at x1
    rw [base_Unhex.l0, e2, e3, ei, b0, b1]
    refine (if_pos q1).trans ((if_pos q2).trans ((if_pos q3).trans ?_))
    refine (congrArg (fun z => Option.bind z _) x0).trans ?_
    rw [Option.bind_some]
    refine (if_pos q4).trans ((if_pos q5).trans ?_)
    refine (congrArg (fun z => Option.bind z _) x1).trans ?_
    rw [Option.bind_some]
    refine (if_pos q6).trans ((if_pos q7).trans ?_)
    rw [or_hex _ _ h0 h1, ← hg', Int.toNat_natCast]
    rw [set_take _ i d hiu]
    exact ihk
theorem unhex_f (s : ByteArray) (hs : s.size ≤ 1000000) : ∃ K, ∀ k, K < k →
    (HexOK s.data.toList → base_Unhex.f k s = some (unh s.data.toList, 0)) ∧ (¬ HexOK s.data.toList → base_Unhex.f k s = some ([], 4)) := by
  have hsl : s.data.toList.length = s.size := (ba_size s).symm
  have htr : strings_Trim.f s hexTab = some ⟨(Lib.trimS s.data.toList hexTab.data.toList).toArray⟩ := by
    unfold strings_Trim.f
    exact if_pos ⟨by omega, by decide, by decide⟩
  have hjt : ∀ k, 0 < k → base_Unhex.j0 k s true = some ([], 4) := fun k hk => by
    obtain ⟨k, rfl⟩ := succ_of_lt hk
    rw [base_Unhex.j0]
    exact if_pos rfl
  refine ⟨s.size + 3, fun k hk => ?_⟩
  unfold base_Unhex.f
  by_cases h2 : s.size % 2 = 0
  · have c : ((s.size : Int) % 2) = 0 := by omega
    have ht : ((⟨(Lib.trimS s.data.toList hexTab.data.toList).toArray⟩ : ByteArray).toList != ([] : List UInt8)) = decide (¬ ∀ c ∈ s.data.toList, hv c < 16) := by
      rw [ba_toList, ba_mk, Bool.eq_iff_iff, bne_iff_ne, decide_eq_true_iff, Ne, trim_hex]
    have e0 : (if ((s.size : Int) % 2) = 0 then ((strings_Trim.f s hexTab).bind fun t103 => (base_Unhex.j0 k s (t103.toList != ([] : List UInt8)))) else (base_Unhex.j0 k s true)) = base_Unhex.j0 k s (decide (¬ ∀ c ∈ s.data.toList, hv c < 16)) := by
      rw [if_pos c, htr, Option.bind_some, ht]
    constructor
    · intro hok
      refine e0.trans ?_
      rw [decide_eq_false (fun h => h hok.2)]
      obtain ⟨k, rfl⟩ := succ_of_lt hk
      have en : wrap64 ((s.size : Int) / 2) = ((s.size / 2 : Nat) : Int) := by rw [w64 (by omega) (by omega)]; omega
      rw [base_Unhex.j0, en, Int.toNat_natCast]
      refine (if_neg (by decide)).trans ((if_pos (Int.natCast_nonneg _)).trans ((if_pos (by omega)).trans ?_))
      rw [Option.bind_some, List.length_replicate]
      have := unhex_loop s hs h2 hok.2 (s.size / 2) k 0 (by omega) (by omega)
      rw [List.take_zero, List.nil_append] at this
      exact this
    · intro hno
      refine e0.trans ?_
      have hn : ¬ ∀ c ∈ s.data.toList, hv c < 16 := fun h => hno ⟨by rw [hsl]; exact h2, h⟩
      rw [decide_eq_true hn]
      exact hjt k (by omega)
  · have c : ¬ ((s.size : Int) % 2) = 0 := by omega
    have e0 := (if_neg c : (if ((s.size : Int) % 2) = 0 then ((strings_Trim.f s hexTab).bind fun t103 => (base_Unhex.j0 k s (t103.toList != ([] : List UInt8)))) else (base_Unhex.j0 k s true)) = base_Unhex.j0 k s true)
    exact ⟨fun hok => absurd (by rw [← hsl]; exact hok.1) h2, fun _ => e0.trans (hjt k (by omega))⟩
end Go.Proofs.YthnchdbkgenjhaaDoorX
/- The reference's Hex: what its printed loop answers. -/
namespace Go.Proofs.YthnchdbkgenjhaaDoorX
open Go.RowKit Go.Proofs.YthnchdbkgenjhaaDoor.PInfoA Go.Proofs.YthnchdbkgenjhaaDoorW.PrintWords Go.Proofs.YthnchdbkgenjhaaDoorW.PrintLast Go.Proofs.YthnchdbkgenjhaaDoorW.PrintMore
structure HNums (n : Nat) : Prop where
  ex : wrap64 (n : Int) = (n : Int)
  ed : wrap64 (Int.tdiv (n : Int) 16) = ((n / 16 : Nat) : Int)
  em : Int.tmod (n : Int) 16 = ((n % 16 : Nat) : Int)
  e1 : wrap64 (((n / 16 : Nat) : Int) + 1) = ((n / 16 + 1 : Nat) : Int)
  e2 : wrap64 (((n % 16 : Nat) : Int) + 1) = ((n % 16 + 1 : Nat) : Int)
  hd1 : n / 16 < 16
  hd2 : n % 16 < 16
  p1 : (0 : Int) ≤ ((n / 16 : Nat) : Int)
  p2 : ((n / 16 : Nat) : Int) ≤ ((n / 16 + 1 : Nat) : Int)
  p3 : ((n / 16 + 1 : Nat) : Int) ≤ 16
  p5 : (0 : Int) ≤ ((n % 16 : Nat) : Int)
  p6 : ((n % 16 : Nat) : Int) ≤ ((n % 16 + 1 : Nat) : Int)
  p7 : ((n % 16 + 1 : Nat) : Int) ≤ 16
  g1 : (n : Int) / 16 = ((n / 16 : Nat) : Int)
  g2 : (n : Int) % 16 = ((n % 16 : Nat) : Int)
end Go.Proofs.YthnchdbkgenjhaaDoorX
