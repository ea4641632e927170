/- Node: where a key stands in a row that rises; both ways of looking. -/
import Derived.Test.YtjhenmegcgnkgaaQNodex6
import Derived.Test.YtjhenmegcgnkgaaQNodex9
import Derived.Test.YtjhenmegcgnkgaaNodeFit
import Derived.Test.YtjhenmegcgnkgaaNodeStr
import Derived.Test.YtjhenmegcgnkgaaNodePlace
set_option linter.unusedVariables false
namespace Go.Proofs.YtjhenmegcgnkgaaX
open Go.RowKit Go.Proofs.Ytjhenmegcgnkgaa.PNode Go.Proofs.YtjhenmegcgnkgaaW.PrintWords Go.Proofs.YtjhenmegcgnkgaaW.PrintLast Go.Proofs.YtjhenmegcgnkgaaW.PrintMore

theorem less_cons (x y : UInt8) (a b : List UInt8) : Op.bytesLess (x :: a) (y :: b) = (decide (x < y) || (x == y && Op.bytesLess a b)) := rfl
theorem less_trans : ∀ a b c : List UInt8, Op.bytesLess a b = true → Op.bytesLess b c = true → Op.bytesLess a c = true
  | [], _, [], h, h' => by
    cases ‹List UInt8› with
    | nil => exact h
    | cons y b => exact h'
  | [], _, _ :: _, _, _ => rfl
  | _ :: _, [], _, h, _ => by cases h
  | _ :: _, _ :: _, [], _, h => by cases h
  | x :: a, y :: b, z :: c, h, h' => by
    rw [less_cons, Bool.or_eq_true, Bool.and_eq_true, decide_eq_true_eq, beq_iff_eq] at h h' ⊢
    rcases h with h | ⟨rfl, h⟩
    · rcases h' with h' | ⟨rfl, h'⟩
      · exact .inl (by rw [UInt8.lt_iff_toNat_lt] at *; omega)
      · exact .inl h
    · rcases h' with h' | ⟨rfl, h'⟩
      · exact .inl h'
      · exact .inr ⟨rfl, less_trans a b c h h'⟩
theorem less_self : ∀ a : List UInt8, Op.bytesLess a a = false
  | [] => rfl
  | x :: a => by
    rw [less_cons, less_self a, Bool.and_false, Bool.or_false, decide_eq_false_iff_not]
    exact fun h => by rw [UInt8.lt_iff_toNat_lt] at h; omega

section
variable (L : Nat → List UInt8) (n : Nat) (key : List UInt8)
def Rises : Prop := ∀ i, i + 1 < n → Op.bytesLess (L i) (L (i + 1)) = true
/-- Where the key stands: ahead of t all are less, from t on none is. -/
def Parts (t : Nat) : Prop := t ≤ n ∧ (∀ j, j < t → Op.bytesLess (L j) key = true) ∧ ∀ j, t ≤ j → j < n → Op.bytesLess (L j) key = false
variable {L n key}
theorem rises_lt (h : Rises L n) : ∀ d i, i + d + 1 < n → Op.bytesLess (L i) (L (i + d + 1)) = true
  | 0, i, hi => h i hi
  | d + 1, i, hi => less_trans _ _ _ (rises_lt h d i (by omega)) (h (i + d + 1) (by omega))
theorem parts_of (h : Rises L n) : ∃ t, Parts L n key t := by
  have first : ∀ m, m ≤ n → ∃ t, t ≤ m ∧ (∀ j, j < t → Op.bytesLess (L j) key = true) ∧ (t < m → Op.bytesLess (L t) key = false) := by
    intro m
    induction m with
    | zero => intro _; exact ⟨0, Nat.le_refl _, fun j hj => absurd hj (Nat.not_lt_zero j), fun h => absurd h (Nat.lt_irrefl 0)⟩
    | succ m ih =>
      intro hm
      obtain ⟨t, h1, h2, h3⟩ := ih (by omega)
      by_cases htm : t < m
      · exact ⟨t, by omega, h2, fun _ => h3 htm⟩
      · have htm' : t = m := by omega
        subst htm'
        cases hl : Op.bytesLess (L t) key
        · exact ⟨t, by omega, h2, fun _ => hl⟩
        · refine ⟨t + 1, by omega, fun j hj => ?_, fun h => absurd h (Nat.lt_irrefl _)⟩
          by_cases hjt : j < t
          · exact h2 j hjt
          · have : j = t := by omega
            subst this
            exact hl
  obtain ⟨t, h1, h2, h3⟩ := first n (Nat.le_refl _)
  refine ⟨t, h1, h2, fun j hj hn => ?_⟩
  by_cases hjt : j = t
  · subst hjt
    exact h3 hn
  · have h4 := rises_lt h (j - t - 1) t (by omega)
    rw [show t + (j - t - 1) + 1 = j by omega] at h4
    cases hl : Op.bytesLess (L j) key
    · rfl
    · rw [less_trans _ _ _ h4 hl] at h3
      exact absurd (h3 (by omega)) (by decide)
end

/-- What is found there. -/
def foundAt (L : Nat → List UInt8) (n : Nat) (key : List UInt8) (t : Nat) : Bool := decide (t < n) && (L t == key)
theorem eq_of_no {a k : List UInt8} (h : Op.bytesLess a k = false) : Op.bytesLess k a = !(a == k) := by
  rw [less_tri a k, h, Bool.false_or]
theorem cmp_zero (x key : ByteArray) (h : Op.bytesLess x.toList key.toList = false) : (cmpS x key == 0) = (x.toList == key.toList) := by
  unfold cmpS lessB
  rw [h, if_neg (by decide), eq_of_no h]
  cases (x.toList == key.toList) <;> rfl

theorem parts_list (p : ByteArray → Bool) (c : ByteArray → Bool) : ∀ (ks : List ByteArray) (t : Nat), t ≤ ks.length → (∀ j, j < t → p (ks.getD j ByteArray.empty) = true) → (∀ j, t ≤ j → j < ks.length → p (ks.getD j ByteArray.empty) = false) →
    (ks.takeWhile p).length = t ∧ (ks.dropWhile p).all (fun x => !p x) = true ∧ headIs c (ks.dropWhile p) = (decide (t < ks.length) && c (ks.getD t ByteArray.empty))
  | [], t, ht, _, _ => by
    have : t = 0 := by simpa using ht
    subst this
    exact ⟨rfl, rfl, rfl⟩
  | a :: l, 0, ht, h1, h2 => by
    have ha : p a = false := h2 0 (Nat.le_refl _) (Nat.succ_pos _)
    have e1 : (a :: l).takeWhile p = [] := by simp [ha]
    have e2 : (a :: l).dropWhile p = a :: l := by simp [ha]
    rw [e1, e2]
    refine ⟨rfl, List.all_eq_true.2 fun x hx => ?_, by simp [headIs]⟩
    obtain ⟨j, hj, rfl⟩ := List.mem_iff_getElem.1 hx
    have := h2 j (Nat.zero_le _) hj
    rw [List.getD_eq_getElem?_getD, List.getElem?_eq_getElem hj] at this
    simpa using this
  | a :: l, t + 1, ht, h1, h2 => by
    have ha : p a = true := h1 0 (Nat.succ_pos _)
    have e1 : (a :: l).takeWhile p = a :: l.takeWhile p := by simp [ha]
    have e2 : (a :: l).dropWhile p = l.dropWhile p := by simp [ha]
    rw [e1, e2]
    obtain ⟨i1, i2, i3⟩ := parts_list p c l t (by simpa using ht) (fun j hj => h1 (j + 1) (by omega)) (fun j hj hn => h2 (j + 1) (by omega) (by simpa using hn))
    refine ⟨by rw [List.length_cons, i1], i2, ?_⟩
    rw [i3]
    simp

def kf (l : List S42) (j : Nat) : List UInt8 := (rd_T42 l (j : Int)).f0.toList
def kl (l : List ByteArray) (j : Nat) : List UInt8 := (rdOf ByteArray.empty l (j : Int)).toList

section
variable {l1 : List S42} {l2 : List ByteArray} {l3 : List Int} (key : ByteArray)
theorem leaf_node (hn : l1.length ≤ 1000000) {t : Nat} (h : Parts (kf l1) l1.length key.toList t) (k : Nat) : node_Place.f k true l1 l2 l3 key = some ((t : Int), foundAt (kf l1) l1.length key.toList t) := by
  have hk : ∀ j, j < l1.length → (l1.map S42.f0).getD j ByteArray.empty = (rd_T42 l1 (j : Int)).f0 := by
    intro j hj
    unfold rd_T42
    rw [Int.toNat_natCast, List.getD_eq_getElem?_getD, List.getD_eq_getElem?_getD, List.getElem?_map, List.getElem?_eq_getElem hj]
    rfl
  have hlen : (l1.map S42.f0).length = l1.length := List.length_map ..
  obtain ⟨h0, h1, h2⟩ := h
  obtain ⟨i1, i2, i3⟩ := parts_list (fun x => lessB x key) (fun x => cmpS x key == 0) (l1.map S42.f0) t (by rw [hlen]; exact h0)
    (fun j hj => by rw [hk j (by omega)]; exact h1 j hj) (fun j hj hjn => by rw [hlen] at hjn; rw [hk j hjn]; exact h2 j hj hjn)
  unfold node_Place.f
  rw [if_pos rfl, if_pos ⟨hn, i2⟩]
  unfold placeAt placeIs
  rw [i1, i3, hlen]
  congr 2
  unfold foundAt
  by_cases ht : t < l1.length
  · rw [decide_eq_true ht, Bool.true_and, Bool.true_and, hk t ht]
    exact cmp_zero _ _ (h2 t (Nat.le_refl _) ht)
  · rw [decide_eq_false ht, Bool.false_and, Bool.false_and]
theorem leaf_ref (hn : l1.length ≤ 1000000) {t : Nat} (h : Parts (kf l1) l1.length key.toList t) : Ev (fun k => chandleryref08_Place.f k true l1 l2 l3 key) ((t : Int), foundAt (kf l1) l1.length key.toList t) := by
  obtain ⟨h0, h1, h2⟩ := h
  refine Ev.congr (f := fun k => chandleryref08_Place.l0 k key 0 true l1 l2 l3) (fun k => by unfold chandleryref08_Place.f; rw [if_pos rfl]) ?_
  refine ev_go (fun i k => chandleryref08_Place.l0 k key (i : Int) true l1 l2 l3) t (fun i hi k => ?_) (Ev.step (f := fun _ => some ((t : Int), foundAt (kf l1) l1.length key.toList t)) (fun k => ?_) (Ev.now _))
  · rw [chandleryref08_Place.l0, if_pos (by omega), if_pos (by omega), if_pos (show Op.bytesLess (rd_T42 l1 (i : Int)).f0.toList key.toList = true from h1 i hi), w1 (n := l1.length) (by omega) (by omega)]
  · unfold foundAt
    by_cases ht : t < l1.length
    · rw [chandleryref08_Place.l0, if_pos (by omega), if_pos (by omega), if_neg (by rw [show Op.bytesLess (rd_T42 l1 (t : Int)).f0.toList key.toList = false from h2 t (Nat.le_refl _) ht]; decide), decide_eq_true ht, Bool.true_and]
      rfl
    · rw [chandleryref08_Place.l0, if_neg (by omega), decide_eq_false ht, Bool.false_and]

theorem less_f (a b : ByteArray) : cmp_Less_string.f a b = some (Op.bytesLess a.toList b.toList) := by
  unfold cmp_Less_string.f cmp_isNaN_string.f
  rw [Option.bind_some, bne_self_eq_false, if_neg (by decide)]
theorem bs_ev (hn : l2.length ≤ 1000000) {t : Nat} (h : Parts (kl l2) l2.length key.toList t) : ∀ d i j : Nat, j - i ≤ d → i ≤ t → t ≤ j → j ≤ l2.length →
    Ev (fun k => slices_BinarySearch_string_string.l0 k l2 key (l2.length : Int) (i : Int) (j : Int)) ((t : Int), foundAt (kl l2) l2.length key.toList t) := by
  obtain ⟨h0, h1, h2⟩ := h
  have hend : ∀ j : Nat, j ≤ t → Ev (fun k => slices_BinarySearch_string_string.l0 k l2 key (l2.length : Int) (t : Int) (j : Int)) ((t : Int), foundAt (kl l2) l2.length key.toList t) := by
    intro j hj
    refine Ev.step (f := fun _ => some ((t : Int), foundAt (kl l2) l2.length key.toList t)) (fun k => ?_) (Ev.now _)
    rw [slices_BinarySearch_string_string.l0, if_neg (by omega)]
    unfold foundAt
    by_cases ht : t < l2.length
    · rw [if_pos (by omega), if_pos (by omega), if_pos (by omega), decide_eq_true ht, Bool.true_and]
      by_cases he : (rdOf ByteArray.empty l2 (t : Int)).toList = key.toList
      · rw [if_pos he, show kl l2 t = key.toList from he, beq_self_eq_true]
      · rw [if_neg he]
        unfold slices_isNaN_string.f
        rw [Option.bind_some, bne_self_eq_false, if_neg (by decide), show (kl l2 t == key.toList) = false from beq_eq_false_iff_ne.2 he]
    · rw [if_neg (by omega), decide_eq_false ht, Bool.false_and]
  intro d
  induction d with
  | zero =>
    intro i j hd hi hj hl
    have : i = t := by omega
    subst this
    exact hend j (by omega)
  | succ d ih =>
    intro i j hd hi hj hl
    by_cases hlt : i < j
    · obtain ⟨m, g1, g2, e1, _, e3⟩ := mid_facts (i : Int) (j : Int) (l2.length : Int) (by omega) (by omega) (by omega) (by omega)
      obtain ⟨m, rfl⟩ := Int.eq_ofNat_of_zero_le (show 0 ≤ m by omega)
      have e4 : (m : Int) + 1 = ((m + 1 : Nat) : Int) := by omega
      by_cases hm : m < t
      · refine Ev.step (f := fun k => slices_BinarySearch_string_string.l0 k l2 key (l2.length : Int) ((m + 1 : Nat) : Int) (j : Int)) (fun k => ?_) (ih (m + 1) j (by omega) (by omega) hj hl)
        rw [slices_BinarySearch_string_string.l0, if_pos (by omega), e1, if_pos (by omega), if_pos (by omega), less_f, Option.bind_some, if_pos (show Op.bytesLess (rdOf ByteArray.empty l2 (m : Int)).toList key.toList = true from h1 m hm), e3, e4]
      · refine Ev.step (f := fun k => slices_BinarySearch_string_string.l0 k l2 key (l2.length : Int) (i : Int) (m : Int)) (fun k => ?_) (ih i m (by omega) hi (by omega) (by omega))
        rw [slices_BinarySearch_string_string.l0, if_pos (by omega), e1, if_pos (by omega), if_pos (by omega), less_f, Option.bind_some, if_neg (by rw [show Op.bytesLess (rdOf ByteArray.empty l2 (m : Int)).toList key.toList = false from h2 m (by omega) (by omega)]; decide)]
    · have : i = t := by omega
      subst this
      exact hend j (by omega)
def upAt (l2 : List ByteArray) (key : ByteArray) (t : Nat) : Nat := if foundAt (kl l2) l2.length key.toList t = true then t + 1 else t
theorem inner_node (hn : l2.length ≤ 1000000) {t : Nat} (h : Parts (kl l2) l2.length key.toList t) : Ev (fun k => node_Place.f k false l1 l2 l3 key) ((upAt l2 key t : Int), foundAt (kl l2) l2.length key.toList t) := by
  have hb := bs_ev key hn h l2.length 0 l2.length (by omega) (Nat.zero_le _) h.1 (Nat.le_refl _)
  rw [show ((0 : Nat) : Int) = (0 : Int) from rfl] at hb
  refine Ev.congr (f := fun k => (slices_BinarySearch_string_string.l0 k l2 key (l2.length : Int) 0 (l2.length : Int)).bind fun t => some (if t.2 = true then wrap64 (t.1 + 1) else t.1, t.2)) (fun k => by unfold node_Place.f slices_BinarySearch_string_string.f; rw [if_neg (by decide)]) ?_
  refine Ev.bind (f := fun k t => _) hb ?_
  have ht := h.1
  have e : wrap64 ((t : Int) + 1) = ((t + 1 : Nat) : Int) := by rw [w64 (by omega) (by omega)]; omega
  show Ev (fun k => some (if foundAt (kl l2) l2.length key.toList t = true then wrap64 ((t : Int) + 1) else (t : Int), foundAt (kl l2) l2.length key.toList t)) _
  unfold upAt
  generalize foundAt (kl l2) l2.length key.toList t = fd
  rw [e]
  by_cases hf : fd = true
  · rw [if_pos hf, if_pos hf]
    exact Ev.now _
  · rw [if_neg hf, if_neg hf]
    exact Ev.now _
theorem inner_ref (hn : l2.length ≤ 1000000) {t : Nat} (h : Parts (kl l2) l2.length key.toList t) (hr : Rises (kl l2) l2.length) : Ev (fun k => chandleryref08_Place.f k false l1 l2 l3 key) ((upAt l2 key t : Int), foundAt (kl l2) l2.length key.toList t) := by
  obtain ⟨h0, h1, h2⟩ := h
  refine Ev.congr (f := fun k => chandleryref08_Place.l1 k key 0 false l1 l2 l3) (fun k => by unfold chandleryref08_Place.f; rw [if_neg (by decide)]) ?_
  have hlt : ∀ j, j < t → Op.bytesLess key.toList (kl l2 j) = false := by
    intro j hj
    rw [less_tri (kl l2 j) key.toList, h1 j hj]
    rfl
  have hneq : ∀ j, j < t → (kl l2 j == key.toList) = false := by
    intro j hj
    rw [beq_eq_false_iff_ne]
    intro he
    have := h1 j hj
    rw [he, less_self] at this
    cases this
  -- where it stops, and what it answers there
  have stop : ∀ u : Nat, u ≤ l2.length → (∀ j, j < u → Op.bytesLess key.toList (kl l2 j) = false) → (u < l2.length → Op.bytesLess key.toList (kl l2 u) = true) →
      Ev (fun k => chandleryref08_Place.l1 k key 0 false l1 l2 l3) ((u : Int), decide (0 < u) && (kl l2 (u - 1) == key.toList)) := by
    intro u hu g1 g2
    refine ev_go (fun i k => chandleryref08_Place.l1 k key (i : Int) false l1 l2 l3) u (fun i hi k => ?_) (Ev.step (f := fun _ => some ((u : Int), decide (0 < u) && (kl l2 (u - 1) == key.toList))) (fun k => ?_) (Ev.now _))
    · rw [chandleryref08_Place.l1, if_pos (by omega), if_pos (by omega), if_neg (by rw [show Op.bytesLess key.toList (rdOf ByteArray.empty l2 (i : Int)).toList = false from g1 i hi]; decide), w1 (n := l2.length) (by omega) (by omega)]
    · have fin : (if (u : Int) > 0 then (if 0 ≤ wrap64 ((u : Int) - 1) then (if wrap64 ((u : Int) - 1) < (l2.length : Int) then some ((u : Int), ((rdOf ByteArray.empty l2 (wrap64 ((u : Int) - 1))).toList == key.toList)) else none) else none) else some ((u : Int), false)) = some ((u : Int), decide (0 < u) && (kl l2 (u - 1) == key.toList)) := by
        by_cases hu0 : 0 < u
        · have e : wrap64 ((u : Int) - 1) = ((u - 1 : Nat) : Int) := by rw [w64 (by omega) (by omega)]; omega
          rw [if_pos (by omega), e, if_pos (by omega), if_pos (by omega), decide_eq_true hu0, Bool.true_and]
          rfl
        · rw [if_neg (by omega), decide_eq_false hu0, Bool.false_and]
      rw [chandleryref08_Place.l1]
      by_cases hul : u < l2.length
      · rw [if_pos (by omega), if_pos (by omega), if_pos (show Op.bytesLess key.toList (rdOf ByteArray.empty l2 (u : Int)).toList = true from g2 hul)]
        exact fin
      · rw [if_neg (by omega)]
        exact fin
  cases hf : foundAt (kl l2) l2.length key.toList t
  · have e : upAt l2 key t = t := by unfold upAt; rw [hf]; rfl
    rw [e]
    have hs := stop t h0 hlt (fun htl => by
      rw [eq_of_no (h2 t (Nat.le_refl _) htl)]
      unfold foundAt at hf
      rw [decide_eq_true htl, Bool.true_and] at hf
      rw [hf]
      rfl)
    have e2 : (decide (0 < t) && (kl l2 (t - 1) == key.toList)) = false := by
      by_cases ht : 0 < t
      · rw [hneq (t - 1) (by omega), Bool.and_false]
      · rw [decide_eq_false ht, Bool.false_and]
    rw [e2] at hs
    exact hs
  · have e : upAt l2 key t = t + 1 := by unfold upAt; rw [hf]; rfl
    rw [e]
    unfold foundAt at hf
    rw [Bool.and_eq_true] at hf
    have htl : t < l2.length := of_decide_eq_true hf.1
    have hk : kl l2 t = key.toList := eq_of_beq hf.2
    have hs := stop (t + 1) (by omega) (fun j hj => by
      by_cases hjt : j < t
      · exact hlt j hjt
      · have : j = t := by omega
        subst this
        rw [hk, less_self]) (fun hul => by
      have := hr t hul
      rw [hk] at this
      exact this)
    have e2 : (decide (0 < t + 1) && (kl l2 (t + 1 - 1) == key.toList)) = true := by
      rw [show t + 1 - 1 = t by omega, hk, beq_self_eq_true, decide_eq_true (Nat.succ_pos t)]
      rfl
    rw [e2] at hs
    exact hs
end
end Go.Proofs.YtjhenmegcgnkgaaX
