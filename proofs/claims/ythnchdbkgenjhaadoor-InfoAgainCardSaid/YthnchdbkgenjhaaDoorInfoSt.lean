import Derived.Test.YthnchdbkgenjhaaDoorEvFind
set_option linter.unusedVariables false
set_option linter.unusedSimpArgs false
/- Numbers and texts as bytes (layer 1), and how they are read back: plain Lean, no program. -/
namespace Go.Proofs.YthnchdbkgenjhaaDoorX
open Go.RowKit Go.Proofs.YthnchdbkgenjhaaDoorW.PrintWords
def len8 (n : Nat) : Nat := 8 + (n + 7) / 8 * 8
def num8 (n : Nat) : List Int := (List.range 8).map fun j : Nat => ((n / 256 ^ j % 256 : Nat) : Int)
def textOf (s : ByteArray) : List Int := num8 s.size ++ bytesOf s ++ List.replicate ((8 - s.size % 8) % 8) 0
theorem num8_len (n : Nat) : (num8 n).length = 8 := by unfold num8; simp
theorem textOf_len (s : ByteArray) : (textOf s).length = len8 s.size := by unfold textOf; simp [bytesOf_length, num8_len, len8]; omega
def okB (l : List Int) : Prop := ∀ x ∈ l, 0 ≤ x ∧ x ≤ 255
def leV : List Int → Int
  | [] => 0
  | x :: l => x + 256 * leV l
theorem leV_nn : ∀ l, okB l → 0 ≤ leV l
  | [], _ => Int.le_refl 0
  | x :: l, h => by
    have h1 := h x List.mem_cons_self
    have h2 := leV_nn l fun y hy => h y (List.mem_cons_of_mem _ hy)
    rw [leV]
    omega
theorem leV_lt : ∀ l, okB l → leV l < ((256 ^ l.length : Nat) : Int)
  | [], _ => by simp [leV]
  | x :: l, h => by
    have h1 := h x List.mem_cons_self
    have h2 := leV_lt l fun y hy => h y (List.mem_cons_of_mem _ hy)
    rw [leV, List.length_cons, Nat.pow_succ]
    omega
def numL : Nat → Nat → List Int
  | 0, _ => []
  | k + 1, n => ((n % 256 : Nat) : Int) :: numL k (n / 256)
theorem num8_numL (n : Nat) : num8 n = numL 8 n := by
  unfold num8
  simp only [numL, List.range, List.range.loop, List.map_cons, List.map_nil, Nat.pow_zero, Nat.div_one, Nat.pow_one, Nat.div_div_eq_div_mul, List.cons.injEq, Int.natCast_inj]
theorem leV_numL : ∀ k n : Nat, n < 256 ^ k → leV (numL k n) = n
  | 0, n, h => by
    have : n = 0 := by simpa using h
    rw [this]; rfl
  | k + 1, n, h => by
    rw [Nat.pow_succ] at h
    rw [numL, leV, leV_numL k (n / 256) (by omega)]
    omega
theorem numL_leV : ∀ (l : List Int), okB l → numL l.length (leV l).toNat = l
  | [], _ => rfl
  | x :: l, h => by
    have h1 := h x List.mem_cons_self
    have hl : okB l := fun y hy => h y (List.mem_cons_of_mem _ hy)
    have h2 := leV_nn l hl
    have ih := numL_leV l hl
    rw [List.length_cons, numL, leV]
    have e1 : (x + 256 * leV l).toNat % 256 = x.toNat := by omega
    have e2 : (x + 256 * leV l).toNat / 256 = (leV l).toNat := by omega
    rw [e1, e2, ih]
    congr 1
    omega
theorem leV_num8 (n : Nat) (h : n ≤ 2147483647) : leV (num8 n) = n := by
  rw [num8_numL]
  exact leV_numL 8 n (by omega)
theorem num8_leV (l : List Int) (hl : l.length = 8) (h : okB l) : num8 (leV l).toNat = l := by
  have := numL_leV l h
  rw [hl] at this
  rw [num8_numL]
  exact this
theorem okB_num8 (n : Nat) : okB (num8 n) := by
  intro x hx
  unfold num8 at hx
  obtain ⟨j, _, rfl⟩ := List.mem_map.1 hx
  omega
theorem okB_bytes (s : ByteArray) : okB (bytesOf s) := by
  intro x hx
  unfold bytesOf at hx
  obtain ⟨c, _, rfl⟩ := List.mem_map.1 hx
  have := c.toNat_lt
  omega
theorem okB_app {a b : List Int} (ha : okB a) (hb : okB b) : okB (a ++ b) := fun x hx => by
  rcases List.mem_append.1 hx with h | h
  · exact ha x h
  · exact hb x h
theorem okB_zeros (n : Nat) : okB (List.replicate n 0) := fun x hx => by rw [(List.mem_replicate.1 hx).2]; omega
theorem okB_text (s : ByteArray) : okB (textOf s) := okB_app (okB_app (okB_num8 _) (okB_bytes s)) (okB_zeros _)
theorem okB_drop {l : List Int} (h : okB l) (n : Nat) : okB (l.drop n) := fun x hx => h x (List.mem_of_mem_drop hx)
theorem okB_take {l : List Int} (h : okB l) (n : Nat) : okB (l.take n) := fun x hx => h x (List.mem_of_mem_take hx)
theorem bytes_str (l : List Int) (hl : okB l) : bytesOf (strOfNums l) = l := by
  unfold strOfNums bytesOf
  show List.map _ (List.toArray _).toList = _
  simp only [List.map_map]
  conv => rhs; rw [← List.map_id l]
  refine List.map_congr_left fun x hx => ?_
  have := hl x hx
  simp
  omega
theorem str_bytesOf (s : ByteArray) : strOfNums (bytesOf s) = s := by
  refine ba_ext ?_
  unfold strOfNums bytesOf
  show (List.toArray _).toList = _
  simp only [List.map_map]
  conv => rhs; rw [← List.map_id s.data.toList]
  exact List.map_congr_left fun c _ => by simp
def getN (b : List Int) : Option (Nat × List Int) := if b.length < 8 then none else if leV (b.take 8) ≤ 2147483647 then some ((leV (b.take 8)).toNat, b.drop 8) else none
def getT (b : List Int) : Option (ByteArray × List Int) := match getN b with
  | none => none
  | some (n, r) => if r.length < (n + 7) / 8 * 8 then none else if ((r.take ((n + 7) / 8 * 8)).drop n).all (fun x => x == 0) = true then some (strOfNums (r.take n), r.drop ((n + 7) / 8 * 8)) else none
theorem getN_lay (n : Nat) (r : List Int) (h : n ≤ 2147483647) : getN (num8 n ++ r) = some (n, r) := by
  unfold getN
  rw [if_neg (by rw [List.length_append, num8_len]; omega), List.take_left' (num8_len n), leV_num8 n h, if_pos (by omega), List.drop_left' (num8_len n), Int.toNat_natCast]
theorem getN_is {b r : List Int} {n : Nat} (hb : okB b) (h : getN b = some (n, r)) : b = num8 n ++ r ∧ n ≤ 2147483647 := by
  unfold getN at h
  split at h
  · cases h
  · rename_i h1
    split at h
    · rename_i h2
      injection h with h
      injection h with h3 h4
      subst h3 h4
      have hl : (b.take 8).length = 8 := by rw [List.length_take]; omega
      refine ⟨?_, by have := leV_nn _ (okB_take hb 8); omega⟩
      rw [num8_leV _ hl (okB_take hb 8), List.take_append_drop]
    · cases h
theorem getT_lay (s : ByteArray) (r : List Int) (h : s.size ≤ 2147483647) : getT (textOf s ++ r) = some (s, r) := by
  unfold getT textOf
  rw [List.append_assoc, List.append_assoc, getN_lay _ _ h]
  have hl : (bytesOf s).length = s.size := bytesOf_length s
  have e : (s.size + 7) / 8 * 8 = s.size + (8 - s.size % 8) % 8 := by omega
  dsimp only
  rw [if_neg (by rw [List.length_append, List.length_append, List.length_replicate, hl]; omega), ← List.append_assoc]
  have ht : (bytesOf s ++ List.replicate ((8 - s.size % 8) % 8) (0 : Int)).length = (s.size + 7) / 8 * 8 := by rw [List.length_append, List.length_replicate, hl, e]
  rw [List.take_left' ht, List.drop_left' ht, List.drop_left' hl, if_pos, List.append_assoc, List.take_left' hl, str_bytesOf]
  rw [List.all_eq_true]
  intro x hx
  rw [(List.mem_replicate.1 hx).2]
  rfl
theorem getT_is {b r : List Int} {s : ByteArray} (hb : okB b) (h : getT b = some (s, r)) : b = textOf s ++ r ∧ s.size ≤ 2147483647 := by
  unfold getT at h
  cases hn : getN b with
  | none => rw [hn] at h; cases h
  | some p =>
    obtain ⟨n, q⟩ := p
    rw [hn] at h
    dsimp only at h
    obtain ⟨hbq, hn2⟩ := getN_is hb hn
    have hq : okB q := fun x hx => hb x (by rw [hbq]; exact List.mem_append.2 (.inr hx))
    split at h
    · cases h
    · rename_i h1
      split at h
      · rename_i h2
        injection h with h
        injection h with h3 h4
        subst h3 h4
        have hlt : (q.take n).length = n := by rw [List.length_take]; omega
        have hsz : (strOfNums (q.take n)).size = n := by
          have := bytesOf_length (strOfNums (q.take n))
          rw [bytes_str _ (okB_take hq n), hlt] at this
          exact this.symm
        refine ⟨?_, by rw [hsz]; exact hn2⟩
        unfold textOf
        rw [hsz, bytes_str _ (okB_take hq n)]
        have hz : (q.take ((n + 7) / 8 * 8)).drop n = List.replicate ((8 - n % 8) % 8) 0 := by
          refine List.eq_replicate_iff.2 ⟨?_, fun x hx => ?_⟩
          · rw [List.length_drop, List.length_take]; omega
          · have := List.all_eq_true.1 h2 x hx
            simpa using this
        have e1 : q.take ((n + 7) / 8 * 8) = q.take n ++ List.replicate ((8 - n % 8) % 8) 0 := by
          rw [← hz]
          conv => lhs; rw [← List.take_append_drop n (q.take ((n + 7) / 8 * 8))]
          rw [List.take_take, Nat.min_eq_left (by omega)]
        conv => lhs; rw [hbq, ← List.take_append_drop ((n + 7) / 8 * 8) q, e1]
        simp only [List.append_assoc]
      · cases h
end Go.Proofs.YthnchdbkgenjhaaDoorX
/- An info's bytes (layer 22), read back: plain Lean, no program. -/
namespace Go.Proofs.YthnchdbkgenjhaaDoorX
open Go.RowKit Go.Proofs.YthnchdbkgenjhaaDoorW.PrintWords
def tPath : ByteArray := ⟨#[112, 97, 116, 104]⟩
def tHash : ByteArray := ⟨#[104, 97, 115, 104]⟩
def tSize : ByteArray := ⟨#[115, 105, 122, 101]⟩
def tRefs : ByteArray := ⟨#[114, 101, 102, 115]⟩
def textsOf : List ByteArray → List Int
  | [] => []
  | s :: l => textOf s ++ textsOf l
def getTs : Nat → List Int → Option (List ByteArray × List Int)
  | 0, b => some ([], b)
  | n + 1, b => match getT b with
    | none => none
    | some (s, r) => match getTs n r with
      | none => none
      | some (l, q) => some (s :: l, q)
theorem getTs_lay : ∀ (l : List ByteArray) (r : List Int), (∀ s ∈ l, s.size ≤ 2147483647) → getTs l.length (textsOf l ++ r) = some (l, r)
  | [], r, _ => rfl
  | s :: l, r, h => by
    rw [List.length_cons, getTs, textsOf, List.append_assoc, getT_lay s _ (h s List.mem_cons_self)]
    dsimp only
    rw [getTs_lay l r fun x hx => h x (List.mem_cons_of_mem _ hx)]
theorem getTs_is : ∀ (n : Nat) {b r : List Int} {l : List ByteArray}, okB b → getTs n b = some (l, r) → b = textsOf l ++ r ∧ l.length = n ∧ ∀ s ∈ l, s.size ≤ 2147483647
  | 0, b, r, l, hb, h => by
    rw [getTs] at h
    injection h with h
    injection h with h1 h2
    subst h1 h2
    exact ⟨rfl, rfl, fun s hs => by cases hs⟩
  | n + 1, b, r, l, hb, h => by
    rw [getTs] at h
    cases ht : getT b with
    | none => rw [ht] at h; cases h
    | some p =>
      obtain ⟨s, q⟩ := p
      rw [ht] at h
      dsimp only at h
      obtain ⟨h1, h2⟩ := getT_is hb ht
      have hq : okB q := fun x hx => hb x (by rw [h1]; exact List.mem_append.2 (.inr hx))
      cases hr : getTs n q with
      | none => rw [hr] at h; cases h
      | some p2 =>
        obtain ⟨l2, q2⟩ := p2
        rw [hr] at h
        dsimp only at h
        injection h with h
        injection h with h3 h4
        subst h3 h4
        obtain ⟨h5, h6, h7⟩ := getTs_is n hq hr
        refine ⟨by rw [textsOf, List.append_assoc, ← h5, h1], by rw [List.length_cons, h6], fun x hx => ?_⟩
        rcases List.mem_cons.1 hx with rfl | hx
        · exact h2
        · exact h7 x hx
/-- A text that has to be there. -/
def getW (t : ByteArray) (b : List Int) : Option (List Int) := match getT b with
  | none => none
  | some (s, r) => if s = t then some r else none
theorem getW_lay (t : ByteArray) (r : List Int) (h : t.size ≤ 2147483647) : getW t (textOf t ++ r) = some r := by
  unfold getW
  rw [getT_lay t r h]
  exact if_pos rfl
theorem getW_is {t : ByteArray} {b r : List Int} (hb : okB b) (h : getW t b = some r) : b = textOf t ++ r := by
  unfold getW at h
  cases ht : getT b with
  | none => rw [ht] at h; cases h
  | some p =>
    obtain ⟨s, q⟩ := p
    rw [ht] at h
    dsimp only at h
    split at h
    · rename_i e
      injection h with h
      subst e h
      exact (getT_is hb ht).1
    · cases h
/-- What an info's bytes are: the digest as its digits. -/
def layI (name hex : ByteArray) (size : Nat) (refs : List ByteArray) : List Int :=
  textOf tPath ++ (textOf name ++ (textOf tHash ++ (textOf hex ++ (textOf tSize ++ (num8 size ++ (textOf tRefs ++ (num8 refs.length ++ textsOf refs)))))))
structure InfoV where
  name : ByteArray
  hex : ByteArray
  size : Nat
  refs : List ByteArray
  rest : List Int
def getI (b : List Int) : Option InfoV :=
  (getW tPath b).bind fun b1 => (getT b1).bind fun p2 => (getW tHash p2.2).bind fun b3 => (getT b3).bind fun p4 => (getW tSize p4.2).bind fun b5 => (getN b5).bind fun p6 => (getW tRefs p6.2).bind fun b7 => (getN b7).bind fun p8 => (getTs p8.1 p8.2).bind fun p9 => some ⟨p2.1, p4.1, p6.1, p9.1, p9.2⟩
theorem getI_lay (name hex : ByteArray) (size : Nat) (refs : List ByteArray) (r : List Int) (h1 : name.size ≤ 2147483647) (h2 : hex.size ≤ 2147483647) (h3 : size ≤ 2147483647) (h4 : refs.length ≤ 2147483647) (h5 : ∀ s ∈ refs, s.size ≤ 2147483647) :
    getI (layI name hex size refs ++ r) = some ⟨name, hex, size, refs, r⟩ := by
  unfold getI layI
  simp only [List.append_assoc]
  rw [getW_lay tPath _ (by decide), Option.bind_some, getT_lay name _ h1, Option.bind_some, getW_lay tHash _ (by decide), Option.bind_some, getT_lay hex _ h2, Option.bind_some, getW_lay tSize _ (by decide), Option.bind_some, getN_lay size _ h3, Option.bind_some, getW_lay tRefs _ (by decide), Option.bind_some, getN_lay refs.length _ h4, Option.bind_some]
  dsimp only
  rw [getTs_lay refs r h5, Option.bind_some]
theorem okB_tail {b a r : List Int} (hb : okB b) (e : b = a ++ r) : okB r := fun x hx => hb x (by rw [e]; exact List.mem_append.2 (.inr hx))
theorem getI_is {b : List Int} {v : InfoV} (hb : okB b) (h : getI b = some v) : b = layI v.name v.hex v.size v.refs ++ v.rest ∧ v.name.size ≤ 2147483647 ∧ v.hex.size ≤ 2147483647 ∧ v.size ≤ 2147483647 ∧ v.refs.length ≤ 2147483647 ∧ ∀ s ∈ v.refs, s.size ≤ 2147483647 := by
  unfold getI at h
  obtain ⟨b1, e1, h⟩ := Option.bind_eq_some_iff.1 h
  obtain ⟨⟨name, b2⟩, e2, h⟩ := Option.bind_eq_some_iff.1 h
  obtain ⟨b3, e3, h⟩ := Option.bind_eq_some_iff.1 h
  obtain ⟨⟨hex, b4⟩, e4, h⟩ := Option.bind_eq_some_iff.1 h
  obtain ⟨b5, e5, h⟩ := Option.bind_eq_some_iff.1 h
  obtain ⟨⟨size, b6⟩, e6, h⟩ := Option.bind_eq_some_iff.1 h
  obtain ⟨b7, e7, h⟩ := Option.bind_eq_some_iff.1 h
  obtain ⟨⟨n, b8⟩, e8, h⟩ := Option.bind_eq_some_iff.1 h
  obtain ⟨⟨refs, b9⟩, e9, h⟩ := Option.bind_eq_some_iff.1 h
  injection h with h
  subst h
  dsimp only at e3 e5 e7 e9 ⊢
  have f1 := getW_is hb e1
  have o1 := okB_tail hb f1
  obtain ⟨f2, g2⟩ := getT_is o1 e2
  have o2 := okB_tail o1 f2
  have f3 := getW_is o2 e3
  have o3 := okB_tail o2 f3
  obtain ⟨f4, g4⟩ := getT_is o3 e4
  have o4 := okB_tail o3 f4
  have f5 := getW_is o4 e5
  have o5 := okB_tail o4 f5
  obtain ⟨f6, g6⟩ := getN_is o5 e6
  have o6 := okB_tail o5 f6
  have f7 := getW_is o6 e7
  have o7 := okB_tail o6 f7
  obtain ⟨f8, g8⟩ := getN_is o7 e8
  have o8 := okB_tail o7 f8
  obtain ⟨f9, g9, k9⟩ := getTs_is n o8 e9
  refine ⟨?_, g2, g4, g6, by omega, k9⟩
  unfold layI
  rw [g9, f1, f2, f3, f4, f5, f6, f7, f8, f9]
  simp only [List.append_assoc]
end Go.Proofs.YthnchdbkgenjhaaDoorX
/- How far an info is read: plain Lean, no program. -/
namespace Go.Proofs.YthnchdbkgenjhaaDoorX
open Go.RowKit Go.Proofs.YthnchdbkgenjhaaDoorW.PrintWords
/-- What a reading's step leaves. -/
def nxT (st : Option (List Int)) : Option (List Int) := (st.bind getT).map Prod.snd
def nxN (st : Option (List Int)) : Option (List Int) := (st.bind getN).map Prod.snd
def nxK (k : Nat) (st : Option (List Int)) : Option (List Int) := (st.bind (getTs k)).map Prod.snd
theorem getTs_snoc : ∀ (k : Nat) (b : List Int), getTs (k + 1) b = (getTs k b).bind fun p => (getT p.2).map fun q => (p.1 ++ [q.1], q.2)
  | 0, b => by
    rw [getTs, getTs, Option.bind_some]
    cases getT b with
    | none => rfl
    | some p => rfl
  | k + 1, b => by
    rw [getTs]
    conv => rhs; rw [getTs]
    cases getT b with
    | none => rfl
    | some p =>
      dsimp only
      rw [getTs_snoc k p.2]
      cases getTs k p.2 with
      | none => rfl
      | some q =>
        dsimp only [Option.bind_some]
        cases getT q.2 with
        | none => rfl
        | some y => rfl
theorem getTs_pre (k : Nat) (b : List Int) : ∀ d p, getTs (k + d) b = some p → ∃ q, getTs k b = some q
  | 0, p, h => ⟨p, h⟩
  | d + 1, p, h => by
    rw [show k + (d + 1) = (k + d) + 1 by omega, getTs_snoc] at h
    obtain ⟨q, hq, _⟩ := Option.bind_eq_some_iff.1 h
    exact getTs_pre k b d q hq
theorem nxK_zero (st : Option (List Int)) : nxK 0 st = st := by
  cases st with
  | none => rfl
  | some b => rfl
theorem nxK_next (k : Nat) (st : Option (List Int)) : nxT (nxK k st) = nxK (k + 1) st := by
  cases st with
  | none => rfl
  | some b =>
    unfold nxK nxT
    rw [Option.bind_some, Option.bind_some, getTs_snoc]
    cases getTs k b with
    | none => rfl
    | some p =>
      rw [Option.map_some, Option.bind_some, Option.bind_some]
      cases getT p.2 with
      | none => rfl
      | some q => rfl
/-- The texts so far, one more. -/
theorem nxK_list (k : Nat) (st : Option (List Int)) (L : List ByteArray) (s : ByteArray) (hL : ∀ p, st.bind (getTs k) = some p → L = p.1) (hs : ∀ p, (nxK k st).bind getT = some p → s = p.1) : ∀ p, st.bind (getTs (k + 1)) = some p → L ++ [s] = p.1 := by
  intro p hp
  cases st with
  | none => cases hp
  | some b =>
    rw [Option.bind_some, getTs_snoc] at hp
    obtain ⟨q, hq, hp⟩ := Option.bind_eq_some_iff.1 hp
    obtain ⟨y, hy, rfl⟩ := Option.map_eq_some_iff.1 hp
    rw [hL q hq, hs y (by unfold nxK; rw [Option.bind_some, hq]; exact hy)]
structure Steps (b : List Int) (name hex : ByteArray) (size n : Int) (k : Nat) (L : List ByteArray) : Prop where
  name_ : ∀ p, ((some b).bind (getW tPath)).bind getT = some p → name = p.1
  hex_ : ∀ p, ((nxT ((some b).bind (getW tPath))).bind (getW tHash)).bind getT = some p → hex = p.1
  size_ : ∀ p, ((nxT ((nxT ((some b).bind (getW tPath))).bind (getW tHash))).bind (getW tSize)).bind getN = some p → size = (p.1 : Int)
  n_ : ∀ p, ((nxN ((nxT ((nxT ((some b).bind (getW tPath))).bind (getW tHash))).bind (getW tSize))).bind (getW tRefs)).bind getN = some p → n = (p.1 : Int)
  l_ : ∀ p, (nxN ((nxN ((nxT ((nxT ((some b).bind (getW tPath))).bind (getW tHash))).bind (getW tSize))).bind (getW tRefs))).bind (getTs k) = some p → L = p.1
def st8 (b : List Int) : Option (List Int) := nxN ((nxN ((nxT ((nxT ((some b).bind (getW tPath))).bind (getW tHash))).bind (getW tSize))).bind (getW tRefs))
theorem getI_some {b r : List Int} {name hex : ByteArray} {size n : Int} {k : Nat} {L : List ByteArray} (h : Steps b name hex size n k L) (hk : nxK k (st8 b) = some r) (hn : ¬ (k : Int) < n) (hkn : ∀ p, ((nxN ((nxT ((nxT ((some b).bind (getW tPath))).bind (getW tHash))).bind (getW tSize))).bind (getW tRefs)).bind getN = some p → k ≤ p.1) :
    ∃ m : Nat, size = (m : Int) ∧ getI b = some ⟨name, hex, m, L, r⟩ := by
  obtain ⟨⟨l9, r9⟩, k9, rfl⟩ := Option.map_eq_some_iff.1 hk
  have hl := h.l_ _ k9
  obtain ⟨b8, k8, h9⟩ := Option.bind_eq_some_iff.1 k9
  obtain ⟨⟨n8, b8'⟩, j8, rfl⟩ := Option.map_eq_some_iff.1 k8
  have hnn := h.n_ _ j8
  have hk8 := hkn _ j8
  obtain ⟨b7, k7, h8⟩ := Option.bind_eq_some_iff.1 j8
  obtain ⟨b6, k6, h7⟩ := Option.bind_eq_some_iff.1 k7
  obtain ⟨⟨m6, b6'⟩, j6, rfl⟩ := Option.map_eq_some_iff.1 k6
  have hsz := h.size_ _ j6
  obtain ⟨b5, k5, h6⟩ := Option.bind_eq_some_iff.1 j6
  obtain ⟨b4, k4, h5⟩ := Option.bind_eq_some_iff.1 k5
  obtain ⟨⟨s4, b4'⟩, j4, rfl⟩ := Option.map_eq_some_iff.1 k4
  have hhex := h.hex_ _ j4
  obtain ⟨b3, k3, h4⟩ := Option.bind_eq_some_iff.1 j4
  obtain ⟨b2, k2, h3⟩ := Option.bind_eq_some_iff.1 k3
  obtain ⟨⟨s2, b2'⟩, j2, rfl⟩ := Option.map_eq_some_iff.1 k2
  have hname := h.name_ _ j2
  obtain ⟨b1, k1, h2⟩ := Option.bind_eq_some_iff.1 j2
  have h1 : getW tPath b = some b1 := k1
  dsimp only at hl hnn hk8 hsz hhex hname h3 h5 h7 h9 ⊢
  have hkk : k = n8 := by omega
  rw [hl, hhex, hname]
  refine ⟨m6, hsz, ?_⟩
  rw [hkk] at h9
  unfold getI
  simp only [h1, h2, h3, h4, h5, h6, h7, h8, h9, Option.bind_some]
theorem getI_none {b : List Int} {k : Nat} (hk : nxK k (st8 b) = none) (hn : ∀ p, ((nxN ((nxT ((nxT ((some b).bind (getW tPath))).bind (getW tHash))).bind (getW tSize))).bind (getW tRefs)).bind getN = some p → k ≤ p.1) :
    getI b = none := by
  cases hg : getI b with
  | none => rfl
  | some v =>
    exfalso
    unfold getI at hg
    obtain ⟨b1, e1, h⟩ := Option.bind_eq_some_iff.1 hg
    obtain ⟨⟨name, b2⟩, e2, h⟩ := Option.bind_eq_some_iff.1 h
    obtain ⟨b3, e3, h⟩ := Option.bind_eq_some_iff.1 h
    obtain ⟨⟨hex, b4⟩, e4, h⟩ := Option.bind_eq_some_iff.1 h
    obtain ⟨b5, e5, h⟩ := Option.bind_eq_some_iff.1 h
    obtain ⟨⟨size, b6⟩, e6, h⟩ := Option.bind_eq_some_iff.1 h
    obtain ⟨b7, e7, h⟩ := Option.bind_eq_some_iff.1 h
    obtain ⟨⟨n, b8⟩, e8, h⟩ := Option.bind_eq_some_iff.1 h
    obtain ⟨⟨refs, b9⟩, e9, h⟩ := Option.bind_eq_some_iff.1 h
    dsimp only at e3 e5 e7 e9
    have h7 : ((nxN ((nxT ((nxT ((some b).bind (getW tPath))).bind (getW tHash))).bind (getW tSize))).bind (getW tRefs)) = some b7 := by
      simp only [nxT, nxN, Option.bind_some, Option.map_some, e1, e2, e3, e4, e5, e6, e7]
    have hkn := hn (n, b8) (by rw [h7, Option.bind_some, e8])
    dsimp only at hkn
    obtain ⟨q, hq⟩ := getTs_pre k b8 (n - k) (refs, b9) (by rw [show k + (n - k) = n by omega]; exact e9)
    unfold nxK st8 nxN at hk
    unfold nxN at h7
    rw [h7, Option.bind_some, e8, Option.map_some, Option.bind_some, hq] at hk
    cases hk
end Go.Proofs.YthnchdbkgenjhaaDoorX
