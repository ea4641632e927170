/- Node: the reader and the document's places go alike; what is read is small. -/
import Derived.Test.YtjhenmegcgnkgaaNodeRead
import Derived.Test.YtjhenmegcgnkgaaNodeRefText
import Derived.Test.YtjhenmegcgnkgaaNodeKinds
import Derived.Test.YtjhenmegcgnkgaaNodeKinds2
import Derived.Test.YtjhenmegcgnkgaaPlain
set_option linter.unusedVariables false
namespace Go.Proofs.YtjhenmegcgnkgaaX
open Go.RowKit Go.Proofs.Ytjhenmegcgnkgaa.PNode Go.Proofs.YtjhenmegcgnkgaaW.PrintWords Go.Proofs.YtjhenmegcgnkgaaW.PrintLast Go.Proofs.YtjhenmegcgnkgaaW.PrintMore

theorem takeR_bad (xs : List Int) (m : Int) : (takeR xs true m).2.2 = true := by
  unfold takeR
  split <;> rfl
theorem textR_bad (xs : List Int) : (textR xs true).2.2 = true := by
  unfold textR
  show (takeR _ (takeR xs true 1).2.2 _).2.2 = true
  rw [takeR_bad]
  exact takeR_bad _ _
theorem childR_bad (xs : List Int) : (childR xs true).2.2 = true := takeR_bad xs 3
theorem takeR_go {xs : List Int} {m : Int} (h : m ≤ (xs.length : Int)) (bad : Bool) : takeR xs bad m = (xs.take m.toNat, xs.drop m.toNat, bad) := by
  unfold takeR
  rw [if_neg (by omega)]
theorem takeR_out {xs : List Int} {m : Int} (h : (xs.length : Int) < m) (bad : Bool) : takeR xs bad m = (List.replicate m.toNat 0, [], true) := by
  unfold takeR
  rw [if_pos (by omega)]
theorem textR_cons (x : Int) (r : List Int) : textR (x :: r) false = (strOfNums (takeR r false x).1, (takeR r false x).2) := by
  unfold textR
  rw [takeR_go (xs := x :: r) (m := 1) (by rw [List.length_cons]; omega)]
  rfl
theorem textR_nil : (textR [] false).2.2 = true := by
  unfold textR
  rw [takeR_out (xs := []) (m := 1) (by decide)]
  exact takeR_bad _ _
theorem rd_drop (l : List Int) (a : Nat) (h : a < l.length) : l.drop a = rd l (a : Int) :: l.drop (a + 1) := by
  rw [List.drop_eq_getElem_cons h]
  unfold rd
  rw [Int.toNat_natCast, List.getD_eq_getElem?_getD, List.getElem?_eq_getElem h]
  rfl

theorem text_sim (l : List Int) (a : Nat) (ha : a ≤ l.length) (ho : ∀ i, 0 ≤ rd l i ∧ rd l i ≤ 255) :
    (refText l (a : Int) = (⟨#[]⟩, -1) ∧ (textR (l.drop a) false).2.2 = true) ∨ ∃ a' : Nat, a < a' ∧ a' ≤ l.length ∧ ∃ s, refText l (a : Int) = (s, (a' : Int)) ∧ textR (l.drop a) false = (s, l.drop a', false) := by
  unfold refText
  rw [if_neg (by omega)]
  by_cases h1 : (a : Int) ≥ (l.length : Int)
  · rw [if_pos h1]
    have : l.drop a = [] := List.drop_eq_nil_of_le (by omega)
    rw [this]
    exact .inl ⟨rfl, textR_nil⟩
  · rw [if_neg h1]
    have hal : a < l.length := by omega
    rw [rd_drop l a hal, textR_cons]
    have hx := ho (a : Int)
    generalize hv : rd l (a : Int) = x at hx
    have hlen : (l.drop (a + 1)).length = l.length - (a + 1) := List.length_drop ..
    by_cases h2 : (a : Int) + 1 + x > (l.length : Int)
    · rw [if_pos h2, takeR_out (by rw [hlen]; omega)]
      exact .inl ⟨rfl, rfl⟩
    · rw [if_neg h2, takeR_go (by rw [hlen]; omega)]
      refine .inr ⟨a + 1 + x.toNat, by omega, by omega, strOfNums ((l.take ((a : Int) + 1 + x).toNat).drop ((a : Int) + 1).toNat), ?_, ?_⟩
      · have : (a : Int) + 1 + x = ((a + 1 + x.toNat : Nat) : Int) := by omega
        rw [← this]
      · have e1 : ((a : Int) + 1 + x).toNat = a + 1 + x.toNat := by omega
        have e2 : ((a : Int) + 1).toNat = a + 1 := by omega
        rw [e1, e2, List.drop_take, List.drop_drop]
        rw [show a + 1 + x.toNat - (a + 1) = x.toNat by omega]
theorem child_sim (l : List Int) (a : Nat) (ha : a ≤ l.length) :
    ((l.length : Int) < (a : Int) + 3 ∧ (childR (l.drop a) false).2.2 = true) ∨ ((a : Int) + 3 ≤ (l.length : Int) ∧ childR (l.drop a) false = (rd l (a : Int) * 65536 + rd l ((a + 1 : Nat) : Int) * 256 + rd l ((a + 2 : Nat) : Int), l.drop (a + 3), false)) := by
  have hlen : (l.drop a).length = l.length - a := List.length_drop ..
  unfold childR
  by_cases h : (a : Int) + 3 ≤ (l.length : Int)
  · rw [takeR_go (by rw [hlen]; omega)]
    refine .inr ⟨h, ?_⟩
    rw [rd_drop l a (by omega), rd_drop l (a + 1) (by omega), rd_drop l (a + 2) (by omega)]
    rfl
  · rw [takeR_out (by rw [hlen]; omega)]
    exact .inl ⟨by omega, rfl⟩

/-! ### sizes -/
theorem str_size (xs : List Int) : (strOfNums xs).size = xs.length := by
  unfold strOfNums
  rw [ba_size]
  simp
theorem takeR_small (xs : List Int) (bad : Bool) (m : Int) (h0 : 0 ≤ m) (h1 : m ≤ 255) : (takeR xs bad m).1.length ≤ 255 := by
  have := takeR_len xs bad m h0
  omega
theorem takeR_rest (xs : List Int) (bad : Bool) (m : Int) : (takeR xs bad m).2.1.length ≤ xs.length ∧ (0 < m → bad = false → (takeR xs bad m).2.2 = false → (takeR xs bad m).2.1.length < xs.length) := by
  unfold takeR
  by_cases h : m > (xs.length : Int)
  · rw [if_pos h]
    exact ⟨Nat.zero_le _, fun _ _ hc => by cases hc⟩
  · rw [if_neg h]
    refine ⟨by rw [List.length_drop]; exact Nat.sub_le _ _, fun hm _ _ => ?_⟩
    rw [List.length_drop]
    omega
theorem textR_size {xs : List Int} (h : Oct xs) (bad : Bool) : (textR xs bad).1.size ≤ 255 := by
  unfold textR
  show (strOfNums _).size ≤ 255
  rw [str_size]
  have := oct_rd (oct_take h bad 1).1 0
  exact takeR_small _ _ _ this.1 this.2
theorem textR_rest {xs : List Int} (h : Oct xs) (bad : Bool) : (textR xs bad).2.1.length ≤ xs.length ∧ (bad = false → (textR xs bad).2.2 = false → (textR xs bad).2.1.length < xs.length) := by
  have r1 := takeR_rest xs bad 1
  have r2 := takeR_rest (takeR xs bad 1).2.1 (takeR xs bad 1).2.2 (rd (takeR xs bad 1).1 0)
  refine ⟨Nat.le_trans r2.1 r1.1, fun hb hb2 => Nat.lt_of_le_of_lt r2.1 (r1.2 (by decide) hb ?_)⟩
  cases hc : (takeR xs bad 1).2.2
  · rfl
  · have : (textR xs bad).2.2 = true := by
      unfold textR
      show (takeR _ (takeR xs bad 1).2.2 _).2.2 = true
      rw [hc]
      exact takeR_bad _ _
    rw [this] at hb2
    cases hb2
theorem leafR_len : ∀ (m : Nat) (xs : List Int) (bad : Bool) (acc : List S42), Oct xs → (leafR m xs bad acc).1.length ≤ acc.length + xs.length + 1 ∧ ((∀ p ∈ acc, p.f0.size ≤ 255 ∧ p.f1.size ≤ 255) → ∀ p ∈ (leafR m xs bad acc).1, p.f0.size ≤ 255 ∧ p.f1.size ≤ 255)
  | 0, xs, bad, acc, _ => ⟨by show acc.length ≤ _; omega, fun h => h⟩
  | m + 1, xs, true, acc, _ => by
    rw [leafR_bad]
    exact ⟨by show acc.length ≤ _; omega, fun h => h⟩
  | m + 1, xs, false, acc, ho => by
    rw [leafR_go]
    have o1 := oct_text ho false
    have o2 := oct_text o1 (textR xs false).2.2
    have t1 := textR_rest ho false
    have t2 := textR_rest o1 (textR xs false).2.2
    have ih := leafR_len m (textR (textR xs false).2.1 (textR xs false).2.2).2.1 (textR (textR xs false).2.1 (textR xs false).2.2).2.2 (acc ++ [⟨(textR xs false).1, (textR (textR xs false).2.1 (textR xs false).2.2).1⟩]) o2
    refine ⟨?_, fun h => ih.2 fun p hp => ?_⟩
    · cases hb : (textR (textR xs false).2.1 (textR xs false).2.2).2.2
      · have hb1 : (textR xs false).2.2 = false := by
          cases hc : (textR xs false).2.2
          · rfl
          · rw [hc, textR_bad] at hb
            cases hb
        have := t1.2 rfl hb1
        have h1 := ih.1
        rw [List.length_append] at h1
        rw [hb] at h1
        have h2 := t2.1
        have e : ([(⟨(textR xs false).1, (textR (textR xs false).2.1 (textR xs false).2.2).1⟩ : S42)] : List S42).length = 1 := rfl
        omega
      · rw [leafR_bad]
        show (acc ++ [_]).length ≤ _
        rw [List.length_append]
        show acc.length + 1 ≤ _
        omega
    · rcases List.mem_append.1 hp with hp | hp
      · exact h p hp
      · rw [List.mem_singleton.1 hp]
        exact ⟨textR_size ho false, textR_size o1 _⟩
theorem keysR_len : ∀ (m : Nat) (xs : List Int) (bad : Bool) (acc : List ByteArray), Oct xs → (keysR m xs bad acc).1.length ≤ acc.length + xs.length + 1 ∧ ((∀ p ∈ acc, p.size ≤ 255) → ∀ p ∈ (keysR m xs bad acc).1, p.size ≤ 255)
  | 0, xs, bad, acc, _ => ⟨by show acc.length ≤ _; omega, fun h => h⟩
  | m + 1, xs, true, acc, _ => by
    rw [keysR_bad]
    exact ⟨by show acc.length ≤ _; omega, fun h => h⟩
  | m + 1, xs, false, acc, ho => by
    rw [keysR_go]
    have o1 := oct_text ho false
    have t1 := textR_rest ho false
    have ih := keysR_len m (textR xs false).2.1 (textR xs false).2.2 (acc ++ [(textR xs false).1]) o1
    have e : (acc ++ [(textR xs false).1]).length = acc.length + 1 := by rw [List.length_append]; rfl
    refine ⟨?_, fun h => ih.2 fun p hp => ?_⟩
    · cases hb : (textR xs false).2.2
      · have := t1.2 rfl hb
        have h1 := ih.1
        rw [e, hb] at h1
        omega
      · rw [keysR_bad]
        show (acc ++ [_]).length ≤ _
        omega
    · rcases List.mem_append.1 hp with hp | hp
      · exact h p hp
      · rw [List.mem_singleton.1 hp]
        exact textR_size ho false
theorem kidsR_len : ∀ (m : Nat) (xs : List Int) (bad : Bool) (acc : List Int), (kidsR m xs bad acc).1.length ≤ acc.length + xs.length + 1 ∧ (Oct xs → Oct (kidsR m xs bad acc).2.1) ∧ (kidsR m xs bad acc).2.1.length ≤ xs.length
  | 0, xs, bad, acc => ⟨by show acc.length ≤ _; omega, fun h => h, Nat.le_refl _⟩
  | m + 1, xs, true, acc => by
    rw [kidsR_bad]
    exact ⟨by show acc.length ≤ _; omega, fun h => h, Nat.le_refl _⟩
  | m + 1, xs, false, acc => by
    rw [kidsR_go]
    have t1 := takeR_rest xs false 3
    have ih := kidsR_len m (childR xs false).2.1 (childR xs false).2.2 (acc ++ [(childR xs false).1])
    have e : (acc ++ [(childR xs false).1]).length = acc.length + 1 := by rw [List.length_append]; rfl
    refine ⟨?_, fun h => ih.2.1 (oct_child h false), Nat.le_trans ih.2.2 t1.1⟩
    cases hb : (childR xs false).2.2
    · have := t1.2 (by decide) rfl hb
      have h1 := ih.1
      rw [e, hb] at h1
      have h2 : (childR xs false).2.1.length = (takeR xs false 3).2.1.length := rfl
      omega
    · rw [kidsR_bad]
      show (acc ++ [_]).length ≤ _
      omega
end Go.Proofs.YtjhenmegcgnkgaaX
