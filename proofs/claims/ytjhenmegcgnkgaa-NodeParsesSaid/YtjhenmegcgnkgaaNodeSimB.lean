import Derived.Test.YtjhenmegcgnkgaaNodeRead
import Derived.Test.YtjhenmegcgnkgaaNodeRefText
import Derived.Test.YtjhenmegcgnkgaaNodeKinds
import Derived.Test.YtjhenmegcgnkgaaNodeKinds2
import Derived.Test.YtjhenmegcgnkgaaPlain
import Derived.Test.YtjhenmegcgnkgaaQNodex9
import Derived.Test.YtjhenmegcgnkgaaEv
set_option linter.unusedVariables false
/- Node: the reader and the document's places go alike; what is read is small. -/
namespace Go.Proofs.YtjhenmegcgnkgaaX
open Go.RowKit Go.Proofs.Ytjhenmegcgnkgaa.PNode Go.Proofs.YtjhenmegcgnkgaaW.PrintWords Go.Proofs.YtjhenmegcgnkgaaW.PrintLast Go.Proofs.YtjhenmegcgnkgaaW.PrintMore
theorem takeR_bad (xs : List Int) (m : Int) : (takeR xs true m).2.2 = true := by
  unfold takeR
  split <;> rfl
theorem textR_bad (xs : List Int) : (textR xs true).2.2 = true := by
  unfold textR
  show (takeR _ (takeR xs true 1).2.2 _).2.2 = true
  rw [takeR_bad]
  exact takeR_bad _ _
theorem takeR_go {xs : List Int} {m : Int} (h : m ≤ (xs.length : Int)) (bad : Bool) : takeR xs bad m = (xs.take m.toNat, xs.drop m.toNat, bad) := by
  unfold takeR
  rw [if_neg (by omega)]
theorem takeR_out {xs : List Int} {m : Int} (h : (xs.length : Int) < m) (bad : Bool) : takeR xs bad m = (List.replicate m.toNat 0, [], true) := by
  unfold takeR
  rw [if_pos (by omega)]
theorem textR_cons (x : Int) (r : List Int) : textR (x :: r) false = (strOfNums (takeR r false x).1, (takeR r false x).2) := by
  unfold textR
  rw [takeR_go (xs := x :: r) (m := 1) (by rw [List.length_cons]; omega)]
  rfl
theorem textR_nil : (textR [] false).2.2 = true := by
  unfold textR
  rw [takeR_out (xs := []) (m := 1) (by decide)]
  exact takeR_bad _ _
theorem rd_drop (l : List Int) (a : Nat) (h : a < l.length) : l.drop a = rd l (a : Int) :: l.drop (a + 1) := by
  rw [List.drop_eq_getElem_cons h]
  unfold rd
  rw [Int.toNat_natCast, List.getD_eq_getElem?_getD, List.getElem?_eq_getElem h]
  rfl
theorem text_sim (l : List Int) (a : Nat) (ha : a ≤ l.length) (ho : ∀ i, 0 ≤ rd l i ∧ rd l i ≤ 255) :
    (refText l (a : Int) = (⟨#[]⟩, -1) ∧ (textR (l.drop a) false).2.2 = true) ∨ ∃ a' : Nat, a < a' ∧ a' ≤ l.length ∧ ∃ s, refText l (a : Int) = (s, (a' : Int)) ∧ textR (l.drop a) false = (s, l.drop a', false) := by
  unfold refText
  rw [if_neg (by omega)]
  by_cases h1 : (a : Int) ≥ (l.length : Int)
  · rw [if_pos h1]
    have : l.drop a = [] := List.drop_eq_nil_of_le (by omega)
    rw [this]
    exact .inl ⟨rfl, textR_nil⟩
  · rw [if_neg h1]
    have hal : a < l.length := by omega
    rw [rd_drop l a hal, textR_cons]
    have hx := ho (a : Int)
    generalize hv : rd l (a : Int) = x at hx
    have hlen : (l.drop (a + 1)).length = l.length - (a + 1) := List.length_drop ..
    by_cases h2 : (a : Int) + 1 + x > (l.length : Int)
    · rw [if_pos h2, takeR_out (by rw [hlen]; omega)]
      exact .inl ⟨rfl, rfl⟩
    · rw [if_neg h2, takeR_go (by rw [hlen]; omega)]
      refine .inr ⟨a + 1 + x.toNat, by omega, by omega, strOfNums ((l.take ((a : Int) + 1 + x).toNat).drop ((a : Int) + 1).toNat), ?_, ?_⟩
      · have : (a : Int) + 1 + x = ((a + 1 + x.toNat : Nat) : Int) := by omega
        rw [← this]
      · have e1 : ((a : Int) + 1 + x).toNat = a + 1 + x.toNat := by omega
        have e2 : ((a : Int) + 1).toNat = a + 1 := by omega
        rw [e1, e2, List.drop_take, List.drop_drop]
        rw [show a + 1 + x.toNat - (a + 1) = x.toNat by omega]
theorem child_sim (l : List Int) (a : Nat) (ha : a ≤ l.length) :
    ((l.length : Int) < (a : Int) + 3 ∧ (childR (l.drop a) false).2.2 = true) ∨ ((a : Int) + 3 ≤ (l.length : Int) ∧ childR (l.drop a) false = (rd l (a : Int) * 65536 + rd l ((a + 1 : Nat) : Int) * 256 + rd l ((a + 2 : Nat) : Int), l.drop (a + 3), false)) := by
  have hlen : (l.drop a).length = l.length - a := List.length_drop ..
  unfold childR
  by_cases h : (a : Int) + 3 ≤ (l.length : Int)
  · rw [takeR_go (by rw [hlen]; omega)]
    refine .inr ⟨h, ?_⟩
    rw [rd_drop l a (by omega), rd_drop l (a + 1) (by omega), rd_drop l (a + 2) (by omega)]
    rfl
  · rw [takeR_out (by rw [hlen]; omega)]
    exact .inl ⟨by omega, rfl⟩
theorem str_size (xs : List Int) : (strOfNums xs).size = xs.length := by
  unfold strOfNums
  rw [ba_size]
  simp
theorem takeR_small (xs : List Int) (bad : Bool) (m : Int) (h0 : 0 ≤ m) (h1 : m ≤ 255) : (takeR xs bad m).1.length ≤ 255 := by
  have := takeR_len xs bad m h0
  omega
theorem takeR_rest (xs : List Int) (bad : Bool) (m : Int) : (takeR xs bad m).2.1.length ≤ xs.length ∧ (0 < m → bad = false → (takeR xs bad m).2.2 = false → (takeR xs bad m).2.1.length < xs.length) := by
  unfold takeR
  by_cases h : m > (xs.length : Int)
  · rw [if_pos h]
    exact ⟨Nat.zero_le _, fun _ _ hc => by cases hc⟩
  · rw [if_neg h]
    refine ⟨by rw [List.length_drop]; exact Nat.sub_le _ _, fun hm _ _ => ?_⟩
    rw [List.length_drop]
    omega
theorem textR_size {xs : List Int} (h : Oct xs) (bad : Bool) : (textR xs bad).1.size ≤ 255 := by
  unfold textR
  show (strOfNums _).size ≤ 255
  rw [str_size]
  have := oct_rd (oct_take h bad 1).1 0
  exact takeR_small _ _ _ this.1 this.2
theorem textR_rest {xs : List Int} (h : Oct xs) (bad : Bool) : (textR xs bad).2.1.length ≤ xs.length ∧ (bad = false → (textR xs bad).2.2 = false → (textR xs bad).2.1.length < xs.length) := by
  have r1 := takeR_rest xs bad 1
  have r2 := takeR_rest (takeR xs bad 1).2.1 (takeR xs bad 1).2.2 (rd (takeR xs bad 1).1 0)
  refine ⟨Nat.le_trans r2.1 r1.1, fun hb hb2 => Nat.lt_of_le_of_lt r2.1 (r1.2 (by decide) hb ?_)⟩
  cases hc : (takeR xs bad 1).2.2
  · rfl
  · have : (textR xs bad).2.2 = true := by
      unfold textR
      show (takeR _ (takeR xs bad 1).2.2 _).2.2 = true
      rw [hc]
      exact takeR_bad _ _
    rw [this] at hb2
    cases hb2
theorem leafR_len : ∀ (m : Nat) (xs : List Int) (bad : Bool) (acc : List S42), Oct xs → (leafR m xs bad acc).1.length ≤ acc.length + xs.length + 1 ∧ ((∀ p ∈ acc, p.f0.size ≤ 255 ∧ p.f1.size ≤ 255) → ∀ p ∈ (leafR m xs bad acc).1, p.f0.size ≤ 255 ∧ p.f1.size ≤ 255)
  | 0, xs, bad, acc, _ => ⟨by show acc.length ≤ _; omega, fun h => h⟩
  | m + 1, xs, true, acc, _ => by
    rw [leafR_bad]
    exact ⟨by show acc.length ≤ _; omega, fun h => h⟩
  | m + 1, xs, false, acc, ho => by
    rw [leafR_go]
    have o1 := oct_text ho false
    have o2 := oct_text o1 (textR xs false).2.2
    have t1 := textR_rest ho false
    have t2 := textR_rest o1 (textR xs false).2.2
    have ih := leafR_len m (textR (textR xs false).2.1 (textR xs false).2.2).2.1 (textR (textR xs false).2.1 (textR xs false).2.2).2.2 (acc ++ [⟨(textR xs false).1, (textR (textR xs false).2.1 (textR xs false).2.2).1⟩]) o2
    refine ⟨?_, fun h => ih.2 fun p hp => ?_⟩
    · cases hb : (textR (textR xs false).2.1 (textR xs false).2.2).2.2
      · have hb1 : (textR xs false).2.2 = false := by
          cases hc : (textR xs false).2.2
          · rfl
          · rw [hc, textR_bad] at hb
            cases hb
        have := t1.2 rfl hb1
        have h1 := ih.1
        rw [List.length_append] at h1
        rw [hb] at h1
        have h2 := t2.1
        have e : ([(⟨(textR xs false).1, (textR (textR xs false).2.1 (textR xs false).2.2).1⟩ : S42)] : List S42).length = 1 := rfl
        omega
      · rw [leafR_bad]
        show (acc ++ [_]).length ≤ _
        rw [List.length_append]
        show acc.length + 1 ≤ _
        omega
    · rcases List.mem_append.1 hp with hp | hp
      · exact h p hp
      · rw [List.mem_singleton.1 hp]
        exact ⟨textR_size ho false, textR_size o1 _⟩
theorem keysR_len : ∀ (m : Nat) (xs : List Int) (bad : Bool) (acc : List ByteArray), Oct xs → (keysR m xs bad acc).1.length ≤ acc.length + xs.length + 1 ∧ ((∀ p ∈ acc, p.size ≤ 255) → ∀ p ∈ (keysR m xs bad acc).1, p.size ≤ 255)
  | 0, xs, bad, acc, _ => ⟨by show acc.length ≤ _; omega, fun h => h⟩
  | m + 1, xs, true, acc, _ => by
    rw [keysR_bad]
    exact ⟨by show acc.length ≤ _; omega, fun h => h⟩
  | m + 1, xs, false, acc, ho => by
    rw [keysR_go]
    have o1 := oct_text ho false
    have t1 := textR_rest ho false
    have ih := keysR_len m (textR xs false).2.1 (textR xs false).2.2 (acc ++ [(textR xs false).1]) o1
    have e : (acc ++ [(textR xs false).1]).length = acc.length + 1 := by rw [List.length_append]; rfl
    refine ⟨?_, fun h => ih.2 fun p hp => ?_⟩
    · cases hb : (textR xs false).2.2
      · have := t1.2 rfl hb
        have h1 := ih.1
        rw [e, hb] at h1
        omega
      · rw [keysR_bad]
        show (acc ++ [_]).length ≤ _
        omega
    · rcases List.mem_append.1 hp with hp | hp
      · exact h p hp
      · rw [List.mem_singleton.1 hp]
        exact textR_size ho false
theorem kidsR_len : ∀ (m : Nat) (xs : List Int) (bad : Bool) (acc : List Int), (kidsR m xs bad acc).1.length ≤ acc.length + xs.length + 1 ∧ (Oct xs → Oct (kidsR m xs bad acc).2.1) ∧ (kidsR m xs bad acc).2.1.length ≤ xs.length
  | 0, xs, bad, acc => ⟨by show acc.length ≤ _; omega, fun h => h, Nat.le_refl _⟩
  | m + 1, xs, true, acc => by
    rw [kidsR_bad]
    exact ⟨by show acc.length ≤ _; omega, fun h => h, Nat.le_refl _⟩
  | m + 1, xs, false, acc => by
    rw [kidsR_go]
    have t1 := takeR_rest xs false 3
    have ih := kidsR_len m (childR xs false).2.1 (childR xs false).2.2 (acc ++ [(childR xs false).1])
    have e : (acc ++ [(childR xs false).1]).length = acc.length + 1 := by rw [List.length_append]; rfl
    refine ⟨?_, fun h => ih.2.1 (oct_child h false), Nat.le_trans ih.2.2 t1.1⟩
    cases hb : (childR xs false).2.2
    · have := t1.2 (by decide) rfl hb
      have h1 := ih.1
      rw [e, hb] at h1
      have h2 : (childR xs false).2.1.length = (takeR xs false 3).2.1.length := rfl
      omega
    · rw [kidsR_bad]
      show (acc ++ [_]).length ≤ _
      omega
end Go.Proofs.YtjhenmegcgnkgaaX
/- Node: the document's Parse, round by round, held against the reader. -/
namespace Go.Proofs.YtjhenmegcgnkgaaX
open Go.RowKit Go.Proofs.Ytjhenmegcgnkgaa.PNode Go.Proofs.YtjhenmegcgnkgaaW.PrintWords Go.Proofs.YtjhenmegcgnkgaaW.PrintLast Go.Proofs.YtjhenmegcgnkgaaW.PrintMore
abbrev PR := Bool × (List S42) × List ByteArray × List Int × Bool
abbrev zeroR : PR := (false, [], [], [], false)
/-- What stands behind the rounds. -/
def tailP (l : List Int) (b : Bool) (ps : List S42) (ks : List ByteArray) (cs : List Int) (k : Nat) : Option PR :=
  (chandleryref08_Check.f k b ps ks cs (l.length : Int)).bind fun t => if t = 0 then (chandleryref08_Bytes.f k b ps ks cs (l.length : Int)).bind fun t340 => (if (strOfNums t340).toList = (strOfNums l).toList then some (b, ps, ks, cs, true) else some zeroR) else some zeroR
section
variable (l : List Int) (cnt : Int)
theorem j4_tail (b : Bool) (ps : List S42) (ks : List ByteArray) (cs : List Int) (a i : Int) (ha : 0 ≤ a) (k : Nat) : chandleryref08_Parse.j4 (k + 1) l cnt a i false b ps ks cs = tailP l b ps ks cs k := by
  rw [chandleryref08_Parse.j4, if_neg (by decide), if_neg (by omega)]
  rfl
theorem j4_zero (b : Bool) (ps : List S42) (ks : List ByteArray) (cs : List Int) (i : Int) (k : Nat) : chandleryref08_Parse.j4 (k + 1) l cnt (-1) i false b ps ks cs = some zeroR := by
  rw [chandleryref08_Parse.j4, if_neg (by decide), if_pos (by decide)]
theorem l1_zero (b : Bool) (ps : List S42) (ks : List ByteArray) (cs : List Int) (i : Int) : Ev (fun k => chandleryref08_Parse.l1 k l cnt (-1) i b ps ks cs) zeroR := by
  refine Ev.step (f := fun k => chandleryref08_Parse.j4 k l cnt (-1) i false b ps ks cs) (fun k => ?_) (Ev.step (f := fun _ => some zeroR) (fun k => j4_zero l cnt b ps ks cs i k) (Ev.now _))
  rw [chandleryref08_Parse.l1]
  by_cases h : i < cnt
  · rw [if_pos h, decide_eq_false (by decide)]
  · rw [if_neg h]
theorem leaf_sim (ho : octB l = true) (hl : l.length ≤ 1000000) (hc : cnt ≤ 65535) : ∀ (m : Nat) (i : Int) (a : Nat) (acc : List S42), i + m = cnt → 0 ≤ i → a ≤ l.length → (acc.length : Int) ≤ i →
    ((leafR m (l.drop a) false acc).2.2 = true ∧ Ev (fun k => chandleryref08_Parse.l1 k l cnt (a : Int) i true acc [] []) zeroR) ∨
    ((leafR m (l.drop a) false acc).2.2 = false ∧ ∀ v, Ev (tailP l true (leafR m (l.drop a) false acc).1 [] []) v → Ev (fun k => chandleryref08_Parse.l1 k l cnt (a : Int) i true acc [] []) v)
  | 0, i, a, acc, hi, h0, ha, hacc => by
    refine .inr ⟨rfl, fun v hv => ?_⟩
    refine Ev.step (f := fun k => chandleryref08_Parse.j4 k l cnt (a : Int) i false true acc [] []) (fun k => by rw [chandleryref08_Parse.l1, if_neg (by omega)]) ?_
    exact Ev.step (f := tailP l true acc [] []) (fun k => j4_tail l cnt true acc [] [] (a : Int) i (by omega) k) hv
  | m + 1, i, a, acc, hi, h0, ha, hacc => by
    have ho' := octB_rd ho
    have hwi : wrap64 (i + 1) = i + 1 := w64 (by omega) (by omega)
    have step : ∀ s1 s2 (a1 a2 : Int), refText l (a : Int) = (s1, a1) → refText l a1 = (s2, a2) → ∀ v, Ev (fun k => chandleryref08_Parse.l1 k l cnt a2 (i + 1) true (acc ++ [⟨s1, s2⟩]) [] []) v → Ev (fun k => chandleryref08_Parse.l1 k l cnt (a : Int) i true acc [] []) v := by
      intro s1 s2 a1 a2 e1 e2 v hv
      refine Ev.step (f := fun k => chandleryref08_Parse.j4 k l cnt (a : Int) i true true acc [] []) (fun k => by rw [chandleryref08_Parse.l1, if_pos (by omega), decide_eq_true (by omega)]) ?_
      refine Ev.step (f := fun k => chandleryref08_Parse.l1 k l cnt a2 (i + 1) true (acc ++ [⟨s1, s2⟩]) [] []) (fun k => ?_) hv
      rw [chandleryref08_Parse.j4, if_pos rfl]
      unfold chandleryref08_text.f
      rw [if_pos ⟨ho, hl⟩, e1, Option.bind_some, if_pos rfl, if_pos ⟨ho, hl⟩]
      dsimp only
      rw [e2, Option.bind_some, if_pos (by omega), hwi]
    rw [leafR_go]
    rcases text_sim l a ha ho' with ⟨e1, b1⟩ | ⟨a', h1, h2, s1, e1, t1⟩
    · have e2 : refText l (-1) = (⟨#[]⟩, -1) := by unfold refText; rw [if_pos (by decide)]
      rw [b1, textR_bad, leafR_bad]
      exact .inl ⟨rfl, step _ _ _ _ e1 e2 zeroR (l1_zero l cnt true _ [] [] (i + 1))⟩
    · rw [t1]
      dsimp only
      rcases text_sim l a' h2 ho' with ⟨e2, b2⟩ | ⟨a2, h3, h4, s2, e2, t2⟩
      · rw [b2, leafR_bad]
        exact .inl ⟨rfl, step _ _ _ _ e1 e2 zeroR (l1_zero l cnt true _ [] [] (i + 1))⟩
      · rw [t2]
        dsimp only
        have ih := leaf_sim ho hl hc m (i + 1) a2 (acc ++ [⟨s1, s2⟩]) (by omega) (by omega) h4 (by rw [List.length_append]; show ((acc.length + 1 : Nat) : Int) ≤ _; omega)
        rcases ih with ⟨x1, x2⟩ | ⟨x1, x2⟩
        · exact .inl ⟨x1, step _ _ _ _ e1 e2 zeroR x2⟩
        · exact .inr ⟨x1, fun v hv => step _ _ _ _ e1 e2 v (x2 v hv)⟩
theorem keys_sim (ho : octB l = true) (hl : l.length ≤ 1000000) (hc : cnt ≤ 65535) (cs : List Int) : ∀ (m : Nat) (i : Int) (a : Nat) (acc : List ByteArray), i + m = cnt → 0 ≤ i → a ≤ l.length → (acc.length : Int) ≤ i →
    ((keysR m (l.drop a) false acc).2.2 = true ∧ Ev (fun k => chandleryref08_Parse.l1 k l cnt (a : Int) i false [] acc cs) zeroR) ∨
    ((keysR m (l.drop a) false acc).2.2 = false ∧ ∀ v, Ev (tailP l false [] (keysR m (l.drop a) false acc).1 cs) v → Ev (fun k => chandleryref08_Parse.l1 k l cnt (a : Int) i false [] acc cs) v)
  | 0, i, a, acc, hi, h0, ha, hacc => by
    refine .inr ⟨rfl, fun v hv => ?_⟩
    refine Ev.step (f := fun k => chandleryref08_Parse.j4 k l cnt (a : Int) i false false [] acc cs) (fun k => by rw [chandleryref08_Parse.l1, if_neg (by omega)]) ?_
    exact Ev.step (f := tailP l false [] acc cs) (fun k => j4_tail l cnt false [] acc cs (a : Int) i (by omega) k) hv
  | m + 1, i, a, acc, hi, h0, ha, hacc => by
    have ho' := octB_rd ho
    have hwi : wrap64 (i + 1) = i + 1 := w64 (by omega) (by omega)
    have step : ∀ s1 (a1 : Int), refText l (a : Int) = (s1, a1) → ∀ v, Ev (fun k => chandleryref08_Parse.l1 k l cnt a1 (i + 1) false [] (acc ++ [s1]) cs) v → Ev (fun k => chandleryref08_Parse.l1 k l cnt (a : Int) i false [] acc cs) v := by
      intro s1 a1 e1 v hv
      refine Ev.step (f := fun k => chandleryref08_Parse.j4 k l cnt (a : Int) i true false [] acc cs) (fun k => by rw [chandleryref08_Parse.l1, if_pos (by omega), decide_eq_true (by omega)]) ?_
      refine Ev.step (f := fun k => chandleryref08_Parse.l1 k l cnt a1 (i + 1) false [] (acc ++ [s1]) cs) (fun k => ?_) hv
      rw [chandleryref08_Parse.j4, if_pos rfl]
      unfold chandleryref08_text.f
      rw [if_pos ⟨ho, hl⟩, e1, Option.bind_some, if_neg (by decide), if_pos (by omega), hwi]
    rw [keysR_go]
    rcases text_sim l a ha ho' with ⟨e1, b1⟩ | ⟨a', h1, h2, s1, e1, t1⟩
    · rw [b1, keysR_bad]
      exact .inl ⟨rfl, step _ _ e1 zeroR (l1_zero l cnt false [] _ cs (i + 1))⟩
    · rw [t1]
      dsimp only
      have ih := keys_sim ho hl hc cs m (i + 1) a' (acc ++ [s1]) (by omega) (by omega) h2 (by rw [List.length_append]; show ((acc.length + 1 : Nat) : Int) ≤ _; omega)
      rcases ih with ⟨x1, x2⟩ | ⟨x1, x2⟩
      · exact .inl ⟨x1, step _ _ e1 zeroR x2⟩
      · exact .inr ⟨x1, fun v hv => step _ _ e1 v (x2 v hv)⟩
theorem kids_val {x y z : Int} (hx : 0 ≤ x ∧ x ≤ 255) (hy : 0 ≤ y ∧ y ≤ 255) (hz : 0 ≤ z ∧ z ≤ 255) : wrap64 ((wrap64 ((wrap64 (65536 * (wrap64 x))) + (wrap64 (256 * (wrap64 y))))) + (wrap64 z)) = x * 65536 + y * 256 + z := by
  rw [w64 (x := x) (by omega) (by omega), w64 (x := y) (by omega) (by omega), w64 (x := z) (by omega) (by omega), w64 (x := 65536 * x) (by omega) (by omega), w64 (x := 256 * y) (by omega) (by omega), w64 (x := 65536 * x + 256 * y) (by omega) (by omega), w64 (by omega) (by omega)]
  omega
theorem kids_sim (ho : octB l = true) (hl : l.length ≤ 1000000) (hc : cnt ≤ 65535) : ∀ (m : Nat) (i : Int) (a : Nat) (acc : List Int), i + m = cnt + 1 → 0 ≤ i → a ≤ l.length → (acc.length : Int) ≤ i →
    ((kidsR m (l.drop a) false acc).2.2 = true ∧ Ev (fun k => chandleryref08_Parse.l0 k l cnt (a : Int) i false acc) zeroR) ∨
    (∃ a' : Nat, a' ≤ l.length ∧ kidsR m (l.drop a) false acc = ((kidsR m (l.drop a) false acc).1, l.drop a', false) ∧ ∀ v, Ev (fun k => chandleryref08_Parse.l1 k l cnt (a' : Int) 0 false [] [] (kidsR m (l.drop a) false acc).1) v → Ev (fun k => chandleryref08_Parse.l0 k l cnt (a : Int) i false acc) v)
  | 0, i, a, acc, hi, h0, ha, hacc => by
    refine .inr ⟨a, ha, rfl, fun v hv => ?_⟩
    refine Ev.step (f := fun k => chandleryref08_Parse.j2 k l cnt (a : Int) i false false acc) (fun k => by rw [chandleryref08_Parse.l0, if_neg (by omega)]) ?_
    exact Ev.step (f := fun k => chandleryref08_Parse.l1 k l cnt (a : Int) 0 false [] [] acc) (fun k => by rw [chandleryref08_Parse.j2, if_neg (by decide)]) hv
  | m + 1, i, a, acc, hi, h0, ha, hacc => by
    have ho' := octB_rd ho
    have hwi : wrap64 (i + 1) = i + 1 := w64 (by omega) (by omega)
    have h3 : wrap64 ((a : Int) + 3) = ((a + 3 : Nat) : Int) := by rw [w64 (by omega) (by omega)]; omega
    have h1 : wrap64 ((a : Int) + 1) = ((a + 1 : Nat) : Int) := by rw [w64 (by omega) (by omega)]; omega
    have h2 : wrap64 ((a : Int) + 2) = ((a + 2 : Nat) : Int) := by rw [w64 (by omega) (by omega)]; omega
    have into : ∀ v, Ev (fun k => chandleryref08_Parse.j2 k l cnt (a : Int) i true false acc) v → Ev (fun k => chandleryref08_Parse.l0 k l cnt (a : Int) i false acc) v := fun v hv =>
      Ev.step (f := fun k => chandleryref08_Parse.j2 k l cnt (a : Int) i true false acc) (fun k => by rw [chandleryref08_Parse.l0, if_pos (by omega)]; rfl) hv
    rw [kidsR_go]
    rcases child_sim l a ha with ⟨e1, b1⟩ | ⟨e1, t1⟩
    · rw [b1, kidsR_bad]
      refine .inl ⟨rfl, into _ (Ev.step (f := fun _ => some zeroR) (fun k => ?_) (Ev.now _))⟩
      rw [chandleryref08_Parse.j2, if_pos rfl, h3, if_pos (by omega)]
    · rw [t1]
      dsimp only
      have ih := kids_sim ho hl hc m (i + 1) (a + 3) (acc ++ [rd l (a : Int) * 65536 + rd l ((a + 1 : Nat) : Int) * 256 + rd l ((a + 2 : Nat) : Int)]) (by omega) (by omega) (by omega) (by rw [List.length_append]; show ((acc.length + 1 : Nat) : Int) ≤ _; omega)
      have step : ∀ v, Ev (fun k => chandleryref08_Parse.l0 k l cnt ((a + 3 : Nat) : Int) (i + 1) false (acc ++ [rd l (a : Int) * 65536 + rd l ((a + 1 : Nat) : Int) * 256 + rd l ((a + 2 : Nat) : Int)])) v → Ev (fun k => chandleryref08_Parse.l0 k l cnt (a : Int) i false acc) v := fun v hv => by
        refine into v (Ev.step (f := fun k => chandleryref08_Parse.l0 k l cnt ((a + 3 : Nat) : Int) (i + 1) false (acc ++ [rd l (a : Int) * 65536 + rd l ((a + 1 : Nat) : Int) * 256 + rd l ((a + 2 : Nat) : Int)])) (fun k => ?_) hv)
        rw [chandleryref08_Parse.j2, if_pos rfl, h3, h1, h2, if_neg (by omega), if_pos (by omega), if_pos (by omega), if_pos (by omega), if_pos (by omega), if_pos (by omega), if_pos (by omega), if_pos (by omega), hwi, kids_val (ho' _) (ho' _) (ho' _)]
      rcases ih with ⟨x1, x2⟩ | ⟨a', x1, x2, x3⟩
      · exact .inl ⟨x1, step _ x2⟩
      · exact .inr ⟨a', x1, x2, fun v hv => step v (x3 v hv)⟩
end
end Go.Proofs.YtjhenmegcgnkgaaX
