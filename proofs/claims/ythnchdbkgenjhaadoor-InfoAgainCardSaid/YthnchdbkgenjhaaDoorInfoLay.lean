import Derived.Test.YthnchdbkgenjhaaDoorQInfoAx1
import Derived.Test.YthnchdbkgenjhaaDoorEvFind
import Derived.Test.YthnchdbkgenjhaaDoorNamesRefs
import Derived.Test.YthnchdbkgenjhaaDoorWireAt
import Derived.Test.YthnchdbkgenjhaaDoorInfoSt
import Derived.Test.YthnchdbkgenjhaaDoorHexR
set_option linter.unusedVariables false
set_option linter.unusedSimpArgs false
/- info.Check: what it answers: a plain law. -/
namespace Go.Proofs.YthnchdbkgenjhaaDoorX
open Go.RowKit Go.Proofs.YthnchdbkgenjhaaDoor.PInfoA Go.Proofs.YthnchdbkgenjhaaDoorW.PrintWords Go.Proofs.YthnchdbkgenjhaaDoorW.PrintLast Go.Proofs.YthnchdbkgenjhaaDoorW.PrintMore
def plainB (h : ByteArray) (n : Int) : Bool := decide (h.size = 32) && (decide (0 ≤ n) && decide (n ≤ 2147483647))
def checkE (name h : ByteArray) (n : Int) (refs : List ByteArray) : Int := if nameB name = true then (if plainB h n = true ∧ refsB refs = (refs, 0) then 0 else 1) else 190
theorem toList_eq {a b : ByteArray} : a.toList = b.toList ↔ a = b :=
  ⟨fun h => ba_ext (by rw [← ba_toList, ← ba_toList]; exact h), fun h => by rw [h]⟩
theorem equal_ev (a b : List ByteArray) (hl : a.length ≤ 1000000) : Ev (fun k => slices_Equal_string_string.f k a b) (decide (a = b)) := by
  by_cases h : a.length = b.length
  · have hs : ∀ v, Ev (fun k => slices_Equal_string_string.l0 k a b (a.length : Int) ((0 : Nat) : Int)) v → Ev (fun k => slices_Equal_string_string.f k a b) v := fun v hv => Ev.congr (fun k => by
      unfold slices_Equal_string_string.f
      rw [if_pos (by omega)]
      rfl) hv
    have hstep : ∀ i (hi : i < a.length) k, slices_Equal_string_string.l0 (k + 1) a b (a.length : Int) (i : Int) = if a[i] = b[i]'(by omega) then slices_Equal_string_string.l0 k a b (a.length : Int) ((i + 1 : Nat) : Int) else some false := fun i hi k => by
      rw [slices_Equal_string_string.l0, if_pos (by omega), if_pos (by omega), if_pos (by omega), if_pos (by omega), rdB_get a i hi, rdB_get b i (by omega), w1 hi (by omega)]
      by_cases e : a[i] = b[i]'(by omega)
      · rw [if_pos e, if_pos (toList_eq.2 e)]
      · rw [if_neg e, if_neg (fun h => e (toList_eq.1 h))]
    have hend : Ev (fun k => slices_Equal_string_string.l0 k a b (a.length : Int) ((a.length : Nat) : Int)) true := Ev.step (f := fun _ => some true) (fun k => by rw [slices_Equal_string_string.l0, if_neg (by omega)]) (Ev.now _)
    rcases ev_all (fun i k => slices_Equal_string_string.l0 k a b (a.length : Int) (i : Int)) a.length (fun i => a[i]? = b[i]?) (bad := false) (fun i hi hok k => by
        rw [List.getElem?_eq_getElem hi, List.getElem?_eq_getElem (show i < b.length by omega)] at hok
        rw [hstep i hi, if_pos (Option.some.inj hok)]) (fun i hi hno k => by
        rw [List.getElem?_eq_getElem hi, List.getElem?_eq_getElem (show i < b.length by omega)] at hno
        rw [hstep i hi, if_neg (fun e => hno (by rw [e]))]) hend with ⟨hall, he⟩ | ⟨⟨j, hj, hno⟩, he⟩
    · have e : a = b := by
        refine List.ext_getElem? fun i => ?_
        by_cases hi : i < a.length
        · exact hall i hi
        · rw [List.getElem?_eq_none (by omega), List.getElem?_eq_none (by omega)]
      rw [decide_eq_true e]
      exact hs _ he
    · rw [decide_eq_false (fun e => hno (by rw [e]))]
      exact hs _ he
  · rw [decide_eq_false (fun e => h (by rw [e]))]
    exact Ev.congr (f := fun _ => some false) (fun k => by
      unfold slices_Equal_string_string.f
      rw [if_neg (by omega)]) (Ev.now _)
theorem plain_f (h : ByteArray) (n : Int) (refs : List ByteArray) : info_plain.f h n refs = some (plainB h n) := by
  unfold info_plain.f plainB
  by_cases h1 : h.size = 32
  · rw [if_pos (by omega), decide_eq_true h1, Bool.true_and]
    by_cases h2 : 0 ≤ n
    · rw [if_pos h2, decide_eq_true h2, Bool.true_and]
    · rw [if_neg h2, decide_eq_false h2, Bool.false_and]
  · rw [if_neg (by omega), decide_eq_false h1, Bool.false_and]
theorem names_bool (name : ByteArray) (hn : name.size ≤ 1000000) : names_Check.f name = some (if nameB name = true then 0 else 190) := by
  unfold names_Check.f
  rw [if_pos hn]
theorem ne190 : (190 : Int) ≠ 0 := by decide
theorem refs_few (refs : List ByteArray) : (refsB refs).1.length ≤ 1000000 := by
  unfold refsB
  split
  · split
    · rename_i h; show (foundB refs).length ≤ 1000000; omega
    · exact Nat.zero_le _
  · exact Nat.zero_le _
theorem check_ev (name h : ByteArray) (n : Int) (refs : List ByteArray) (hn : name.size ≤ 1000000) (hr : refs.length ≤ 1000000) (hs : ∀ s ∈ refs, s.size ≤ 1000000) : Ev (fun k => info_Check.f k name h n refs) (checkE name h n refs) := by
  unfold checkE
  cases hnm : nameB name
  · rw [if_neg Bool.false_ne_true]
    refine Ev.congr (f := fun _ => some 190) (fun k => ?_) (Ev.now _)
    unfold info_Check.f
    rw [names_bool name hn, hnm, if_neg Bool.false_ne_true, Option.bind_some, if_neg ne190]
  · rw [if_pos rfl]
    have hst : ∀ k, info_Check.f k name h n refs = (if plainB h n = true then (if (refsB refs).2 = 0 then ((slices_Equal_string_string.f k (refsB refs).1 refs).bind fun t113 => (if t113 = true then (some 0) else (some 1))) else (some 1)) else (some 1)) := fun k => by
      unfold info_Check.f
      rw [names_bool name hn, hnm, if_pos rfl, Option.bind_some, if_pos rfl]
      have e1 : names_Refs.f refs = some (refsB refs) := by
        unfold names_Refs.f
        rw [if_pos ⟨hr, hs⟩]
      rw [e1, Option.bind_some, plain_f, Option.bind_some]
    refine Ev.congr hst ?_
    by_cases hp : plainB h n = true
    · by_cases h2 : (refsB refs).2 = 0
      · have hb : ∀ v, (if decide ((refsB refs).1 = refs) = true then (some (0 : Int)) else some 1) = some v → Ev (fun k => (if plainB h n = true then (if (refsB refs).2 = 0 then ((slices_Equal_string_string.f k (refsB refs).1 refs).bind fun t113 => (if t113 = true then (some (0 : Int)) else (some 1))) else (some 1)) else (some 1))) v := fun v hv =>
          Ev.congr (fun k => by rw [if_pos hp, if_pos h2]) (Ev.bind (f := fun k t113 => if t113 = true then (some (0 : Int)) else (some 1)) (equal_ev _ _ (refs_few refs)) (Ev.congr (fun k => hv) (Ev.now _)))
        by_cases e : (refsB refs).1 = refs
        · rw [if_pos (show plainB h n = true ∧ refsB refs = (refs, 0) from ⟨hp, Prod.ext e h2⟩)]
          exact hb 0 (if_pos (decide_eq_true e))
        · rw [if_neg (show ¬ (plainB h n = true ∧ refsB refs = (refs, 0)) from fun hh => e (congrArg Prod.fst hh.2))]
          exact hb 1 (if_neg (fun hh => e (of_decide_eq_true hh)))
      · rw [if_neg (show ¬ (plainB h n = true ∧ refsB refs = (refs, 0)) from fun hh => h2 (congrArg Prod.snd hh.2))]
        exact Ev.congr (fun k => by rw [if_pos hp, if_neg h2]) (Ev.now _)
    · rw [if_neg (show ¬ (plainB h n = true ∧ refsB refs = (refs, 0)) from fun hh => hp hh.1)]
      exact Ev.congr (fun k => by rw [if_neg hp]) (Ev.now _)
end Go.Proofs.YthnchdbkgenjhaaDoorX
/- What an info is laid down as, by the program: plain laws, no walk. -/
namespace Go.Proofs.YthnchdbkgenjhaaDoorX
open Go.RowKit Go.Proofs.YthnchdbkgenjhaaDoor.PInfoA Go.Proofs.YthnchdbkgenjhaaDoorW.PrintWords Go.Proofs.YthnchdbkgenjhaaDoorW.PrintLast Go.Proofs.YthnchdbkgenjhaaDoorW.PrintMore
theorem shr_num (n j : Nat) (hj : j < 8) : (shr .i64 (n : Int) (wrap64 (8 * (j : Int)))) % 256 = ((n / 256 ^ j % 256 : Nat) : Int) := by
  rw [w64 (by omega) (by omega), shr64 (by omega), show (8 * (j : Int)).toNat = 8 * j by omega, Nat.pow_mul' 2 8 j |> fun h => show (2 : Int) ^ (8 * j) = ((256 ^ j : Nat) : Int) by rw [Int.pow_mul]; norm_cast]
  omega
theorem put_ev (acc : List Int) (n : Nat) (ha : acc.length ≤ 1000000) (h1 : n ≤ 2147483647) : Ev (fun k => wire_Put.f k acc (n : Int)) (acc ++ num8 n, 0) := by
  have hj : Ev (fun k => wire_Put.j0 k acc (n : Int) false) (acc ++ num8 n, 0) := by
    refine Ev.step (f := fun k => wire_Put.l0 k (n : Int) acc 0) (fun k => ?_) ?_
    · rw [wire_Put.j0, if_neg (by decide)]
      unfold slices_Clone_byte_byte.f
      rw [if_pos ha, Option.bind_some]
    · have hg : Ev ((fun i k => wire_Put.l0 k (n : Int) (acc ++ (List.range i).map (fun j : Nat => ((n / 256 ^ j % 256 : Nat) : Int))) (i : Int)) 0) (acc ++ num8 n, 0) := by
        refine ev_go (fun i k => wire_Put.l0 k (n : Int) (acc ++ (List.range i).map (fun j : Nat => ((n / 256 ^ j % 256 : Nat) : Int))) (i : Int)) 8 (fun i hi k => ?_) ?_
        · show wire_Put.l0 (k + 1) _ _ _ = _
          rw [wire_Put.l0, if_pos (by omega), if_pos (by rw [w64 (by omega) (by omega)]; omega), if_pos (by simp; omega), w1 hi (by omega), shr_num n i hi, List.range_succ, List.map_append, List.append_assoc]
          rfl
        · refine Ev.step (f := fun _ => some (acc ++ num8 n, (0 : Int))) (fun k => ?_) (Ev.now _)
          show wire_Put.l0 (k + 1) _ _ _ = _
          rw [wire_Put.l0, if_neg (by decide)]
          rfl
      refine Ev.congr (fun k => ?_) hg
      show _ = wire_Put.l0 k _ (acc ++ []) _
      rw [List.append_nil]
      rfl
  refine Ev.congr (fun k => ?_) hj
  unfold wire_Put.f
  rw [if_neg (by omega), decide_eq_false (by omega)]
theorem putText_ev (acc : List Int) (s : ByteArray) (ha : acc.length ≤ 1000000) (hs : s.size ≤ 100000000) : Ev (fun k => wire_PutText.f k acc s) (acc ++ textOf s) := by
  have hr := put_ev acc s.size ha (by omega)
  have hl := num8_len s.size
  have hpad := pad_ev s.size (by omega)
  refine Ev.bind (f := fun k t => _) hr ?_
  refine Ev.congr (fun k => ?_) (Ev.now _)
  have hl1 : (acc ++ num8 s.size).length = acc.length + 8 := by rw [List.length_append, hl]
  have hl2 : (acc ++ num8 s.size ++ bytesOf s).length = acc.length + 8 + s.size := by rw [List.length_append, bytesOf_length, hl1]
  rw [if_pos (show (acc ++ num8 s.size).length + s.size < 140737488355328 by omega), Option.bind_some, hpad, Option.bind_some, if_pos (by omega), if_pos (by rw [hl2, Int.toNat_natCast]; omega), Int.toNat_natCast]
  unfold textOf
  simp only [List.append_assoc]
theorem texts_ev (acc : List Int) (ts : List ByteArray) (hs : ∀ t ∈ ts, t.size ≤ 100000000) (hn : ts.length ≤ 1000000) (hb : acc.length + (textsOf ts).length ≤ 1000000) : Ev (fun k => info_texts.f k acc ts) (acc ++ textsOf ts) := by
  have key : ∀ m i (acc : List Int), i + m = ts.length → acc.length + (textsOf (ts.drop i)).length ≤ 1000000 → Ev (fun k => info_texts.l0 k acc ts (ts.length : Int) (i : Int)) (acc ++ textsOf (ts.drop i)) := by
    intro m
    induction m with
    | zero =>
      intro i acc hi ha
      refine Ev.step (f := fun _ => some (acc ++ textsOf (ts.drop i))) (fun k => ?_) (Ev.now _)
      show info_texts.l0 (k + 1) _ _ _ _ = _
      rw [info_texts.l0, if_neg (by omega), List.drop_of_length_le (by omega), textsOf, List.append_nil]
    | succ m ih =>
      intro i acc hi ha
      have hlt : i < ts.length := by omega
      rw [List.drop_eq_getElem_cons hlt, textsOf, List.length_append] at ha
      have hp := putText_ev acc ts[i] (by omega) (hs _ (List.getElem_mem hlt))
      have hr := ih (i + 1) (acc ++ textOf ts[i]) (by omega) (by rw [List.length_append]; omega)
      rw [List.append_assoc] at hr
      rw [List.drop_eq_getElem_cons hlt, textsOf]
      refine Ev.step (f := fun k => (wire_PutText.f k acc ts[i]).bind fun t => info_texts.l0 k t ts (ts.length : Int) ((i + 1 : Nat) : Int)) (fun k => ?_) (Ev.bind (f := fun k t => _) hp hr)
      show info_texts.l0 (k + 1) _ _ _ _ = _
      rw [info_texts.l0, if_pos (by omega), if_pos (by omega), if_pos (by omega), rdB_get ts i hlt, w1 hlt (by omega)]
  exact key ts.length 0 acc (by omega) hb
/-- The digits of a digest. -/
def hexT (h : ByteArray) : ByteArray := ⟨(hexL (bytesOf h)).toArray⟩
theorem hexT_size (h : ByteArray) : (hexT h).size = 2 * h.size := by
  unfold hexT
  rw [ba_size]
  show (hexL (bytesOf h)).length = _
  rw [hexL_length, bytesOf_length]
def bytesE (name h : ByteArray) (n : Int) (refs : List ByteArray) : List Int × Int := if checkE name h n refs = 0 then (layI name (hexT h) n.toNat refs, 0) else ([], checkE name h n refs)
theorem name_le {s : ByteArray} (h : nameB s = true) : s.size ≤ 64 := by
  unfold nameB baseB at h
  simp only [Bool.and_eq_true, decide_eq_true_eq] at h
  have h1 := h.1.2
  have h2 : (s.extract 33 s.size).size ≤ 31 := by simp_all
  rw [ByteArray.size_extract] at h2
  omega
structure Fine (name h : ByteArray) (n : Int) (refs : List ByteArray) : Prop where
  name_ : nameB name = true
  hash : h.size = 32
  n0 : 0 ≤ n
  n1 : n ≤ 2147483647
  refs_ : refsB refs = (refs, 0)
theorem check_fine {name h : ByteArray} {n : Int} {refs : List ByteArray} : checkE name h n refs = 0 ↔ Fine name h n refs := by
  unfold checkE
  by_cases h1 : nameB name = true
  · rw [if_pos h1]
    by_cases h2 : plainB h n = true ∧ refsB refs = (refs, 0)
    · rw [if_pos h2]
      have h3 := h2.1
      unfold plainB at h3
      simp only [Bool.and_eq_true, decide_eq_true_eq] at h3
      exact ⟨fun _ => ⟨h1, h3.1, h3.2.1, h3.2.2, h2.2⟩, fun _ => rfl⟩
    · rw [if_neg h2]
      refine ⟨fun h => absurd h (by decide), fun hf => absurd ⟨?_, hf.refs_⟩ h2⟩
      unfold plainB
      rw [decide_eq_true hf.hash, decide_eq_true hf.n0, decide_eq_true hf.n1]
      rfl
  · rw [if_neg h1]
    exact ⟨fun h => absurd h (by decide), fun hf => absurd hf.name_ h1⟩
theorem Fine.few {name h : ByteArray} {n : Int} {refs : List ByteArray} (hf : Fine name h n refs) : refs.length ≤ 32 ∧ ∀ s ∈ refs, nameB s = true := by
  have h1 := hf.refs_
  unfold refsB at h1
  by_cases h2 : refs.all nameB = true
  · rw [if_pos h2] at h1
    refine ⟨?_, List.all_eq_true.1 h2⟩
    by_cases h3 : (foundB refs).length ≤ 32
    · rw [if_pos h3] at h1
      have e : foundB refs = refs := congrArg Prod.fst h1
      rw [e] at h3
      exact h3
    · rw [if_neg h3] at h1
      have := congrArg Prod.snd h1
      cases this
  · rw [if_neg h2] at h1
    have := congrArg Prod.snd h1
    cases this
theorem textsOf_len : ∀ (l : List ByteArray) (m : Nat), (∀ s ∈ l, s.size ≤ m) → (textsOf l).length ≤ (m + 16) * l.length
  | [], m, _ => Nat.zero_le _
  | s :: l, m, h => by
    have h1 := textsOf_len l m fun x hx => h x (List.mem_cons_of_mem _ hx)
    have h2 := h s List.mem_cons_self
    rw [textsOf, List.length_append, textOf_len, List.length_cons, Nat.mul_add]
    unfold len8
    omega
theorem Fine.len {name h : ByteArray} {n : Int} {refs : List ByteArray} (hf : Fine name h n refs) : (layI name (hexT h) n.toNat refs).length ≤ 4000 := by
  have h1 := name_le hf.name_
  have h2 := hexT_size h
  rw [hf.hash] at h2
  have h3 := textsOf_len refs 64 fun s hs => name_le (hf.few.2 s hs)
  have h4 := hf.few.1
  unfold layI
  simp only [List.length_append, textOf_len, num8_len, h2]
  have e1 : len8 name.size ≤ 80 := by unfold len8; omega
  have e2 : len8 tPath.size = 16 := rfl
  have e3 : len8 tHash.size = 16 := rfl
  have e4 : len8 tSize.size = 16 := rfl
  have e5 : len8 tRefs.size = 16 := rfl
  have e6 : len8 (2 * 32) = 72 := rfl
  omega
theorem hex_f (h : ByteArray) (hs : h.size ≤ 1000000) : convS h base_Hex.f = some (hexT h) := by
  unfold convS base_Hex.f
  rw [if_pos (by omega), if_pos ⟨okB_bytes h, by rw [bytesOf_length]; omega⟩]
  rfl
theorem bytes_ev (name h : ByteArray) (n : Int) (refs : List ByteArray) (hn : name.size ≤ 1000000) (hr : refs.length ≤ 1000000) (hs : ∀ s ∈ refs, s.size ≤ 1000000) : Ev (fun k => info_Bytes.f k name h n refs) (bytesE name h n refs) := by
  unfold bytesE
  by_cases hc : checkE name h n refs = 0
  · rw [if_pos hc]
    have hf := check_fine.1 hc
    have hlen := hf.len
    obtain ⟨m, rfl⟩ := Int.eq_ofNat_of_zero_le hf.n0
    have hm := hf.n1
    rw [Int.toNat_natCast] at hlen ⊢
    have hh := hexT_size h
    rw [hf.hash] at hh
    have hnm := name_le hf.name_
    unfold layI at hlen
    simp only [List.length_append, num8_len] at hlen
    have t1 := texts_ev [] [tPath, name, tHash, hexT h, tSize] (fun t ht => by
      simp only [List.mem_cons, List.not_mem_nil, or_false] at ht
      rcases ht with rfl | rfl | rfl | rfl | rfl
      · decide
      · omega
      · decide
      · omega
      · decide) (by simp) (by simp only [textsOf, List.length_append, List.length_nil]; omega)
    have t2 := put_ev ([] ++ textsOf [tPath, name, tHash, hexT h, tSize]) m (by simp only [textsOf, List.length_append, List.length_nil]; omega) (by omega)
    have t3 := texts_ev ([] ++ textsOf [tPath, name, tHash, hexT h, tSize] ++ num8 m) [tRefs] (fun t ht => by rw [List.mem_singleton.1 ht]; decide) (by decide) (by simp only [textsOf, List.length_append, List.length_nil, num8_len]; omega)
    have t4 := put_ev ([] ++ textsOf [tPath, name, tHash, hexT h, tSize] ++ num8 m ++ textsOf [tRefs]) refs.length (by simp only [textsOf, List.length_append, List.length_nil, num8_len]; omega) (by omega)
    have t5 := texts_ev ([] ++ textsOf [tPath, name, tHash, hexT h, tSize] ++ num8 m ++ textsOf [tRefs] ++ num8 refs.length) refs (fun t ht => by have := hs t ht; omega) hr (by simp only [textsOf, List.length_append, List.length_nil, num8_len]; omega)
    refine Ev.bind (f := fun k t => _) (check_ev name h (m : Int) refs hn hr hs) ?_
    refine Ev.congr (fun k => if_pos hc) ?_
    refine Ev.congr (fun k => by rw [hex_f h (by have := hf.hash; omega), Option.bind_some]) ?_
    refine Ev.bind (f := fun k t => _) t1 (Ev.bind (f := fun k t => _) t2 (Ev.bind (f := fun k t => _) t3 (Ev.bind (f := fun k t => _) t4 (Ev.bind (f := fun k t => _) t5 (Ev.congr (fun k => ?_) (Ev.now _))))))
    congr 2
    unfold layI
    simp only [textsOf, List.nil_append, List.append_nil, List.append_assoc]
  · rw [if_neg hc]
    exact Ev.bind (f := fun k t => _) (check_ev name h n refs hn hr hs) (Ev.congr (fun k => if_neg hc) (Ev.now _))
end Go.Proofs.YthnchdbkgenjhaaDoorX
